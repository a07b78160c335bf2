/- Printed by the program wip/xprint of this session, on the print of the kit: contracts of functions that the claim reaches. Lean checks each. -/
import Derived.Test.YtibjiigiaebepaaPAllx0
import Derived.Test.YtibjiigiaebepaaPAllx1
import Derived.Test.YtibjiigiaebepaaPAllx2
import Derived.Test.YtibjiigiaebepaaPAllx3
import Derived.Test.YtibjiigiaebepaaPAllx4
import Derived.Test.YtibjiigiaebepaaPAllx5
import Derived.Test.YtibjiigiaebepaaPAllx6
import Derived.Test.YtibjiigiaebepaaPAllx7
import Derived.Test.YtibjiigiaebepaaPAllx8
import Derived.Test.YtibjiigiaebepaaPAllx9
namespace Go.Proofs.Ytibjiigiaebepaa.PAll
open Go.RowKit Go.Proofs.YtibjiigiaebepaaW.PrintWords Go.Proofs.YtibjiigiaebepaaW.PrintLast Go.Proofs.YtibjiigiaebepaaW.PrintMore
attribute [local go_sem] max2_int min2_int max_two min_two max_three min_three max_four min_four   -- for this text's walks alone
set_option linter.unusedVariables false
set_option linter.unusedSimpArgs false

end Go.Proofs.Ytibjiigiaebepaa.PAll
