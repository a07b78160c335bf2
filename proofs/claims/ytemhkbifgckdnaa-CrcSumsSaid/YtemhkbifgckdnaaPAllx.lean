/- Printed by the program wip/xprint of this session, on the print of the kit: contracts of functions that the claim reaches. Lean checks each. -/
import Derived.Test.YtemhkbifgckdnaaPAllx0
import Derived.Test.YtemhkbifgckdnaaPAllx1
import Derived.Test.YtemhkbifgckdnaaPAllx2
import Derived.Test.YtemhkbifgckdnaaPAllx3
import Derived.Test.YtemhkbifgckdnaaPAllx4
import Derived.Test.YtemhkbifgckdnaaPAllx5
namespace Go.Proofs.Ytemhkbifgckdnaa.PAll
open Go.RowKit Go.Proofs.YtemhkbifgckdnaaW.PrintWords Go.Proofs.YtemhkbifgckdnaaW.PrintLast Go.Proofs.YtemhkbifgckdnaaW.PrintMore
attribute [local go_sem] max2_int min2_int max_two min_two max_three min_three max_four min_four   -- for this text's walks alone
set_option linter.unusedVariables false
set_option linter.unusedSimpArgs false

end Go.Proofs.Ytemhkbifgckdnaa.PAll
