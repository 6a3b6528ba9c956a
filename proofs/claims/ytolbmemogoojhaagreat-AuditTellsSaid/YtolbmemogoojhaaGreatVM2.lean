/- The contracts of package wire's Put and Get, and of the reference's. -/
import Derived.Test.YtolbmemogoojhaaGreatVM1
import Derived.Test.YtolbmemogoojhaaGreatProg
import Derived.Laws.ShiftsVarLaws
import Derived.Laws.BitsAllLaws
import Derived.Laws.Bits64
namespace Go.Proofs.YtolbmemogoojhaaGreat
open Go Go.RowKit Go.Deep
set_option linter.unusedVariables false
set_option linter.unusedSimpArgs false

end Go.Proofs.YtolbmemogoojhaaGreat
