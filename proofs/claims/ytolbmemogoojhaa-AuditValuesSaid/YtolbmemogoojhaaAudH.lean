/- Arms of the Audit laws' walks. -/
import Derived.Test.YtolbmemogoojhaaAudG
namespace Go.Proofs.Ytolbmemogoojhaa
open Go Go.RowKit Go.Deep
set_option linter.unusedVariables false
set_option linter.unusedSimpArgs false
set_option maxRecDepth 100000
theorem auJ_none (LL : List BK) : auJ LL [] [] = (0, []) := rfl
theorem row_nil (w : World) : Row w 1 (.slice none 0 0) ([] : List Int).length (encZ []) := Row.nil w 1
end Go.Proofs.Ytolbmemogoojhaa
