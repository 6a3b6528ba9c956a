/- rolodexref06.Join of two that are not joined. -/
import Derived.Test.YtolbmemogoojhaaGreatKR2
import Derived.Test.YtolbmemogoojhaaGreatKR1
import Derived.Test.YtolbmemogoojhaaGreatKN1
namespace Go.Proofs.YtolbmemogoojhaaGreat
open Go Go.RowKit Go.Deep
set_option linter.unusedVariables false
set_option linter.unusedSimpArgs false
set_option maxRecDepth 100000
end Go.Proofs.YtolbmemogoojhaaGreat
/- rolodexref06.Join of two that are joined. -/
namespace Go.Proofs.YtolbmemogoojhaaGreat
open Go Go.RowKit Go.Deep
set_option linter.unusedVariables false
set_option linter.unusedSimpArgs false
set_option maxRecDepth 100000
section
variable {ops : Array Oper} {rest : List Oper} {a : Act} {w : World} {Q : Exit → Act → World → Prop} {dst : Option Tmp} {typ : TypeId} {x y : Operand} {pos : String} {af : Array Edge} {no N R : Int} {S : ByteArray}
end
end Go.Proofs.YtolbmemogoojhaaGreat
/- rolodexref06.Join, Leq. -/
namespace Go.Proofs.YtolbmemogoojhaaGreat
open Go Go.RowKit Go.Deep
set_option linter.unusedVariables false
set_option linter.unusedSimpArgs false
set_option maxRecDepth 100000
end Go.Proofs.YtolbmemogoojhaaGreat
