/- Arms of the Book laws' walks. -/
import Derived.Test.YtolbmemogoojhaaBookT
namespace Go.Proofs.Ytolbmemogoojhaa
open Go Go.RowKit Go.Deep
set_option linter.unusedVariables false
set_option linter.unusedSimpArgs false
set_option maxRecDepth 100000
section
variable {a : Act} {b : Nat} {dst : Option Tmp} {ty typ : TypeId} {x : Operand} {pos : String} {af : Array Edge} {gd : Option (Nat × Bool)} {C : World → Prop} {K : Act → Prop} {v : Value} {d : TypeDesc}
theorem qd_bk {o : Nat} (hx : a.eval x = .pointer (some ⟨b, o, none⟩)) (h : ∀ w', C w' → Sub w' b o #[v]) (k : K (a.put dst (.agg #[v]))) : (⟨dst, .load 24 x, typ, pos, af, gd⟩ : Oper).quiet Try.prog a C K :=
  quiet_load_sub 24 x rfl dst rfl b _ hx #[v] _ h Try.underlying24 rfl bk_info k
end
end Go.Proofs.Ytolbmemogoojhaa
