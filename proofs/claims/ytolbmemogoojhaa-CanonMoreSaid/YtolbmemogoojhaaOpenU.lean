/- An argument that is a byte, opened. -/
import Derived.Test.YtolbmemogoojhaaOpenB
namespace Go.Proofs.Ytolbmemogoojhaa
set_option maxRecDepth 100000
open Go Go.RowKit Go.ChangeShapes Go.WideShapes Go.ChangeAt
set_option linter.unusedVariables false
set_option linter.unusedSimpArgs false
section
variable {H : Type} {enc : TypeId × Value → H} {w : World} {base base' : Nat} {spare : Nat → Bool} {held : Bool}
theorem open_u8 {r : Reach} {v : Value} {d : DataW H} {p : List MemPlace} (h : DataW.Trod enc Try.prog w base spare held 5 v d p) (hv : Value.okWide Try.prog w r base' 5 v) : ∃ c : UInt8, v = .int .u8 (c.toNat : Int) := by
  obtain ⟨x, rfl, _, _, wx⟩ := open_int Try.underlying5 hv h
  simp only [Lit.wf, Bool.and_eq_true, decide_eq_true_eq] at wx
  obtain ⟨h1, h2⟩ := wx
  have h3 : x ≤ 255 := h2
  have h4 : 0 ≤ x := h1
  refine ⟨UInt8.ofNat x.toNat, ?_⟩
  rw [UInt8.toNat_ofNat', Nat.mod_eq_of_lt (by omega)]
  congr 1
  omega
end
end Go.Proofs.Ytolbmemogoojhaa
