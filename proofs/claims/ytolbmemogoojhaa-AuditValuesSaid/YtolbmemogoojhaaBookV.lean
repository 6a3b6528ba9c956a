/- The plain law of BookJoins. No program. -/
import Derived.Test.YtolbmemogoojhaaBookU
namespace Go.Proofs.Ytolbmemogoojhaa
open Go Go.RowKit Go.Deep
set_option linter.unusedVariables false
set_option linter.unusedSimpArgs false
set_option maxRecDepth 100000
theorem bCan_big {a b : BK} (ha : bMay a = true) (hb : bMay b = true) : bCan a b = 0 ∨ bCan a b = 4 := by
  unfold bCan
  rw [if_pos (by rw [ha, hb]; rfl)]
  split
  · exact .inl rfl
  · exact .inr rfl
theorem bBoth_eq {a b : BK} (h : bCan a b = 0) : bJ a b = bBoth a b := by unfold bJ; rw [if_pos h]
theorem bCan_self {a : BK} (ha : bMay a = true) : bCan a a = 0 := bCan_ok.2 ⟨ha, ha, by
  obtain ⟨h1, h2⟩ := bMay_iff.1 ha
  rw [bBoth_self h1]; exact h2⟩
theorem bJ_self {a : BK} (ha : bMay a = true) : bJ a a = a := by rw [bBoth_eq (bCan_self ha), bBoth_self (bMay_iff.1 ha).1]
/-- Of three, whichever are taken first. -/
theorem bJ_three {a b c : BK} (ha : bMay a = true) (hb : bMay b = true) (hc : bMay c = true) (h : bCan a b = 0) (k : bCan b c = 0) : bCan (bJ a b) c = bCan a (bJ b c) ∧ bJ (bJ a b) c = bJ a (bJ b c) := by
  have h1 := (bMay_iff.1 ha).1
  have h2 := (bMay_iff.1 hb).1
  have h3 := (bMay_iff.1 hc).1
  rw [bBoth_eq h, bBoth_eq k]
  have m1 := bBoth_may h
  have m2 := bBoth_may k
  have e := bBoth_assoc h1 h2 h3
  have ec : bCan (bBoth a b) c = bCan a (bBoth b c) := by unfold bCan; rw [m1, m2, ha, hc, e]
  refine ⟨ec, ?_⟩
  unfold bJ
  rw [ec, e]
end Go.Proofs.Ytolbmemogoojhaa
