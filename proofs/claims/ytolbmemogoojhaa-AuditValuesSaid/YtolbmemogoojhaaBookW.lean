/- The plain law of BookFinds. No program. -/
import Derived.Test.YtolbmemogoojhaaBookV
namespace Go.Proofs.Ytolbmemogoojhaa
open Go Go.RowKit Go.Deep
set_option linter.unusedVariables false
set_option linter.unusedSimpArgs false
set_option maxRecDepth 100000
theorem bFindP_some {L : BK} {i : IDL} {r : RD} (h : bFind L i = some r) : bFindP L i = (r, true) := by unfold bFindP; rw [h]
theorem bFindP_none {L : BK} {i : IDL} (h : bFind L i = none) : bFindP L i = (noRD, false) := by unfold bFindP; rw [h]
theorem bFew_f {L : BK} (h : bFew L = true) : ∀ r ∈ L, r.f.length ≤ 1000 := by
  unfold bFew at h
  simp only [Bool.and_eq_true] at h
  have key : ∀ l : BK, bFewL l = true → ∀ r ∈ l, r.f.length ≤ 1000 := by
    intro l
    induction l with
    | nil => intro _ r hr; cases hr
    | cons x l ih =>
      intro hl r hr
      rw [bFewL, Bool.and_eq_true] at hl
      rcases List.mem_cons.1 hr with rfl | hr
      · have := hl.1
        unfold rFew at this
        simp only [Bool.and_eq_true, decide_eq_true_eq] at this
        omega
      · exact ih hl.2 r hr
  exact key L h.2
theorem bMay_f {L : BK} (h : bMay L = true) : ∀ r ∈ L, r.f.length ≤ 1000 := fun r hr => Nat.le_trans (rMay_few ((bMay_iff.1 h).1.2 r hr)) (by decide)
theorem bJ_may {a b : BK} (h : bCan a b = 0) : bMay (bJ a b) = true := by rw [bBoth_eq h]; exact bBoth_may h
theorem bJ_find {a b : BK} (h : bCan a b = 0) (i : IDL) : bFind (bJ a b) i = bComb (bFind a i) (bFind b i) := by
  obtain ⟨h1, h2, _⟩ := bCan_ok.1 h
  rw [bBoth_eq h]
  exact bBoth_find (bMay_iff.1 h1).1 (bMay_iff.1 h2).1 i
theorem finds_can {a b : BK} (h : bCan a b = 0) {i : IDL} {x y : RD} (hx : bFind a i = some x) (hy : bFind b i = some y) : rCan x y = true := by
  obtain ⟨h1, h2, _⟩ := bCan_ok.1 h
  obtain ⟨a1, a2⟩ := find_good (bMay_iff.1 h1).1 hx
  obtain ⟨b1, b2⟩ := find_good (bMay_iff.1 h2).1 hy
  unfold rCan
  rw [a1, b1, a2, b2]; simp
end Go.Proofs.Ytolbmemogoojhaa
