/- Join as a function, and its laws. -/
import Derived.Test.YtgckgbonhbabpaaCellE
namespace Go.Proofs.Ytgckgbonhbabpaa
open Go Go.RowKit Go.Deep
set_option linter.unusedVariables false
set_option linter.unusedSimpArgs false
set_option maxRecDepth 100000

abbrev C3 := Int × Int × ByteArray
def cL (a b : C3) : Bool := cLess a.1 a.2.1 a.2.2 b.1 b.2.1 b.2.2
def cJ (a b : C3) : C3 := bif cL a b then b else a
theorem cL_irr (a : C3) : cL a a = false := cl_irr _ _ _
theorem cL_trans {a b c : C3} (h : cL a b = true) (k : cL b c = true) : cL a c = true := cl_trans h k
theorem cL_asym {a b : C3} (h : cL a b = true) : cL b a = false := cl_asym h
theorem cL_tri {a b : C3} (h : cL a b = false) (k : cL b a = false) : a = b := by
  obtain ⟨h1, h2, h3⟩ := cl_tri h k
  obtain ⟨a1, a2, a3⟩ := a; obtain ⟨b1, b2, b3⟩ := b
  simp only at h1 h2 h3
  subst h1 h2 h3; rfl
theorem cL_lt_le {a b c : C3} (h : cL a b = true) (k : cL c b = false) : cL a c = true := by
  cases hbc : cL b c
  · rw [← cL_tri hbc k]; exact h
  · exact cL_trans h hbc
theorem cL_le_lt {a b c : C3} (h : cL b a = false) (k : cL b c = true) : cL a c = true := by
  cases hab : cL a b
  · rw [cL_tri hab h]; exact k
  · exact cL_trans hab k
theorem cJ_pick (a b : C3) : cJ a b = a ∨ cJ a b = b := by unfold cJ; cases cL a b <;> simp
theorem cJ_self (a : C3) : cJ a a = a := by unfold cJ; rw [cL_irr]; rfl
theorem cJ_comm (a b : C3) : cJ a b = cJ b a := by
  unfold cJ
  cases h : cL a b <;> cases k : cL b a
  · exact cL_tri h k
  · rfl
  · rfl
  · rw [cL_asym h] at k; cases k
theorem cJ_ge1 (a b : C3) : cL (cJ a b) a = false := by
  unfold cJ; cases h : cL a b
  · exact cL_irr a
  · exact cL_asym h
theorem cJ_ge2 (a b : C3) : cL (cJ a b) b = false := by rw [cJ_comm]; exact cJ_ge1 b a
theorem cJ_left {a b : C3} (h : cL a b = false) : cJ a b = a := by unfold cJ; rw [h]; rfl
theorem cJ_right {a b : C3} (h : cL a b = true) : cJ a b = b := by unfold cJ; rw [h]; rfl
theorem cJ_assoc (a b c : C3) : cJ (cJ a b) c = cJ a (cJ b c) := by
  cases h : cL a b
  · rw [cJ_left h]
    cases k : cL b c
    · rw [cJ_left k, cJ_left h]
      refine cJ_left ?_
      cases m : cL a c
      · rfl
      · have := cL_lt_le m k
        rw [h] at this; cases this
    · rw [cJ_right k]
  · rw [cJ_right h]
    cases k : cL b c
    · rw [cJ_left k, cJ_right h]
    · rw [cJ_right k, cJ_right (cL_trans h k)]
theorem cEq_refl (N R : Int) (s : ByteArray) : cEq N R s N R s = true := (cEq_iff _ _ _ _ _ _).2 ⟨rfl, rfl, rfl⟩
theorem cEq_c {a b : C3} : cEq a.1 a.2.1 a.2.2 b.1 b.2.1 b.2.2 = true ↔ a = b := by
  rw [cEq_iff]
  constructor
  · rintro ⟨h1, h2, h3⟩
    obtain ⟨a1, a2, a3⟩ := a; obtain ⟨b1, b2, b3⟩ := b
    simp only at h1 h2 h3
    subst h1 h2 h3; rfl
  · intro h; rw [h]; exact ⟨rfl, rfl, rfl⟩
theorem cjoin_r {N R N' R' X Y : Int} {s s' t : ByteArray} (h : cJ (N, R, s) (N', R', s') = (X, Y, t)) (hs : s.size ≤ 80000) (hs' : s'.size ≤ 80000) (w : World) : Calls Try.prog 27 #[.agg (cellA N R s), .agg (cellA N' R' s')] w fun e w' => e = .returned (.agg (cellA X Y t)) ∧ Below w.heap.size w w' :=
  (cjoin_c N R N' R' s s' hs hs' w).mono fun e w' ⟨he, hb⟩ => ⟨by
    rw [he]; unfold cJ cL at h; simp only at h
    cases hl : cLess N R s N' R' s' <;> rw [hl] at h <;> simp only [cond_false, cond_true, Prod.mk.injEq] at h <;> obtain ⟨rfl, rfl, rfl⟩ := h <;> rfl, hb⟩
end Go.Proofs.Ytgckgbonhbabpaa
