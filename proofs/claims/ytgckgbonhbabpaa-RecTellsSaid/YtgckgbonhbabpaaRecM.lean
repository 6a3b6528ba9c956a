/- Records: the laws of RecCells, RecDead, RecOnly in plain words. -/
import Derived.Test.YtgckgbonhbabpaaRecL
namespace Go.Proofs.Ytgckgbonhbabpaa
open Go Go.RowKit Go.Deep
set_option linter.unusedVariables false
set_option linter.unusedSimpArgs false
set_option maxRecDepth 100000
theorem findP_some {l : List F4} {no N R : Int} {S : ByteArray} (h : fFindP l no = (N, R, S, true)) : fFind l no = some (N, R, S) := by
  unfold fFindP at h
  cases hx : fFind l no with
  | none => rw [hx] at h; simp at h
  | some c => rw [hx] at h; simp only [Prod.mk.injEq] at h; obtain ⟨rfl, rfl, rfl, _⟩ := h; rfl
theorem findP_none {l : List F4} {no N R : Int} {S : ByteArray} (h : fFindP l no = (N, R, S, false)) : fFind l no = none := by
  unfold fFindP at h
  cases hx : fFind l no with
  | none => rfl
  | some c => rw [hx] at h; simp at h
theorem cells_law {a b j : RD} {no xN xR yN yR zN zR : Int} {xS yS zS : ByteArray} {one two has : Bool} (h : rCan a b = true) (hj : rJoin a b = j)
    (hx : fFindP a.f no = (xN, xR, xS, one)) (hy : fFindP b.f no = (yN, yR, yS, two)) (hz : fFindP j.f no = (zN, zR, zS, has)) :
    has = (one && stLess j.N j.R xN xR || two && stLess j.N j.R yN yR) ∧ (has = true → (one && cEq zN zR zS xN xR xS || two && cEq zN zR zS yN yR yS) = true) ∧
      (has = true → one = true → cLess zN zR zS xN xR xS = false) ∧ (has = true → two = true → cLess zN zR zS yN yR yS = false) ∧ (one = true → xS.size ≤ 80000) ∧ (two = true → yS.size ≤ 80000) ∧ (has = true → zS.size ≤ 80000) := by
  obtain ⟨ha, hb, hi⟩ := can_iff.1 h
  have hm := both_may ha hb
  rw [join_eq ha hb hi] at hj
  have hf := both_find ha hb no
  rw [hj] at hf hm
  have hsm : ∀ {r : RD} {N R : Int} {S : ByteArray}, rMay r = true → fFind r.f no = some (N, R, S) → S.size ≤ 80000 := fun hr hk => by
    have := (cMay_le (rMay_at hr hk).1).2.2; simp only at this; omega
  cases one with
  | false =>
    have ex := findP_none hx
    cases two with
    | false =>
      have ey := findP_none hy
      rw [ex, ey] at hf
      cases has with
      | true => rw [findP_some hz] at hf; cases hf
      | false => simp
    | true =>
      have ey := findP_some hy
      rw [ex, ey] at hf
      have hc : comb none (some (yN, yR, yS)) = some (yN, yR, yS) := rfl
      rw [hc] at hf
      cases has with
      | true =>
        rw [findP_some hz] at hf
        obtain ⟨h1, h2⟩ := live_eq.1 hf.symm
        simp only [Option.some.injEq, Prod.mk.injEq] at h1
        obtain ⟨rfl, rfl, rfl⟩ := h1
        refine ⟨by simpa using h2.symm, fun _ => by simp [cEq_refl], fun _ h => by simp at h, fun _ _ => cl_irr _ _ _, fun h => by simp at h, fun _ => hsm hb ey, fun _ => hsm hb ey⟩
      | false =>
        rw [findP_none hz] at hf
        have hd : stLess j.N j.R yN yR = false := by
          cases hs : stLess j.N j.R yN yR with
          | false => rfl
          | true => rw [live_some hs] at hf; cases hf
        simp [hd]; exact hsm hb ey
  | true =>
    have ex := findP_some hx
    cases two with
    | false =>
      have ey := findP_none hy
      rw [ex, ey] at hf
      have hc : comb (some (xN, xR, xS)) none = some (xN, xR, xS) := rfl
      rw [hc] at hf
      cases has with
      | true =>
        rw [findP_some hz] at hf
        obtain ⟨h1, h2⟩ := live_eq.1 hf.symm
        simp only [Option.some.injEq, Prod.mk.injEq] at h1
        obtain ⟨rfl, rfl, rfl⟩ := h1
        refine ⟨by simpa using h2.symm, fun _ => by simp [cEq_refl], fun _ _ => cl_irr _ _ _, fun _ h => by simp at h, fun _ => hsm ha ex, fun h => by simp at h, fun _ => hsm ha ex⟩
      | false =>
        rw [findP_none hz] at hf
        have hd : stLess j.N j.R xN xR = false := by
          cases hs : stLess j.N j.R xN xR with
          | false => rfl
          | true => rw [live_some hs] at hf; cases hf
        simp [hd]; exact hsm ha ex
    | true =>
      have ey := findP_some hy
      rw [ex, ey] at hf
      have hc : comb (some (xN, xR, xS)) (some (yN, yR, yS)) = some (cJ (xN, xR, xS) (yN, yR, yS)) := rfl
      rw [hc] at hf
      have hst := cJ_stamp (xN, xR, xS) (yN, yR, yS)
      have hpk := cJ_pick (xN, xR, xS) (yN, yR, yS)
      have hg1 := cJ_ge1 (xN, xR, xS) (yN, yR, yS)
      have hg2 := cJ_ge2 (xN, xR, xS) (yN, yR, yS)
      cases has with
      | true =>
        rw [findP_some hz] at hf
        obtain ⟨h1, h2⟩ := live_eq.1 hf.symm
        simp only [Option.some.injEq] at h1
        rw [h1] at hpk hg1 hg2
        refine ⟨?_, fun _ => ?_, fun _ _ => hg1, fun _ _ => hg2, fun _ => hsm ha ex, fun _ => hsm hb ey, fun _ => ?_⟩
        · rcases hpk with h | h <;> (simp only [Prod.mk.injEq] at h; obtain ⟨rfl, rfl, rfl⟩ := h; simp only at h2; simp [h2])
        · rcases hpk with h | h <;> (simp only [Prod.mk.injEq] at h; obtain ⟨rfl, rfl, rfl⟩ := h; simp [cEq_refl])
        · rcases hpk with h | h <;> (simp only [Prod.mk.injEq] at h; obtain ⟨rfl, rfl, rfl⟩ := h)
          · exact hsm ha ex
          · exact hsm hb ey
      | false =>
        rw [findP_none hz] at hf
        have hd : stLess j.N j.R (cJ (xN, xR, xS) (yN, yR, yS)).1 (cJ (xN, xR, xS) (yN, yR, yS)).2.1 = false := by
          cases hs : stLess j.N j.R (cJ (xN, xR, xS) (yN, yR, yS)).1 (cJ (xN, xR, xS) (yN, yR, yS)).2.1 with
          | false => rfl
          | true => rw [live_some hs] at hf; cases hf
        have h1 : stLess j.N j.R xN xR = false := by have := hst.1; rw [stl_f] at *; simp only at *; omega
        have h2 : stLess j.N j.R yN yR = false := by have := hst.2; rw [stl_f] at *; simp only at *; omega
        simp [h1, h2]; exact ⟨hsm ha ex, hsm hb ey⟩
end Go.Proofs.Ytgckgbonhbabpaa
