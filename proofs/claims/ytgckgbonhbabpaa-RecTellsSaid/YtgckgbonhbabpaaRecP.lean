/- Records: the laws of what is joined, in plain words. -/
import Derived.Test.YtgckgbonhbabpaaRecI
namespace Go.Proofs.Ytgckgbonhbabpaa
open Go Go.RowKit Go.Deep
set_option linter.unusedVariables false
set_option linter.unusedSimpArgs false

/-! Stamps -/
theorem stl (N R N' R' : Int) : stLess N R N' R' = true ↔ (N < N' ∨ N = N' ∧ R < R') := by simp [stLess]
theorem stl_f (N R N' R' : Int) : stLess N R N' R' = false ↔ ¬ (N < N' ∨ N = N' ∧ R < R') := by simp only [stLess, decide_eq_false_iff_not]
theorem mx_cases (N R N' R' : Int) : (stLess N R N' R' = true ∧ mxN N R N' R' = N' ∧ mxR N R N' R' = R') ∨ (stLess N R N' R' = false ∧ mxN N R N' R' = N ∧ mxR N R N' R' = R) := by
  unfold mxN mxR; cases stLess N R N' R' <;> simp
theorem mx_comm (N R N' R' : Int) : mxN N R N' R' = mxN N' R' N R ∧ mxR N R N' R' = mxR N' R' N R := by
  rcases mx_cases N R N' R' with ⟨h1, h2, h3⟩ | ⟨h1, h2, h3⟩ <;> rcases mx_cases N' R' N R with ⟨k1, k2, k3⟩ | ⟨k1, k2, k3⟩ <;> rw [h2, h3, k2, k3] <;> (try rw [stl] at *) <;> (try rw [stl_f] at *) <;> omega
theorem mx_self (N R : Int) : mxN N R N R = N ∧ mxR N R N R = R := by
  rcases mx_cases N R N R with ⟨h1, h2, h3⟩ | ⟨h1, h2, h3⟩ <;> exact ⟨h2, h3⟩
theorem mx_assoc (a b c d e f : Int) : mxN (mxN a b c d) (mxR a b c d) e f = mxN a b (mxN c d e f) (mxR c d e f) ∧ mxR (mxN a b c d) (mxR a b c d) e f = mxR a b (mxN c d e f) (mxR c d e f) := by
  rcases mx_cases a b c d with ⟨h1, h2, h3⟩ | ⟨h1, h2, h3⟩ <;> rcases mx_cases c d e f with ⟨k1, k2, k3⟩ | ⟨k1, k2, k3⟩ <;> rcases mx_cases a b e f with ⟨m1, m2, m3⟩ | ⟨m1, m2, m3⟩ <;>
    refine ⟨?_, ?_⟩ <;> simp only [h2, h3, k2, k3, m2, m3] <;> simp only [stl, stl_f] at h1 k1 m1 <;> omega
theorem mx_ge1 (N R N' R' : Int) : stLess (mxN N R N' R') (mxR N R N' R') N R = false := by
  rcases mx_cases N R N' R' with ⟨h1, h2, h3⟩ | ⟨h1, h2, h3⟩ <;> rw [h2, h3] <;> simp only [stl, stl_f] at * <;> omega
theorem mx_ge2 (N R N' R' : Int) : stLess (mxN N R N' R') (mxR N R N' R') N' R' = false := by
  rcases mx_cases N R N' R' with ⟨h1, h2, h3⟩ | ⟨h1, h2, h3⟩ <;> rw [h2, h3] <;> simp only [stl, stl_f] at * <;> omega

/-! Cells of one number -/
def comb : Option C3 → Option C3 → Option C3
  | some a, some b => some (cJ a b)
  | some a, none => some a
  | none, y => y
theorem comb_none (x : Option C3) : comb x none = x := by cases x <;> rfl
theorem comb_comm (x y : Option C3) : comb x y = comb y x := by
  cases x <;> cases y <;> simp [comb]
  exact cJ_comm _ _
theorem comb_self (x : Option C3) : comb x x = x := by
  cases x <;> simp [comb, cJ_self]
theorem comb_assoc (x y z : Option C3) : comb (comb x y) z = comb x (comb y z) := by
  cases x <;> cases y <;> cases z <;> simp [comb]
  exact cJ_assoc _ _ _
/-- What was written behind a stamp. -/
def live (N R : Int) (x : Option C3) : Option C3 := x.filter fun c => stLess N R c.1 c.2.1
theorem live_some {N R : Int} {c : C3} (h : stLess N R c.1 c.2.1 = true) : live N R (some c) = some c := by simp [live, h]
theorem live_dead {N R : Int} {c : C3} (h : stLess N R c.1 c.2.1 = false) : live N R (some c) = none := by simp [live, h]
theorem live_none (N R : Int) : live N R none = none := rfl
theorem live_eq {N R : Int} {x : Option C3} {c : C3} : live N R x = some c ↔ x = some c ∧ stLess N R c.1 c.2.1 = true := by
  cases x with
  | none => simp [live]
  | some d =>
    cases h : stLess N R d.1 d.2.1
    · rw [live_dead h]; constructor
      · intro h; cases h
      · rintro ⟨h1, h2⟩; cases h1; rw [h] at h2; cases h2
    · rw [live_some h]; constructor
      · intro h1; cases h1; exact ⟨rfl, h⟩
      · exact fun h1 => h1.1
/-- Of two cells the greater one has no lesser stamp. -/
theorem cL_stamp {a b : C3} (h : cL a b = true) : stLess b.1 b.2.1 a.1 a.2.1 = false := by
  have := (cLess_iff _ _ _ _ _ _).1 h
  unfold Ord3.lt keyC at this
  simp only at this
  rw [stl_f]
  omega
theorem cJ_stamp (a b : C3) : stLess (cJ a b).1 (cJ a b).2.1 a.1 a.2.1 = false ∧ stLess (cJ a b).1 (cJ a b).2.1 b.1 b.2.1 = false := by
  cases h : cL a b
  · rw [cJ_left h]
    refine ⟨by rw [stl_f]; omega, ?_⟩
    cases h2 : cL b a
    · rw [cL_tri h h2]; rw [stl_f]; omega
    · exact cL_stamp h2
  · rw [cJ_right h]
    exact ⟨cL_stamp h, by rw [stl_f]; omega⟩
theorem live_comb {N R N' R' : Int} (h : stLess N R N' R' = false) (x y : Option C3) : live N R (comb (live N' R' x) y) = live N R (comb x y) := by
  cases x with
  | none => rfl
  | some u =>
    cases hu : stLess N' R' u.1 u.2.1
    · rw [live_dead hu]
      have hd : stLess N R u.1 u.2.1 = false := by rw [stl_f] at *; omega
      cases y with
      | none => rw [comb_none, comb_none, live_dead hd]; rfl
      | some c =>
        show live N R (some c) = live N R (some (cJ u c))
        rcases cJ_pick u c with h1 | h1
        · have h2 := (cJ_stamp u c).2
          rw [h1] at h2 ⊢
          rw [live_dead hd, live_dead]
          rw [stl_f] at *; omega
        · rw [h1]
    · rw [live_some hu]
theorem live_comb2 {N R N' R' : Int} (h : stLess N R N' R' = false) (x y : Option C3) : live N R (comb x (live N' R' y)) = live N R (comb x y) := by
  rw [comb_comm, live_comb h, comb_comm]

/-! Fields by rising numbers -/
def AscB (lo hi : Int) : List F4 → Prop
  | [] => True
  | f :: l => lo ≤ f.1 ∧ f.1 < hi ∧ AscB (f.1 + 1) hi l
theorem asc_lo : ∀ {l : List F4} {lo lo' hi : Int}, AscB lo hi l → lo' ≤ lo → AscB lo' hi l
  | [], _, _, _, _, _ => trivial
  | f :: l, _, _, _, h, h' => ⟨by have := h.1; omega, h.2⟩
theorem asc_out : ∀ {l : List F4} {lo hi k : Int}, AscB lo hi l → (k < lo ∨ hi ≤ k) → fFind l k = none
  | [], _, _, _, _, _ => rfl
  | f :: l, lo, hi, k, h, hk => by
    obtain ⟨h1, h2, h3⟩ := h
    unfold fFind
    rw [if_neg (by omega)]
    exact asc_out h3 (by omega)
theorem asc_mem : ∀ {l : List F4} {lo hi : Int} {f : F4}, AscB lo hi l → f ∈ l → fFind l f.1 = some f.2 ∧ lo ≤ f.1 ∧ f.1 < hi
  | g :: l, lo, hi, f, h, hf => by
    obtain ⟨h1, h2, h3⟩ := h
    rcases List.mem_cons.1 hf with rfl | hf
    · exact ⟨by simp [fFind], h1, h2⟩
    · obtain ⟨k1, k2, k3⟩ := asc_mem h3 hf
      refine ⟨?_, by omega, k3⟩
      unfold fFind
      rw [if_neg (by omega)]; exact k1
/-- The fields of so many numbers. -/
def cn (g : Int → Option C3) (s n : Nat) : List F4 := (List.range' s n).filterMap fun i : Nat => (g (i : Int)).map fun c => ((i : Int), c)
theorem cn_succ (g : Int → Option C3) (s n : Nat) : cn g s (n + 1) = ((g (s : Int)).map fun c => ((s : Int), c)).toList ++ cn g (s + 1) n := by
  unfold cn
  rw [List.range'_succ, List.filterMap_cons]
  cases h : g (s : Int) <;> simp [h]
theorem cn_asc (g : Int → Option C3) : ∀ (n s : Nat), AscB s (s + n : Nat) (cn g s n)
  | 0, s => trivial
  | n + 1, s => by
    rw [cn_succ]
    have ih := cn_asc g n (s + 1)
    rw [show s + 1 + n = s + (n + 1) by omega] at ih
    cases h : g (s : Int) with
    | none => exact asc_lo ih (by omega)
    | some c => exact ⟨by simp, by simp; omega, by simpa using ih⟩
theorem cn_find (g : Int → Option C3) (k : Int) : ∀ (n s : Nat), (s : Int) ≤ k → k < (s + n : Nat) → fFind (cn g s n) k = g k
  | 0, s, h1, h2 => by omega
  | n + 1, s, h1, h2 => by
    rw [cn_succ]
    by_cases hk : k = s
    · subst hk
      cases h : g (s : Int) with
      | none => exact asc_out (cn_asc g n (s + 1)) (by omega)
      | some c => simp [fFind]
    · have ih := cn_find g k n (s + 1) (by omega) (by omega)
      cases h : g (s : Int) with
      | none => exact ih
      | some c =>
        show fFind ((((s : Int), c)) :: cn g (s + 1) n) k = g k
        unfold fFind
        rw [if_neg (fun h => hk h.symm)]; exact ih
theorem cn_congr {g g' : Int → Option C3} : ∀ (n s : Nat), (∀ k : Int, (s : Int) ≤ k → g k = g' k) → cn g s n = cn g' s n
  | 0, s, _ => rfl
  | n + 1, s, h => by rw [cn_succ, cn_succ, h s (by omega), cn_congr n (s + 1) fun k hk => h k (by omega)]
theorem asc_cn : ∀ (n s : Nat) (l : List F4), AscB s (s + n : Nat) l → l = cn (fFind l) s n
  | 0, s, l, h => by
    cases l with
    | nil => rfl
    | cons f l => exact absurd h.2.1 (by have := h.1; omega)
  | n + 1, s, l, h => by
    rw [cn_succ]
    rw [show s + (n + 1) = s + 1 + n by omega] at h
    cases l with
    | nil =>
      have := asc_cn n (s + 1) [] trivial
      simp only [fFind]
      exact this
    | cons f l =>
      obtain ⟨h1, h2, h3⟩ := h
      by_cases hf : f.1 = s
      · have e : fFind (f :: l) (s : Int) = some f.2 := by unfold fFind; rw [if_pos hf]
        have ih := asc_cn n (s + 1) l (by rw [hf] at h3; exact h3)
        rw [e]
        have e2 : cn (fFind (f :: l)) (s + 1) n = cn (fFind l) (s + 1) n := cn_congr n (s + 1) fun k hk => by
          show (if f.1 = k then some f.2 else fFind l k) = fFind l k
          rw [if_neg (by omega)]
        rw [e2, ← ih]
        simp only [Option.map_some, Option.toList_some, List.cons_append, List.nil_append, List.cons.injEq, and_true]
        rw [← hf]
      · have e : fFind (f :: l) (s : Int) = none := asc_out (lo := s + 1) (hi := (s + 1 + n : Nat)) ⟨by omega, h2, h3⟩ (.inl (by omega))
        rw [e]
        exact asc_cn n (s + 1) (f :: l) ⟨by omega, h2, h3⟩
theorem asc_ext {l m : List F4} (hl : AscB 0 8 l) (hm : AscB 0 8 m) (h : ∀ k, fFind l k = fFind m k) : l = m := by
  rw [asc_cn 8 0 l hl, asc_cn 8 0 m hm]
  exact cn_congr 8 0 fun k _ => h k

/-! What may be -/
theorem fMay_iff {N R : Int} : ∀ {l : List F4} {last : Int}, fMay N R last l = true ↔ AscB (last + 1) 8 l ∧ ∀ f ∈ l, cMay f.2.1 f.2.2.1 f.2.2.2 = true ∧ stLess N R f.2.1 f.2.2.1 = true
  | [], _ => by simp [fMay, AscB]
  | f :: l, last => by
    have ih := fMay_iff (N := N) (R := R) (l := l) (last := f.1)
    simp only [fMay, Bool.and_eq_true, decide_eq_true_eq, ih, AscB, List.mem_cons, forall_eq_or_imp]
    constructor
    · rintro ⟨⟨⟨⟨h1, h2⟩, h3⟩, h4⟩, h5, h6⟩; exact ⟨⟨by omega, h2, h5⟩, ⟨h3, h4⟩, h6⟩
    · rintro ⟨⟨h1, h2, h5⟩, ⟨h3, h4⟩, h6⟩; exact ⟨⟨⟨⟨by omega, h2⟩, h3⟩, h4⟩, h5, h6⟩
theorem rMay_iff {r : RD} : rMay r = true ↔ stMay r.N r.R = true ∧ ¬ (r.f = [] ∧ r.N = 0 ∧ r.R = 0) ∧ AscB 0 8 r.f ∧ ∀ f ∈ r.f, cMay f.2.1 f.2.2.1 f.2.2.2 = true ∧ stLess r.N r.R f.2.1 f.2.2.1 = true := by
  unfold rMay recMay
  rw [Bool.and_eq_true, Bool.and_eq_true, fMay_iff, and_assoc]
  refine and_congr_right fun _ => and_congr ?_ Iff.rfl
  rw [Bool.not_eq_true', Bool.and_eq_false_iff]
  have e : stEq r.N r.R 0 0 = false ↔ ¬ (r.N = 0 ∧ r.R = 0) := by
    constructor
    · exact stEq_false
    · intro h; cases hs : stEq r.N r.R 0 0; rfl; exact absurd (stEq_true hs) h
  rw [e]
  cases r.f <;> simp
theorem rMay_asc {r : RD} (h : rMay r = true) : AscB 0 8 r.f := (rMay_iff.1 h).2.2.1
theorem rMay_at {r : RD} (h : rMay r = true) {k : Int} {c : C3} (hk : fFind r.f k = some c) : cMay c.1 c.2.1 c.2.2 = true ∧ stLess r.N r.R c.1 c.2.1 = true :=
  (rMay_iff.1 h).2.2.2 _ (fFind_mem hk)
theorem fFind_fPut (l : List F4) (k : Int) (c : C3) (k' : Int) : fFind (fPut l k c) k' = if k = k' then some c else fFind l k' := by
  induction l with
  | nil => simp [fPut, fFind]
  | cons f l ih =>
    unfold fPut
    by_cases h : f.1 = k
    · rw [if_pos h]
      unfold fFind
      by_cases h2 : k = k'
      · simp [h2]
      · rw [if_neg h2, if_neg h2, if_neg (by rw [h]; exact h2)]
    · rw [if_neg h]
      unfold fFind
      rw [ih]
      by_cases h2 : f.1 = k'
      · rw [if_pos h2, if_neg (by rw [← h2]; exact fun e => h e.symm), if_pos h2]
      · rw [if_neg h2, if_neg h2]
theorem find_putAll : ∀ {l : List F4} {m : List F4} {lo hi : Int} (k : Int), AscB lo hi l → fFind (putAll m l) k = comb (fFind m k) (fFind l k)
  | [], m, _, _, k, _ => by rw [show fFind [] k = none from rfl, comb_none]; rfl
  | f :: l, m, lo, hi, k, h => by
    obtain ⟨h1, h2, h3⟩ := h
    show fFind (putAll (putF m f) l) k = _
    rw [find_putAll k h3]
    have e : fFind (putF m f) k = if f.1 = k then comb (fFind m k) (some f.2) else fFind m k := by
      unfold putF
      cases hm : fFind m f.1 with
      | none =>
        simp only
        rw [fFind_fPut]
        by_cases hk : f.1 = k
        · rw [if_pos hk, if_pos hk, ← hk, hm]; rfl
        · rw [if_neg hk, if_neg hk]
      | some was =>
        simp only
        rw [fFind_fPut]
        by_cases hk : f.1 = k
        · rw [if_pos hk, if_pos hk, ← hk, hm]; rfl
        · rw [if_neg hk, if_neg hk]
    rw [e]
    by_cases hk : f.1 = k
    · rw [if_pos hk, show fFind (f :: l) k = some f.2 by unfold fFind; rw [if_pos hk], asc_out h3 (.inl (by omega)), comb_none]
    · rw [if_neg hk, show fFind (f :: l) k = fFind l k by rw [fFind, if_neg hk]]
theorem outTo_cn (N R : Int) (m : List F4) : outTo N R m 8 = cn (fun k => live N R (fFind m k)) 0 8 := by
  unfold outTo cn
  rw [List.range_eq_range']
  congr 1
  funext i
  unfold outAt
  show _ = Option.map _ (live N R (fFind m (i : Int)))
  cases h : fFind m (i : Int) with
  | none => rfl
  | some c =>
    simp only
    cases h2 : stLess N R c.1 c.2.1
    · rw [live_dead h2]; rfl
    · rw [live_some h2]; rfl
theorem both_find {r r' : RD} (h : rMay r = true) (h' : rMay r' = true) (k : Int) : fFind (rBoth r r').f k = live (rBoth r r').N (rBoth r r').R (comb (fFind r.f k) (fFind r'.f k)) := by
  have e : (rBoth r r').f = cn (fun k => live (rBoth r r').N (rBoth r r').R (fFind (putAll (putAll [] r.f) r'.f) k)) 0 8 := outTo_cn _ _ _
  rw [e]
  by_cases hk : 0 ≤ k ∧ k < 8
  · rw [cn_find _ _ _ _ (by simpa using hk.1) (by simpa using hk.2), find_putAll k (rMay_asc h'), find_putAll k (rMay_asc h)]
    rfl
  · have ho : k < 0 ∨ 8 ≤ k := by omega
    rw [asc_out (cn_asc _ _ _) (by simpa using ho), asc_out (rMay_asc h) ho, asc_out (rMay_asc h') ho]
    rfl
theorem both_asc (r r' : RD) : AscB 0 8 (rBoth r r').f := by
  have e : (rBoth r r').f = cn (fun k => live (rBoth r r').N (rBoth r r').R (fFind (putAll (putAll [] r.f) r'.f) k)) 0 8 := outTo_cn _ _ _
  rw [e]; exact cn_asc _ 8 0
theorem stMay_mx {N R N' R' : Int} (h : stMay N R = true) (h' : stMay N' R' = true) : stMay (mxN N R N' R') (mxR N R N' R') = true := by
  rcases mx_cases N R N' R' with ⟨_, h2, h3⟩ | ⟨_, h2, h3⟩ <;> rw [h2, h3] <;> assumption
theorem comb_some {x y : Option C3} {c : C3} (h : comb x y = some c) : x = some c ∨ y = some c := by
  cases x with
  | none => exact .inr h
  | some a =>
    cases y with
    | none => exact .inl h
    | some b =>
      simp only [comb, Option.some.injEq] at h
      rcases cJ_pick a b with h1 | h1
      · left; rw [← h, h1]
      · right; rw [← h, h1]
theorem stMay_ge {N R : Int} (h : stMay N R = true) : 0 ≤ N ∧ 0 ≤ R := by
  simp only [stMay, Bool.or_eq_true, decide_eq_true_eq] at h; omega
theorem both_may {r r' : RD} (h : rMay r = true) (h' : rMay r' = true) : rMay (rBoth r r') = true := by
  obtain ⟨a1, a2, a3, a4⟩ := rMay_iff.1 h
  obtain ⟨b1, b2, b3, b4⟩ := rMay_iff.1 h'
  rw [rMay_iff]
  refine ⟨stMay_mx a1 b1, ?_, both_asc r r', fun f hf => ?_⟩
  · rintro ⟨e1, e2, e3⟩
    have g1 := stMay_ge a1
    have g2 := stMay_ge b1
    have hz : r.N = 0 ∧ r.R = 0 := by
      have h1 := mx_ge1 r.N r.R r'.N r'.R
      have e2' : mxN r.N r.R r'.N r'.R = 0 := e2
      have e3' : mxR r.N r.R r'.N r'.R = 0 := e3
      rw [e2', e3', stl_f] at h1
      omega
    cases hl : r.f with
    | nil => exact a2 ⟨hl, hz⟩
    | cons f l =>
      have hm : f ∈ r.f := by rw [hl]; exact List.mem_cons_self
      have hf := (asc_mem a3 hm).1
      have hlv := (a4 f hm).2
      have hb := both_find h h' f.1
      rw [e1, hf, show fFind [] f.1 = none from rfl, e2, e3] at hb
      rw [hz.1, hz.2] at hlv
      cases hy : fFind r'.f f.1 with
      | none => rw [hy, comb_none, live_some hlv] at hb; cases hb
      | some c =>
        rw [hy] at hb
        have hs := (cJ_stamp f.2 c).1
        have : stLess 0 0 (cJ f.2 c).1 (cJ f.2 c).2.1 = true := by rw [stl] at *; rw [stl_f] at hs; omega
        rw [show comb (some f.2) (some c) = some (cJ f.2 c) from rfl, live_some this] at hb
        cases hb
  · have hk := (asc_mem (both_asc r r') hf).1
    rw [both_find h h'] at hk
    obtain ⟨h1, h2⟩ := live_eq.1 hk
    refine ⟨?_, h2⟩
    rcases comb_some h1 with h3 | h3
    · exact (rMay_at h h3).1
    · exact (rMay_at h' h3).1
theorem rd_ext {r r' : RD} (h : rMay r = true) (h' : rMay r' = true) (hi : r.id = r'.id) (hN : r.N = r'.N) (hR : r.R = r'.R) (hk : ∀ k, fFind r.f k = fFind r'.f k) : r = r' := by
  have := asc_ext (rMay_asc h) (rMay_asc h') hk
  cases r; cases r'; simp_all
theorem live_own {r : RD} (h : rMay r = true) (k : Int) : live r.N r.R (fFind r.f k) = fFind r.f k := by
  cases hk : fFind r.f k with
  | none => rfl
  | some c => exact live_some (rMay_at h hk).2
theorem both_comm {r r' : RD} (h : rMay r = true) (h' : rMay r' = true) (hi : r.id = r'.id) : rBoth r r' = rBoth r' r := by
  refine rd_ext (both_may h h') (both_may h' h) hi (mx_comm _ _ _ _).1 (mx_comm _ _ _ _).2 fun k => ?_
  rw [both_find h h', both_find h' h, comb_comm]
  congr 1
  · exact (mx_comm _ _ _ _).1
  · exact (mx_comm _ _ _ _).2
theorem both_self {r : RD} (h : rMay r = true) : rBoth r r = r := by
  refine rd_ext (both_may h h) h rfl (mx_self _ _).1 (mx_self _ _).2 fun k => ?_
  rw [both_find h h, comb_self, show (rBoth r r).N = r.N from (mx_self _ _).1, show (rBoth r r).R = r.R from (mx_self _ _).2, live_own h]
theorem both_assoc {a b c : RD} (ha : rMay a = true) (hb : rMay b = true) (hc : rMay c = true) : rBoth (rBoth a b) c = rBoth a (rBoth b c) := by
  have hN : (rBoth (rBoth a b) c).N = (rBoth a (rBoth b c)).N := (mx_assoc _ _ _ _ _ _).1
  have hR : (rBoth (rBoth a b) c).R = (rBoth a (rBoth b c)).R := (mx_assoc _ _ _ _ _ _).2
  refine rd_ext (both_may (both_may ha hb) hc) (both_may ha (both_may hb hc)) rfl hN hR fun k => ?_
  rw [both_find (both_may ha hb) hc, both_find ha (both_may hb hc), both_find ha hb, both_find hb hc]
  have g1 : stLess (rBoth (rBoth a b) c).N (rBoth (rBoth a b) c).R (rBoth a b).N (rBoth a b).R = false := mx_ge1 _ _ _ _
  have g2 : stLess (rBoth a (rBoth b c)).N (rBoth a (rBoth b c)).R (rBoth b c).N (rBoth b c).R = false := mx_ge2 _ _ _ _
  rw [live_comb g1, live_comb2 g2, comb_assoc, hN, hR]
theorem leq_iff {r r' : RD} : rLeq r r' = true ↔ rMay r = true ∧ rMay r' = true ∧ r.id = r'.id ∧ rBoth r r' = r' := by
  unfold rLeq rJoin
  rw [Bool.and_eq_true, rSame_iff]
  constructor
  · rintro ⟨h1, h2⟩
    rw [if_pos h1] at h2
    simp only [rCan, Bool.and_eq_true, beq_iff_eq] at h1
    exact ⟨h1.1.1, h1.1.2, h1.2, h2⟩
  · rintro ⟨h1, h2, h3, h4⟩
    have : rCan r r' = true := by simp [rCan, h1, h2, h3]
    rw [if_pos this]; exact ⟨this, h4⟩
theorem can_iff {r r' : RD} : rCan r r' = true ↔ rMay r = true ∧ rMay r' = true ∧ r.id = r'.id := by simp [rCan, and_assoc]
theorem join_eq {r r' : RD} (h : rMay r = true) (h' : rMay r' = true) (hi : r.id = r'.id) : rJoin r r' = rBoth r r' := by
  unfold rJoin; rw [if_pos (can_iff.2 ⟨h, h', hi⟩)]
theorem leq_both1 {r r' : RD} (h : rMay r = true) (h' : rMay r' = true) (hi : r.id = r'.id) : rLeq r (rBoth r r') = true :=
  leq_iff.2 ⟨h, both_may h h', rfl, by rw [← both_assoc h h h', both_self h]⟩
theorem leq_both2 {r r' : RD} (h : rMay r = true) (h' : rMay r' = true) (hi : r.id = r'.id) : rLeq r' (rBoth r r') = true := by
  rw [both_comm h h' hi]; exact leq_both1 h' h hi.symm
theorem leq_self (r : RD) : rLeq r r = rMay r := by
  rw [Bool.eq_iff_iff, leq_iff]
  exact ⟨fun h => h.1, fun h => ⟨h, h, rfl, both_self h⟩⟩
theorem leq_anti {a b : RD} (h : rLeq a b = true) (k : rLeq b a = true) : a = b := by
  obtain ⟨h1, h2, h3, h4⟩ := leq_iff.1 h
  obtain ⟨_, _, _, k4⟩ := leq_iff.1 k
  rw [← k4, ← both_comm h1 h2 h3, h4]
theorem leq_trans {a b c : RD} (h : rLeq a b = true) (k : rLeq b c = true) : rLeq a c = true := by
  obtain ⟨h1, h2, h3, h4⟩ := leq_iff.1 h
  obtain ⟨_, k2, k3, k4⟩ := leq_iff.1 k
  exact leq_iff.2 ⟨h1, k2, h3.trans k3, by rw [← k4, ← both_assoc h1 h2 k2, h4, k4]⟩
end Go.Proofs.Ytgckgbonhbabpaa
