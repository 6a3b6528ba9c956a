/- Records compared; a field found: the code. -/
import Derived.Test.YtgckgbonhbabpaaRecB
namespace Go.Proofs.Ytgckgbonhbabpaa
open Go Go.RowKit Go.Deep
set_option linter.unusedVariables false
set_option linter.unusedSimpArgs false
set_option maxRecDepth 100000

def fEq (f g : F4) : Bool := decide (f.1 = g.1) && cEq f.2.1 f.2.2.1 f.2.2.2 g.2.1 g.2.2.1 g.2.2.2
theorem fEq_iff (f g : F4) : fEq f g = true ↔ f = g := by
  obtain ⟨a, N, R, s⟩ := f
  obtain ⟨b, N', R', s'⟩ := g
  unfold fEq
  rw [Bool.and_eq_true, decide_eq_true_eq]
  simp only [cEq_iff, Prod.mk.injEq]
def fsEq : List F4 → List F4 → Bool
  | [], [] => true
  | f :: l, g :: m => fEq f g && fsEq l m
  | _, _ => false
theorem fsEq_iff : ∀ l m : List F4, fsEq l m = true ↔ l = m
  | [], [] => by simp [fsEq]
  | f :: l, g :: m => by rw [fsEq, Bool.and_eq_true, fEq_iff, fsEq_iff l m, List.cons.injEq]
  | [], g :: m => by simp [fsEq]
  | f :: l, [] => by simp [fsEq]
theorem fsEq_len {l m : List F4} (h : l.length ≠ m.length) : fsEq l m = false := by
  cases hq : fsEq l m
  · rfl
  · rw [(fsEq_iff l m).1 hq] at h; exact absurd rfl h
theorem fsEq_step {l m : List F4} {j : Nat} {f g : F4} (h : l[j]? = some f) (k : m[j]? = some g) : fsEq (l.drop j) (m.drop j) = (fEq f g && fsEq (l.drop (j + 1)) (m.drop (j + 1))) := by
  have h1 := List.getElem?_eq_some_iff.1 h
  have k1 := List.getElem?_eq_some_iff.1 k
  rw [List.drop_eq_getElem_cons h1.1, h1.2, List.drop_eq_getElem_cons k1.1, k1.2]; rfl
theorem fsEq_end {l m : List F4} {j : Nat} (h : l.length ≤ j) (k : m.length ≤ j) : fsEq (l.drop j) (m.drop j) = true := by
  rw [List.drop_of_length_le h, List.drop_of_length_le k]; rfl
theorem eqlIn_field (d : Nat) (i i' N R N' R' : Int) (s s' : ByteArray) (w : World) : (Op.equalIn (d + 4) 65 (.agg #[.int .i64 i, .int .i64 N, .int .i64 R, .string s]) (.agg #[.int .i64 i', .int .i64 N', .int .i64 R', .string s'])).run Try.prog w = .ok (fEq (i, N, R, s) (i', N', R', s')) w := by
  by_cases h0 : i = i' <;> by_cases h1 : N = N' <;> by_cases h2 : R = R' <;> cases h3 : (s.toList == s'.toList) <;> simp [go_sem, h0, h1, h2, h3, fEq, cEq, stEq]
theorem neq_field (i i' N R N' R' : Int) (s s' : ByteArray) (w : World) : (binOp .neq 65 (.agg #[.int .i64 i, .int .i64 N, .int .i64 R, .string s]) (.agg #[.int .i64 i', .int .i64 N', .int .i64 R', .string s'])).run Try.prog w = .ok (.bool (!fEq (i, N, R, s) (i', N', R', s'))) w := by
  rw [run_neq_struct]
  show ((Op.equalIn (9996 + 4) _ _ _).run _ _).andThen _ = _
  rw [eqlIn_field]; rfl
set_option maxHeartbeats 1600000 in
theorem fequal_c (v v' : Value) (l m : List F4) (w : World) (hv : Flds w v l) (hv' : Flds w v' m) : Calls Try.prog 74 #[v, v'] w fun e w' => e = .returned (.bool (fsEq l m)) ∧ Below w.heap.size w w' := by
  have hAc := @after_cell
  have hAf := @after_frozen
  have hSz := sz_facts
  have hq := neq_field
  have hlen1 := len_row (ti := 0) hv Try.underlying52
  have hlen2 := len_row (ti := 0) hv' Try.underlying52
  obtain ⟨_, a, c, rfl, q1, hm1, _⟩ := id hv
  obtain ⟨_, a', c', rfl, q1', _, _⟩ := id hv'
  unfold maxLen at hm1
  obtain ⟨n, hn⟩ : ∃ n, l.length = n := ⟨_, rfl⟩
  obtain ⟨n', hn'⟩ : ∃ n', m.length = n' := ⟨_, rfl⟩
  rw [hn] at hlen1 q1 hv ⊢; rw [hn'] at hlen2 q1' hv' ⊢
  have Hv := Lib.hid hv; have Hv' := Lib.hid hv'; have Hn := Lib.hid hn; have Hn' := Lib.hid hn'
  clear hv hv' hn hn'
  by_cases hne : n = n'
  · subst hne
    go_enter Try.func74, Try.ntmps74
    go_wp2
    go_loopw [13] (fun i wr => ∃ j : Nat, j ≤ n ∧ i = .int .i64 j ∧ Hid (fsEq l m = fsEq (l.drop j) (m.drop j)) ∧ Hid (Below w.heap.size w wr)) (fun i _ => n - (intOf i).toNat)
    case atStart => exact ⟨0, by omega, rfl, Lib.hid rfl, Lib.hid (Below.refl _ _)⟩
    case round =>
      obtain ⟨j, hj, rfl, I, B⟩ := hrel
      obtain ⟨x1, rfl⟩ := after_of B.out
      have hz1 := after_size x1
      by_cases hlt : j < n
      · obtain ⟨⟨no, cN, cR, cS⟩, hf⟩ : ∃ f, l[j]? = some f := ⟨_, List.getElem?_eq_getElem (by rw [Hn.out]; exact hlt)⟩
        obtain ⟨⟨no', cN', cR', cS'⟩, hf'⟩ : ∃ f, m[j]? = some f := ⟨_, List.getElem?_eq_getElem (by rw [Hn'.out]; exact hlt)⟩
        obtain ⟨b, off, rfl, hbw, g0, g1, g2, g3⟩ := Hv.out.at hf
        obtain ⟨b', off', rfl, hbw', k0, k1, k2, k3⟩ := Hv'.out.at hf'
        have Hst := Lib.hid (fsEq_step hf hf')
        clear hf hf'
        have g0 := cell_below (B.out) _ _ _ g0; have g1 := cell_below (B.out) _ _ _ g1; have g2 := cell_below (B.out) _ _ _ g2; have g3 := cell_below (B.out) _ _ _ g3
        have k0 := cell_below (B.out) _ _ _ k0; have k1 := cell_below (B.out) _ _ _ k1; have k2 := cell_below (B.out) _ _ _ k2; have k3 := cell_below (B.out) _ _ _ k3
        dsimp only at g0 g1 g2 g3 k0 k1 k2 k3
        have hs1 := szf1 (a := b) (b := x1.w.heap.size) (by have := x1.h.size; omega)
        have hs2 := szf1 (a := b') (b := x1.w.heap.size) (by have := x1.h.size; omega)
        obtain ⟨r, hr⟩ : ∃ r, Hid (fEq (no, cN, cR, cS) (no', cN', cR', cS') = r) := ⟨_, rfl⟩
        rw [hr.out] at Hst
        cases r
        · have Hend : Hid (fsEq l m = false) := Lib.hid (by rw [I.out, Hst.out]; rfl)
          go_wp2
          have hr' := hr.out
          refine wp_quiet_all (C := fun w' => ∃ x : After _, w' = x.w) (by kernel_rfl) (by kernel_rfl) (since_drew _) ?_
          repeat (go_big_quiet_step (fail))
          refine wpQuiet_nil ?_
          first | ((fail_if_success revert x1); rintro _ ⟨x1, rfl⟩; have hz1 := after_size x1; (try (simp only [World.size_alloc, World.size_drew, World.size_setCell] at hz1)); (try (have f1gA := szf1 (a := gA) (b := x1.w.heap.size) (by omega))); (first | have f10 := szf3 (a := w.heap.size) (b := x1.w.heap.size) (by omega) | have f10 := szf2 (a := w.heap.size) (b := x1.w.heap.size) (by omega) | have f10 := szf1 (a := w.heap.size) (b := x1.w.heap.size) (by omega) | skip)) | ((fail_if_success revert x2); rintro _ ⟨x2, rfl⟩; have hz2 := after_size x2; (try (simp only [World.size_alloc, World.size_drew, World.size_setCell] at hz2)); (try (have f2gA := szf1 (a := gA) (b := x2.w.heap.size) (by omega))); (first | have f20 := szf3 (a := w.heap.size) (b := x2.w.heap.size) (by omega) | have f20 := szf2 (a := w.heap.size) (b := x2.w.heap.size) (by omega) | have f20 := szf1 (a := w.heap.size) (b := x2.w.heap.size) (by omega) | skip); (first | have f21 := szf2 (a := x1.w.heap.size) (b := x2.w.heap.size) (by omega) | have f21 := szf1 (a := x1.w.heap.size) (b := x2.w.heap.size) (by omega) | skip)) | ((fail_if_success revert x3); rintro _ ⟨x3, rfl⟩; have hz3 := after_size x3; (try (simp only [World.size_alloc, World.size_drew, World.size_setCell] at hz3)); (try (have f3gA := szf1 (a := gA) (b := x3.w.heap.size) (by omega))); (first | have f30 := szf3 (a := w.heap.size) (b := x3.w.heap.size) (by omega) | have f30 := szf2 (a := w.heap.size) (b := x3.w.heap.size) (by omega) | have f30 := szf1 (a := w.heap.size) (b := x3.w.heap.size) (by omega) | skip); (first | have f31 := szf2 (a := x1.w.heap.size) (b := x3.w.heap.size) (by omega) | have f31 := szf1 (a := x1.w.heap.size) (b := x3.w.heap.size) (by omega) | skip); (first | have f32 := szf2 (a := x2.w.heap.size) (b := x3.w.heap.size) (by omega) | have f32 := szf1 (a := x2.w.heap.size) (b := x3.w.heap.size) (by omega) | skip)) | ((fail_if_success revert x4); rintro _ ⟨x4, rfl⟩; have hz4 := after_size x4; (try (simp only [World.size_alloc, World.size_drew, World.size_setCell] at hz4)); (try (have f4gA := szf1 (a := gA) (b := x4.w.heap.size) (by omega))); (first | have f40 := szf3 (a := w.heap.size) (b := x4.w.heap.size) (by omega) | have f40 := szf2 (a := w.heap.size) (b := x4.w.heap.size) (by omega) | have f40 := szf1 (a := w.heap.size) (b := x4.w.heap.size) (by omega) | skip); (first | have f41 := szf2 (a := x1.w.heap.size) (b := x4.w.heap.size) (by omega) | have f41 := szf1 (a := x1.w.heap.size) (b := x4.w.heap.size) (by omega) | skip); (first | have f42 := szf2 (a := x2.w.heap.size) (b := x4.w.heap.size) (by omega) | have f42 := szf1 (a := x2.w.heap.size) (b := x4.w.heap.size) (by omega) | skip); (first | have f43 := szf2 (a := x3.w.heap.size) (b := x4.w.heap.size) (by omega) | have f43 := szf1 (a := x3.w.heap.size) (b := x4.w.heap.size) (by omega) | skip)) | ((fail_if_success revert x5); rintro _ ⟨x5, rfl⟩; have hz5 := after_size x5; (try (simp only [World.size_alloc, World.size_drew, World.size_setCell] at hz5)); (try (have f5gA := szf1 (a := gA) (b := x5.w.heap.size) (by omega))); (first | have f50 := szf3 (a := w.heap.size) (b := x5.w.heap.size) (by omega) | have f50 := szf2 (a := w.heap.size) (b := x5.w.heap.size) (by omega) | have f50 := szf1 (a := w.heap.size) (b := x5.w.heap.size) (by omega) | skip); (first | have f51 := szf2 (a := x1.w.heap.size) (b := x5.w.heap.size) (by omega) | have f51 := szf1 (a := x1.w.heap.size) (b := x5.w.heap.size) (by omega) | skip); (first | have f52 := szf2 (a := x2.w.heap.size) (b := x5.w.heap.size) (by omega) | have f52 := szf1 (a := x2.w.heap.size) (b := x5.w.heap.size) (by omega) | skip); (first | have f53 := szf2 (a := x3.w.heap.size) (b := x5.w.heap.size) (by omega) | have f53 := szf1 (a := x3.w.heap.size) (b := x5.w.heap.size) (by omega) | skip); (first | have f54 := szf2 (a := x4.w.heap.size) (b := x5.w.heap.size) (by omega) | have f54 := szf1 (a := x4.w.heap.size) (b := x5.w.heap.size) (by omega) | skip))
          go_wp2
          all_goals first | (rw [Exit.noGoto_ret]; go_ret) | go_ret
          all_goals (have hB := B.out; exact ⟨by rw [Hend.out]; rfl, by (repeat (first | exact Below.refl _ _ | assumption | refine bel_alloc ?_ _ | refine bel_after _ ?_ | refine bel_drewN ?_ _ | refine bel_drew ?_ | refine bel_set ?_ (by first | omega | (simp only [World.size_alloc, World.size_drew, World.size_setCell]; omega) | (simp; omega)) _))⟩)
        · have Hend : Hid (fsEq l m = fsEq (l.drop (j + 1)) (m.drop (j + 1))) := Lib.hid (by rw [I.out, Hst.out]; rfl)
          go_wp2
          have hr' := hr.out
          refine wp_quiet_all (C := fun w' => ∃ x : After _, w' = x.w) (by kernel_rfl) (by kernel_rfl) (since_drew _) ?_
          repeat (go_big_quiet_step (fail))
          refine wpQuiet_nil ?_
          first | ((fail_if_success revert x1); rintro _ ⟨x1, rfl⟩; have hz1 := after_size x1; (try (simp only [World.size_alloc, World.size_drew, World.size_setCell] at hz1)); (try (have f1gA := szf1 (a := gA) (b := x1.w.heap.size) (by omega))); (first | have f10 := szf3 (a := w.heap.size) (b := x1.w.heap.size) (by omega) | have f10 := szf2 (a := w.heap.size) (b := x1.w.heap.size) (by omega) | have f10 := szf1 (a := w.heap.size) (b := x1.w.heap.size) (by omega) | skip)) | ((fail_if_success revert x2); rintro _ ⟨x2, rfl⟩; have hz2 := after_size x2; (try (simp only [World.size_alloc, World.size_drew, World.size_setCell] at hz2)); (try (have f2gA := szf1 (a := gA) (b := x2.w.heap.size) (by omega))); (first | have f20 := szf3 (a := w.heap.size) (b := x2.w.heap.size) (by omega) | have f20 := szf2 (a := w.heap.size) (b := x2.w.heap.size) (by omega) | have f20 := szf1 (a := w.heap.size) (b := x2.w.heap.size) (by omega) | skip); (first | have f21 := szf2 (a := x1.w.heap.size) (b := x2.w.heap.size) (by omega) | have f21 := szf1 (a := x1.w.heap.size) (b := x2.w.heap.size) (by omega) | skip)) | ((fail_if_success revert x3); rintro _ ⟨x3, rfl⟩; have hz3 := after_size x3; (try (simp only [World.size_alloc, World.size_drew, World.size_setCell] at hz3)); (try (have f3gA := szf1 (a := gA) (b := x3.w.heap.size) (by omega))); (first | have f30 := szf3 (a := w.heap.size) (b := x3.w.heap.size) (by omega) | have f30 := szf2 (a := w.heap.size) (b := x3.w.heap.size) (by omega) | have f30 := szf1 (a := w.heap.size) (b := x3.w.heap.size) (by omega) | skip); (first | have f31 := szf2 (a := x1.w.heap.size) (b := x3.w.heap.size) (by omega) | have f31 := szf1 (a := x1.w.heap.size) (b := x3.w.heap.size) (by omega) | skip); (first | have f32 := szf2 (a := x2.w.heap.size) (b := x3.w.heap.size) (by omega) | have f32 := szf1 (a := x2.w.heap.size) (b := x3.w.heap.size) (by omega) | skip)) | ((fail_if_success revert x4); rintro _ ⟨x4, rfl⟩; have hz4 := after_size x4; (try (simp only [World.size_alloc, World.size_drew, World.size_setCell] at hz4)); (try (have f4gA := szf1 (a := gA) (b := x4.w.heap.size) (by omega))); (first | have f40 := szf3 (a := w.heap.size) (b := x4.w.heap.size) (by omega) | have f40 := szf2 (a := w.heap.size) (b := x4.w.heap.size) (by omega) | have f40 := szf1 (a := w.heap.size) (b := x4.w.heap.size) (by omega) | skip); (first | have f41 := szf2 (a := x1.w.heap.size) (b := x4.w.heap.size) (by omega) | have f41 := szf1 (a := x1.w.heap.size) (b := x4.w.heap.size) (by omega) | skip); (first | have f42 := szf2 (a := x2.w.heap.size) (b := x4.w.heap.size) (by omega) | have f42 := szf1 (a := x2.w.heap.size) (b := x4.w.heap.size) (by omega) | skip); (first | have f43 := szf2 (a := x3.w.heap.size) (b := x4.w.heap.size) (by omega) | have f43 := szf1 (a := x3.w.heap.size) (b := x4.w.heap.size) (by omega) | skip)) | ((fail_if_success revert x5); rintro _ ⟨x5, rfl⟩; have hz5 := after_size x5; (try (simp only [World.size_alloc, World.size_drew, World.size_setCell] at hz5)); (try (have f5gA := szf1 (a := gA) (b := x5.w.heap.size) (by omega))); (first | have f50 := szf3 (a := w.heap.size) (b := x5.w.heap.size) (by omega) | have f50 := szf2 (a := w.heap.size) (b := x5.w.heap.size) (by omega) | have f50 := szf1 (a := w.heap.size) (b := x5.w.heap.size) (by omega) | skip); (first | have f51 := szf2 (a := x1.w.heap.size) (b := x5.w.heap.size) (by omega) | have f51 := szf1 (a := x1.w.heap.size) (b := x5.w.heap.size) (by omega) | skip); (first | have f52 := szf2 (a := x2.w.heap.size) (b := x5.w.heap.size) (by omega) | have f52 := szf1 (a := x2.w.heap.size) (b := x5.w.heap.size) (by omega) | skip); (first | have f53 := szf2 (a := x3.w.heap.size) (b := x5.w.heap.size) (by omega) | have f53 := szf1 (a := x3.w.heap.size) (b := x5.w.heap.size) (by omega) | skip); (first | have f54 := szf2 (a := x4.w.heap.size) (b := x5.w.heap.size) (by omega) | have f54 := szf1 (a := x4.w.heap.size) (b := x5.w.heap.size) (by omega) | skip))
          go_wp2
          have hB := B.out
          go_roundw
          case rel => exact ⟨j + 1, by omega, by go_num, Hend, Lib.hid (by (repeat (first | exact Below.refl _ _ | assumption | refine bel_alloc ?_ _ | refine bel_after _ ?_ | refine bel_drewN ?_ _ | refine bel_drew ?_ | refine bel_set ?_ (by first | omega | (simp only [World.size_alloc, World.size_drew, World.size_setCell]; omega) | (simp; omega)) _)))⟩
          case measure => simp [intOf]; omega
      · have hjn : j = n := by omega
        subst hjn
        have Hend : Hid (fsEq l m = true) := Lib.hid (by rw [I.out]; exact fsEq_end (by rw [Hn.out]; exact Nat.le_refl _) (by rw [Hn'.out]; exact Nat.le_refl _))
        go_wp2
        all_goals first | (rw [Exit.noGoto_ret]; go_ret) | go_ret
        all_goals (have hB := B.out; exact ⟨by rw [Hend.out]; rfl, by (repeat (first | exact Below.refl _ _ | assumption | refine bel_alloc ?_ _ | refine bel_after _ ?_ | refine bel_drewN ?_ _ | refine bel_drew ?_ | refine bel_set ?_ (by first | omega | (simp only [World.size_alloc, World.size_drew, World.size_setCell]; omega) | (simp; omega)) _))⟩)
  · have Hend : Hid (fsEq l m = false) := Lib.hid (fsEq_len (by rw [Hn.out, Hn'.out]; exact hne))
    have hne' : ((n : Int) == (n' : Int)) = false := by simp; omega
    go_enter Try.func74, Try.ntmps74
    go_wp2
    all_goals first | (rw [Exit.noGoto_ret]; go_ret) | go_ret
    all_goals exact ⟨by rw [Hend.out]; rfl, by (repeat (first | exact Below.refl _ _ | assumption | refine bel_alloc ?_ _ | refine bel_after _ ?_ | refine bel_drewN ?_ _ | refine bel_drew ?_ | refine bel_set ?_ (by first | omega | (simp only [World.size_alloc, World.size_drew, World.size_setCell]; omega) | (simp; omega)) _))⟩

/-! A field found -/
def fFind : List F4 → Int → Option C3
  | [], _ => none
  | f :: l, no => if f.1 = no then some f.2 else fFind l no
def fIx : List F4 → Int → Nat → Int
  | [], _, _ => -1
  | f :: l, no, k => if f.1 = no then k else fIx l no (k + 1)
theorem fIx_spec (no : Int) : ∀ (l : List F4) (k : Nat), (fIx l no k = -1 ∧ fFind l no = none) ∨ ∃ j f, fIx l no k = ((k + j : Nat) : Int) ∧ l[j]? = some f ∧ f.1 = no ∧ fFind l no = some f.2
  | [], k => .inl ⟨rfl, rfl⟩
  | f :: l, k => by
    by_cases h : f.1 = no
    · exact .inr ⟨0, f, by simp [fIx, h], rfl, h, by simp [fFind, h]⟩
    · rcases fIx_spec no l (k + 1) with ⟨h1, h2⟩ | ⟨j, g, h1, h2, h3, h4⟩
      · exact .inl ⟨by simp [fIx, h, h1], by simp [fFind, h, h2]⟩
      · exact .inr ⟨j + 1, g, by simp [fIx, h, h1]; omega, by simpa using h2, h3, by simp [fFind, h, h4]⟩
theorem fIx_step {l : List F4} {j : Nat} {f : F4} (no : Int) (h : l[j]? = some f) : fIx (l.drop j) no j = if f.1 = no then (j : Int) else fIx (l.drop (j + 1)) no (j + 1) := by
  have h1 := List.getElem?_eq_some_iff.1 h
  rw [List.drop_eq_getElem_cons h1.1, h1.2]; rfl
theorem fIx_end {l : List F4} {j : Nat} (no : Int) (h : l.length ≤ j) : fIx (l.drop j) no j = -1 := by
  rw [List.drop_of_length_le h]; rfl
set_option maxHeartbeats 800000 in
theorem find1_c (i N R no : Int) (s : ByteArray) (q : Nat) (w : World) (hq : w.cell? ⟨q, 0, none⟩ = some (.int .i64 no)) : Calls Try.prog 70 #[.agg #[.int .i64 i, .int .i64 N, .int .i64 R, .string s], .pointer (some ⟨q, 0, none⟩)] w fun e w' => e = .returned (.bool (i == no)) ∧ Below w.heap.size w w' := by
  have hAc := @after_cell
  have hAf := @after_frozen
  have hSz := sz_facts
  have hlt := World.block_lt_of_cell? w _ hq
  go_enter Try.func70, Try.ntmps70
  go_wp2
  go_ret
  exact ⟨rfl, by (repeat (first | exact Below.refl _ _ | assumption | refine bel_alloc ?_ _ | refine bel_after _ ?_ | refine bel_drewN ?_ _ | refine bel_drew ?_ | refine bel_set ?_ (by first | omega | (simp only [World.size_alloc, World.size_drew, World.size_setCell]; omega) | (simp; omega)) _))⟩
theorem find1_v {i N R no : Int} {s : ByteArray} {q : Nat} {b : Bool} (hb : (i == no) = b) (w : World) (hq : w.cell? ⟨q, 0, none⟩ = some (.int .i64 no)) : Calls Try.prog 70 #[.agg #[.int .i64 i, .int .i64 N, .int .i64 R, .string s], .pointer (some ⟨q, 0, none⟩)] w fun e w' => e = .returned (.bool b) ∧ Below w.heap.size w w' := by
  subst hb; exact find1_c _ _ _ _ _ _ w hq
set_option maxHeartbeats 1600000 in
theorem findex_c (v : Value) (l : List F4) (no : Int) (q : Nat) (w : World) (hv : Flds w v l) (hq : w.cell? ⟨q, 0, none⟩ = some (.int .i64 no)) : Calls Try.prog 69 #[v, .func (.func 70) #[] #[.pointer (some ⟨q, 0, none⟩)]] w fun e w' => e = .returned (.int .i64 (fIx l no 0)) ∧ Below w.heap.size w w' := by
  have hAc := @after_cell
  have hAf := @after_frozen
  have hSz := sz_facts
  have hlen1 := len_row (ti := 0) hv Try.underlying52
  obtain ⟨_, a, c, rfl, q1, hm1, _⟩ := id hv
  unfold maxLen at hm1
  obtain ⟨n, hn⟩ : ∃ n, l.length = n := ⟨_, rfl⟩
  rw [hn] at hlen1 q1 hv ⊢
  have Hv := Lib.hid hv; have Hn := Lib.hid hn; have Hq := Lib.hid hq
  clear hv hn hq
  go_enter Try.func69, Try.ntmps69
  go_wp2
  go_loopw [8] (fun i wr => ∃ j : Nat, j ≤ n ∧ i = .int .i64 j ∧ Hid (fIx l no 0 = fIx (l.drop j) no j) ∧ Hid (Below w.heap.size w wr)) (fun i _ => n - (intOf i).toNat)
  case atStart => exact ⟨0, by omega, rfl, Lib.hid rfl, Lib.hid (Below.refl _ _)⟩
  case round =>
    obtain ⟨j, hj, rfl, I, B⟩ := hrel
    by_cases hlt : j < n
    · obtain ⟨⟨i', cN, cR, cS⟩, hf⟩ : ∃ f, l[j]? = some f := ⟨_, List.getElem?_eq_getElem (by rw [Hn.out]; exact hlt)⟩
      obtain ⟨b, off, rfl, hbw, g0, g1, g2, g3⟩ := Hv.out.at hf
      have Hst := Lib.hid (fIx_step no hf)
      clear hf
      have g0 := cell_below (B.out) _ _ _ g0; have g1 := cell_below (B.out) _ _ _ g1; have g2 := cell_below (B.out) _ _ _ g2; have g3 := cell_below (B.out) _ _ _ g3
      dsimp only at g0 g1 g2 g3
      obtain ⟨r, hr⟩ : ∃ r, Hid ((i' == no) = r) := ⟨_, rfl⟩
      cases r
      · have Hend : Hid (fIx l no 0 = fIx (l.drop (j + 1)) no (j + 1)) := Lib.hid (by rw [I.out, Hst.out, if_neg (by have := hr.out; simpa using this)])
        go_wp2_with (go_at_call 70; (with_reducible refine (find1_v hr.out _ (cell_below B.out _ _ _ Hq.out)).mono ?_); rintro e w2 ⟨rfl, hb⟩; have HB2 := Lib.hid (B.out.trans (hb.mono B.out.size)); clear hb)
        go_roundw
        case rel => exact ⟨j + 1, by omega, by go_num, Hend, HB2⟩
        case measure => simp [intOf]; omega
      · have Hend : Hid (fIx l no 0 = j) := Lib.hid (by rw [I.out, Hst.out, if_pos (by have := hr.out; simpa using this)])
        go_wp2_with (go_at_call 70; (with_reducible refine (find1_v hr.out _ (cell_below B.out _ _ _ Hq.out)).mono ?_); rintro e w2 ⟨rfl, hb⟩; have HB2 := Lib.hid (B.out.trans (hb.mono B.out.size)); clear hb)
        all_goals first | (rw [Exit.noGoto_ret]; go_ret) | go_ret
        all_goals exact ⟨by rw [Hend.out]; rfl, HB2.out⟩
    · have hjn : j = n := by omega
      subst hjn
      have Hend : Hid (fIx l no 0 = -1) := Lib.hid (by rw [I.out]; exact fIx_end no (by rw [Hn.out]; exact Nat.le_refl _))
      go_wp2
      all_goals first | (rw [Exit.noGoto_ret]; go_ret) | go_ret
      all_goals exact ⟨by rw [Hend.out]; rfl, B.out⟩
end Go.Proofs.Ytgckgbonhbabpaa
