/- Records compared; a field found: the code. -/
import Derived.Test.YtolbmemogoojhaaGreatKM7
import Derived.Test.YtolbmemogoojhaaGreatKM3
import Derived.MapKept
import Derived.OwnWalkIn
import Derived.RangeFuncNested
import Derived.RangeFuncBound
import Derived.RangeFuncCalls
import Derived.RangeFuncLeaves
import Derived.Shelf.Abstract
import Derived.Shelf.RegionOpen
import Derived.TacticsInMore
import Derived.LoopNIn
import Derived.LoopIn
namespace Go.Proofs.YtolbmemogoojhaaGreat
open Go Go.RowKit Go.Deep
set_option linter.unusedVariables false
set_option linter.unusedSimpArgs false
set_option maxRecDepth 100000

def fEq (f g : F4) : Bool := decide (f.1 = g.1) && cEq f.2.1 f.2.2.1 f.2.2.2 g.2.1 g.2.2.1 g.2.2.2
theorem fEq_iff (f g : F4) : fEq f g = true ↔ f = g := by
  obtain ⟨a, N, R, s⟩ := f
  obtain ⟨b, N', R', s'⟩ := g
  unfold fEq
  rw [Bool.and_eq_true, decide_eq_true_eq]
  simp only [cEq_iff, Prod.mk.injEq]
def fsEq : List F4 → List F4 → Bool
  | [], [] => true
  | f :: l, g :: m => fEq f g && fsEq l m
  | _, _ => false
theorem fsEq_iff : ∀ l m : List F4, fsEq l m = true ↔ l = m
  | [], [] => by simp [fsEq]
  | f :: l, g :: m => by rw [fsEq, Bool.and_eq_true, fEq_iff, fsEq_iff l m, List.cons.injEq]
  | [], g :: m => by simp [fsEq]
  | f :: l, [] => by simp [fsEq]
theorem fsEq_len {l m : List F4} (h : l.length ≠ m.length) : fsEq l m = false := by
  cases hq : fsEq l m
  · rfl
  · rw [(fsEq_iff l m).1 hq] at h; exact absurd rfl h
theorem fsEq_step {l m : List F4} {j : Nat} {f g : F4} (h : l[j]? = some f) (k : m[j]? = some g) : fsEq (l.drop j) (m.drop j) = (fEq f g && fsEq (l.drop (j + 1)) (m.drop (j + 1))) := by
  have h1 := List.getElem?_eq_some_iff.1 h
  have k1 := List.getElem?_eq_some_iff.1 k
  rw [List.drop_eq_getElem_cons h1.1, h1.2, List.drop_eq_getElem_cons k1.1, k1.2]; rfl
theorem fsEq_end {l m : List F4} {j : Nat} (h : l.length ≤ j) (k : m.length ≤ j) : fsEq (l.drop j) (m.drop j) = true := by
  rw [List.drop_of_length_le h, List.drop_of_length_le k]; rfl
theorem eqlIn_field (d : Nat) (i i' N R N' R' : Int) (s s' : ByteArray) (w : World) : (Op.equalIn (d + 4) 82 (.agg #[.int .i64 i, .int .i64 N, .int .i64 R, .string s]) (.agg #[.int .i64 i', .int .i64 N', .int .i64 R', .string s'])).run Tryz.prog w = .ok (fEq (i, N, R, s) (i', N', R', s')) w := by
  by_cases h0 : i = i' <;> by_cases h1 : N = N' <;> by_cases h2 : R = R' <;> cases h3 : (s.toList == s'.toList) <;> simp [go_sem, h0, h1, h2, h3, fEq, cEq, stEq]
theorem neq_field (i i' N R N' R' : Int) (s s' : ByteArray) (w : World) : (binOp .neq 82 (.agg #[.int .i64 i, .int .i64 N, .int .i64 R, .string s]) (.agg #[.int .i64 i', .int .i64 N', .int .i64 R', .string s'])).run Tryz.prog w = .ok (.bool (!fEq (i, N, R, s) (i', N', R', s'))) w := by
  rw [run_neq_struct]
  show ((Op.equalIn (9996 + 4) _ _ _).run _ _).andThen _ = _
  rw [eqlIn_field]; rfl
set_option maxHeartbeats 1600000 in
theorem fequal_c (v v' : Value) (l m : List F4) (w : World) (hv : Flds w v l) (hv' : Flds w v' m) : Calls Tryz.prog 99 #[v, v'] w fun e w' => e = .returned (.bool (fsEq l m)) ∧ Below w.heap.size w w' := by
  have hAc := @after_cell
  have hAf := @after_frozen
  have hSz := sz_facts
  have hq := neq_field
  have hlen1 := len_row (ti := 0) hv Tryz.underlying31
  have hlen2 := len_row (ti := 0) hv' Tryz.underlying31
  obtain ⟨_, a, c, rfl, q1, hm1, _⟩ := id hv
  obtain ⟨_, a', c', rfl, q1', _, _⟩ := id hv'
  unfold maxLen at hm1
  obtain ⟨n, hn⟩ : ∃ n, l.length = n := ⟨_, rfl⟩
  obtain ⟨n', hn'⟩ : ∃ n', m.length = n' := ⟨_, rfl⟩
  rw [hn] at hlen1 q1 hv ⊢; rw [hn'] at hlen2 q1' hv' ⊢
  have Hv := Lib.hid hv; have Hv' := Lib.hid hv'; have Hn := Lib.hid hn; have Hn' := Lib.hid hn'
  clear hv hv' hn hn'
  by_cases hne : n = n'
  · subst hne
    go_enter Tryz.func99, Tryz.ntmps99
    go_wp2
    go_loopw [13] (fun i wr => ∃ j : Nat, j ≤ n ∧ i = .int .i64 j ∧ Hid (fsEq l m = fsEq (l.drop j) (m.drop j)) ∧ Hid (Below w.heap.size w wr)) (fun i _ => n - (intOf i).toNat)
    case atStart => exact ⟨0, by omega, rfl, Lib.hid rfl, Lib.hid (Below.refl _ _)⟩
    case round =>
      obtain ⟨j, hj, rfl, I, B⟩ := hrel
      obtain ⟨x1, rfl⟩ := after_of B.out
      have hz1 := after_size x1
      by_cases hlt : j < n
      · obtain ⟨⟨no, cN, cR, cS⟩, hf⟩ : ∃ f, l[j]? = some f := ⟨_, List.getElem?_eq_getElem (by rw [Hn.out]; exact hlt)⟩
        obtain ⟨⟨no', cN', cR', cS'⟩, hf'⟩ : ∃ f, m[j]? = some f := ⟨_, List.getElem?_eq_getElem (by rw [Hn'.out]; exact hlt)⟩
        obtain ⟨b, off, rfl, hbw, g0, g1, g2, g3⟩ := Hv.out.at hf
        obtain ⟨b', off', rfl, hbw', k0, k1, k2, k3⟩ := Hv'.out.at hf'
        have Hst := Lib.hid (fsEq_step hf hf')
        clear hf hf'
        have g0 := cell_below (B.out) _ _ _ g0; have g1 := cell_below (B.out) _ _ _ g1; have g2 := cell_below (B.out) _ _ _ g2; have g3 := cell_below (B.out) _ _ _ g3
        have k0 := cell_below (B.out) _ _ _ k0; have k1 := cell_below (B.out) _ _ _ k1; have k2 := cell_below (B.out) _ _ _ k2; have k3 := cell_below (B.out) _ _ _ k3
        dsimp only at g0 g1 g2 g3 k0 k1 k2 k3
        have hs1 := szf1 (a := b) (b := x1.w.heap.size) (by have := x1.h.size; omega)
        have hs2 := szf1 (a := b') (b := x1.w.heap.size) (by have := x1.h.size; omega)
        obtain ⟨r, hr⟩ : ∃ r, Hid (fEq (no, cN, cR, cS) (no', cN', cR', cS') = r) := ⟨_, rfl⟩
        rw [hr.out] at Hst
        cases r
        · have Hend : Hid (fsEq l m = false) := Lib.hid (by rw [I.out, Hst.out]; rfl)
          go_wp2
          have hr' := hr.out
          refine wp_quiet_all (C := fun w' => ∃ x : After _, w' = x.w) (by kernel_rfl) (by kernel_rfl) (since_drew _) ?_
          repeat (go_big_quiet_step (fail))
          refine wpQuiet_nil ?_
          first | ((fail_if_success revert x1); rintro _ ⟨x1, rfl⟩; have hz1 := after_size x1; (try (simp only [zYA, zYD, zYC] at hz1)); (try (have f1gA := zY1 gA x1.w.heap.size)); (first | have f10 := zY3 w.heap.size x1.w.heap.size | have f10 := zY2 w.heap.size x1.w.heap.size | have f10 := zY1 w.heap.size x1.w.heap.size | skip)) | ((fail_if_success revert x2); rintro _ ⟨x2, rfl⟩; have hz2 := after_size x2; (try (simp only [zYA, zYD, zYC] at hz2)); (try (have f2gA := zY1 gA x2.w.heap.size)); (first | have f20 := zY3 w.heap.size x2.w.heap.size | have f20 := zY2 w.heap.size x2.w.heap.size | have f20 := zY1 w.heap.size x2.w.heap.size | skip); (first | have f21 := zY2 x1.w.heap.size x2.w.heap.size | have f21 := zY1 x1.w.heap.size x2.w.heap.size | skip)) | ((fail_if_success revert x3); rintro _ ⟨x3, rfl⟩; have hz3 := after_size x3; (try (simp only [zYA, zYD, zYC] at hz3)); (try (have f3gA := zY1 gA x3.w.heap.size)); (first | have f30 := zY3 w.heap.size x3.w.heap.size | have f30 := zY2 w.heap.size x3.w.heap.size | have f30 := zY1 w.heap.size x3.w.heap.size | skip); (first | have f31 := zY2 x1.w.heap.size x3.w.heap.size | have f31 := zY1 x1.w.heap.size x3.w.heap.size | skip); (first | have f32 := zY2 x2.w.heap.size x3.w.heap.size | have f32 := zY1 x2.w.heap.size x3.w.heap.size | skip)) | ((fail_if_success revert x4); rintro _ ⟨x4, rfl⟩; have hz4 := after_size x4; (try (simp only [zYA, zYD, zYC] at hz4)); (try (have f4gA := zY1 gA x4.w.heap.size)); (first | have f40 := zY3 w.heap.size x4.w.heap.size | have f40 := zY2 w.heap.size x4.w.heap.size | have f40 := zY1 w.heap.size x4.w.heap.size | skip); (first | have f41 := zY2 x1.w.heap.size x4.w.heap.size | have f41 := zY1 x1.w.heap.size x4.w.heap.size | skip); (first | have f42 := zY2 x2.w.heap.size x4.w.heap.size | have f42 := zY1 x2.w.heap.size x4.w.heap.size | skip); (first | have f43 := zY2 x3.w.heap.size x4.w.heap.size | have f43 := zY1 x3.w.heap.size x4.w.heap.size | skip)) | ((fail_if_success revert x5); rintro _ ⟨x5, rfl⟩; have hz5 := after_size x5; (try (simp only [zYA, zYD, zYC] at hz5)); (try (have f5gA := zY1 gA x5.w.heap.size)); (first | have f50 := zY3 w.heap.size x5.w.heap.size | have f50 := zY2 w.heap.size x5.w.heap.size | have f50 := zY1 w.heap.size x5.w.heap.size | skip); (first | have f51 := zY2 x1.w.heap.size x5.w.heap.size | have f51 := zY1 x1.w.heap.size x5.w.heap.size | skip); (first | have f52 := zY2 x2.w.heap.size x5.w.heap.size | have f52 := zY1 x2.w.heap.size x5.w.heap.size | skip); (first | have f53 := zY2 x3.w.heap.size x5.w.heap.size | have f53 := zY1 x3.w.heap.size x5.w.heap.size | skip); (first | have f54 := zY2 x4.w.heap.size x5.w.heap.size | have f54 := zY1 x4.w.heap.size x5.w.heap.size | skip))
          go_wp2
          all_goals first | (rw [Exit.noGoto_ret]; go_ret) | go_ret
          all_goals (have hB := B.out; exact ⟨by rw [Hend.out]; rfl, by (repeat (first | exact Below.refl _ _ | assumption | refine bel_alloc ?_ _ | refine bel_after _ ?_ | refine bel_drewN ?_ _ | refine bel_drew ?_ | refine bel_set ?_ (by first | omega | (simp only [zYA, zYD, zYC]; omega) | (simp; omega)) _))⟩)
        · have Hend : Hid (fsEq l m = fsEq (l.drop (j + 1)) (m.drop (j + 1))) := Lib.hid (by rw [I.out, Hst.out]; rfl)
          go_wp2
          have hr' := hr.out
          refine wp_quiet_all (C := fun w' => ∃ x : After _, w' = x.w) (by kernel_rfl) (by kernel_rfl) (since_drew _) ?_
          repeat (go_big_quiet_step (fail))
          refine wpQuiet_nil ?_
          first | ((fail_if_success revert x1); rintro _ ⟨x1, rfl⟩; have hz1 := after_size x1; (try (simp only [zYA, zYD, zYC] at hz1)); (try (have f1gA := zY1 gA x1.w.heap.size)); (first | have f10 := zY3 w.heap.size x1.w.heap.size | have f10 := zY2 w.heap.size x1.w.heap.size | have f10 := zY1 w.heap.size x1.w.heap.size | skip)) | ((fail_if_success revert x2); rintro _ ⟨x2, rfl⟩; have hz2 := after_size x2; (try (simp only [zYA, zYD, zYC] at hz2)); (try (have f2gA := zY1 gA x2.w.heap.size)); (first | have f20 := zY3 w.heap.size x2.w.heap.size | have f20 := zY2 w.heap.size x2.w.heap.size | have f20 := zY1 w.heap.size x2.w.heap.size | skip); (first | have f21 := zY2 x1.w.heap.size x2.w.heap.size | have f21 := zY1 x1.w.heap.size x2.w.heap.size | skip)) | ((fail_if_success revert x3); rintro _ ⟨x3, rfl⟩; have hz3 := after_size x3; (try (simp only [zYA, zYD, zYC] at hz3)); (try (have f3gA := zY1 gA x3.w.heap.size)); (first | have f30 := zY3 w.heap.size x3.w.heap.size | have f30 := zY2 w.heap.size x3.w.heap.size | have f30 := zY1 w.heap.size x3.w.heap.size | skip); (first | have f31 := zY2 x1.w.heap.size x3.w.heap.size | have f31 := zY1 x1.w.heap.size x3.w.heap.size | skip); (first | have f32 := zY2 x2.w.heap.size x3.w.heap.size | have f32 := zY1 x2.w.heap.size x3.w.heap.size | skip)) | ((fail_if_success revert x4); rintro _ ⟨x4, rfl⟩; have hz4 := after_size x4; (try (simp only [zYA, zYD, zYC] at hz4)); (try (have f4gA := zY1 gA x4.w.heap.size)); (first | have f40 := zY3 w.heap.size x4.w.heap.size | have f40 := zY2 w.heap.size x4.w.heap.size | have f40 := zY1 w.heap.size x4.w.heap.size | skip); (first | have f41 := zY2 x1.w.heap.size x4.w.heap.size | have f41 := zY1 x1.w.heap.size x4.w.heap.size | skip); (first | have f42 := zY2 x2.w.heap.size x4.w.heap.size | have f42 := zY1 x2.w.heap.size x4.w.heap.size | skip); (first | have f43 := zY2 x3.w.heap.size x4.w.heap.size | have f43 := zY1 x3.w.heap.size x4.w.heap.size | skip)) | ((fail_if_success revert x5); rintro _ ⟨x5, rfl⟩; have hz5 := after_size x5; (try (simp only [zYA, zYD, zYC] at hz5)); (try (have f5gA := zY1 gA x5.w.heap.size)); (first | have f50 := zY3 w.heap.size x5.w.heap.size | have f50 := zY2 w.heap.size x5.w.heap.size | have f50 := zY1 w.heap.size x5.w.heap.size | skip); (first | have f51 := zY2 x1.w.heap.size x5.w.heap.size | have f51 := zY1 x1.w.heap.size x5.w.heap.size | skip); (first | have f52 := zY2 x2.w.heap.size x5.w.heap.size | have f52 := zY1 x2.w.heap.size x5.w.heap.size | skip); (first | have f53 := zY2 x3.w.heap.size x5.w.heap.size | have f53 := zY1 x3.w.heap.size x5.w.heap.size | skip); (first | have f54 := zY2 x4.w.heap.size x5.w.heap.size | have f54 := zY1 x4.w.heap.size x5.w.heap.size | skip))
          go_wp2
          have hB := B.out
          go_roundw
          case rel => exact ⟨j + 1, by omega, by go_num, Hend, Lib.hid (by (repeat (first | exact Below.refl _ _ | assumption | refine bel_alloc ?_ _ | refine bel_after _ ?_ | refine bel_drewN ?_ _ | refine bel_drew ?_ | refine bel_set ?_ (by first | omega | (simp only [zYA, zYD, zYC]; omega) | (simp; omega)) _)))⟩
          case measure => simp [intOf]; omega
      · have hjn : j = n := by omega
        subst hjn
        have Hend : Hid (fsEq l m = true) := Lib.hid (by rw [I.out]; exact fsEq_end (by rw [Hn.out]; exact Nat.le_refl _) (by rw [Hn'.out]; exact Nat.le_refl _))
        go_wp2
        all_goals first | (rw [Exit.noGoto_ret]; go_ret) | go_ret
        all_goals (have hB := B.out; exact ⟨by rw [Hend.out]; rfl, by (repeat (first | exact Below.refl _ _ | assumption | refine bel_alloc ?_ _ | refine bel_after _ ?_ | refine bel_drewN ?_ _ | refine bel_drew ?_ | refine bel_set ?_ (by first | omega | (simp only [zYA, zYD, zYC]; omega) | (simp; omega)) _))⟩)
  · have Hend : Hid (fsEq l m = false) := Lib.hid (fsEq_len (by rw [Hn.out, Hn'.out]; exact hne))
    have hne' : ((n : Int) == (n' : Int)) = false := by simp; omega
    go_enter Tryz.func99, Tryz.ntmps99
    go_wp2
    all_goals first | (rw [Exit.noGoto_ret]; go_ret) | go_ret
    all_goals exact ⟨by rw [Hend.out]; rfl, by (repeat (first | exact Below.refl _ _ | assumption | refine bel_alloc ?_ _ | refine bel_after _ ?_ | refine bel_drewN ?_ _ | refine bel_drew ?_ | refine bel_set ?_ (by first | omega | (simp only [zYA, zYD, zYC]; omega) | (simp; omega)) _))⟩

/-! A field found -/
def fFind : List F4 → Int → Option C3
  | [], _ => none
  | f :: l, no => if f.1 = no then some f.2 else fFind l no
end Go.Proofs.YtolbmemogoojhaaGreat
/- A record's field found; records the same: the code. -/
namespace Go.Proofs.YtolbmemogoojhaaGreat
open Go Go.RowKit Go.Deep
set_option linter.unusedVariables false
set_option linter.unusedSimpArgs false
set_option maxRecDepth 100000

theorem eql_id (a b : List UInt8) (ha : a.length = 16) (hb : b.length = 16) (W : World) : (binOp .eql 26 (.agg (encU a).toArray) (.agg (encU b).toArray)).run Tryz.prog W = .ok (.bool (a == b)) W := by
  rw [run_eql_struct]
  have := run_equalIn_bytes (P := Tryz.prog) W 9998 26 5 16 (by kernel_rfl) (by kernel_rfl) (fun w => by simp [sizeOf, typeInfo]; kernel_rfl) a b ha hb
  have e : ∀ l : List UInt8, encU l = l.map Extern.Stop.cell := fun l => rfl
  rw [e, e, this]
  rfl
theorem neq_id (a b : List UInt8) (ha : a.length = 16) (hb : b.length = 16) (W : World) : (binOp .neq 26 (.agg (encU a).toArray) (.agg (encU b).toArray)).run Tryz.prog W = .ok (.bool (!(a == b))) W := by
  rw [run_neq_struct]
  have := run_equalIn_bytes (P := Tryz.prog) W 9998 26 5 16 (by kernel_rfl) (by kernel_rfl) (fun w => by simp [sizeOf, typeInfo]; kernel_rfl) a b ha hb
  have e : ∀ l : List UInt8, encU l = l.map Extern.Stop.cell := fun l => rfl
  rw [e, e, this]
  rfl
theorem fequal_v {v v' : Value} {l m : List F4} {b : Bool} (h : fsEq l m = b) (w : World) (hv : Flds w v l) (hv' : Flds w v' m) : Calls Tryz.prog 99 #[v, v'] w fun e w' => e = .returned (.bool b) ∧ Below w.heap.size w w' := by
  subst h; exact fequal_c v v' l m w hv hv'
def recSame (a : List UInt8) (N R : Int) (l : List F4) (a' : List UInt8) (N' R' : Int) (l' : List F4) : Bool := (a == a') && stEq N R N' R' && fsEq l l'
set_option maxHeartbeats 1600000 in
theorem recsame_c (a a' : List UInt8) (ha : a.length = 16) (ha' : a'.length = 16) (N R N' R' : Int) (v v' : Value) (l l' : List F4) (w : World) (hv : Flds w v l) (hv' : Flds w v' l') : Calls Tryz.prog 58 #[.agg (recA (encU a).toArray N R v), .agg (recA (encU a').toArray N' R' v')] w fun e w' => e = .returned (.bool (recSame a N R l a' N' R' l')) ∧ Below w.heap.size w w' := by
  have hAc := @after_cell
  have hAf := @after_frozen
  have hSz := sz_facts
  obtain ⟨A, eA⟩ : ∃ A, A = (encU a).toArray := ⟨_, rfl⟩
  obtain ⟨B, eB⟩ : ∃ B, B = (encU a').toArray := ⟨_, rfl⟩
  have hA : A.size = 16 := by rw [eA]; simp [encU_length, ha]
  have hB : B.size = 16 := by rw [eB]; simp [encU_length, ha']
  have hq := fun W => eql_id a a' ha ha' W
  rw [← eA, ← eB] at hq ⊢
  have heq := eql_stamp
  clear eA eB
  obtain ⟨p, hp⟩ : ∃ p, Hid ((a == a') = p) := ⟨_, rfl⟩
  obtain ⟨q, hqq⟩ : ∃ q, Hid (stEq N R N' R' = q) := ⟨_, rfl⟩
  obtain ⟨r, hr⟩ : ∃ r, Hid (fsEq l l' = r) := ⟨_, rfl⟩
  have Hv := Lib.hid hv; have Hv' := Lib.hid hv'; clear hv hv'
  have hE : recSame a N R l a' N' R' l' = (p && q && r) := by unfold recSame; rw [hp.out, hqq.out, hr.out]
  rw [hE]; clear hE
  have hbox : ∀ w1, Blk w1 w.heap.size 33 (recA A N R v) → _ := fun w1 k => rec_cells k hA
  have hbox2 : ∀ w1, Blk w1 (w.heap.size + 1) 33 (recA B N' R' v') → _ := fun w1 k => rec_cells k hB
  have hp' := hp.out
  rw [hp'] at hq
  cases p <;> cases q
  all_goals
    have hqq' := hqq.out
    go_enter Tryz.func58, Tryz.ntmps58
    go_wp2_with (first | ((fail_if_success have := k1); refine wpList_box_blk rfl 33 _ rfl _ rfl (recA A N R v) rfl ?_; intro w1 k1 b1 s1; obtain ⟨c16, c17, c18, csub, call⟩ := hbox w1 k1; clear hbox) | ((fail_if_success have := k2); refine wpList_box_blk rfl 33 _ rfl _ rfl (recA B N' R' v') rfl ?_; intro w2 k2 b2 s2; rw [s1] at k2; obtain ⟨d16, d17, d18, dsub, dall⟩ := hbox2 w2 k2; clear hbox2; have b12 := b1.trans (b2.mono (by omega)); have csub := csub.keep b2; have c16 := cell_below b2 _ _ _ c16; have c17 := cell_below b2 _ _ _ c17; have c18 := cell_below b2 _ _ _ c18) | (refine wpList_load_sub rfl 26 _ rfl _ rfl w.heap.size 0 rfl A _ csub Tryz.underlying26 rfl (info_id hA) ?_) | (refine wpList_load_sub rfl 26 _ rfl _ rfl (w.heap.size + 1) 0 rfl B _ dsub Tryz.underlying26 rfl (info_id hB) ?_) | (go_at_call 99; (with_reducible refine (fequal_v hr.out _ (Hv.out.below (by (repeat (first | exact Below.refl _ _ | assumption | refine bel_alloc ?_ _ | refine bel_after _ ?_ | refine bel_drewN ?_ _ | refine bel_drew ?_ | refine bel_set ?_ (by first | omega | (simp only [zYA, zYD, zYC]; omega) | (simp; omega)) _)))) (Hv'.out.below (by (repeat (first | exact Below.refl _ _ | assumption | refine bel_alloc ?_ _ | refine bel_after _ ?_ | refine bel_drewN ?_ _ | refine bel_drew ?_ | refine bel_set ?_ (by first | omega | (simp only [zYA, zYD, zYC]; omega) | (simp; omega)) _))))).mono ?_); rintro e w' ⟨rfl, hb⟩; (first | ((fail_if_success revert x1); obtain ⟨x1, rfl⟩ := after_of hb; clear hb; have hz1 := after_size x1; (try (simp only [zYA, zYD, zYC] at hz1)); (try (have f1gA := zY1 gA x1.w.heap.size)); (first | have f10 := zY3 w.heap.size x1.w.heap.size | have f10 := zY2 w.heap.size x1.w.heap.size | have f10 := zY1 w.heap.size x1.w.heap.size | skip)) | ((fail_if_success revert x2); obtain ⟨x2, rfl⟩ := after_of hb; clear hb; have hz2 := after_size x2; (try (simp only [zYA, zYD, zYC] at hz2)); (try (have f2gA := zY1 gA x2.w.heap.size)); (first | have f20 := zY3 w.heap.size x2.w.heap.size | have f20 := zY2 w.heap.size x2.w.heap.size | have f20 := zY1 w.heap.size x2.w.heap.size | skip); (first | have f21 := zY2 x1.w.heap.size x2.w.heap.size | have f21 := zY1 x1.w.heap.size x2.w.heap.size | skip)) | ((fail_if_success revert x3); obtain ⟨x3, rfl⟩ := after_of hb; clear hb; have hz3 := after_size x3; (try (simp only [zYA, zYD, zYC] at hz3)); (try (have f3gA := zY1 gA x3.w.heap.size)); (first | have f30 := zY3 w.heap.size x3.w.heap.size | have f30 := zY2 w.heap.size x3.w.heap.size | have f30 := zY1 w.heap.size x3.w.heap.size | skip); (first | have f31 := zY2 x1.w.heap.size x3.w.heap.size | have f31 := zY1 x1.w.heap.size x3.w.heap.size | skip); (first | have f32 := zY2 x2.w.heap.size x3.w.heap.size | have f32 := zY1 x2.w.heap.size x3.w.heap.size | skip)) | ((fail_if_success revert x4); obtain ⟨x4, rfl⟩ := after_of hb; clear hb; have hz4 := after_size x4; (try (simp only [zYA, zYD, zYC] at hz4)); (try (have f4gA := zY1 gA x4.w.heap.size)); (first | have f40 := zY3 w.heap.size x4.w.heap.size | have f40 := zY2 w.heap.size x4.w.heap.size | have f40 := zY1 w.heap.size x4.w.heap.size | skip); (first | have f41 := zY2 x1.w.heap.size x4.w.heap.size | have f41 := zY1 x1.w.heap.size x4.w.heap.size | skip); (first | have f42 := zY2 x2.w.heap.size x4.w.heap.size | have f42 := zY1 x2.w.heap.size x4.w.heap.size | skip); (first | have f43 := zY2 x3.w.heap.size x4.w.heap.size | have f43 := zY1 x3.w.heap.size x4.w.heap.size | skip)) | ((fail_if_success revert x5); obtain ⟨x5, rfl⟩ := after_of hb; clear hb; have hz5 := after_size x5; (try (simp only [zYA, zYD, zYC] at hz5)); (try (have f5gA := zY1 gA x5.w.heap.size)); (first | have f50 := zY3 w.heap.size x5.w.heap.size | have f50 := zY2 w.heap.size x5.w.heap.size | have f50 := zY1 w.heap.size x5.w.heap.size | skip); (first | have f51 := zY2 x1.w.heap.size x5.w.heap.size | have f51 := zY1 x1.w.heap.size x5.w.heap.size | skip); (first | have f52 := zY2 x2.w.heap.size x5.w.heap.size | have f52 := zY1 x2.w.heap.size x5.w.heap.size | skip); (first | have f53 := zY2 x3.w.heap.size x5.w.heap.size | have f53 := zY1 x3.w.heap.size x5.w.heap.size | skip); (first | have f54 := zY2 x4.w.heap.size x5.w.heap.size | have f54 := zY1 x4.w.heap.size x5.w.heap.size | skip)))))
  all_goals
    all_goals first | (rw [Exit.noGoto_ret]; go_ret) | go_ret
    exact ⟨rfl, by (repeat (first | exact Below.refl _ _ | assumption | refine bel_alloc ?_ _ | refine bel_after _ ?_ | refine bel_drewN ?_ _ | refine bel_drew ?_ | refine bel_set ?_ (by first | omega | (simp only [zYA, zYD, zYC]; omega) | (simp; omega)) _))⟩
end Go.Proofs.YtolbmemogoojhaaGreat
/- Maps of the call's own, as lists of keys and values in the order of their coming. No program. -/
namespace Go.Proofs.YtolbmemogoojhaaGreat
open Go Go.RowKit Go.Deep Go.MapKept
set_option linter.unusedVariables false
set_option linter.unusedSimpArgs false

/-- The first entry of a key: its place, and its value. -/
def gIx {κ : Type} [DecidableEq κ] : List (κ × Value) → κ → Option (Nat × Value)
  | [], _ => none
  | p :: l, k => if p.1 = k then some (0, p.2) else (gIx l k).map fun q => (q.1 + 1, q.2)
/-- What a key's entry is turned to, or a new one behind the others. -/
def gPut {κ : Type} [DecidableEq κ] : List (κ × Value) → κ → Value → List (κ × Value)
  | [], k, v => [(k, v)]
  | p :: l, k, v => if p.1 = k then (k, v) :: l else p :: gPut l k v
theorem gPut_none {κ : Type} [DecidableEq κ] : ∀ {m : List (κ × Value)} {k : κ} (v : Value), gIx m k = none → gPut m k v = m ++ [(k, v)]
  | [], _, _, _ => rfl
  | p :: l, k, v, h => by
    unfold gIx at h
    split at h
    · cases h
    · rename_i hk
      have h' : gIx l k = none := by cases hl : gIx l k with | none => rfl | some q => rw [hl] at h; cases h
      rw [gPut, if_neg hk, gPut_none v h']; rfl
theorem gPut_some {κ : Type} [DecidableEq κ] : ∀ {m : List (κ × Value)} {k : κ} {j : Nat} {u : Value} (v : Value), gIx m k = some (j, u) → gPut m k v = m.set j (k, v) ∧ (m[j]?).map (·.1) = some k
  | [], _, _, _, _, h => by cases h
  | p :: l, k, j, u, v, h => by
    unfold gIx at h
    split at h
    · rename_i hk
      simp only [Option.some.injEq, Prod.mk.injEq] at h
      obtain ⟨rfl, rfl⟩ := h
      rw [gPut, if_pos hk]
      exact ⟨rfl, by simp [hk]⟩
    · rename_i hk
      obtain ⟨q, hq, he⟩ := Option.map_eq_some_iff.1 h
      simp only [Prod.mk.injEq] at he
      obtain ⟨rfl, rfl⟩ := he
      obtain ⟨h1, h2⟩ := gPut_some v (j := q.1) (u := q.2) hq
      rw [gPut, if_neg hk, h1]
      exact ⟨rfl, by simpa using h2⟩

/-- What a key's type must do. -/
structure KeyOk (P : Program) (K : TypeId) {κ : Type} [DecidableEq κ] (enc : κ → Value) : Prop where
  check : ∀ (w : World) (em : Bool) (k : κ), (Instr.checkKey em 10000 K (enc k)).run P w = .ok () w
  find : ∀ (w : World) (k : κ) (m : List (κ × Value)) (es : List MapEntry), es.map (fun e => (e.key, e.val)) = m.map (fun p => (enc p.1, p.2)) → (Instr.findKey K (enc k) es).run P w = .ok (gIx m k) w
  stays : ∀ (w : World) (k : κ), (Instr.keyThatStays (enc k) (enc k)).run P w = .ok (enc k) w

theorem findNow_int {q : IntKind} (k : Int) : ∀ (es : List MapEntry) (m : List (Int × Value)) (i : Nat), es.map (fun e => (e.key, e.val)) = m.map (fun p => (Value.int q p.1, p.2)) →
    Instr.findNow (.int q) (.int q k) es i = some ((gIx m k).map fun p => (i + p.1, p.2))
  | [], [], i, _ => rfl
  | [], _ :: _, _, h => by cases h
  | _ :: _, [], _, h => by cases h
  | e :: es, p :: m, i, h => by
    simp only [List.map_cons, List.cons.injEq, Prod.mk.injEq] at h
    obtain ⟨⟨h1, h2⟩, h3⟩ := h
    unfold Instr.findNow
    rw [h1]
    by_cases hk : p.1 = k
    · simp [Instr.sameNow, gIx, hk, h2]
    · have hk' : ¬ k = p.1 := fun h => hk h.symm
      have e1 : Instr.sameNow (.int q) (.int q k) (.int q p.1) = some false := by simp [Instr.sameNow, hk']
      rw [e1, gIx, if_neg hk]
      simp only
      rw [findNow_int k es m (i + 1) h3]
      cases gIx m k with
      | none => rfl
      | some r => simp; omega
theorem int_key {P : Program} {K : TypeId} {q : IntKind} (hK : P.underlying K = some (.int q)) : KeyOk P K (fun n : Int => Value.int q n) where
  check w em k := by unfold Instr.checkKey; simp [Sem.run_bind, run_underlying hK, Result.andThen, Sem.run_pure]
  find w k m es h := by
    unfold Instr.findKey
    simp only [Sem.run_bind, run_underlying hK, Result.andThen]
    rw [findNow_int k es m 0 h]
    cases gIx m k with
    | none => rfl
    | some r => simp [Sem.run_pure]
  stays w k := by unfold Instr.keyThatStays; simp [Instr.sameBits, Sem.run_pure]
/-- Block b is a map of these entries. -/
def MapAt (w : World) (b : Nat) {κ : Type} (enc : κ → Value) (m : List (κ × Value)) : Prop :=
  ∃ es clock, w.heap[b]? = some (.map es clock) ∧ es.toList.map (fun e => (e.key, e.val)) = m.map fun p => (enc p.1, p.2)
section
variable {w : World} {b : Nat} {κ : Type} {enc : κ → Value} {m : List (κ × Value)}
theorem MapAt.lt (h : MapAt w b enc m) : b < w.heap.size := by obtain ⟨es, c, h, _⟩ := h; exact (Array.getElem?_eq_some_iff.1 h).1
theorem MapAt.below {w' : World} {B : Nat} (h : MapAt w b enc m) (hb : Below B w w') (hB : b < B) : MapAt w' b enc m := by
  obtain ⟨es, c, h, k⟩ := h; exact ⟨es, c, (hb.block b hB).trans h, k⟩
theorem MapAt.after (h : MapAt w b enc m) (x : After w) : MapAt x.w b enc m := h.below x.h h.lt
theorem MapAt.drew (h : MapAt w b enc m) : MapAt w.drew b enc m := h
theorem MapAt.new (w : World) : MapAt (w.alloc (.map #[] 0)) w.heap.size enc [] := ⟨#[], 0, World.alloc_heap_new w _, rfl⟩
theorem MapAt.kept {w' : World} {row : Option Nat} (h : MapAt w b enc m) (hg : w.grownBy w' row) (hne : some b ≠ row) : MapAt w' b enc m := by
  obtain ⟨es, c, h, k⟩ := h
  exact ⟨es, c, (hg.block b (Array.getElem?_eq_some_iff.1 h).1 hne).trans h, k⟩
theorem gr_below {w w' : World} (h : Below w.heap.size w w') (row : Option Nat) : w.grownBy w' row := ⟨h.os, h.tape, h.output, h.size, fun k hk _ => h.block k hk⟩
end
section
variable {P : Program} {w : World} {b : Nat} {κ : Type} [DecidableEq κ] {enc : κ → Value} {m : List (κ × Value)}
theorem run_lookup_map {t K E : TypeId} (h : MapAt w b enc m) (ok : KeyOk P K enc) (ht : P.underlying t = some (.map K E)) {z : Value} (hz : (zeroValue E).run P w = .ok z w) (k : κ) :
    (Instr.lookup t (.map (some b)) (enc k) true).run P w = .ok (match gIx m k with | some q => .tuple #[q.2, .bool true] | none => .tuple #[z, .bool false]) w := by
  obtain ⟨es, c, hb, hes⟩ := h
  unfold Instr.lookup
  simp only [Sem.run_bind, run_underlying ht, Result.andThen_ok, MapKept.run_getObj_map hb, Sem.run_pure, ok.check, ok.find w k m es.toList hes]
  cases gIx m k with
  | none => simp [Sem.run_bind, hz, Sem.run_pure]
  | some q => simp [Sem.run_bind, Sem.run_pure]
theorem run_lookup_map1 {t K E : TypeId} (h : MapAt w b enc m) (ok : KeyOk P K enc) (ht : P.underlying t = some (.map K E)) {z : Value} (hz : (zeroValue E).run P w = .ok z w) (k : κ) :
    (Instr.lookup t (.map (some b)) (enc k) false).run P w = .ok (match gIx m k with | some q => q.2 | none => z) w := by
  obtain ⟨es, c, hb, hes⟩ := h
  unfold Instr.lookup
  simp only [Sem.run_bind, run_underlying ht, Result.andThen_ok, MapKept.run_getObj_map hb, Sem.run_pure, ok.check, ok.find w k m es.toList hes]
  cases gIx m k with
  | none => simp [Sem.run_bind, hz, Sem.run_pure]
  | some q => simp [Sem.run_bind, Sem.run_pure]
/-- A store into the map: the world is a letter. -/
theorem run_update_map {t K E : TypeId} (h : MapAt w b enc m) (ok : KeyOk P K enc) (ht : P.underlying t = some (.map K E)) (k : κ) (v : Value) :
    ∃ w', (Instr.mapUpdate t (.map (some b)) (enc k) v).run P w = .ok () w' ∧ MapAt w' b enc (gPut m k v) ∧ But b w w' ∧ w'.heap.size = w.heap.size := by
  obtain ⟨es, c, hb, hes⟩ := h
  have hlt : b < w.heap.size := (Array.getElem?_eq_some_iff.1 hb).1
  have hset : ∀ o : Obj, ∃ w', (setObj b o).run P w = .ok () w' ∧ w'.heap[b]? = some o ∧ But b w w' ∧ w'.heap.size = w.heap.size := fun o =>
    ⟨_, MapKept.run_setObj_map o hb, by simp [Array.getElem?_setIfInBounds, hlt], ⟨rfl, rfl, rfl, by simp, fun k hk hne => by simp [Array.getElem?_setIfInBounds, Ne.symm hne]⟩, by simp⟩
  unfold Instr.mapUpdate
  simp only [Sem.run_bind, run_underlying ht, Result.andThen_ok, MapKept.run_getObj_map hb, ok.check, ok.find w k m es.toList hes]
  cases hx : gIx m k with
  | none =>
    obtain ⟨w', h1, h2, h3, h4⟩ := hset (.map (es.push { key := enc k, val := v, born := c }) (c + 1))
    refine ⟨w', h1, ⟨_, _, h2, ?_⟩, h3, h4⟩
    rw [gPut_none v hx]
    simp [hes]
  | some q =>
    obtain ⟨j, u⟩ := q
    obtain ⟨hp, hj⟩ := gPut_some v hx
    have hkey : ((es[j]?).map (·.key)).getD (enc k) = enc k := by
      have h1 := congrArg (fun l => (l[j]?).map (·.1)) hes
      simp only [List.getElem?_map, Option.map_map] at h1
      cases hm : m[j]? with
      | none => rw [hm] at hj; cases hj
      | some p =>
        rw [hm] at hj h1
        simp only [Option.map_some, Option.some.injEq] at hj
        cases he : es[j]? with
        | none => rfl
        | some e =>
          rw [Array.getElem?_toList, he] at h1
          simp only [Option.map_some, Function.comp_apply, Option.some.injEq] at h1
          simp [h1, hj]
    simp only [hkey, Sem.run_bind, ok.stays, Result.andThen_ok]
    obtain ⟨w', h1, h2, h3, h4⟩ := hset (.map (es.modify j fun e => { e with key := enc k, val := v }) c)
    refine ⟨w', h1, ⟨_, _, h2, ?_⟩, h3, h4⟩
    rw [hp]
    apply List.ext_getElem?
    intro i
    have h1 := congrArg (fun l => l[i]?) hes
    simp only [List.getElem?_map, Array.getElem?_toList] at h1 ⊢
    rw [Array.getElem?_modify, List.getElem?_set]
    have hjl : j < m.length := by
      cases hm : m[j]? with
      | none => rw [hm] at hj; cases hj
      | some p => exact (List.getElem?_eq_some_iff.1 hm).1
    by_cases hij : j = i
    · subst hij
      rw [if_pos rfl, if_pos rfl]
      rw [List.getElem?_eq_getElem hjl] at h1
      cases he : es[j]? with
      | none => rw [he] at h1; simp at h1
      | some e => simp [hjl]
    · rw [if_neg hij, if_neg hij]; exact h1
end
section
variable {P : Program} {ops : Array Oper} {rest : List Oper} {o : Oper} {a : Act} {w : World} {Q : Exit → Act → World → Prop} {F : Fence} {n : Nat}
theorem wpList_run (hg : o.guard = none) (v : Value) (w' : World) (hr : (execOp a.eval o).run P w = .ok (.value v) w') (h : wpList P ops Q rest (a.put o.dst v) w') : wpList P ops Q (o :: rest) a w := by
  refine wpList_plain hg fun K hK => ?_
  unfold Oper.wp
  rw [hr, Oper.upon_value]
  exact hK _ _ h
theorem wpList_runskip (hg : o.guard = none) (w' : World) (hr : (execOp a.eval o).run P w = .ok .skip w') (h : wpList P ops Q rest (a.put o.dst undef) w') : wpList P ops Q (o :: rest) a w := by
  refine wpList_plain hg fun K hK => ?_
  unfold Oper.wp
  rw [hr, Oper.upon_skip]
  exact hK _ _ h
theorem wpListIn_run (hg : o.guard = none) (hnd : ∀ c, o.op ≠ .defer c) (hab : o.about P w a.eval = none) (v : Value) (w' : World) (hr : (execOp a.eval o).run P w = .ok (.value v) w') (h : wpListIn F n P ops Q rest (a.put o.dst v) w') : wpListIn F n P ops Q (o :: rest) a w := by
  refine wpListIn_plain hg fun K hK => ?_
  unfold Oper.wpIn
  refine ⟨fun f hf => (by rw [hab] at hf; cases hf), ?_⟩
  rw [Oper.semAt_plain F _ _ hnd, hr, Oper.uponIn_value]
  exact hK _ _ h
end
section
variable {P : Program} {ops : Array Oper} {rest : List Oper} {o : Oper} {a : Act} {w : World} {Q : Exit → Act → World → Prop} {b : Nat} {κ : Type} [DecidableEq κ] {enc : κ → Value} {m : List (κ × Value)}
theorem wpList_lookup_map (hg : o.guard = none) (t K E : TypeId) (x y : Operand) (ho : o.op = .lookup t x y true) (dst : Option Tmp) (hdst : o.dst = dst) (hx : a.eval x = .map (some b)) (k : κ) (hk : a.eval y = enc k) (hm : MapAt w b enc m) (ok : KeyOk P K enc) (ht : P.underlying t = some (.map K E)) (z : Value) (hz : ∀ w, (zeroValue E).run P w = .ok z w)
    (h : wpList P ops Q rest (a.put dst (match gIx m k with | some q => .tuple #[q.2, .bool true] | none => .tuple #[z, .bool false])) w) : wpList P ops Q (o :: rest) a w := by
  subst hdst
  refine wpList_run hg _ w ?_ h
  unfold execOp
  simp only [ho, hx, hk, Sem.run_bind, run_lookup_map hm ok ht (hz w) k, Result.andThen_ok, Sem.run_pure]
theorem wpListIn_lookup_map {F : Fence} {n : Nat} (hg : o.guard = none) (t K E : TypeId) (x y : Operand) (ho : o.op = .lookup t x y true) (dst : Option Tmp) (hdst : o.dst = dst) (hx : a.eval x = .map (some b)) (k : κ) (hk : a.eval y = enc k) (hm : MapAt w b enc m) (ok : KeyOk P K enc) (ht : P.underlying t = some (.map K E)) (z : Value) (hz : ∀ w, (zeroValue E).run P w = .ok z w)
    (h : wpListIn F n P ops Q rest (a.put dst (match gIx m k with | some q => .tuple #[q.2, .bool true] | none => .tuple #[z, .bool false])) w) : wpListIn F n P ops Q (o :: rest) a w := by
  subst hdst
  refine wpListIn_run hg (by rw [ho]; intro c hc; cases hc) (by unfold Oper.about; rw [ho]) _ w ?_ h
  unfold execOp
  simp only [ho, hx, hk, Sem.run_bind, run_lookup_map hm ok ht (hz w) k, Result.andThen_ok, Sem.run_pure]
theorem wpList_update_map (hg : o.guard = none) (t K E : TypeId) (x y z : Operand) (ho : o.op = .mapUpdate t x y z) (dst : Option Tmp) (hdst : o.dst = dst) (hx : a.eval x = .map (some b)) (k : κ) (hk : a.eval y = enc k) (v : Value) (hv : a.eval z = v) (hm : MapAt w b enc m) (ok : KeyOk P K enc) (ht : P.underlying t = some (.map K E))
    (h : ∀ w', MapAt w' b enc (gPut m k v) → But b w w' → w'.heap.size = w.heap.size → wpList P ops Q rest (a.put dst undef) w') : wpList P ops Q (o :: rest) a w := by
  subst hdst
  obtain ⟨w', h1, h2, h3, h4⟩ := run_update_map (t := t) hm ok ht k v
  refine wpList_runskip hg w' ?_ (h w' h2 h3 h4)
  unfold execOp
  simp only [ho, hx, hk, hv, Sem.run_bind, h1, Result.andThen_ok, Sem.run_pure]
end
end Go.Proofs.YtolbmemogoojhaaGreat
/- A region whose order is drawn, with a new variable whose making hangs on nothing: a quiet head, the making at whatever time, a forced tail. No program. -/
namespace Go.Proofs.YtolbmemogoojhaaGreat
open Go Go.RowKit Go.Deep
set_option linter.unusedVariables false
set_option linter.unusedSimpArgs false

section
variable {P : Program} {ops ops' : Array Oper} {md : Region.Mode}

/-- The region with the making struck. -/
def strike (ops : Array Oper) (n : Nat) : Array Oper := ops.modify n fun o => { o with op := .move (.const undef) }
theorem strike_get (ops : Array Oper) (n j : Nat) : (strike ops n)[j]? = if n = j then (ops[j]?).map fun o => { o with op := .move (.const undef) } else ops[j]? := by
  unfold strike; rw [Array.getElem?_modify]
theorem strike_ne {n j : Nat} (h : j ≠ n) : (strike ops n)[j]? = ops[j]? := by rw [strike_get, if_neg (Ne.symm h)]
theorem strike_size (ops : Array Oper) (n : Nat) : (strike ops n).size = ops.size := by simp [strike]
theorem strike_ready (n : Nat) (listed : Array Bool) : Region.ready md (strike ops n) listed = Region.ready md ops listed := by
  unfold Region.ready
  rw [strike_size]
  congr 1
  funext i
  congr 1
  rw [strike_get]
  by_cases h : n = i
  · rw [if_pos h]; cases ops[i]? <;> rfl
  · rw [if_neg h]
theorem strike_yielded (n : Nat) (tmps : Array Value) : yielded (strike ops n) tmps = yielded ops tmps := by
  funext j
  unfold yielded
  rw [strike_get]
  by_cases h : n = j
  · rw [if_pos h]; cases ops[j]? <;> rfl
  · rw [if_neg h]
theorem strike_seqB (n : Nat) : ∀ (g k : Nat) (listed : Array Bool), Region.seqB md (strike ops n) g k listed = Region.seqB md ops g k listed
  | 0, k, listed => by unfold Region.seqB; rw [strike_ready]
  | g + 1, k, listed => by unfold Region.seqB; rw [strike_ready, strike_seqB n g]
theorem strike_yields {n : Nat} {C : World → Prop} {o : Oper} {v : Value} {a : Act} (h : YieldsIn P (strike ops n) C o v a) : YieldsIn P ops C o v a := by
  unfold YieldsIn at *; rw [strike_yielded] at h; exact h

/-- What stands in a slot stays there, if nothing that is to come is put into it. -/
theorem keep_slot {C : World → Prop} {n : Nat} {aE : Act} {Ls : Array Bool → Prop} (d : Tmp) : ∀ (f : Nat) (listed : Array Bool) (a : Act),
    wpAnyLQ P md ops C n (fun l a => Ls l ∧ a = aE) f listed a → (∀ k ok, ops[k]? = some ok → listed.getD k true = false → ok.dst ≠ some d) → aE.tmps.getD d undef = a.tmps.getD d undef ∧ aE.tmps.size = a.tmps.size
  | 0, listed, a, h, _ => by rw [h.2]; exact ⟨rfl, rfl⟩
  | f + 1, listed, a, h, hd => by
    obtain ⟨hne, hall⟩ := h
    obtain ⟨i, hi⟩ := List.exists_mem_of_ne_nil _ hne
    obtain ⟨hun, oi, hoi, _⟩ := mem_ready.1 hi
    obtain ⟨v, hy, hK⟩ := yieldsIn_of_qOp hoi (hall i hi).2
    have := keep_slot d f _ _ hK fun k ok hk hl => by
      refine hd k ok hk ?_
      by_cases hik : i = k
      · subst hik; exact hun
      · rw [getD_set_ne true hik] at hl; exact hl
    rw [this.1, this.2]
    have hdi := hd i oi hoi hun
    cases hdst : oi.dst with
    | none => exact ⟨rfl, rfl⟩
    | some e =>
      rw [hdst] at hdi
      have : e ≠ d := fun h => hdi (by rw [h])
      constructor
      · simp [Act.put, Array.getElem?_setIfInBounds, this]
      · simp [Act.put]

def slotOf (aE : Act) (o : Oper) : Value := match o.dst with | some d => aE.tmps.getD d undef | none => undef
/-- The operations' slots are all others. -/
def oneSlot (ops : Array Oper) : Bool := (List.range ops.size).all fun i => (List.range ops.size).all fun j => i == j || (match (ops[i]?).bind (·.dst), (ops[j]?).bind (·.dst) with | some d, some e => d != e | _, _ => true)
theorem oneSlot_spec (h : oneSlot ops = true) {i j : Nat} {oi oj : Oper} (hi : ops[i]? = some oi) (hj : ops[j]? = some oj) (hne : i ≠ j) {d : Tmp} (hd : oi.dst = some d) : oj.dst ≠ some d := by
  unfold oneSlot at h
  simp only [List.all_eq_true, List.mem_range] at h
  have h1 := h i (Array.getElem?_eq_some_iff.1 hi).1 j (Array.getElem?_eq_some_iff.1 hj).1
  simp only [Bool.or_eq_true, beq_iff_eq, hne, false_or, hi, hj, Option.bind_some, hd] at h1
  intro he
  rw [he] at h1
  simp at h1
theorem put_slot {C : World → Prop} {n : Nat} {aE : Act} {Ls : Array Bool → Prop} {f i : Nat} {oi : Oper} {listed : Array Bool} {a : Act} {v : Value} (h1 : oneSlot ops = true) (hi : ops[i]? = some oi)
    (h : wpAnyLQ P md ops C n (fun l a => Ls l ∧ a = aE) f (listed.setIfInBounds i true) (a.put oi.dst v)) : a.put oi.dst v = a.put oi.dst (slotOf aE oi) := by
  unfold slotOf
  cases hd : oi.dst with
  | none => rfl
  | some d =>
    rw [hd] at h
    obtain ⟨k1, k2⟩ := keep_slot d f _ _ h fun k ok hk hl => by
      by_cases hik : i = k
      · subst hik
        exfalso
        rcases Nat.lt_or_ge i listed.size with h' | h'
        · simp [h'] at hl
        · simp [Array.getElem?_eq_none h'] at hl
      · exact oneSlot_spec h1 hi hk hik hd
    by_cases hlt : d < a.tmps.size
    · have : aE.tmps.getD d undef = v := by rw [k1]; simp [Act.put, hlt]
      simp only [this]
    · simp [Act.put, Array.setIfInBounds, hlt]

/-- All that the head must be for this: it does not look at the making's slot. -/
def blindTo (ops : Array Oper) (n : Nat) : Bool := match ops[n]? with
  | none => false
  | some o => o.after.isEmpty && o.guard.isNone && (match o.dst with
    | none => false
    | some d => (List.range n).all fun j => match ops[j]? with
      | some oj => !(oj.looksAt ops).contains d && oj.dst != some d
      | none => true)

variable {W : World}
def ClsT (W : World) (T : After W) (w : World) : Prop := ∃ x : After T.w, w = x.w

theorem sim2 {n G : Nat} {on : Oper} {d : Tmp} {aE : Act} {tail : List Oper} {Q' : Exit → Act → World → Prop} {T : After W} (g : Nat) (hsel : Region.noSelect ops = true)
    (hon : ops[n]? = some on) (hdn : on.dst = some d) (hblind : ∀ j oj, ops[j]? = some oj → j < n → d ∉ oj.looksAt ops ∧ oj.dst ≠ some d)
    (htl : ∀ j, tail[j]? = ops[n + 1 + j]?) (hG : tail.length = G)
    (hK : ∀ w, ClsT W T w → wpList P ops Q' tail (aE.put (some d) (.pointer (some ⟨g, 0, none⟩))) w) :
    ∀ (f : Nat) (listed : Array Bool) (a : Act) (w : World), listed.getD n true = true → ClsT W T w →
      wpAnyLQ P md (strike ops n) (ClsT W T) (n + 1) (fun l a => Region.seqB md (strike ops n) G (n + 1) l = true ∧ a = aE) f listed a →
      wpAny P md ops Q' (f + G) listed (a.put (some d) (.pointer (some ⟨g, 0, none⟩))) w
  | 0, listed, a, w, hl, hw, h => by
    obtain ⟨h1, rfl⟩ := h
    rw [strike_seqB] at h1
    rw [Nat.zero_add, ← hG]
    exact wpAny_of_seq tail (n + 1) listed _ w htl (by rw [hG]; exact h1) (hK w hw)
  | f + 1, listed, a, w, hl, hw, h => by
    obtain ⟨hne, hall⟩ := h
    rw [strike_ready] at hne hall
    rw [show f + 1 + G = (f + G) + 1 by omega]
    refine ⟨fun h0 => absurd h0 hne, fun j hj => ?_⟩
    obtain ⟨hjn, hq⟩ := hall j hj
    have hjne : j ≠ n := by
      rintro rfl
      obtain ⟨hun, _⟩ := mem_ready.1 hj
      rw [hun] at hl; cases hl
    obtain ⟨hun, oj, hoj, _⟩ := mem_ready.1 hj
    have hoj' : (strike ops n)[j]? = some oj := by rw [strike_ne hjne]; exact hoj
    obtain ⟨v, hy, hK'⟩ := yieldsIn_of_qOp hoj' hq
    obtain ⟨b1, b2⟩ := hblind j oj hoj (by omega)
    have hlook : ∀ e, some d = some e → e ∉ oj.looksAt ops := fun e he => by cases he; exact b1
    have hy2 : YieldsIn P ops (ClsT W T) oj v (a.put (some d) (.pointer (some ⟨g, 0, none⟩))) :=
      (strike_yields hy).of_same (execOp_put oj (fun cs b => Region.noSelect_spec hsel j oj cs b hoj) a (some d) _ hlook) (wanted_put oj a (some d) _ hlook)
    have hcomm : (a.put (some d) (.pointer (some ⟨g, 0, none⟩))).put oj.dst v = (a.put oj.dst v).put (some d) (.pointer (some ⟨g, 0, none⟩)) :=
      Act.put_comm a _ v fun e he => by cases he; exact b2
    refine wpOp_of_qOp (C := ClsT W T) hw (fun a' w' hw' (h : a' = (a.put oj.dst v).put (some d) (.pointer (some ⟨g, 0, none⟩))) => ?_) (hy2.qOp hoj hcomm)
    subst h
    refine sim2 g hsel hon hdn hblind htl hG hK f _ _ w' ?_ hw' hK'
    by_cases hnl : n < listed.size
    · rw [getD_set_ne true hjne]; exact hl
    · rw [getD_set_ne true hjne]; exact hl
variable {ty : TypeId} {cs : Array Value} {z : Value}
theorem sim1 {n G : Nat} {on : Oper} {d : Tmp} {aE : Act} {tail : List Oper} {Q' : Exit → Act → World → Prop} (hsel : Region.noSelect ops = true)
    (hon : ops[n]? = some on) (hdn : on.dst = some d) (hop : on.op = .alloc ty) (hgn : on.guard = none) (haf : on.after.toList = []) (hz : (P.info? ty).map (·.zero) = some (some z)) (hcs : z.cells = cs)
    (hblind : ∀ j oj, ops[j]? = some oj → j < n → d ∉ oj.looksAt ops ∧ oj.dst ≠ some d) (hone : oneSlot (strike ops n) = true)
    (htl : ∀ j, tail[j]? = ops[n + 1 + j]?) (hG : tail.length = G)
    (hK : ∀ g (x : After W), W.heap.size ≤ g → Blk x.w g ty cs → ∀ w, ClsT W x w → wpList P ops Q' tail (aE.put (some d) (.pointer (some ⟨g, 0, none⟩))) w) :
    ∀ (f : Nat) (listed : Array Bool) (a : Act) (w : World), listed.getD n true = false → Below W.heap.size W w →
      (∀ T, wpAnyLQ P md (strike ops n) (ClsT W T) (n + 1) (fun l a => Region.seqB md (strike ops n) G (n + 1) l = true ∧ a = aE) f listed a) →
      wpAny P md ops Q' (f + G) listed a w
  | 0, listed, a, w, hl, hw, h => by
    have hn : n ∈ Region.ready md (strike ops n) listed := by
      rw [strike_ready]
      exact mem_ready.2 ⟨hl, on, hon, fun e he => by have : e ∈ on.after.toList := Array.mem_toList_iff.2 he; rw [haf] at this; cases this⟩
    have := seqB_ready (h ⟨W, Below.refl _ _⟩).1 n hn
    omega
  | f + 1, listed, a, w, hl, hw, h => by
    have hne := (h ⟨W, Below.refl _ _⟩).1
    rw [strike_ready] at hne
    rw [show f + 1 + G = (f + G) + 1 by omega]
    refine ⟨fun h0 => absurd h0 hne, fun j hj => ?_⟩
    have hj' : j ∈ Region.ready md (strike ops n) listed := by rw [strike_ready]; exact hj
    have hnl : n < listed.size := by
      rcases Nat.lt_or_ge n listed.size with h' | h'
      · exact h'
      · simp [Array.getElem?_eq_none h'] at hl
    by_cases hjne : j = n
    · subst hjne
      obtain ⟨_, hq⟩ := (h ⟨w.alloc (.cells cs ty), hw.trans ((bel_alloc (Below.refl _ _) _).mono hw.size)⟩).2 j hj'
      obtain ⟨v, _, hK'⟩ := yieldsIn_of_qOp (o := { on with op := .move (.const undef) }) (by rw [strike_get, if_pos rfl, hon]; rfl) hq
      unfold wpOp
      simp only [hon]
      rw [if_pos (by unfold Region.wanted; rw [hgn])]
      left
      unfold Oper.wp
      rw [run_alloc_blk ty z hz _ _ hop, Oper.upon_value, hcs]
      have hput : (a.put on.dst v).put (some d) (.pointer (some ⟨w.heap.size, 0, none⟩)) = a.put on.dst (.pointer (some ⟨w.heap.size, 0, none⟩)) := by
        rw [hdn]; simp [Act.put, Array.setIfInBounds_setIfInBounds]
      rw [← hput]
      refine sim2 w.heap.size hsel hon hdn hblind htl hG (hK w.heap.size ⟨w.alloc (.cells cs ty), _⟩ hw.size (Blk.new _ _ _)) f _ _ _ ?_ ⟨⟨_, Below.refl _ _⟩, rfl⟩ hK'
      simp [hnl]
    · obtain ⟨hun, oj, hoj, _⟩ := mem_ready.1 hj
      have hoj' : (strike ops n)[j]? = some oj := by rw [strike_ne hjne]; exact hoj
      obtain ⟨_, hq⟩ := (h ⟨w, hw⟩).2 j hj'
      obtain ⟨v, hy, hK0⟩ := yieldsIn_of_qOp hoj' hq
      have e0 := put_slot hone hoj' hK0
      have hall : ∀ T, wpAnyLQ P md (strike ops n) (ClsT W T) (n + 1) (fun l a => Region.seqB md (strike ops n) G (n + 1) l = true ∧ a = aE) f (listed.setIfInBounds j true) (a.put oj.dst v) := fun T => by
        obtain ⟨_, hqT⟩ := (h T).2 j hj'
        obtain ⟨vT, _, hKT⟩ := yieldsIn_of_qOp hoj' hqT
        rw [e0, ← put_slot hone hoj' hKT]; exact hKT
      refine wpOp_of_qOp (C := ClsT W ⟨w, hw⟩) ⟨⟨w, Below.refl _ _⟩, rfl⟩ (fun a' w' hw' (h : a' = a.put oj.dst v) => ?_) ((strike_yields hy).qOp hoj rfl)
      subst h
      obtain ⟨x, rfl⟩ := hw'
      exact sim1 hsel hon hdn hop hgn haf hz hcs hblind hone htl hG hK f _ _ x.w (by rw [getD_set_ne true hjne]; exact hl) (hw.trans (x.h.mono hw.size)) hall

/-- The list with the making struck. -/
def strikeL : Nat → List Oper → List Oper
  | _, [] => []
  | 0, o :: l => { o with op := .move (.const undef) } :: l
  | n + 1, o :: l => o :: strikeL n l
theorem strikeL_get : ∀ (n : Nat) (l : List Oper) (j : Nat), (strikeL n l)[j]? = if n = j then (l[j]?).map fun o => { o with op := .move (.const undef) } else l[j]?
  | _, [], j => by cases j <;> simp [strikeL]
  | 0, o :: l, 0 => by simp [strikeL]
  | 0, o :: l, j + 1 => by simp [strikeL]
  | n + 1, o :: l, 0 => by simp [strikeL]
  | n + 1, o :: l, j + 1 => by
    have := strikeL_get n l j
    simpa [strikeL] using this
theorem strikeL_eq (n : Nat) (l : List Oper) : strike l.toArray n = (strikeL n l).toArray := by
  apply Array.ext_getElem?
  intro j
  rw [strike_get]
  simp only [List.getElem?_toArray]
  rw [strikeL_get]
theorem strikeL_length (n : Nat) (l : List Oper) : (strikeL n l).length = l.length := by
  have := strike_size l.toArray n
  rw [strikeL_eq] at this
  simpa using this

/-- THE REGION: a quiet head (n operations), a new variable of a type, made at whatever time, and a tail, one behind the other. -/
theorem wp_float_tail {id : Nat} {Q : Exit → Act → World → Prop} {a : Act} {w : World} {l : List Oper} (n : Nat) (ty : TypeId) (d : Tmp) (aE : Act) (hm : P.follows .mixedOrders = true)
    (hB : (Region.lexTailB .any (strikeL n l).toArray (n + 1) && oneSlot (strikeL n l).toArray && blindTo l.toArray n && Region.noSelect l.toArray) = true)
    (hon : ((l[n]?).map fun o => (o.op, o.dst)) = some (.alloc ty, some d)) (hz : (P.info? ty).map (·.zero) = some (some z)) (hcs : z.cells = cs)
    (hlex : ∀ T : After w, wpQuiet P (strikeL n l).toArray (fun w' => ∃ x : After T.w, w' = x.w) (fun a' => a' = aE) ((strikeL n l).take (n + 1)) a)
    (hK : ∀ (g : Nat) (x : After w), w.heap.size ≤ g → Blk x.w g ty cs → wpList P l.toArray Q (l.drop (n + 1)) (aE.put (some d) (.pointer (some ⟨g, 0, none⟩))) x.w) : (Code.region id l.toArray true).wp P Q a w := by
  simp only [Bool.and_eq_true] at hB
  obtain ⟨⟨⟨hB, hone⟩, hbl⟩, hsel⟩ := hB
  simp only [Region.lexTailB, Bool.and_eq_true, decide_eq_true_eq] at hB
  obtain ⟨⟨⟨⟨hsel', hn⟩, hs⟩, hc⟩, hlx⟩ := hB
  obtain ⟨on, hon', he⟩ := Option.map_eq_some_iff.1 hon
  simp only [Prod.mk.injEq] at he
  obtain ⟨hop, hdn⟩ := he
  have hon2 : l.toArray[n]? = some on := by simpa using hon'
  rw [← strikeL_eq] at hone
  unfold blindTo at hbl
  simp only [hon2, hdn, Bool.and_eq_true] at hbl
  obtain ⟨⟨haf, hgn⟩, hbl⟩ := hbl
  have hblind : ∀ j oj, l.toArray[j]? = some oj → j < n → d ∉ oj.looksAt l.toArray ∧ oj.dst ≠ some d := fun j oj hj hlt => by
    have := List.all_eq_true.1 hbl j (List.mem_range.2 hlt)
    simp only [hj, Bool.and_eq_true, Bool.not_eq_true', bne_iff_ne, ne_eq] at this
    exact ⟨by have h1 := this.1; simpa using h1, this.2⟩
  have hln : n < l.length := by
    have := (Array.getElem?_eq_some_iff.1 hon2).1
    simpa using this
  have hn' : n + 1 < l.length := by have := hn; simp [strikeL_length] at this; exact this
  have hsz : (strikeL n l).toArray.size = l.length := by simp [strikeL_length]
  have htk : ((strikeL n l).take (n + 1)).length = n + 1 := by simp [strikeL_length]; omega
  have inv0 : HeadInv .any (strikeL n l).toArray (n + 1) (Array.replicate (strikeL n l).toArray.size false) :=
    ⟨by simp, fun j oj _ hl => (by rw [getD_replicate_false] at hl; cases hl), fun t _ ht => getD_in (by simpa using ht) (getD_replicate_false _ _)⟩
  refine wp_region_any hm ?_
  have hd1 : ∀ T, wpAnyLQ P .any (strike l.toArray n) (ClsT w T) (n + 1) (fun l' a => Region.seqB .any (strike l.toArray n) (l.drop (n + 1)).length (n + 1) l' = true ∧ a = aE) (n + 1) (Array.replicate l.toArray.size false) a := fun T => by
    have := wpAnyLQ_lex (md := .any) (g := (strikeL n l).toArray.size - (n + 1)) hsel' hs hc hn ((strikeL n l).take (n + 1)) 0 _ a (fun j hj => by
      rw [htk] at hj
      simp [List.getElem?_take, hj]) (by rw [htk]; omega) inv0 (by rw [htk]; exact hlx) (hlex T)
    rw [htk, hsz] at this
    rw [strikeL_eq]
    have e : ClsT w T = fun w' => ∃ x : After T.w, w' = x.w := rfl
    rw [e]
    simpa using this
  have := sim1 (W := w) (md := .any) (G := (l.drop (n + 1)).length) hsel hon2 hdn hop (by simpa using hgn) (by simpa using haf) hz hcs hblind hone (tail := l.drop (n + 1)) (fun j => by simp [List.getElem?_drop]) rfl
    (fun g y hg hb w' hw' => by obtain ⟨x, rfl⟩ := hw'; exact hK g ⟨x.w, y.h.trans (x.h.mono y.h.size)⟩ hg (hb.after x)) (n + 1) _ a w.drew (getD_in (by simpa using hln) (getD_replicate_false _ _)) (Below.refl _ _).drew hd1
  rw [show n + 1 + (l.drop (n + 1)).length = l.toArray.size by simp; omega] at this
  exact this
end
end Go.Proofs.YtolbmemogoojhaaGreat
/- A record's cells, put into a map: the code. -/
namespace Go.Proofs.YtolbmemogoojhaaGreat
open Go Go.RowKit Go.Deep
set_option linter.unusedVariables false
set_option linter.unusedSimpArgs false
set_option maxRecDepth 100000

def encI (n : Int) : Value := .int .i64 n
def cV (c : C3) : Value := .agg #[.int .i64 c.1, .int .i64 c.2.1, .string c.2.2]
def mapF (l : List F4) : List (Int × Value) := l.map fun f => (f.1, cV f.2)
def fPut : List F4 → Int → C3 → List F4
  | [], k, c => [(k, c)]
  | f :: l, k, c => if f.1 = k then (k, c) :: l else f :: fPut l k c
theorem gPut_mapF (k : Int) (c : C3) : ∀ l : List F4, gPut (mapF l) k (cV c) = mapF (fPut l k c)
  | [] => rfl
  | f :: l => by
    have ih := gPut_mapF k c l
    unfold mapF at ih ⊢
    rw [List.map_cons, gPut, fPut]
    by_cases h : f.1 = k
    · rw [if_pos h, if_pos h]; rfl
    · rw [if_neg h, if_neg h, ih]; rfl
theorem gIx_mapF (k : Int) : ∀ l : List F4, (gIx (mapF l) k = none ∧ fFind l k = none) ∨ ∃ j c, gIx (mapF l) k = some (j, cV c) ∧ fFind l k = some c
  | [] => .inl ⟨rfl, rfl⟩
  | f :: l => by
    have ih := gIx_mapF k l
    unfold mapF at ih ⊢
    rw [List.map_cons, gIx, fFind]
    by_cases h : f.1 = k
    · rw [if_pos h, if_pos h]; exact .inr ⟨0, f.2, rfl, rfl⟩
    · rw [if_neg h, if_neg h]
      rcases ih with ⟨h1, h2⟩ | ⟨j, c, h1, h2⟩
      · exact .inl ⟨by rw [h1]; rfl, h2⟩
      · exact .inr ⟨j + 1, c, by rw [h1]; rfl, h2⟩
def putF (m : List F4) (f : F4) : List F4 := match fFind m f.1 with
  | some was => fPut m f.1 (cJ was f.2)
  | none => fPut m f.1 f.2
def putAll (m l : List F4) : List F4 := l.foldl putF m
theorem putAll_take {m l : List F4} {j : Nat} {f : F4} (h : l[j]? = some f) : putAll m (l.take (j + 1)) = putF (putAll m (l.take j)) f := by
  rw [List.take_add_one, h]; simp [putAll]
/-- No text is too long for a digest. -/
def Small (l : List F4) : Prop := ∀ f ∈ l, f.2.2.2.size ≤ 80000
theorem cJ_small {a b : C3} (ha : a.2.2.size ≤ 80000) (hb : b.2.2.size ≤ 80000) : (cJ a b).2.2.size ≤ 80000 := by
  rcases cJ_pick a b with h | h <;> rw [h] <;> assumption
theorem fFind_mem : ∀ {l : List F4} {k : Int} {c : C3}, fFind l k = some c → (k, c) ∈ l
  | f :: l, k, c, h => by
    unfold fFind at h
    split at h
    · rename_i hk
      simp only [Option.some.injEq] at h
      subst h; subst hk; exact mH
    · exact mT _ (fFind_mem h)
theorem fPut_mem : ∀ {l : List F4} {k : Int} {c : C3} {f : F4}, f ∈ fPut l k c → f ∈ l ∨ f = (k, c)
  | [], k, c, f, h => by simp [fPut] at h; exact .inr h
  | g :: l, k, c, f, h => by
    unfold fPut at h
    split at h
    · rcases List.mem_cons.1 h with rfl | h
      · exact .inr rfl
      · exact .inl (mT _ h)
    · rcases List.mem_cons.1 h with rfl | h
      · exact .inl mH
      · rcases fPut_mem h with h | h
        · exact .inl (mT _ h)
        · exact .inr h
theorem putF_small {m : List F4} {f : F4} (hm : Small m) (hf : f.2.2.2.size ≤ 80000) : Small (putF m f) := by
  intro g hg
  unfold putF at hg
  split at hg
  · rename_i was h
    rcases fPut_mem hg with h1 | rfl
    · exact hm g h1
    · exact cJ_small (hm _ (fFind_mem h)) hf
  · rcases fPut_mem hg with h1 | rfl
    · exact hm g h1
    · exact hf
theorem putAll_small : ∀ {l m : List F4}, Small m → Small l → Small (putAll m l)
  | [], m, hm, _ => hm
  | f :: l, m, hm, hl => putAll_small (l := l) (putF_small hm (hl f mH)) fun g hg => hl g (mT _ hg)
theorem MapAt.ne {w : World} {b b' o : Nat} {κ : Type} {enc : κ → Value} {m : List (κ × Value)} {u : Value} (h : MapAt w b enc m) (hc : w.cell? ⟨b', o, none⟩ = some u) : b' ≠ b := by
  rintro rfl
  obtain ⟨es, c, hb, _⟩ := h
  unfold World.cell? at hc
  simp [hb] at hc
theorem zero_cell (w : World) : (zeroValue 68).run Tryz.prog w = .ok (.agg #[.int .i64 0, .int .i64 0, .string ⟨#[]⟩]) w := by kernel_rfl
theorem gath : Tryz.prog.underlying 121 = some (.map 3 68) := by kernel_rfl
theorem keyI : KeyOk Tryz.prog 3 encI := int_key Tryz.underlying3
theorem cjoin_cv {a b c : C3} (h : cJ a b = c) (ha : a.2.2.size ≤ 80000) (hb : b.2.2.size ≤ 80000) (w : World) : Calls Tryz.prog 121 #[.agg #[.int .i64 a.1, .int .i64 a.2.1, .string a.2.2], .agg #[.int .i64 b.1, .int .i64 b.2.1, .string b.2.2]] w fun e w' => e = .returned (.agg #[.int .i64 c.1, .int .i64 c.2.1, .string c.2.2]) ∧ Below w.heap.size w w' := by
  obtain ⟨N, R, s⟩ := a; obtain ⟨N', R', s'⟩ := b; obtain ⟨X, Y, t⟩ := c
  exact cjoin_r h ha hb w
set_option maxHeartbeats 3200000 in
theorem gput_c (b : Nat) (m : List F4) (A : Array Value) (hA : A.size = 16) (N R : Int) (v : Value) (l : List F4) (w : World) (hm : MapAt w b encI (mapF m)) (hv : Flds w v l) (sm : Small m) (sl : Small l) :
    Calls Tryz.prog 86 #[.map (some b), .agg (recA A N R v)] w fun e w' => (∃ u, e = .returned u) ∧ MapAt w' b encI (mapF (putAll m l)) ∧ But b w w' := by
  have hAc := @after_cell
  have hAf := @after_frozen
  have hSz := sz_facts
  have hlen1 := len_row (ti := 0) hv Tryz.underlying31
  obtain ⟨_, a, c, rfl, q1, hm1, _⟩ := id hv
  unfold maxLen at hm1
  obtain ⟨n, hn⟩ : ∃ n, l.length = n := ⟨_, rfl⟩
  rw [hn] at hlen1 q1 hv ⊢
  have hbox : ∀ w1, Blk w1 w.heap.size 33 (recA A N R (.slice a n c)) → _ := fun w1 k => rec_cells k hA
  have Hv := Lib.hid hv; have Hn := Lib.hid hn; have Hm := Lib.hid hm; have Sm := Lib.hid sm; have Sl := Lib.hid sl
  clear hv hn hm sm sl
  go_enter Tryz.func86, Tryz.ntmps86
  go_wp2_with ((fail_if_success have := k1); refine wpList_box_blk rfl 33 _ rfl _ rfl (recA A N R (.slice a n c)) rfl ?_; intro w1 k1 b1 s1; obtain ⟨c16, c17, c18, csub, call⟩ := hbox w1 k1; clear hbox)
  have Hm1 : Hid (MapAt w1 b encI (mapF m)) := Lib.hid (Hm.out.below b1 Hm.out.lt)
  have B1 := Lib.hid b1; have S1 := Lib.hid s1
  clear k1 c16 c17 c18 csub call b1 s1
  go_loopw [11] (fun i wr => ∃ j : Nat, j ≤ n ∧ i = .int .i64 j ∧ Hid (MapAt wr b encI (mapF (putAll m (l.take j)))) ∧ Hid (But b w1 wr)) (fun i _ => n - (intOf i).toNat)
  case atStart => exact ⟨0, by omega, rfl, by rw [List.take_zero]; exact Hm1, Lib.hid (But.refl _ _)⟩
  case round =>
    obtain ⟨j, hj, rfl, M, B⟩ := hrel
    by_cases hlt : j < n
    · obtain ⟨⟨i', cN, cR, cS⟩, hf⟩ : ∃ f, l[j]? = some f := ⟨_, List.getElem?_eq_getElem (by rw [Hn.out]; exact hlt)⟩
      obtain ⟨bf, off, rfl, hbw, g0, g1, g2, g3⟩ := Hv.out.at hf
      have hbne : bf ≠ b := Hm.out.ne g0
      have hbw1 : bf < w1.heap.size := by have := S1.out; omega
      have mv : ∀ o u, w.cell? ⟨bf, o, none⟩ = some u → wr.cell? ⟨bf, o, none⟩ = some u := fun o u h => (B.out.cell (p := ⟨bf, o, none⟩) hbw1 hbne).trans (cell_below B1.out _ _ _ h)
      have g0 := mv _ _ g0
      have g1 := mv _ _ g1
      have g2 := mv _ _ g2
      have g3 := mv _ _ g3
      dsimp only at g0 g1 g2 g3
      clear mv
      have Hst := Lib.hid (putAll_take (m := m) hf)
      have Hsz : Hid (cS.size ≤ 80000) := Lib.hid (Sl.out _ (List.mem_of_getElem? hf))
      clear hf
      obtain ⟨M', hM'⟩ : ∃ M', Hid (putAll m (l.take j) = M') := ⟨_, rfl⟩
      have sM : Hid (Small M') := Lib.hid (by rw [← hM'.out]; exact putAll_small Sm.out fun f hf => Sl.out f (List.mem_of_mem_take hf))
      rw [hM'.out] at M Hst
      have hbr := szl (a := bf) (b := wr.heap.size) (by have := B.out.size; omega)
      rcases gIx_mapF i' M' with ⟨h1, h2⟩ | ⟨jj, ⟨wN, wR, wS⟩, h1, h2⟩
      · have Hg := Lib.hid h1
        have Hnext : Hid (gPut (mapF M') i' (cV (cN, cR, cS)) = mapF (putAll m (l.take (j + 1)))) := Lib.hid (by rw [gPut_mapF, Hst.out]; unfold putF; rw [h2])
        clear h1 h2
        go_wp2_with (first | (refine wpList_lookup_map rfl 121 3 68 _ _ rfl _ rfl rfl i' rfl (M.out.below (B := wr.heap.size) (by (repeat (first | exact Below.refl _ _ | assumption | refine bel_alloc ?_ _ | refine bel_after _ ?_ | refine bel_drewN ?_ _ | refine bel_drew ?_ | refine bel_set ?_ (by first | omega | (simp only [zYA, zYD, zYC]; omega) | (simp; omega)) _))) M.out.lt) keyI gath _ zero_cell ?_; simp only [Hg.out]) | (refine wpList_update_map rfl 121 3 68 _ _ _ rfl _ rfl rfl i' rfl (cV (cN, cR, cS)) rfl (M.out.below (B := wr.heap.size) (by (repeat (first | exact Below.refl _ _ | assumption | refine bel_alloc ?_ _ | refine bel_after _ ?_ | refine bel_drewN ?_ _ | refine bel_drew ?_ | refine bel_set ?_ (by first | omega | (simp only [zYA, zYD, zYC]; omega) | (simp; omega)) _))) M.out.lt) keyI gath ?_; intro w3 M3 B3 s3; rw [Hnext.out] at M3; have HM3 := Lib.hid M3; have HB3 := Lib.hid B3; clear M3 B3))
        go_roundw
        case rel => exact ⟨j + 1, by omega, by go_num, HM3, Lib.hid ((B.out.trans (But.of_below (by (repeat (first | exact Below.refl _ _ | assumption | refine bel_alloc ?_ _ | refine bel_after _ ?_ | refine bel_drewN ?_ _ | refine bel_drew ?_ | refine bel_set ?_ (by first | omega | (simp only [zYA, zYD, zYC]; omega) | (simp; omega)) _))))).trans HB3.out)⟩
        case measure => simp [intOf]; omega
      · have Hg := Lib.hid h1
        obtain ⟨jc, hjc⟩ : ∃ jc, Hid (cJ (wN, wR, wS) (cN, cR, cS) = jc) := ⟨_, rfl⟩
        have Hws : Hid (wS.size ≤ 80000) := Lib.hid (sM.out _ (fFind_mem h2))
        have Hnext : Hid (gPut (mapF M') i' (cV jc) = mapF (putAll m (l.take (j + 1)))) := Lib.hid (by rw [gPut_mapF, Hst.out]; unfold putF; rw [h2]; simp only; rw [hjc.out])
        clear h1 h2
        go_wp2_with (refine wpList_lookup_map rfl 121 3 68 _ _ rfl _ rfl rfl i' rfl (M.out.below (B := wr.heap.size) (by (repeat (first | exact Below.refl _ _ | assumption | refine bel_alloc ?_ _ | refine bel_after _ ?_ | refine bel_drewN ?_ _ | refine bel_drew ?_ | refine bel_set ?_ (by first | omega | (simp only [zYA, zYD, zYC]; omega) | (simp; omega)) _))) M.out.lt) keyI gath _ zero_cell ?_; simp only [Hg.out, cV])
        refine wp_quiet_tail (C := fun w' => ∃ x : After _, w' = x.w) 7 (by kernel_rfl) (by kernel_rfl) (since_drew _) ?_
        simp only [List.take_succ_cons, List.take_zero, List.drop_succ_cons, List.drop_zero]
        repeat (go_big_quiet_step ((go_at_call 121; with_reducible exact after_call _ (cjoin_cv hjc.out Hws.out Hsz.out _))))
        refine wpQuiet_nil ?_
        rintro _ ⟨x2, rfl⟩
        refine wpList_update_map rfl 121 3 68 _ _ _ rfl _ rfl rfl i' rfl (cV jc) rfl (M.out.below (B := wr.heap.size) (by (repeat (first | exact Below.refl _ _ | assumption | refine bel_alloc ?_ _ | refine bel_after _ ?_ | refine bel_drewN ?_ _ | refine bel_drew ?_ | refine bel_set ?_ (by first | omega | (simp only [zYA, zYD, zYC]; omega) | (simp; omega)) _))) M.out.lt) keyI gath ?_
        intro w3 M3 B3 s3
        rw [Hnext.out] at M3
        have HM3 := Lib.hid M3
        have HB3 := Lib.hid B3
        clear M3 B3
        go_wp2
        go_roundw
        case rel => exact ⟨j + 1, by omega, by go_num, HM3, Lib.hid ((B.out.trans (But.of_below (by (repeat (first | exact Below.refl _ _ | assumption | refine bel_alloc ?_ _ | refine bel_after _ ?_ | refine bel_drewN ?_ _ | refine bel_drew ?_ | refine bel_set ?_ (by first | omega | (simp only [zYA, zYD, zYC]; omega) | (simp; omega)) _))))).trans HB3.out)⟩
        case measure => simp [intOf]; omega
    · have hjn : j = n := by omega
      subst hjn
      have Hend : Hid (MapAt wr b encI (mapF (putAll m l))) := by
        have := M.out
        rw [List.take_of_length_le (by rw [Hn.out]; exact Nat.le_refl _)] at this
        exact Lib.hid this
      have HE : Hid (But b w wr) := Lib.hid ((But.of_below B1.out).trans B.out)
      go_wp2
      go_end0
      exact ⟨⟨_, rfl⟩, Hend.out, HE.out⟩
end Go.Proofs.YtolbmemogoojhaaGreat
/- The fields of two records joined, one by one: the iterator. -/
namespace Go.Proofs.YtolbmemogoojhaaGreat
open Go Go.RowKit Go.Deep Go.Shelf
set_option linter.unusedVariables false
set_option linter.unusedSimpArgs false
set_option maxRecDepth 100000
attribute [local go_sem] Oper.semAt_some

/-- Turned at no block below B but b. -/
structure ButB (B b : Nat) (w w' : World) : Prop where
  os : w'.os = w.os
  tape : w'.tape = w.tape
  output : w'.output = w.output
  size : w.heap.size ≤ w'.heap.size
  block : ∀ k, k < B → k ≠ b → w'.heap[k]? = w.heap[k]?
theorem ButB.refl (B b : Nat) (w : World) : ButB B b w w := ⟨rfl, rfl, rfl, Nat.le_refl _, fun _ _ _ => rfl⟩
theorem ButB.trans {B b : Nat} {u v w : World} (h : ButB B b u v) (k : ButB B b v w) : ButB B b u w :=
  ⟨k.os.trans h.os, k.tape.trans h.tape, k.output.trans h.output, Nat.le_trans h.size k.size, fun i hi hb => (k.block i hi hb).trans (h.block i hi hb)⟩
theorem ButB.of_below {B b C : Nat} {w w' : World} (h : Below C w w') (hB : B ≤ C) : ButB B b w w' := ⟨h.os, h.tape, h.output, h.size, fun k hk _ => h.block k (by omega)⟩
theorem ButB.below {B b C : Nat} {w w' : World} (h : ButB B b w w') (h1 : C ≤ b) (h2 : C ≤ B) : Below C w w' := ⟨h.os, h.tape, h.output, h.size, fun k hk => h.block k (by omega) (by omega)⟩
theorem ButB.mono {B B' b : Nat} {w w' : World} (h : ButB B b w w') (hB : B' ≤ B) : ButB B' b w w' := ⟨h.os, h.tape, h.output, h.size, fun k hk hb => h.block k (by omega) hb⟩
theorem ButB.set {B b : Nat} {w w' : World} (h : ButB B b w w') (o : Nat) (u : Value) : ButB B b w (w'.setCell ⟨b, o, none⟩ u) :=
  ⟨h.os, h.tape, h.output, by simpa using h.size, fun k hk hb => (Below.heap_setCell _ _ _ _ (by simpa using hb)).trans (h.block k hk hb)⟩
theorem ButB.cell {B b : Nat} {w w' : World} (h : ButB B b w w') {p : Nat} (o : Nat) (h1 : p < B) (h2 : p ≠ b) : w'.cell? ⟨p, o, none⟩ = w.cell? ⟨p, o, none⟩ := World.cell?_of_block (w := w) (h.block p h1 h2)
theorem ButB.map {B b c : Nat} {w w' : World} {κ : Type} {enc : κ → Value} {m : List (κ × Value)} (h : ButB B b w w') (hm : MapAt w c enc m) (h1 : c < B) (h2 : c ≠ b) : MapAt w' c enc m := by
  obtain ⟨es, k, hb, he⟩ := hm; exact ⟨es, k, (h.block c h1 h2).trans hb, he⟩
theorem ButB.putObj (B b : Nat) (W : World) (l : Nat) (o' : Obj) (hl : B ≤ l) : ButB B b W (W.putObj l o') :=
  ⟨rfl, rfl, rfl, by simp, fun k hk _ => World.putObj_heap_other (by omega)⟩

/-- What comes of number k. -/
def outAt (N R : Int) (m : List F4) (k : Int) : Option F4 := match fFind m k with
  | some c => bif stLess N R c.1 c.2.1 then some (k, c) else none
  | none => none
def outTo (N R : Int) (m : List F4) (k : Nat) : List F4 := (List.range k).filterMap fun i : Nat => outAt N R m (i : Int)
theorem outTo_succ (N R : Int) (m : List F4) (k : Nat) : outTo N R m (k + 1) = outTo N R m k ++ (outAt N R m (k : Int)).toList := by
  unfold outTo
  rw [List.range_succ, List.filterMap_append]
  cases h : outAt N R m (k : Int) <;> simp [h]
theorem outTo_len (N R : Int) (m : List F4) (k : Nat) : (outTo N R m k).length ≤ k := by
  unfold outTo
  exact Nat.le_trans (List.length_filterMap_le _ _) (by simp)

def fV (x : F4) : Value := .agg #[.int .i64 x.1, .int .i64 x.2.1, .int .i64 x.2.2.1, .string x.2.2.2]
theorem fence_fn (k : Nat) : Fence.wide.fn k = True := rfl
set_option maxHeartbeats 1600000 in
theorem fields1_in (l Bm Bd b n₀ bo : Nat) (m : List F4) (N R : Int) (J Jx : List F4 → World → Prop) (W : World) (hJ : AbidesFrom W.heap.size J)
    (hY : ∀ pre x W1, J pre W1 → pre.length < 8 → YieldAt Fence.wide 3 Tryz.prog l #[fV x] W1 fun e W' => (e = .returned (.bool true) ∧ J (pre ++ [x]) W' ∧ ButB n₀ bo W1 W') ∨ (e = .returned (.bool false) ∧ Jx (pre ++ [x]) W'))
    (hcm : W.cell? ⟨Bm, 0, none⟩ = some (.map (some b))) (hcN : W.cell? ⟨Bd, 0, none⟩ = some (.int .i64 N)) (hcR : W.cell? ⟨Bd, 1, none⟩ = some (.int .i64 R)) (hm : MapAt W b encI (mapF m))
    (l1 : Bm < n₀) (l2 : Bd < n₀) (l3 : b < n₀) (l4 : n₀ ≤ W.heap.size) (d1 : Bm ≠ bo) (d2 : Bd ≠ bo) (d3 : b ≠ bo) (h0 : J [] W) :
    CallsIn Fence.wide 4 Tryz.prog 122 #[.func (.yield l) #[] #[], .pointer (some ⟨Bm, 0, none⟩), .pointer (some ⟨Bd, 0, none⟩)] W fun e W' => (∃ v, e = .returned v) ∧
      ((∃ ys, ys = outTo N R m 8 ∧ J ys W') ∨ (∃ pre, True ∧ Jx pre W')) := by
  have hAc := @after_cell
  have hAf := @after_frozen
  have hSz := sz_facts
  have hfn := fence_fn
  have hstep : ∀ s A B, J s A → Below A.heap.size A B → J s B := fun s A B h hb => hJ s A B none h (gr_below hb none) (fun r e => by cases e)
  have HS := Lib.hid hstep; clear hstep
  have HJ := Lib.hid hJ; have HY := Lib.hid hY; have Hm := Lib.hid hm; have H0 := Lib.hid h0
  have Hcm := Lib.hid hcm; have HcN := Lib.hid hcN; have HcR := Lib.hid hcR
  clear hJ hY hm h0 hcm hcN hcR
  refine callsIn_of_wp Tryz.func122 rfl trivial ?_ rfl
  simp only [Tryz.ntmps122, List.size_toArray, List.length_cons, List.length_nil, Nat.reduceAdd, Nat.reduceSub, Array.replicate_succ, Array.replicate_zero, List.push_toArray, List.append_toArray, List.nil_append, List.cons_append]
  gi_wp2
  gi_loopw [7] (fun i wr => ∃ k : Nat, k ≤ 8 ∧ i = .int .i64 k ∧ Hid (J (outTo N R m k) wr) ∧ Hid (ButB n₀ bo W wr)) (fun i _ => 8 - (intOf i).toNat)
  case atStart => exact ⟨0, by omega, rfl, H0, Lib.hid (ButB.refl _ _ _)⟩
  case round =>
    obtain ⟨k, hk, rfl, I, B⟩ := hrel
    by_cases hlt : k < 8
    · have cm := (B.out.cell 0 l1 d1).trans Hcm.out
      have cN := (B.out.cell 0 l2 d2).trans HcN.out
      have cR := (B.out.cell 1 l2 d2).trans HcR.out
      have Hmr := Lib.hid (B.out.map Hm.out l3 d3)
      have hz := B.out.size
      have hs1 := szl (a := Bm) (b := wr.heap.size) (by omega)
      have hs2 := szl (a := Bd) (b := wr.heap.size) (by omega)
      rcases gIx_mapF (k : Int) m with ⟨h1, h2⟩ | ⟨jj, ⟨cN', cR', cS'⟩, h1, h2⟩
      · have Hg := Lib.hid h1
        have Hnext : Hid (outTo N R m (k + 1) = outTo N R m k) := Lib.hid (by rw [outTo_succ]; unfold outAt; rw [h2]; simp)
        clear h1 h2
        gi_wp2_with (refine wpListIn_lookup_map rfl 121 3 68 _ _ rfl _ rfl rfl (k : Int) rfl (Hmr.out.below (B := wr.heap.size) (by (repeat (first | exact Below.refl _ _ | assumption | refine bel_alloc ?_ _ | refine bel_after _ ?_ | refine bel_drewN ?_ _ | refine bel_drew ?_ | refine bel_set ?_ (by first | omega | (simp only [zYA, zYD, zYC]; omega) | (simp; omega)) _))) Hmr.out.lt) keyI gath _ zero_cell ?_; simp only [Hg.out])
        go_roundw
        case rel => exact ⟨k + 1, by omega, by go_num, Lib.hid (by rw [Hnext.out]; exact HS.out _ _ _ I.out (by (repeat (first | exact Below.refl _ _ | assumption | refine bel_alloc ?_ _ | refine bel_after _ ?_ | refine bel_drewN ?_ _ | refine bel_drew ?_ | refine bel_set ?_ (by first | omega | (simp only [zYA, zYD, zYC]; omega) | (simp; omega)) _)))), Lib.hid (B.out.trans (ButB.of_below (by (repeat (first | exact Below.refl _ _ | assumption | refine bel_alloc ?_ _ | refine bel_after _ ?_ | refine bel_drewN ?_ _ | refine bel_drew ?_ | refine bel_set ?_ (by first | omega | (simp only [zYA, zYD, zYC]; omega) | (simp; omega)) _)) : Below wr.heap.size wr _) (by omega)))⟩
        case measure => simp [intOf]; omega
      · have Hg := Lib.hid h1
        cases hl : stLess N R cN' cR'
        · have Hl := Lib.hid hl
          have Hnext : Hid (outTo N R m (k + 1) = outTo N R m k) := Lib.hid (by rw [outTo_succ]; unfold outAt; rw [h2]; simp only; rw [hl]; simp)
          clear h1 h2 hl
          gi_wp2_with (first | (refine wpListIn_lookup_map rfl 121 3 68 _ _ rfl _ rfl rfl (k : Int) rfl (Hmr.out.below (B := wr.heap.size) (by (repeat (first | exact Below.refl _ _ | assumption | refine bel_alloc ?_ _ | refine bel_after _ ?_ | refine bel_drewN ?_ _ | refine bel_drew ?_ | refine bel_set ?_ (by first | omega | (simp only [zYA, zYD, zYC]; omega) | (simp; omega)) _))) Hmr.out.lt) keyI gath _ zero_cell ?_; simp only [Hg.out, cV]) | (gi_at_call 98; (with_reducible refine (callsIn_wide.2 (less_v Hl.out _)).mono ?_); rintro e w' ⟨rfl, hb⟩; obtain ⟨x1, rfl⟩ := after_of hb; clear hb))
          go_roundw
          case rel => exact ⟨k + 1, by omega, by go_num, Lib.hid (by rw [Hnext.out]; exact HS.out _ _ _ I.out (by (repeat (first | exact Below.refl _ _ | assumption | refine bel_alloc ?_ _ | refine bel_after _ ?_ | refine bel_drewN ?_ _ | refine bel_drew ?_ | refine bel_set ?_ (by first | omega | (simp only [zYA, zYD, zYC]; omega) | (simp; omega)) _)))), Lib.hid (B.out.trans (ButB.of_below (by (repeat (first | exact Below.refl _ _ | assumption | refine bel_alloc ?_ _ | refine bel_after _ ?_ | refine bel_drewN ?_ _ | refine bel_drew ?_ | refine bel_set ?_ (by first | omega | (simp only [zYA, zYD, zYC]; omega) | (simp; omega)) _)) : Below wr.heap.size wr _) (by omega)))⟩
          case measure => simp [intOf]; omega
        · have Hl := Lib.hid hl
          have Hnext : Hid (outTo N R m (k + 1) = outTo N R m k ++ [((k : Int), cN', cR', cS')]) := Lib.hid (by rw [outTo_succ]; unfold outAt; rw [h2]; simp only; rw [hl]; simp)
          clear h1 h2 hl
          gi_wp2_with (first | (refine wpListIn_lookup_map rfl 121 3 68 _ _ rfl _ rfl rfl (k : Int) rfl (Hmr.out.below (B := wr.heap.size) (by (repeat (first | exact Below.refl _ _ | assumption | refine bel_alloc ?_ _ | refine bel_after _ ?_ | refine bel_drewN ?_ _ | refine bel_drew ?_ | refine bel_set ?_ (by first | omega | (simp only [zYA, zYD, zYC]; omega) | (simp; omega)) _))) Hmr.out.lt) keyI gath _ zero_cell ?_; simp only [Hg.out, cV]) | (gi_at_call 98; (with_reducible refine (callsIn_wide.2 (less_v Hl.out _)).mono ?_); rintro e w' ⟨rfl, hb⟩; obtain ⟨x1, rfl⟩ := after_of hb; clear hb; have hz1 := after_size x1; (try (simp only [World.size_alloc] at hz1)); have hsx := szl (a := wr.heap.size) (b := x1.w.heap.size) (by omega); have hJx : J (outTo N R m k) x1.w := HS.out _ _ _ I.out (by (repeat (first | exact Below.refl _ _ | assumption | refine bel_alloc ?_ _ | refine bel_after _ ?_ | refine bel_drewN ?_ _ | refine bel_drew ?_ | refine bel_set ?_ (by first | omega | (simp only [zYA, zYD, zYC]; omega) | (simp; omega)) _))); obtain ⟨fn, tmps, assign, body, hy, hR⟩ := HY.out (outTo N R m k) ((k : Int), cN', cR', cS') x1.w hJx (Nat.lt_of_le_of_lt (outTo_len N R m k) hlt); have HRR := Lib.hid hR; have HJx := Lib.hid hJx; clear hR hJx; dsimp only [fV] at hy))
          refine HRR.out.mono ?_
          rintro e W3 (⟨rfl, hJ3, hk3⟩ | ⟨rfl, hJx3⟩)
          · have HJ3 := Lib.hid hJ3; have HK3 := Lib.hid hk3; clear hJ3 hk3
            have HB3 : Hid (ButB n₀ bo W W3) := Lib.hid ((B.out.trans (ButB.of_below (by (repeat (first | exact Below.refl _ _ | assumption | refine bel_alloc ?_ _ | refine bel_after _ ?_ | refine bel_drewN ?_ _ | refine bel_drew ?_ | refine bel_set ?_ (by first | omega | (simp only [zYA, zYD, zYC]; omega) | (simp; omega)) _)) : Below wr.heap.size wr x1.w) (by omega))).trans HK3.out)
            gi_wp2
            go_roundw
            case rel => exact ⟨k + 1, by omega, by go_num, by rw [Hnext.out]; exact HJ3, HB3⟩
            case measure => simp [intOf]; omega
          · have HJ3 := Lib.hid hJx3; clear hJx3
            gi_wp2
            refine bodyPost_ret (results_none rfl _ _ _) rfl ?_
            exact ⟨⟨_, rfl⟩, .inr ⟨_, trivial, HJ3.out⟩⟩
    · have hk8 : k = 8 := by omega
      subst hk8
      gi_wp2
      go_end0
      exact ⟨⟨_, rfl⟩, .inl ⟨_, rfl, I.out⟩⟩
end Go.Proofs.YtolbmemogoojhaaGreat
/- Two records joined: the code. -/
namespace Go.Proofs.YtolbmemogoojhaaGreat
open Go Go.RowKit Go.Deep Go.Shelf
set_option linter.unusedVariables false
set_option linter.unusedSimpArgs false
set_option maxRecDepth 100000

theorem arr16 {A : Array Value} (h : A.size = 16) : ∃ a0 a1 a2 a3 a4 a5 a6 a7 a8 a9 a10 a11 a12 a13 a14 a15, A = #[a0, a1, a2, a3, a4, a5, a6, a7, a8, a9, a10, a11, a12, a13, a14, a15] := by
  obtain ⟨l⟩ := A
  match l, h with
  | [a0, a1, a2, a3, a4, a5, a6, a7, a8, a9, a10, a11, a12, a13, a14, a15], _ => exact ⟨a0, a1, a2, a3, a4, a5, a6, a7, a8, a9, a10, a11, a12, a13, a14, a15, rfl⟩
theorem built_id_dead {A : Array Value} (h : A.size = 16) (N R : Int) : Tryz.prog.built 33 [(0, .agg A), (1, .agg #[.int .i64 N, .int .i64 R])] = some (recA A N R (.slice none 0 0)) := by
  obtain ⟨a0, a1, a2, a3, a4, a5, a6, a7, a8, a9, a10, a11, a12, a13, a14, a15, rfl⟩ := arr16 h
  kernel_rfl
def zid : List UInt8 := List.replicate 16 0
theorem zid_length : zid.length = 16 := by simp [zid]
theorem built_none : Tryz.prog.built 33 [] = some (recA (encU zid).toArray 0 0 (.slice none 0 0)) := by kernel_rfl
theorem zero_rec : (Tryz.prog.info? 33).map (·.zero) = some (some (.agg (recA (encU zid).toArray 0 0 (.slice none 0 0)))) := by kernel_rfl
theorem encU_arr16 {a : List UInt8} (h : a.length = 16) : (encU a).toArray.size = 16 := by simp [encU_length, h]
theorem recA_one {A : Array Value} {N R : Int} {v : Value} (hA : A.all (·.oneCell') = true) (hv : v.oneCell' = true) : (recA A N R v).all (·.oneCell') = true := by
  unfold recA; rw [Array.all_append, hA]; simp [Value.oneCell']; exact hv
theorem encU_all (a : List UInt8) : (encU a).toArray.all (·.oneCell') = true := by simp [encU, Value.oneCell']
theorem flds_one {w : World} {v : Value} {l : List F4} (h : Flds w v l) : v.oneCell' = true := by obtain ⟨_, a, c, rfl, _⟩ := h; rfl
theorem Flds.slice {w : World} {v : Value} {l : List F4} (h : Flds w v l) : ∃ a n c, v = .slice a n c := by obtain ⟨_, a, c, rfl, _⟩ := h; exact ⟨_, _, _, rfl⟩

section
variable {P : Program} {ops : Array Oper} {rest : List Oper} {o : Oper} {a : Act} {w : World} {Q : Exit → Act → World → Prop}
theorem results_cell_tmp {fn : Func} {p q : Tmp} {ty : TypeId} (h : fn.results = #[.cell p ty, .tmp q]) (tmps : Array Value) (w : World) (g : Nat) (cs : Array Value) (d : TypeDesc) (y : Value)
    (hp : tmps.getD p undef = .pointer (some ⟨g, 0, none⟩)) (hy : tmps.getD q undef = y) (hg : Sub w g 0 cs)
    (hu : P.underlying ty = some d) (hd : (match d with | .struct _ | .array _ _ => true | _ => false) = true) (hi : (P.info? ty).map (·.size) = some cs.size) :
    (results fn tmps).run P w = .ok (.tuple #[.agg cs, y]) w := by
  have hp' : tmps[p]?.getD undef = .pointer (some ⟨g, 0, none⟩) := by simpa using hp
  have hy' : tmps[q]?.getD undef = y := by simpa using hy
  simp [results, h, hp', hy', asAddr, run_load_sub w g 0 ty cs d hg hu hd hi]
theorem quiet_build_to {C : World → Prop} {K : Act → Prop} (t : TypeId) (parts : Array (Nat × Operand)) (ho : o.op = .build t parts) (dst : Option Tmp) (hdst : o.dst = dst) (cells : Array Value)
    (hf : P.built t (parts.map fun (i, x) => (i, a.eval x)).toList = some cells) (h : K (a.put dst (.agg cells))) : o.quiet P a C K := by
  subst hdst
  refine ⟨.agg cells, fun w hw => ?_, h⟩
  unfold Oper.quietAt execOp
  simp only [ho, Sem.run_bind, run_build w t _ cells hf, Result.andThen_ok, Sem.run_pure]
  exact ⟨rfl, rfl⟩
end
theorem Blk.subA {w : World} {b : Nat} {t : TypeId} {cs : Array Value} (h : Blk w b t cs) : Sub w b 0 cs := fun j u hj => by rw [h.cell, Nat.zero_add]; exact hj

set_option maxHeartbeats 800000 in
theorem fields_c (b : Nat) (N R : Int) (w : World) : Calls Tryz.prog 88 #[.map (some b), .agg #[.int .i64 N, .int .i64 R]] w fun e w' =>
    e = .returned (.func (.func 122) #[] #[.pointer (some ⟨w.heap.size, 0, none⟩), .pointer (some ⟨w.heap.size + 1, 0, none⟩)]) ∧ Below w.heap.size w w' ∧ w'.heap.size = w.heap.size + 2 ∧
      w'.cell? ⟨w.heap.size, 0, none⟩ = some (.map (some b)) ∧ w'.cell? ⟨w.heap.size + 1, 0, none⟩ = some (.int .i64 N) ∧ w'.cell? ⟨w.heap.size + 1, 1, none⟩ = some (.int .i64 R) := by
  have hAc := @after_cell
  have hAf := @after_frozen
  have hSz := sz_facts
  go_enter Tryz.func88, Tryz.ntmps88
  go_wp2
  go_ret
  exact ⟨rfl, by (repeat (first | exact Below.refl _ _ | assumption | refine bel_alloc ?_ _ | refine bel_after _ ?_ | refine bel_drewN ?_ _ | refine bel_drew ?_ | refine bel_set ?_ (by first | omega | (simp only [zYA, zYD, zYC]; omega) | (simp; omega)) _)), by simp, by go_simp, by go_simp, by go_simp⟩
theorem fields_stops (Bm Bd b n₀ bo : Nat) (m : List F4) (N R : Int) (w : World)
    (hcm : w.cell? ⟨Bm, 0, none⟩ = some (.map (some b))) (hcN : w.cell? ⟨Bd, 0, none⟩ = some (.int .i64 N)) (hcR : w.cell? ⟨Bd, 1, none⟩ = some (.int .i64 R)) (hm : MapAt w b encI (mapF m))
    (l1 : Bm < n₀) (l2 : Bd < n₀) (l3 : b < n₀) (l4 : n₀ ≤ w.heap.size) (d1 : Bm ≠ bo) (d2 : Bd ≠ bo) (d3 : b ≠ bo) :
    SeqStopsK Fence.wide 4 Tryz.prog 122 #[.pointer (some ⟨Bm, 0, none⟩), .pointer (some ⟨Bd, 0, none⟩)] (fun x : F4 => #[fV x]) (ButB n₀ bo) (fun ys => ys = outTo N R m 8) (fun _ => True) 8 w :=
  fun l J Jx W hW hJ _ hY h0 => fields1_in l Bm Bd b n₀ bo m N R J Jx W hJ hY (cell_below hW _ _ _ hcm) (cell_below hW _ _ _ hcN) (cell_below hW _ _ _ hcR) (hm.below hW hm.lt) l1 l2 l3 (Nat.le_trans l4 hW.size) d1 d2 d3 h0
theorem gput_v {b : Nat} {m m' : List F4} {A : Array Value} (hA : A.size = 16) {N R : Int} {v : Value} {l : List F4} (h : putAll m l = m') (sm : Small m) (sl : Small l) (w : World) (hm : MapAt w b encI (mapF m)) (hv : Flds w v l) :
    Calls Tryz.prog 86 #[.map (some b), .agg (recA A N R v)] w fun e w' => (∃ u, e = .returned u) ∧ MapAt w' b encI (mapF m') ∧ But b w w' := by
  subst h; exact gput_c b m A hA N R v l w hm hv sm sl
theorem recmay_v {A : Array Value} (hA : A.size = 16) {N R : Int} {v : Value} {l : List F4} {b : Bool} (h : recMay N R l = b) (w : World) (hv : Flds w v l) : Calls Tryz.prog 56 #[.agg (recA A N R v)] w fun e w' => e = .returned (.bool b) ∧ Below w.heap.size w w' := by
  subst h; exact recmay_c A hA N R v l w hv

set_option maxHeartbeats 3200000 in
theorem recjoin_no (a a' : List UInt8) (ha : a.length = 16) (ha' : a'.length = 16) (N R N' R' : Int) (v v' : Value) (l l' : List F4) (w : World) (hv : Flds w v l) (hv' : Flds w v' l') (hno : (recMay N R l && recMay N' R' l' && (a == a')) = false) :
    Calls Tryz.prog 51 #[.agg (recA (encU a).toArray N R v), .agg (recA (encU a').toArray N' R' v')] w fun e w' => e = .returned (.tuple #[.agg (recA (encU zid).toArray 0 0 (.slice none 0 0)), .bool false]) ∧ Below w.heap.size w w' := by
  have hAc := @after_cell
  have hAf := @after_frozen
  have hSz := sz_facts
  obtain ⟨A, eA⟩ : ∃ A, A = (encU a).toArray := ⟨_, rfl⟩
  obtain ⟨B, eB⟩ : ∃ B, B = (encU a').toArray := ⟨_, rfl⟩
  obtain ⟨Z, eZ⟩ : ∃ Z, Z = recA (encU zid).toArray 0 0 (.slice none 0 0) := ⟨_, rfl⟩
  have hA : A.size = 16 := by rw [eA]; exact encU_arr16 ha
  have hB : B.size = 16 := by rw [eB]; exact encU_arr16 ha'
  have hZ : Z.size = 19 := by rw [eZ]; exact recA_size (encU_arr16 zid_length)
  have hZ1 : Z.all (·.oneCell') = true := by rw [eZ]; exact recA_one (encU_all _) rfl
  have hzi : (Tryz.prog.info? 33).map (·.size) = some Z.size := by rw [hZ]; kernel_rfl
  have hzz : (Tryz.prog.info? 33).map (·.zero) = some (some (.agg Z)) := by rw [eZ]; exact zero_rec
  have hzb : Tryz.prog.built 33 [] = some Z := by rw [eZ]; exact built_none
  have hq := fun W => neq_id a a' ha ha' W
  rw [← eA, ← eB] at hq ⊢
  rw [← eZ]
  clear eA eB eZ
  have Hzi := Lib.hid hzi; have Hzz := Lib.hid hzz; have Hzb := Lib.hid hzb; have HZ1 := Lib.hid hZ1; clear hzi hzz hzb hZ1
  have hbox : ∀ w1, Blk w1 w.heap.size 33 (recA A N R v) → _ := fun w1 k => rec_cells k hA
  have hbox2 : ∀ w1, Blk w1 (w.heap.size + 1) 33 (recA B N' R' v') → _ := fun w1 k => rec_cells k hB
  have Hv := Lib.hid hv; have Hv' := Lib.hid hv'; clear hv hv'
  obtain ⟨p, H1⟩ : ∃ p, Hid (recMay N R l = p) := ⟨_, rfl⟩
  obtain ⟨q, H2⟩ : ∃ q, Hid (recMay N' R' l' = q) := ⟨_, rfl⟩
  obtain ⟨r, H3⟩ : ∃ r, Hid ((a == a') = r) := ⟨_, rfl⟩
  have hq' : ∀ W, _ := hq
  rw [H3.out] at hq
  clear hq'
  have hcase : p = false ∨ p = true ∧ q = false ∨ p = true ∧ q = true ∧ r = false := by
    rw [H1.out, H2.out, H3.out] at hno; revert hno; cases p <;> cases q <;> cases r <;> simp
  clear hno
  rcases hcase with rfl | ⟨rfl, rfl⟩ | ⟨rfl, rfl, rfl⟩
  all_goals
    go_enter Tryz.func51, Tryz.ntmps51
    go_wp2_with (first | ((fail_if_success have := k1); refine wpList_box_blk rfl 33 _ rfl _ rfl (recA A N R v) rfl ?_; intro w1 k1 b1 s1; obtain ⟨y1, rfl⟩ := after_of b1; obtain ⟨c16, c17, c18, csub, call⟩ := hbox _ k1; clear hbox) | ((fail_if_success have := k2); refine wpList_box_blk rfl 33 _ rfl _ rfl (recA B N' R' v') rfl ?_; intro w2 k2 b2 s2; obtain ⟨y2, rfl⟩ := after_of b2; rw [s1] at k2; obtain ⟨d16, d17, d18, dsub, dall⟩ := hbox2 _ k2; clear hbox2) | ((fail_if_success have := k3); refine wpList_alloc_blk rfl 33 rfl _ rfl (.agg Z) Z Hzz.out rfl ?_; intro w3 k3 b3 s3; obtain ⟨y3, rfl⟩ := after_of b3; rw [s2, s1] at k3) | (refine wpList_load_sub rfl 33 _ rfl _ rfl w.heap.size 0 rfl (recA A N R v) _ (by repeat (first | exact call | refine Sub.after ?_ _)) Tryz.underlying33 rfl (info_rec hA) ?_) | (refine wpList_load_sub rfl 33 _ rfl _ rfl (w.heap.size + 1) 0 rfl (recA B N' R' v') _ (by repeat (first | exact dall | refine Sub.after ?_ _)) Tryz.underlying33 rfl (info_rec hB) ?_) | (refine wpList_load_sub rfl 26 _ rfl _ rfl w.heap.size 0 rfl A _ (by repeat (first | exact csub | refine Sub.after ?_ _)) Tryz.underlying26 rfl (info_id hA) ?_) | (refine wpList_load_sub rfl 26 _ rfl _ rfl (w.heap.size + 1) 0 rfl B _ (by repeat (first | exact dsub | refine Sub.after ?_ _)) Tryz.underlying26 rfl (info_id hB) ?_) | ((fail_if_success have := t5); refine wpList_build_to rfl 33 _ rfl _ rfl Z ?_ ?_; (focus (simpa using Hzb.out)); have t5 := trivial) | ((fail_if_success have := k5); refine wpList_store_blk rfl 33 _ _ rfl (w.heap.size + 1 + 1) Z rfl rfl 33 Z ?_ Hzi.out rfl HZ1.out ?_; (focus (repeat (first | exact k3 | refine Blk.after ?_ _))); intro w5 k5 b5 s5) | (go_at_call 56; (with_reducible refine (recmay_v hA H1.out _ (Hv.out.below (by (repeat (first | exact Below.refl _ _ | assumption | refine bel_alloc ?_ _ | refine bel_after _ ?_ | refine bel_drewN ?_ _ | refine bel_drew ?_ | refine bel_set ?_ (by first | omega | (simp only [zYA, zYD, zYC]; omega) | (simp; omega)) _))))).mono ?_); rintro e w' ⟨rfl, hb⟩; obtain ⟨x1, rfl⟩ := after_of hb; clear hb) | (go_at_call 56; (with_reducible refine (recmay_v hB H2.out _ (Hv'.out.below (by (repeat (first | exact Below.refl _ _ | assumption | refine bel_alloc ?_ _ | refine bel_after _ ?_ | refine bel_drewN ?_ _ | refine bel_drew ?_ | refine bel_set ?_ (by first | omega | (simp only [zYA, zYD, zYC]; omega) | (simp; omega)) _))))).mono ?_); rintro e w' ⟨rfl, hb⟩; obtain ⟨x2, rfl⟩ := after_of hb; clear hb))
  · have hb : Below w.heap.size w x1.w := by (repeat (first | exact Below.refl _ _ | assumption | refine bel_alloc ?_ _ | refine bel_after _ ?_ | refine bel_drewN ?_ _ | refine bel_drew ?_ | refine bel_set ?_ (by first | omega | (simp only [zYA, zYD, zYC]; omega) | (simp; omega)) _))
    exact bodyPost_ret (results_cell_tmp Tryz.results51 _ _ (w.heap.size + 1 + 1) Z _ _ rfl rfl k5.subA Tryz.underlying33 rfl Hzi.out) rfl ⟨rfl, hb.trans (b5.below (by omega) hb.size)⟩
  all_goals
    have hb : Below w.heap.size w x2.w := by (repeat (first | exact Below.refl _ _ | assumption | refine bel_alloc ?_ _ | refine bel_after _ ?_ | refine bel_drewN ?_ _ | refine bel_drew ?_ | refine bel_set ?_ (by first | omega | (simp only [zYA, zYD, zYC]; omega) | (simp; omega)) _))
    exact bodyPost_ret (results_cell_tmp Tryz.results51 _ _ (w.heap.size + 1 + 1) Z _ _ rfl rfl k5.subA Tryz.underlying33 rfl Hzi.out) rfl ⟨rfl, hb.trans (b5.below (by omega) hb.size)⟩
end Go.Proofs.YtolbmemogoojhaaGreat
/- Two records joined: the code, where both may be and are of one name. -/
namespace Go.Proofs.YtolbmemogoojhaaGreat
open Go Go.RowKit Go.Deep Go.Shelf
set_option linter.unusedVariables false
set_option linter.unusedSimpArgs false
set_option maxRecDepth 100000
attribute [local go_sem] Oper.semAt_some

theorem fMay_small {N R : Int} : ∀ {l : List F4} {k : Int}, fMay N R k l = true → Small l
  | [], _, _ => fun f hf => by cases hf
  | f :: l, k, h => by
    unfold fMay at h
    simp only [Bool.and_eq_true] at h
    intro g hg
    rcases List.mem_cons.1 hg with rfl | hg
    · have := (cMay_le h.1.1.2).2.2; omega
    · exact fMay_small h.2 g hg
theorem recMay_small {N R : Int} {l : List F4} (h : recMay N R l = true) : Small l := by
  unfold recMay at h; simp only [Bool.and_eq_true] at h; exact fMay_small h.2
theorem max_v {N R N' R' X Y : Int} (hX : mxN N R N' R' = X) (hY : mxR N R N' R' = Y) (w : World) : Calls Tryz.prog 87 #[.agg #[.int .i64 N, .int .i64 R], .agg #[.int .i64 N', .int .i64 R']] w fun e w' => e = .returned (.agg #[.int .i64 X, .int .i64 Y]) ∧ Below w.heap.size w w' := by
  subst hX hY; exact max_m N R N' R' w
/-- Fields that the call owns. -/
def OwnF (base : Nat) (w : World) (v : Value) (l : List F4) : Prop := w.ownsRow base 82 4 v l.length (fieldsL l)
theorem OwnF.flds {base : Nat} {w : World} {v : Value} {l : List F4} (h : OwnF base w v l) : Flds w v l := row_of_own h
theorem OwnF.below {base : Nat} {w w' : World} {v : Value} {l : List F4} (h : OwnF base w v l) (hb : Below w.heap.size w w') : OwnF base w' v l := own_below h hb
theorem OwnF.nil (base : Nat) (w : World) : OwnF base w (.slice none 0 0) [] := World.ownsRow_nil _ _ _ _
theorem OwnF.kept {base : Nat} {w w' : World} {v : Value} {l : List F4} {row : Option Nat} (h : OwnF base w v l) (hg : w.grownBy w' row) (hne : v.ownBlock = none ∨ v.ownBlock ≠ row) : OwnF base w' v l := World.ownsRow.kept h hg hne
theorem MapAt.newF (w : World) : MapAt (w.alloc (.map #[] 0)) w.heap.size encI (mapF []) := MapAt.new w
theorem bel_put {w w' : World} {o : Obj} (h : But w.heap.size (w.alloc o) w') : Below w.heap.size w w' := (bel_alloc (Below.refl _ _) o).trans (h.below (Nat.le_refl _) (by simp))
theorem info_field : (Tryz.prog.info? 82).map (fun i => (i.zero, i.size, i.bytes)) = some (some (.agg #[.int .i64 0, .int .i64 0, .int .i64 0, .string ⟨#[]⟩]), 4, 40) := by kernel_rfl
theorem recA_set {A : Array Value} (hA : A.size = 16) (X Y : Int) (s v : Value) : (recA A X Y s).setIfInBounds 18 v = recA A X Y v := by
  unfold recA
  apply Array.ext_getElem?
  intro i
  rw [Array.getElem?_setIfInBounds]
  by_cases h : 18 = i
  · subst h; simp [hA, Array.getElem?_append]
  · rw [if_neg h]
    rw [Array.getElem?_append, Array.getElem?_append]
    by_cases h2 : i < A.size
    · rw [if_pos h2, if_pos h2]
    · rw [if_neg h2, if_neg h2, hA]
      rcases Nat.lt_or_ge i 19 with h3 | h3
      · have : i = 16 ∨ i = 17 := by omega
        rcases this with rfl | rfl <;> rfl
      · rw [Array.getElem?_eq_none (by simp; omega), Array.getElem?_eq_none (by simp; omega)]
theorem Blk.kept {w w' : World} {b : Nat} {t : TypeId} {cs : Array Value} {row : Option Nat} (h : Blk w b t cs) (hg : w.grownBy w' row) (hne : some b ≠ row) : Blk w' b t cs := (hg.block b h.lt hne).trans h
theorem OwnF.block {base : Nat} {w : World} {v : Value} {l : List F4} (h : OwnF base w v l) : v.ownBlock = none ∨ ∃ k cs t, v.ownBlock = some k ∧ base ≤ k ∧ w.heap[k]? = some (.cells cs t (0, 0)) := by
  obtain ⟨_, ⟨rfl, _⟩ | ⟨g, cap, cur, rfl, hb, hg, _⟩⟩ := h
  · exact .inl rfl
  · exact .inr ⟨g, _, _, rfl, hb, hg⟩
theorem alloc_cells (W : World) (cs : Array Value) (t : TypeId) (j : Nat) (u : Value) (h : cs.toList[j]? = some u) : (W.alloc (.cells cs t)).cell? ((⟨W.heap.size, 0, none⟩ : Addr).add j) = some u := by
  rw [Addr.add_lit, Nat.zero_add, (Blk.new W t cs).cell]; simpa using h
theorem gr_set (W : World) (b o : Nat) (v : Value) : W.grownBy (W.setCell ⟨b, o, none⟩ v) (some b) :=
  ⟨rfl, rfl, rfl, by simp, fun k _ hk => Below.heap_setCell _ _ _ k (fun e => hk (by rw [e]))⟩
/-- One field more, put into the record's slot. -/
theorem field_more {B g : Nat} {A : Array Value} {X Y : Int} {W w1 : World} {s v' : Value} {pre : List F4} {x : F4} {o : Obj} (hA : A.size = 16) (hgB : g < B) (hB : B ≤ W.heap.size) (kb : Blk W g 33 (recA A X Y s)) (own : OwnF B W s pre)
    (own1 : w1.ownsRow B 82 4 v' (pre.length + 1) (fieldsL pre ++ fieldsL [x])) (grow : (W.alloc o).grownBy w1 s.ownBlock) :
    w1.cell? ⟨g, 18, none⟩ = some s ∧ w1.frozen? ⟨g, 18, none⟩ = false ∧ KeepsOthers W (w1.setCell ⟨g, 18, none⟩ v') ∧ ButB B g W (w1.setCell ⟨g, 18, none⟩ v') ∧ Blk (w1.setCell ⟨g, 18, none⟩ v') g 33 (recA A X Y v') ∧ OwnF B (w1.setCell ⟨g, 18, none⟩ v') v' (pre ++ [x]) := by
  have hgs : some g ≠ s.ownBlock := by
    rcases own.block with h | ⟨k, _, _, h, hk, _⟩
    · intro he; rw [h] at he; cases he
    · intro he; rw [h] at he; cases he; omega
  have k1 : Blk w1 g 33 (recA A X Y s) := (kb.alloc o).kept grow hgs
  have hko : KeepsOthers W w1 := (KeepsOthers.alloc _ _).trans (KeepsOthers.of_grownBy grow fun j ob hj ho => by
    rcases own.block with h | ⟨k, cs, t, h, hk, hc⟩
    · rw [h] at hj; cases hj
    · rw [h] at hj; cases hj
      rw [Below.heap_alloc _ _ _ (Array.getElem?_eq_some_iff.1 hc).1, hc] at ho; cases ho; rfl)
  have hbb : ButB B g W w1 := ⟨grow.os, grow.tape, grow.output, Nat.le_trans (by simp) grow.size, fun k hk hne => by
    have h1 : (W.alloc o).heap[k]? = W.heap[k]? := Below.heap_alloc _ _ _ (by omega)
    rw [← h1]
    refine grow.block k (by simp; omega) ?_
    rcases own.block with h | ⟨k', _, _, h, hk', _⟩
    · intro he; rw [h] at he; cases he
    · intro he; rw [h] at he; cases he; omega⟩
  obtain ⟨_, _, c18, _, _⟩ := rec_cells k1 hA
  have e : fieldsL pre ++ fieldsL [x] = fieldsL (pre ++ [x]) := (fieldsL_append _ _).symm
  have own2 : OwnF B w1 v' (pre ++ [x]) := by unfold OwnF; rw [List.length_append, ← e]; exact own1
  have hgv : v'.ownBlock = none ∨ v'.ownBlock ≠ some g := by
    rcases own2.block with h | ⟨k, _, _, h, hk, _⟩
    · exact .inl h
    · right; intro he; rw [h] at he; cases he; omega
  refine ⟨c18, k1.frozen 18, hko.trans (KeepsOthers.setCell _ _ _), hbb.set 18 v', by rw [← recA_set hA X Y s v']; exact k1.set 18 v', own2.kept (gr_set w1 g 18 v') hgv⟩
set_option maxHeartbeats 3200000 in
theorem recjoin_yes (a : List UInt8) (ha : a.length = 16) (N R N' R' : Int) (v v' : Value) (l l' : List F4) (w : World) (hv : Flds w v l) (hv' : Flds w v' l') (h1 : recMay N R l = true) (h2 : recMay N' R' l' = true) :
    Calls Tryz.prog 51 #[.agg (recA (encU a).toArray N R v), .agg (recA (encU a).toArray N' R' v')] w fun e w' =>
      ∃ s, e = .returned (.tuple #[.agg (recA (encU a).toArray (mxN N R N' R') (mxR N R N' R') s), .bool true]) ∧ OwnF w.heap.size w' s (outTo (mxN N R N' R') (mxR N R N' R') (putAll (putAll [] l) l') 8) ∧ Below w.heap.size w w' := by
  have hAc := @after_cell
  have hAf := @after_frozen
  have hSz := sz_facts
  have hfn := fence_fn
  obtain ⟨A, eA⟩ : ∃ A, A = (encU a).toArray := ⟨_, rfl⟩
  obtain ⟨Z, eZ⟩ : ∃ Z, Z = recA (encU zid).toArray 0 0 (.slice none 0 0) := ⟨_, rfl⟩
  have hA : A.size = 16 := by rw [eA]; exact encU_arr16 ha
  have hA1 : A.all (·.oneCell') = true := by rw [eA]; exact encU_all _
  have hZ : Z.size = 19 := by rw [eZ]; exact recA_size (encU_arr16 zid_length)
  have hzz : (Tryz.prog.info? 33).map (·.zero) = some (some (.agg Z)) := by rw [eZ]; exact zero_rec
  have hq := fun W => neq_id a a ha ha W
  simp only [beq_self_eq_true, Bool.not_true] at hq
  obtain ⟨X, hX⟩ : ∃ X, Hid (mxN N R N' R' = X) := ⟨_, rfl⟩
  obtain ⟨Y, hY⟩ : ∃ Y, Hid (mxR N R N' R' = Y) := ⟨_, rfl⟩
  rw [← eA] at hq ⊢
  clear eA eZ
  rw [hX.out, hY.out]
  obtain ⟨m1, hm1⟩ : ∃ m1, Hid (putAll [] l = m1) := ⟨_, rfl⟩
  have sl := recMay_small h1
  have sl' := recMay_small h2
  have Sn : Hid (Small []) := Lib.hid (fun f hf => by cases hf)
  have S1 : Hid (Small m1) := Lib.hid (by rw [← hm1.out]; exact putAll_small Sn.out sl)
  rw [hm1.out]
  obtain ⟨m2, hm2⟩ : ∃ m2, Hid (putAll m1 l' = m2) := ⟨_, rfl⟩
  rw [hm2.out]
  have Sl := Lib.hid sl; have Sl' := Lib.hid sl'; have HZ := Lib.hid hZ
  have Hzz := Lib.hid hzz; have HA1 := Lib.hid hA1; clear hzz hA1 sl sl' hZ
  have hbox : ∀ w1, Blk w1 w.heap.size 33 (recA A N R v) → _ := fun w1 k => rec_cells k hA
  have hbox2 : ∀ w1, Blk w1 (w.heap.size + 1) 33 (recA A N' R' v') → _ := fun w1 k => rec_cells k hA
  have H1 := Lib.hid h1; have H2 := Lib.hid h2
  have Hv := Lib.hid hv; have Hv' := Lib.hid hv'; clear hv hv' h1 h2
  have hmm := @run_makeMap Tryz.prog
  refine (callsIn_wide (n := 5)).1 (callsIn_of_wp_marks Tryz.func51 rfl trivial (wpIn_wide.2 ?_) rfl)
  simp only [Tryz.ntmps51, List.size_toArray, List.length_cons, List.length_nil, Nat.reduceAdd, Nat.reduceSub, Array.replicate_succ, Array.replicate_zero, List.push_toArray, List.append_toArray, List.nil_append, List.cons_append]
  go_wp2_with (first | ((fail_if_success have := k1); refine wpList_box_blk rfl 33 _ rfl _ rfl (recA A N R v) rfl ?_; intro w1 k1 b1 s1; obtain ⟨y1, rfl⟩ := after_of b1; obtain ⟨c16, c17, c18, csub, call⟩ := hbox _ k1; clear hbox) | ((fail_if_success have := k2); refine wpList_box_blk rfl 33 _ rfl _ rfl (recA A N' R' v') rfl ?_; intro w2 k2 b2 s2; obtain ⟨y2, rfl⟩ := after_of b2; rw [s1] at k2; obtain ⟨d16, d17, d18, dsub, dall⟩ := hbox2 _ k2; clear hbox2) | ((fail_if_success have := k3); refine wpList_alloc_blk rfl 33 rfl _ rfl (.agg Z) Z Hzz.out rfl ?_; intro w3 k3 b3 s3; obtain ⟨y3, rfl⟩ := after_of b3; rw [s2, s1] at k3 s3) | (refine wpList_load_sub rfl 33 _ rfl _ rfl w.heap.size 0 rfl (recA A N R v) _ (by repeat (first | exact call | refine Sub.after ?_ _ | refine Sub.alloc ?_ _)) Tryz.underlying33 rfl (info_rec hA) ?_) | (refine wpList_load_sub rfl 33 _ rfl _ rfl (w.heap.size + 1) 0 rfl (recA A N' R' v') _ (by repeat (first | exact dall | refine Sub.after ?_ _ | refine Sub.alloc ?_ _)) Tryz.underlying33 rfl (info_rec hA) ?_) | (refine wpList_load_sub rfl 26 _ rfl _ rfl w.heap.size 0 rfl A _ (by repeat (first | exact csub | refine Sub.after ?_ _ | refine Sub.alloc ?_ _)) Tryz.underlying26 rfl (info_id hA) ?_) | (refine wpList_load_sub rfl 26 _ rfl _ rfl (w.heap.size + 1) 0 rfl A _ (by repeat (first | exact dsub | refine Sub.after ?_ _ | refine Sub.alloc ?_ _)) Tryz.underlying26 rfl (info_id hA) ?_) | ((fail_if_success have := t5); go_at_call 56; (with_reducible refine (recmay_v hA H1.out _ (Hv.out.below (by (repeat (first | exact Below.refl _ _ | assumption | refine bel_alloc ?_ _ | refine bel_after _ ?_ | refine bel_drewN ?_ _ | refine bel_drew ?_ | refine bel_set ?_ (by first | omega | (simp only [zYA, zYD, zYC]; omega) | (simp; omega)) _))))).mono ?_); rintro e w' ⟨rfl, hb⟩; obtain ⟨x1, rfl⟩ := after_of hb; clear hb; have t5 := trivial; have z1 := szf3 (a := w.heap.size) (b := x1.w.heap.size) (by have := x1.h.size; omega)) | (go_at_call 56; (with_reducible refine (recmay_v hA H2.out _ (Hv'.out.below (by (repeat (first | exact Below.refl _ _ | assumption | refine bel_alloc ?_ _ | refine bel_after _ ?_ | refine bel_drewN ?_ _ | refine bel_drew ?_ | refine bel_set ?_ (by first | omega | (simp only [zYA, zYD, zYC]; omega) | (simp; omega)) _))))).mono ?_); rintro e w' ⟨rfl, hb⟩; obtain ⟨x2, rfl⟩ := after_of hb; clear hb; have z2 := szf3 (a := w.heap.size) (b := x2.w.heap.size) (by have := x2.h.size; have := x1.h.size; omega)) | ((fail_if_success have := t6); go_at_call 86; (with_reducible refine (gput_v hA hm1.out Sn.out Sl.out _ (MapAt.newF _) (Hv.out.below (by (repeat (first | exact Below.refl _ _ | assumption | refine bel_alloc ?_ _ | refine bel_after _ ?_ | refine bel_drewN ?_ _ | refine bel_drew ?_ | refine bel_set ?_ (by first | omega | (simp only [zYA, zYD, zYC]; omega) | (simp; omega)) _))))).mono ?_); rintro e w' ⟨⟨u, rfl⟩, M1, B1⟩; obtain ⟨x3, rfl⟩ := after_of (bel_put B1); have t6 := trivial; have z3 := szf3 (a := w.heap.size) (b := x3.w.heap.size) (by have := x3.h.size; have := x2.h.size; have := x1.h.size; omega)) | (go_at_call 86; (with_reducible refine (gput_v hA hm2.out S1.out Sl'.out _ M1 (Hv'.out.below (by (repeat (first | exact Below.refl _ _ | assumption | refine bel_alloc ?_ _ | refine bel_after _ ?_ | refine bel_drewN ?_ _ | refine bel_drew ?_ | refine bel_set ?_ (by first | omega | (simp only [zYA, zYD, zYC]; omega) | (simp; omega)) _))))).mono ?_); rintro e w' ⟨⟨u2, rfl⟩, M2, B2⟩; obtain ⟨x4, rfl⟩ := after_of (x3.h.trans (B2.below (Nat.le_refl _) x3.h.size)); have z4 := szf3 (a := w.heap.size) (b := x4.w.heap.size) (by have := x4.h.size; have := x2.h.size; have := x1.h.size; omega)))
  have HM2 := Lib.hid M2; clear M1 B1 M2 B2
  refine' wp_float_tail (cs := Z) 8 33 7 _ (by kernel_rfl) (by kernel_rfl) rfl Hzz.out rfl ?_ ?_
  case refine'_2 =>
    intro T
    have zT := szf3 (a := w.heap.size) (b := T.w.heap.size) (by have := T.h.size; have := x4.h.size; have := x2.h.size; have := x1.h.size; omega)
    simp only [strikeL, List.take_succ_cons, List.take_zero]
    repeat (first | (go_big_quiet_want; (refine quiet_load_sub 26 _ rfl _ rfl w.heap.size 0 rfl A _ ?_ Tryz.underlying26 rfl (info_id hA) ?_; rotate_left; (go_simp; go_big_quiet_on); rotate_left; (rintro _ ⟨x, rfl⟩; repeat (first | exact csub | refine Sub.after ?_ _)))) | (go_big_quiet_want; (refine quiet_build_to 33 _ rfl _ rfl (recA A X Y (.slice none 0 0)) ?_ ?_; (focus (simp [Act.eval, built_id_dead hA X Y]; done)); (go_simp; go_big_quiet_on))) | (go_big_quiet_step ((go_at_call 87; with_reducible exact after_call _ (max_v hX.out hY.out _)))))
    refine wpQuiet_nil ?_
    exact rfl
  intro g y5 hg5 k5
  simp only [List.drop_succ_cons, List.drop_zero, Act.put, List.setIfInBounds_toArray, List.set_cons_zero, List.set_cons_succ]
  have HoneR : Hid ((recA A X Y (.slice none 0 0)).all (·.oneCell') = true) := Lib.hid (recA_one HA1.out rfl)
  have HszR : Hid (Z.size = (recA A X Y (.slice none 0 0)).size) := Lib.hid (by rw [HZ.out, recA_size hA])
  go_wp2_with (first | ((fail_if_success have := k6); refine wpList_store_blk rfl 33 _ _ rfl g (recA A X Y (.slice none 0 0)) rfl rfl 33 Z k5 (info_rec hA) HszR.out HoneR.out ?_; intro w6 k6 b6 s6; clear s6; obtain ⟨e16, e17, e18, esub, eall⟩ := rec_cells k6 hA; have be6 : Below x4.w.heap.size x4.w w6 := y5.h.trans (b6.below hg5 y5.h.size); obtain ⟨y6, rfl⟩ := after_of be6) | (go_at_call 88; (with_reducible refine (fields_c _ _ _ _).mono ?_); rintro e w7 ⟨rfl, hb7, s7, f0, f1, f2⟩))
  have hgl : g < y6.w.heap.size := k6.lt
  have hbl : x2.w.heap.size < x4.w.heap.size := HM2.out.lt
  have hy6 := y6.h.size
  have hx4 : Below w.heap.size w x4.w := by (repeat (first | exact Below.refl _ _ | assumption | refine bel_alloc ?_ _ | refine bel_after _ ?_ | refine bel_drewN ?_ _ | refine bel_drew ?_ | refine bel_set ?_ (by first | omega | (simp only [zYA, zYD, zYC]; omega) | (simp; omega)) _))
  have hz7 : Below w.heap.size w w7 := hx4.trans ((y6.h.trans (hb7.mono y6.h.size)).mono hx4.size)
  have HM7 : MapAt w7 x2.w.heap.size encI (mapF m2) := (HM2.out.below y6.h hbl).below hb7 (by omega)
  have k7 := k6.below hb7 hgl
  have k37 : Blk w7 (w.heap.size + 1 + 1) 33 Z := (by repeat (first | exact k3 | refine Blk.after ?_ _) : Blk y6.w (w.heap.size + 1 + 1) 33 Z).below hb7 (by have := (by repeat (first | exact k3 | refine Blk.after ?_ _) : Blk y6.w (w.heap.size + 1 + 1) 33 Z).lt; exact this)
  have hd4 : w.heap.size + 1 + 1 < w7.heap.size := k37.lt
  have hd5 : w.heap.size + 1 + 1 ≠ g := by have := z4.2.2.2.2.2.2.1; have := of_eq_true this; omega
  refine (wpIn_wide (n := 5)).1 ?_
  refine wpIn_rangeFunc_ownH (F := Fence.wide) rfl (by omega) (gf := 122) (lb := #[.pointer (some ⟨y6.w.heap.size, 0, none⟩), .pointer (some ⟨y6.w.heap.size + 1, 0, none⟩)]) rfl trivial (enters_of Tryz.func122 (by kernel_rfl) rfl)
    (fields_stops y6.w.heap.size (y6.w.heap.size + 1) x2.w.heap.size w7.heap.size g m2 X Y w7 f0 f1 f2 HM7 (by omega) (by omega) (by omega) (Nat.le_refl _) (by omega) (by omega) (by omega))
    (fun h k => h.trans k) (fun W l o o' hl _ _ _ => ButB.putObj _ _ W l o' hl) (Below.refl _ _) (fun _ => rfl)
    (fun pre W => (∃ s, Blk W g 33 (recA A X Y s) ∧ OwnF w7.heap.size W s pre) ∧ ButB w7.heap.size g w7 W)
    (fun _ _ _ => False) ?hI (fun _ _ _ _ _ hs _ _ => hs) ⟨⟨_, k7, OwnF.nil _ _⟩, ButB.refl _ _ _⟩
    (fun x a' W => ∃ Bx t0 t1 t2 t3 t4 t5 t6 t9 t10 t11 t12 t13 t14 t15 t16 t17 t18 t19 t20 t21 t22 t23 t24 t25 t26 t27 t28 t29 t30 t31 t32 t33 t34 t35 t36 t37 t38 t39 t40 t41 t42 t43 t44 t45 t46 t47 t48 t49 t50 t51, w7.heap.size ≤ Bx ∧ Blk W Bx 82 #[.int .i64 x.1, .int .i64 x.2.1, .int .i64 x.2.2.1, .string x.2.2.2] ∧ a' = { tmps := #[t0, t1, t2, t3, t4, t5, t6, .pointer (some ⟨g, 0, none⟩), .pointer (some ⟨Bx, 0, none⟩), t9, t10, t11, t12, t13, t14, t15, t16, t17, t18, t19, t20, t21, t22, t23, t24, t25, t26, t27, t28, t29, t30, t31, t32, t33, t34, t35, t36, t37, t38, t39, t40, t41, t42, t43, t44, t45, t46, t47, t48, t49, t50, t51], defers := [] })
    ?hAx ?assign ?body ?done ?stop
  case hI =>
    rintro s W W' row ⟨⟨sv, h1, h2⟩, h3⟩ hg hr
    refine ⟨⟨sv, h1.kept hg fun he => ?_, h2.kept hg ?_⟩, h3.trans ⟨hg.os, hg.tape, hg.output, hg.size, fun k hk _ => hg.block k (by have := h3.size; omega) fun he => by have := (hr k he.symm).1; omega⟩⟩
    · obtain ⟨_, o, ho, hc⟩ := hr g he.symm
      rw [show W.heap[g]? = _ from h1] at ho; cases ho; cases hc
    · rcases h2.block with h | ⟨k, cs, t, h, hk, hc⟩
      · exact .inl h
      · right; rw [h]; intro he
        obtain ⟨_, o, ho, hc'⟩ := hr k he.symm
        rw [hc] at ho; cases ho; cases hc'
  case hAx =>
    rintro x a' _ W W' row ⟨Bx, t0, t1, t2, t3, t4, t5, t6, t9, t10, t11, t12, t13, t14, t15, t16, t17, t18, t19, t20, t21, t22, t23, t24, t25, t26, t27, t28, t29, t30, t31, t32, t33, t34, t35, t36, t37, t38, t39, t40, t41, t42, t43, t44, t45, t46, t47, t48, t49, t50, t51, h1, h2, h3⟩ hg hr
    refine ⟨Bx, t0, t1, t2, t3, t4, t5, t6, t9, t10, t11, t12, t13, t14, t15, t16, t17, t18, t19, t20, t21, t22, t23, t24, t25, t26, t27, t28, t29, t30, t31, t32, t33, t34, t35, t36, t37, t38, t39, t40, t41, t42, t43, t44, t45, t46, t47, t48, t49, t50, t51, h1, h2.kept hg fun he => ?_, h3⟩
    obtain ⟨_, o, ho, hc⟩ := hr Bx he.symm
    rw [show W.heap[Bx]? = _ from h2] at ho; cases ho; cases hc
  case assign =>
    rintro l3 pre ⟨no, fN, fR, fS⟩ W K ⟨⟨sv, h1, h2⟩, h3⟩ hK
    dsimp only [fV]
    gi_wp2
    have hba : ButB w7.heap.size g W (W.alloc (.cells #[.int .i64 no, .int .i64 fN, .int .i64 fR, .string fS] 82)) := ButB.of_below (bel_alloc (Below.refl _ _) _) h3.size
    exact hK _ _ ((KeepsOthers.alloc _ _).from _) hba ⟨⟨sv, h1.alloc _, h2.below (bel_alloc (Below.refl _ _) _)⟩, h3.trans hba⟩ ⟨W.heap.size, _, _, _, _, _, _, _, _, _, _, _, _, _, _, _, _, _, _, _, _, _, _, _, _, _, _, _, _, _, _, _, _, _, _, _, _, _, _, _, _, _, _, _, _, _, _, _, _, _, _, h3.size, Blk.new _ _ _, rfl⟩
  case body =>
    rintro l3 pre ⟨no, fN, fR, fS⟩ a' W hl ⟨r3, hr3⟩ ⟨⟨sv, h1, h2⟩, h3⟩ ⟨Bx, t0, t1, t2, t3, t4, t5, t6, t9, t10, t11, t12, t13, t14, t15, t16, t17, t18, t19, t20, t21, t22, t23, t24, t25, t26, t27, t28, t29, t30, t31, t32, t33, t34, t35, t36, t37, t38, t39, t40, t41, t42, t43, t44, t45, t46, t47, t48, t49, t50, t51, hBx, hkx, rfl⟩ hlt
    obtain ⟨e16, e17, e18, esub, eall⟩ := rec_cells h1 hA
    have x0 := hkx.cell 0
    have x1 := hkx.cell 1
    have x2 := hkx.cell 2
    have x3 := hkx.cell 3
    simp only [List.getElem?_toArray, List.getElem?_cons_zero, List.getElem?_cons_succ] at x0 x1 x2 x3
    obtain ⟨i0, hi, hzz⟩ := Option.map_eq_some_iff.1 info_field
    simp only [Prod.mk.injEq] at hzz
    obtain ⟨hz0, hz1, hz2⟩ := hzz
    have HI : Hid (Tryz.prog.info? 82 = some i0 ∧ i0.zero = some (.agg #[.int .i64 0, .int .i64 0, .int .i64 0, .string ⟨#[]⟩]) ∧ i0.size = 4 ∧ i0.bytes = 40) := Lib.hid ⟨hi, hz0, hz1, hz2⟩
    clear hi hz0 hz1 hz2
    have H1' := Lib.hid h1; have H2' := Lib.hid h2; have H3' := Lib.hid h3; clear h1 h2 h3
    have HL8 : Hid (pre.length < 8) := Lib.hid hlt; clear hlt
    have hgB : g < w7.heap.size := by omega
    have HB' : Hid (g < w7.heap.size) := Lib.hid hgB
    have hWs : Hid (w7.heap.size ≤ W.heap.size) := Lib.hid H3'.out.size
    have hWn : Hid (w7.heap.size ≤ W.heap.size + 1) := Lib.hid (by have := H3'.out.size; omega)
    clear hgB hy6 s7
    gi_wp2_with (gi_at_builtin; refine wpListIn_append_own _ rfl _ _ 31 rfl w7.heap.size 82 i0 (.agg #[.int .i64 0, .int .i64 0, .int .i64 0, .string ⟨#[]⟩]) 4 40 Tryz.underlying31 HI.out.1 HI.out.2.1 HI.out.2.2.1 HI.out.2.2.2 rfl (by decide) _ _ _ rfl (own_below H2'.out (bel_alloc (Below.refl _ _) _)) ⟨W.heap.size, 0, none⟩ 1 1 (fieldsL [(no, fN, fR, fS)]) rfl rfl ?_ (fieldsL_one _) ?_ ?_ ?_ ?_; (focus (exact fun j u hj => alloc_cells W _ _ j u hj)); (focus (have h8 := HL8.out; unfold maxLen; omega)); (focus (have h8 := HL8.out; omega)); (focus (simp; exact hWn.out)); intro v4 w4 own4 grow4 _; obtain ⟨q1, q2, q3, q4, q5, q6⟩ := field_more hA HB'.out hWs.out H1'.out H2'.out own4 grow4; have Q3 := Lib.hid q3; have Q4 := Lib.hid q4; have Q5 := Lib.hid q5; have Q6 := Lib.hid q6; clear q3 q4 q5 q6; obtain ⟨g4, c4, rfl⟩ := ownsRow_succ own4; clear own4 grow4)
    exact ⟨Q3.out.from _, Q4.out, ⟨_, Q5.out, Q6.out⟩, H3'.out.trans Q4.out⟩
  case done =>
    rintro D ys W hD rfl ⟨⟨sv, h1, h2⟩, h3⟩ hK
    have kW3 : Blk W (w.heap.size + 1 + 1) 33 Z := (h3.block _ hd4 hd5).trans k37
    have HD := Lib.hid hD; have HK := Lib.hid hK; have HW3 := Lib.hid kW3; have H1' := Lib.hid h1; have H2' := Lib.hid h2; have H3' := Lib.hid h3
    have Hd4 := Lib.hid hd4; have Hd5 := Lib.hid hd5; have Hz7 := Lib.hid hz7
    have Hall := Lib.hid h1.subA
    have Hone : Hid ((recA A X Y sv).all (·.oneCell') = true) := Lib.hid (recA_one HA1.out (flds_one h2.flds))
    have Hsz : Hid (Z.size = (recA A X Y sv).size) := Lib.hid (by rw [HZ.out, recA_size hA])
    clear hD hK kW3 h1 h2 h3 s7 hy6 hd4 hd5 hz7
    go_wp2_with (first | (refine wpList_load_sub rfl 33 _ rfl _ rfl g 0 rfl (recA A X Y sv) _ Hall.out Tryz.underlying33 rfl (info_rec hA) ?_) | ((fail_if_success have := k9); refine wpList_store_blk rfl 33 _ _ rfl (w.heap.size + 1 + 1) (recA A X Y sv) rfl rfl 33 Z HW3.out (info_rec hA) Hsz.out Hone.out ?_; intro w9 k9 b9 s9))
    have hDlt : D < W.heap.size := (Array.getElem?_eq_some_iff.1 HK.out).1
    have hDne : D ≠ w.heap.size + 1 + 1 := by have := Hd4.out; have := HD.out; omega
    have hDK : w9.heap[D]? = some (.deferred (some [])) := (b9.block D hDlt hDne).trans HK.out
    have hgr : W.grownBy w9 (some (w.heap.size + 1 + 1)) := ⟨b9.os, b9.tape, b9.output, b9.size, fun k hk hne => b9.block k hk fun e => hne (by rw [e])⟩
    have hown : OwnF w7.heap.size w9 sv (outTo X Y m2 8) := H2'.out.kept hgr (by
      rcases H2'.out.block with h | ⟨k, _, _, h, hk, _⟩
      · exact .inl h
      · right; rw [h]; intro he; cases he; have := Hd4.out; omega)
    have hgw : w.heap.size ≤ g := Nat.le_trans hx4.size hg5
    have hb9 : Below w.heap.size w w9 := (Hz7.out.trans (H3'.out.below hgw Hz7.out.size)).trans (b9.below (by omega) (Nat.le_trans Hz7.out.size H3'.out.size))
    refine ⟨by simp, .inl ⟨_, _, rfl, run_takeDeferred hDK, ?_⟩⟩
    have kE : Blk (w9.putObj D (.deferred none)) (w.heap.size + 1 + 1) 33 (recA A X Y sv) := (World.putObj_heap_other (Ne.symm hDne)).trans k9
    exact ⟨_, results_cell_tmp Tryz.results51 _ _ (w.heap.size + 1 + 1) (recA A X Y sv) _ _ rfl rfl kE.subA Tryz.underlying33 rfl (info_rec hA), sv, rfl, own_lower (ownsRow_putObj hown _ hDK rfl) Hz7.out.size, hb9.trans (belowK_b (w := w7) Hz7.out.size w9 D _ _ HD.out hDK rfl rfl)⟩
  case stop =>
    rintro D c pre W _ _ h _
    exact h.elim
end Go.Proofs.YtolbmemogoojhaaGreat
