/- Cells compared. -/
import Derived.Test.YtgckgbonhbabpaaStampC
import Derived.Test.YtgckgbonhbabpaaShaE
namespace Go.Proofs.Ytgckgbonhbabpaa
open Go Go.RowKit Go.Deep
set_option linter.unusedVariables false
set_option linter.unusedSimpArgs false
set_option maxRecDepth 100000

def ordB (l g : Bool) : Int := if l then -1 else if g then 1 else 0
set_option maxHeartbeats 800000 in
theorem orderS_c (N R N' R' : Int) (w : World) : Calls Try.prog 57 #[.agg #[.int .i64 N, .int .i64 R], .agg #[.int .i64 N', .int .i64 R'], .func (.func 29) #[] #[]] w fun e w' => e = .returned (.int .i64 (ordB (stLess N R N' R') (stLess N' R' N R))) ∧ Below w.heap.size w w' := by
  have hAc := @after_cell
  have hAf := @after_frozen
  have hSz := sz_facts
  cases h1 : stLess N R N' R' <;> cases h2 : stLess N' R' N R
  all_goals
    have H1 := Lib.hid h1; have H2 := Lib.hid h2; clear h1 h2
    go_enter Try.func57, Try.ntmps57
    go_wp2_with (first | (go_at_call 29; (with_reducible refine (less_v H1.out _).mono ?_); rintro e w' ⟨rfl, hb⟩; (first | ((fail_if_success revert x1); obtain ⟨x1, rfl⟩ := after_of hb; clear hb; have hz1 := after_size x1; (try (simp only [World.size_alloc, World.size_drew, World.size_setCell] at hz1)); (try (have f1gA := szf1 (a := gA) (b := x1.w.heap.size) (by omega))); (first | have f10 := szf3 (a := w.heap.size) (b := x1.w.heap.size) (by omega) | have f10 := szf2 (a := w.heap.size) (b := x1.w.heap.size) (by omega) | have f10 := szf1 (a := w.heap.size) (b := x1.w.heap.size) (by omega) | skip)) | ((fail_if_success revert x2); obtain ⟨x2, rfl⟩ := after_of hb; clear hb; have hz2 := after_size x2; (try (simp only [World.size_alloc, World.size_drew, World.size_setCell] at hz2)); (try (have f2gA := szf1 (a := gA) (b := x2.w.heap.size) (by omega))); (first | have f20 := szf3 (a := w.heap.size) (b := x2.w.heap.size) (by omega) | have f20 := szf2 (a := w.heap.size) (b := x2.w.heap.size) (by omega) | have f20 := szf1 (a := w.heap.size) (b := x2.w.heap.size) (by omega) | skip); (first | have f21 := szf2 (a := x1.w.heap.size) (b := x2.w.heap.size) (by omega) | have f21 := szf1 (a := x1.w.heap.size) (b := x2.w.heap.size) (by omega) | skip)) | ((fail_if_success revert x3); obtain ⟨x3, rfl⟩ := after_of hb; clear hb; have hz3 := after_size x3; (try (simp only [World.size_alloc, World.size_drew, World.size_setCell] at hz3)); (try (have f3gA := szf1 (a := gA) (b := x3.w.heap.size) (by omega))); (first | have f30 := szf3 (a := w.heap.size) (b := x3.w.heap.size) (by omega) | have f30 := szf2 (a := w.heap.size) (b := x3.w.heap.size) (by omega) | have f30 := szf1 (a := w.heap.size) (b := x3.w.heap.size) (by omega) | skip); (first | have f31 := szf2 (a := x1.w.heap.size) (b := x3.w.heap.size) (by omega) | have f31 := szf1 (a := x1.w.heap.size) (b := x3.w.heap.size) (by omega) | skip); (first | have f32 := szf2 (a := x2.w.heap.size) (b := x3.w.heap.size) (by omega) | have f32 := szf1 (a := x2.w.heap.size) (b := x3.w.heap.size) (by omega) | skip)) | ((fail_if_success revert x4); obtain ⟨x4, rfl⟩ := after_of hb; clear hb; have hz4 := after_size x4; (try (simp only [World.size_alloc, World.size_drew, World.size_setCell] at hz4)); (try (have f4gA := szf1 (a := gA) (b := x4.w.heap.size) (by omega))); (first | have f40 := szf3 (a := w.heap.size) (b := x4.w.heap.size) (by omega) | have f40 := szf2 (a := w.heap.size) (b := x4.w.heap.size) (by omega) | have f40 := szf1 (a := w.heap.size) (b := x4.w.heap.size) (by omega) | skip); (first | have f41 := szf2 (a := x1.w.heap.size) (b := x4.w.heap.size) (by omega) | have f41 := szf1 (a := x1.w.heap.size) (b := x4.w.heap.size) (by omega) | skip); (first | have f42 := szf2 (a := x2.w.heap.size) (b := x4.w.heap.size) (by omega) | have f42 := szf1 (a := x2.w.heap.size) (b := x4.w.heap.size) (by omega) | skip); (first | have f43 := szf2 (a := x3.w.heap.size) (b := x4.w.heap.size) (by omega) | have f43 := szf1 (a := x3.w.heap.size) (b := x4.w.heap.size) (by omega) | skip)) | ((fail_if_success revert x5); obtain ⟨x5, rfl⟩ := after_of hb; clear hb; have hz5 := after_size x5; (try (simp only [World.size_alloc, World.size_drew, World.size_setCell] at hz5)); (try (have f5gA := szf1 (a := gA) (b := x5.w.heap.size) (by omega))); (first | have f50 := szf3 (a := w.heap.size) (b := x5.w.heap.size) (by omega) | have f50 := szf2 (a := w.heap.size) (b := x5.w.heap.size) (by omega) | have f50 := szf1 (a := w.heap.size) (b := x5.w.heap.size) (by omega) | skip); (first | have f51 := szf2 (a := x1.w.heap.size) (b := x5.w.heap.size) (by omega) | have f51 := szf1 (a := x1.w.heap.size) (b := x5.w.heap.size) (by omega) | skip); (first | have f52 := szf2 (a := x2.w.heap.size) (b := x5.w.heap.size) (by omega) | have f52 := szf1 (a := x2.w.heap.size) (b := x5.w.heap.size) (by omega) | skip); (first | have f53 := szf2 (a := x3.w.heap.size) (b := x5.w.heap.size) (by omega) | have f53 := szf1 (a := x3.w.heap.size) (b := x5.w.heap.size) (by omega) | skip); (first | have f54 := szf2 (a := x4.w.heap.size) (b := x5.w.heap.size) (by omega) | have f54 := szf1 (a := x4.w.heap.size) (b := x5.w.heap.size) (by omega) | skip)))) | (go_at_call 29; (with_reducible refine (less_v H2.out _).mono ?_); rintro e w' ⟨rfl, hb⟩; (first | ((fail_if_success revert x1); obtain ⟨x1, rfl⟩ := after_of hb; clear hb; have hz1 := after_size x1; (try (simp only [World.size_alloc, World.size_drew, World.size_setCell] at hz1)); (try (have f1gA := szf1 (a := gA) (b := x1.w.heap.size) (by omega))); (first | have f10 := szf3 (a := w.heap.size) (b := x1.w.heap.size) (by omega) | have f10 := szf2 (a := w.heap.size) (b := x1.w.heap.size) (by omega) | have f10 := szf1 (a := w.heap.size) (b := x1.w.heap.size) (by omega) | skip)) | ((fail_if_success revert x2); obtain ⟨x2, rfl⟩ := after_of hb; clear hb; have hz2 := after_size x2; (try (simp only [World.size_alloc, World.size_drew, World.size_setCell] at hz2)); (try (have f2gA := szf1 (a := gA) (b := x2.w.heap.size) (by omega))); (first | have f20 := szf3 (a := w.heap.size) (b := x2.w.heap.size) (by omega) | have f20 := szf2 (a := w.heap.size) (b := x2.w.heap.size) (by omega) | have f20 := szf1 (a := w.heap.size) (b := x2.w.heap.size) (by omega) | skip); (first | have f21 := szf2 (a := x1.w.heap.size) (b := x2.w.heap.size) (by omega) | have f21 := szf1 (a := x1.w.heap.size) (b := x2.w.heap.size) (by omega) | skip)) | ((fail_if_success revert x3); obtain ⟨x3, rfl⟩ := after_of hb; clear hb; have hz3 := after_size x3; (try (simp only [World.size_alloc, World.size_drew, World.size_setCell] at hz3)); (try (have f3gA := szf1 (a := gA) (b := x3.w.heap.size) (by omega))); (first | have f30 := szf3 (a := w.heap.size) (b := x3.w.heap.size) (by omega) | have f30 := szf2 (a := w.heap.size) (b := x3.w.heap.size) (by omega) | have f30 := szf1 (a := w.heap.size) (b := x3.w.heap.size) (by omega) | skip); (first | have f31 := szf2 (a := x1.w.heap.size) (b := x3.w.heap.size) (by omega) | have f31 := szf1 (a := x1.w.heap.size) (b := x3.w.heap.size) (by omega) | skip); (first | have f32 := szf2 (a := x2.w.heap.size) (b := x3.w.heap.size) (by omega) | have f32 := szf1 (a := x2.w.heap.size) (b := x3.w.heap.size) (by omega) | skip)) | ((fail_if_success revert x4); obtain ⟨x4, rfl⟩ := after_of hb; clear hb; have hz4 := after_size x4; (try (simp only [World.size_alloc, World.size_drew, World.size_setCell] at hz4)); (try (have f4gA := szf1 (a := gA) (b := x4.w.heap.size) (by omega))); (first | have f40 := szf3 (a := w.heap.size) (b := x4.w.heap.size) (by omega) | have f40 := szf2 (a := w.heap.size) (b := x4.w.heap.size) (by omega) | have f40 := szf1 (a := w.heap.size) (b := x4.w.heap.size) (by omega) | skip); (first | have f41 := szf2 (a := x1.w.heap.size) (b := x4.w.heap.size) (by omega) | have f41 := szf1 (a := x1.w.heap.size) (b := x4.w.heap.size) (by omega) | skip); (first | have f42 := szf2 (a := x2.w.heap.size) (b := x4.w.heap.size) (by omega) | have f42 := szf1 (a := x2.w.heap.size) (b := x4.w.heap.size) (by omega) | skip); (first | have f43 := szf2 (a := x3.w.heap.size) (b := x4.w.heap.size) (by omega) | have f43 := szf1 (a := x3.w.heap.size) (b := x4.w.heap.size) (by omega) | skip)) | ((fail_if_success revert x5); obtain ⟨x5, rfl⟩ := after_of hb; clear hb; have hz5 := after_size x5; (try (simp only [World.size_alloc, World.size_drew, World.size_setCell] at hz5)); (try (have f5gA := szf1 (a := gA) (b := x5.w.heap.size) (by omega))); (first | have f50 := szf3 (a := w.heap.size) (b := x5.w.heap.size) (by omega) | have f50 := szf2 (a := w.heap.size) (b := x5.w.heap.size) (by omega) | have f50 := szf1 (a := w.heap.size) (b := x5.w.heap.size) (by omega) | skip); (first | have f51 := szf2 (a := x1.w.heap.size) (b := x5.w.heap.size) (by omega) | have f51 := szf1 (a := x1.w.heap.size) (b := x5.w.heap.size) (by omega) | skip); (first | have f52 := szf2 (a := x2.w.heap.size) (b := x5.w.heap.size) (by omega) | have f52 := szf1 (a := x2.w.heap.size) (b := x5.w.heap.size) (by omega) | skip); (first | have f53 := szf2 (a := x3.w.heap.size) (b := x5.w.heap.size) (by omega) | have f53 := szf1 (a := x3.w.heap.size) (b := x5.w.heap.size) (by omega) | skip); (first | have f54 := szf2 (a := x4.w.heap.size) (b := x5.w.heap.size) (by omega) | have f54 := szf1 (a := x4.w.heap.size) (b := x5.w.heap.size) (by omega) | skip)))))
    all_goals first | (rw [Exit.noGoto_ret]; go_ret) | go_ret
    all_goals exact ⟨rfl, by (repeat (first | exact Below.refl _ _ | assumption | refine bel_alloc ?_ _ | refine bel_after _ ?_ | refine bel_drewN ?_ _ | refine bel_drew ?_ | refine bel_set ?_ (by first | omega | (simp only [World.size_alloc, World.size_drew, World.size_setCell]; omega) | (simp; omega)) _))⟩

theorem dless_v {a b : List UInt8} {l : Bool} (h : dgLess a b = l) (ha : a.length = 32) (hb : b.length = 32) (A B : Array Value) (hA : A = (encU a).toArray) (hB : B = (encU b).toArray) (w : World) : Calls Try.prog 31 #[.agg A, .agg B] w fun e w' => e = .returned (.bool l) ∧ Below w.heap.size w w' := by
  subst h hA hB; exact dless_c a b ha hb w
set_option maxHeartbeats 1600000 in
theorem orderD_c (a b : List UInt8) (ha : a.length = 32) (hb : b.length = 32) (w : World) : Calls Try.prog 59 #[.agg (encU a).toArray, .agg (encU b).toArray, .func (.func 31) #[] #[]] w fun e w' => e = .returned (.int .i64 (ordB (dgLess a b) (dgLess b a))) ∧ Below w.heap.size w w' := by
  obtain ⟨A, hA⟩ : ∃ A, A = (encU a).toArray := ⟨_, rfl⟩
  obtain ⟨B, hB⟩ : ∃ B, B = (encU b).toArray := ⟨_, rfl⟩
  have hAs : A.size = 32 := by rw [hA]; simp [encU_length, ha]
  have hBs : B.size = 32 := by rw [hB]; simp [encU_length, hb]
  rw [← hA, ← hB]
  have HA := Lib.hid hA; have HB := Lib.hid hB; clear hA hB
  cases h1 : dgLess a b <;> cases h2 : dgLess b a
  all_goals
    have H1 := Lib.hid h1; have H2 := Lib.hid h2; clear h1 h2
    go_enter Try.func59, Try.ntmps59
    go_wp2_with (first | ((fail_if_success have := k1); refine wpList_box_blk rfl 39 _ rfl _ rfl A rfl ?_; intro w1 k1 b1 s1) | (refine wpList_box_blk rfl 39 _ rfl _ rfl B rfl ?_; intro w2 k2 b2 s2; have k1' := k1.below b2 (by omega); rw [s1] at k2; have bel2 := b1.trans (b2.mono (by omega))) | (go_at_call 31; (with_reducible refine (dless_v H1.out ha hb A B HA.out HB.out _).mono ?_); rintro e w3 ⟨rfl, b3⟩; have k13 := k1'.below b3 (by omega); have k23 := k2.below b3 (by omega); have bel3 := bel2.trans (b3.mono (by have := bel2.size; omega))) | (go_at_call 31; (with_reducible refine (dless_v H2.out hb ha B A HB.out HA.out _).mono ?_); rintro e w4 ⟨rfl, b4⟩; have bel4 := bel3.trans (b4.mono (by have := bel3.size; omega))) | (refine wpList_load_row rfl 39 _ rfl w.heap.size rfl _ A _ _ (by first | exact k1' | exact k13) Try.underlying39 rfl (by rw [hAs]; exact size32_info) ?_) | (refine wpList_load_row rfl 39 _ rfl (w.heap.size + 1) rfl _ B _ _ (by first | exact k2 | exact k23) Try.underlying39 rfl (by rw [hBs]; exact size32_info) ?_))
    all_goals first | (rw [Exit.noGoto_ret]; go_ret) | go_ret
    all_goals first | exact ⟨rfl, bel4⟩ | exact ⟨rfl, bel3⟩

def strLess (a b : ByteArray) : Bool := Op.bytesLess a.toList b.toList
set_option maxHeartbeats 1600000 in
theorem strcmp_c (a b : ByteArray) (w : World) : Calls Try.prog 61 #[.string a, .string b] w fun e w' => e = .returned (.int .i64 (ordB (strLess a b) (!(a.toList == b.toList)))) ∧ w = w' := by
  cases h1 : strLess a b <;> cases h2 : (a.toList == b.toList)
  all_goals
    unfold strLess at h1
    go_enter Try.func61, Try.ntmps61
    go_wp2
    all_goals first | (rw [Exit.noGoto_ret]; go_ret) | go_ret
    all_goals exact ⟨rfl, rfl⟩

def dgS (s : ByteArray) : List UInt8 := dig s.data.toList
theorem dgS_length (s : ByteArray) : (dgS s).length = 32 := by simp [dgS, dig, outs_length]
theorem of_v {s : ByteArray} (hl : s.size ≤ 80000) {A : Array Value} (hA : A = (encU (dgS s)).toArray) (w : World) : Calls Try.prog 30 #[.string s] w fun e w' => e = .returned (.agg A) ∧ Below w.heap.size w w' := by
  subst hA; exact of_c s hl w
theorem orderD_v {a b : ByteArray} {A B : Array Value} (hA : A = (encU (dgS a)).toArray) (hB : B = (encU (dgS b)).toArray) (w : World) : Calls Try.prog 59 #[.agg A, .agg B, .func (.func 31) #[] #[]] w fun e w' => e = .returned (.int .i64 (ordB (dgLess (dgS a) (dgS b)) (dgLess (dgS b) (dgS a)))) ∧ Below w.heap.size w w' := by
  subst hA hB; exact orderD_c _ _ (dgS_length a) (dgS_length b) w
/-- A cell's cells. -/
abbrev cellA (N R : Int) (s : ByteArray) : Array Value := #[.int .i64 N, .int .i64 R, .string s]
set_option maxHeartbeats 1600000 in
theorem way1_c (p q : Nat) (N R N' R' : Int) (s s' : ByteArray) (w : World) (k1 : Blk w p 25 (cellA N R s)) (k2 : Blk w q 25 (cellA N' R' s')) : Calls Try.prog 56 #[.pointer (some ⟨p, 0, none⟩), .pointer (some ⟨q, 0, none⟩)] w fun e w' => e = .returned (.int .i64 (ordB (stLess N R N' R') (stLess N' R' N R))) ∧ Below w.heap.size w w' := by
  have hAc := @after_cell
  have hAf := @after_frozen
  have hSz := sz_facts
  have c0 : w.cell? ⟨p, 0, none⟩ = some (.int .i64 N) := k1.cell 0
  have c1 : w.cell? ⟨p, 1, none⟩ = some (.int .i64 R) := k1.cell 1
  have d0 : w.cell? ⟨q, 0, none⟩ = some (.int .i64 N') := k2.cell 0
  have d1 : w.cell? ⟨q, 1, none⟩ = some (.int .i64 R') := k2.cell 1
  clear k1 k2
  go_enter Try.func56, Try.ntmps56
  go_wp2_with (go_at_call 57; (with_reducible refine (orderS_c _ _ _ _ _).mono ?_); rintro e w' ⟨rfl, hb⟩; (first | ((fail_if_success revert x1); obtain ⟨x1, rfl⟩ := after_of hb; clear hb; have hz1 := after_size x1; (try (simp only [World.size_alloc, World.size_drew, World.size_setCell] at hz1)); (try (have f1gA := szf1 (a := gA) (b := x1.w.heap.size) (by omega))); (first | have f10 := szf3 (a := w.heap.size) (b := x1.w.heap.size) (by omega) | have f10 := szf2 (a := w.heap.size) (b := x1.w.heap.size) (by omega) | have f10 := szf1 (a := w.heap.size) (b := x1.w.heap.size) (by omega) | skip)) | ((fail_if_success revert x2); obtain ⟨x2, rfl⟩ := after_of hb; clear hb; have hz2 := after_size x2; (try (simp only [World.size_alloc, World.size_drew, World.size_setCell] at hz2)); (try (have f2gA := szf1 (a := gA) (b := x2.w.heap.size) (by omega))); (first | have f20 := szf3 (a := w.heap.size) (b := x2.w.heap.size) (by omega) | have f20 := szf2 (a := w.heap.size) (b := x2.w.heap.size) (by omega) | have f20 := szf1 (a := w.heap.size) (b := x2.w.heap.size) (by omega) | skip); (first | have f21 := szf2 (a := x1.w.heap.size) (b := x2.w.heap.size) (by omega) | have f21 := szf1 (a := x1.w.heap.size) (b := x2.w.heap.size) (by omega) | skip)) | ((fail_if_success revert x3); obtain ⟨x3, rfl⟩ := after_of hb; clear hb; have hz3 := after_size x3; (try (simp only [World.size_alloc, World.size_drew, World.size_setCell] at hz3)); (try (have f3gA := szf1 (a := gA) (b := x3.w.heap.size) (by omega))); (first | have f30 := szf3 (a := w.heap.size) (b := x3.w.heap.size) (by omega) | have f30 := szf2 (a := w.heap.size) (b := x3.w.heap.size) (by omega) | have f30 := szf1 (a := w.heap.size) (b := x3.w.heap.size) (by omega) | skip); (first | have f31 := szf2 (a := x1.w.heap.size) (b := x3.w.heap.size) (by omega) | have f31 := szf1 (a := x1.w.heap.size) (b := x3.w.heap.size) (by omega) | skip); (first | have f32 := szf2 (a := x2.w.heap.size) (b := x3.w.heap.size) (by omega) | have f32 := szf1 (a := x2.w.heap.size) (b := x3.w.heap.size) (by omega) | skip)) | ((fail_if_success revert x4); obtain ⟨x4, rfl⟩ := after_of hb; clear hb; have hz4 := after_size x4; (try (simp only [World.size_alloc, World.size_drew, World.size_setCell] at hz4)); (try (have f4gA := szf1 (a := gA) (b := x4.w.heap.size) (by omega))); (first | have f40 := szf3 (a := w.heap.size) (b := x4.w.heap.size) (by omega) | have f40 := szf2 (a := w.heap.size) (b := x4.w.heap.size) (by omega) | have f40 := szf1 (a := w.heap.size) (b := x4.w.heap.size) (by omega) | skip); (first | have f41 := szf2 (a := x1.w.heap.size) (b := x4.w.heap.size) (by omega) | have f41 := szf1 (a := x1.w.heap.size) (b := x4.w.heap.size) (by omega) | skip); (first | have f42 := szf2 (a := x2.w.heap.size) (b := x4.w.heap.size) (by omega) | have f42 := szf1 (a := x2.w.heap.size) (b := x4.w.heap.size) (by omega) | skip); (first | have f43 := szf2 (a := x3.w.heap.size) (b := x4.w.heap.size) (by omega) | have f43 := szf1 (a := x3.w.heap.size) (b := x4.w.heap.size) (by omega) | skip)) | ((fail_if_success revert x5); obtain ⟨x5, rfl⟩ := after_of hb; clear hb; have hz5 := after_size x5; (try (simp only [World.size_alloc, World.size_drew, World.size_setCell] at hz5)); (try (have f5gA := szf1 (a := gA) (b := x5.w.heap.size) (by omega))); (first | have f50 := szf3 (a := w.heap.size) (b := x5.w.heap.size) (by omega) | have f50 := szf2 (a := w.heap.size) (b := x5.w.heap.size) (by omega) | have f50 := szf1 (a := w.heap.size) (b := x5.w.heap.size) (by omega) | skip); (first | have f51 := szf2 (a := x1.w.heap.size) (b := x5.w.heap.size) (by omega) | have f51 := szf1 (a := x1.w.heap.size) (b := x5.w.heap.size) (by omega) | skip); (first | have f52 := szf2 (a := x2.w.heap.size) (b := x5.w.heap.size) (by omega) | have f52 := szf1 (a := x2.w.heap.size) (b := x5.w.heap.size) (by omega) | skip); (first | have f53 := szf2 (a := x3.w.heap.size) (b := x5.w.heap.size) (by omega) | have f53 := szf1 (a := x3.w.heap.size) (b := x5.w.heap.size) (by omega) | skip); (first | have f54 := szf2 (a := x4.w.heap.size) (b := x5.w.heap.size) (by omega) | have f54 := szf1 (a := x4.w.heap.size) (b := x5.w.heap.size) (by omega) | skip))))
  go_ret
  exact ⟨rfl, by (repeat (first | exact Below.refl _ _ | assumption | refine bel_alloc ?_ _ | refine bel_after _ ?_ | refine bel_drewN ?_ _ | refine bel_drew ?_ | refine bel_set ?_ (by first | omega | (simp only [World.size_alloc, World.size_drew, World.size_setCell]; omega) | (simp; omega)) _))⟩
set_option maxHeartbeats 1600000 in
theorem way2_c (p q : Nat) (N R N' R' : Int) (s s' : ByteArray) (hs : s.size ≤ 80000) (hs' : s'.size ≤ 80000) (w : World) (k1 : Blk w p 25 (cellA N R s)) (k2 : Blk w q 25 (cellA N' R' s')) : Calls Try.prog 58 #[.pointer (some ⟨p, 0, none⟩), .pointer (some ⟨q, 0, none⟩)] w fun e w' => e = .returned (.int .i64 (ordB (dgLess (dgS s) (dgS s')) (dgLess (dgS s') (dgS s)))) ∧ Below w.heap.size w w' := by
  have hAc := @after_cell
  obtain ⟨A, hA⟩ : ∃ A, Hid (A = (encU (dgS s)).toArray) := ⟨_, rfl⟩
  obtain ⟨B, hB⟩ : ∃ B, Hid (B = (encU (dgS s')).toArray) := ⟨_, rfl⟩
  have c2 : w.cell? ⟨p, 2, none⟩ = some (.string s) := k1.cell 2
  have d2 : w.cell? ⟨q, 2, none⟩ = some (.string s') := k2.cell 2
  have l1 := k1.lt
  have l2 := k2.lt
  have Hs := Lib.hid hs; have Hs' := Lib.hid hs'
  clear k1 k2 hs hs'
  go_enter Try.func58, Try.ntmps58
  go_wp2
  refine wp_quiet_all (C := fun w' => ∃ x : After _, w' = x.w) (by kernel_rfl) (by kernel_rfl) (since_drew _) ?_
  repeat (go_big_quiet_step ((first | (go_at_call 30; first | (with_reducible exact after_call _ (of_v Hs.out hA.out _)) | (with_reducible exact after_call _ (of_v Hs'.out hB.out _))) | (go_at_call 59; with_reducible exact after_call _ (orderD_v hA.out hB.out _)))))
  refine wpQuiet_nil ?_
  rintro _ ⟨x1, rfl⟩
  go_wp2
  go_ret
  exact ⟨rfl, x1.h⟩
set_option maxHeartbeats 1600000 in
theorem way3_c (p q : Nat) (N R N' R' : Int) (s s' : ByteArray) (w : World) (k1 : Blk w p 25 (cellA N R s)) (k2 : Blk w q 25 (cellA N' R' s')) : Calls Try.prog 60 #[.pointer (some ⟨p, 0, none⟩), .pointer (some ⟨q, 0, none⟩)] w fun e w' => e = .returned (.int .i64 (ordB (strLess s s') (!(s.toList == s'.toList)))) ∧ w = w' := by
  have c2 : w.cell? ⟨p, 2, none⟩ = some (.string s) := k1.cell 2
  have d2 : w.cell? ⟨q, 2, none⟩ = some (.string s') := k2.cell 2
  clear k1 k2
  go_enter Try.func60, Try.ntmps60
  go_wp2_with (go_at_call 61; (with_reducible refine (strcmp_c _ _ _).mono ?_); rintro e w' ⟨rfl, rfl⟩)
  go_ret
  exact ⟨rfl, rfl⟩
end Go.Proofs.Ytgckgbonhbabpaa
