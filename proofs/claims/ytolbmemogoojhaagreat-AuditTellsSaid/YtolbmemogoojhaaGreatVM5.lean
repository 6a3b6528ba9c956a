/- Cells compared. -/
import Derived.Test.YtolbmemogoojhaaGreatVM4
import Derived.Test.YtolbmemogoojhaaGreatVM3
import Derived.Lib.AppendStr
namespace Go.Proofs.YtolbmemogoojhaaGreat
open Go Go.RowKit Go.Deep
set_option linter.unusedVariables false
set_option linter.unusedSimpArgs false
set_option maxRecDepth 100000

def ordB (l g : Bool) : Int := if l then -1 else if g then 1 else 0
set_option maxHeartbeats 800000 in
theorem orderS_c (N R N' R' : Int) (w : World) : Calls Tryz.prog 152 #[.agg #[.int .i64 N, .int .i64 R], .agg #[.int .i64 N', .int .i64 R'], .func (.func 98) #[] #[]] w fun e w' => e = .returned (.int .i64 (ordB (stLess N R N' R') (stLess N' R' N R))) ∧ Below w.heap.size w w' := by
  have hAc := @after_cell
  have hAf := @after_frozen
  have hSz := sz_facts
  cases h1 : stLess N R N' R' <;> cases h2 : stLess N' R' N R
  all_goals
    have H1 := Lib.hid h1; have H2 := Lib.hid h2; clear h1 h2
    go_enter Tryz.func152, Tryz.ntmps152
    go_wp2_with (first | (go_at_call 98; (with_reducible refine (less_v H1.out _).mono ?_); rintro e w' ⟨rfl, hb⟩; (first | ((fail_if_success revert x1); obtain ⟨x1, rfl⟩ := after_of hb; clear hb; have hz1 := after_size x1; (try (simp only [World.size_alloc, World.size_drew, World.size_setCell] at hz1)); (try (have f1gA := szf1 (a := gA) (b := x1.w.heap.size) (by omega))); (first | have f10 := szf3 (a := w.heap.size) (b := x1.w.heap.size) (by omega) | have f10 := szf2 (a := w.heap.size) (b := x1.w.heap.size) (by omega) | have f10 := szf1 (a := w.heap.size) (b := x1.w.heap.size) (by omega) | skip)) | ((fail_if_success revert x2); obtain ⟨x2, rfl⟩ := after_of hb; clear hb; have hz2 := after_size x2; (try (simp only [World.size_alloc, World.size_drew, World.size_setCell] at hz2)); (try (have f2gA := szf1 (a := gA) (b := x2.w.heap.size) (by omega))); (first | have f20 := szf3 (a := w.heap.size) (b := x2.w.heap.size) (by omega) | have f20 := szf2 (a := w.heap.size) (b := x2.w.heap.size) (by omega) | have f20 := szf1 (a := w.heap.size) (b := x2.w.heap.size) (by omega) | skip); (first | have f21 := szf2 (a := x1.w.heap.size) (b := x2.w.heap.size) (by omega) | have f21 := szf1 (a := x1.w.heap.size) (b := x2.w.heap.size) (by omega) | skip)) | ((fail_if_success revert x3); obtain ⟨x3, rfl⟩ := after_of hb; clear hb; have hz3 := after_size x3; (try (simp only [World.size_alloc, World.size_drew, World.size_setCell] at hz3)); (try (have f3gA := szf1 (a := gA) (b := x3.w.heap.size) (by omega))); (first | have f30 := szf3 (a := w.heap.size) (b := x3.w.heap.size) (by omega) | have f30 := szf2 (a := w.heap.size) (b := x3.w.heap.size) (by omega) | have f30 := szf1 (a := w.heap.size) (b := x3.w.heap.size) (by omega) | skip); (first | have f31 := szf2 (a := x1.w.heap.size) (b := x3.w.heap.size) (by omega) | have f31 := szf1 (a := x1.w.heap.size) (b := x3.w.heap.size) (by omega) | skip); (first | have f32 := szf2 (a := x2.w.heap.size) (b := x3.w.heap.size) (by omega) | have f32 := szf1 (a := x2.w.heap.size) (b := x3.w.heap.size) (by omega) | skip)) | ((fail_if_success revert x4); obtain ⟨x4, rfl⟩ := after_of hb; clear hb; have hz4 := after_size x4; (try (simp only [World.size_alloc, World.size_drew, World.size_setCell] at hz4)); (try (have f4gA := szf1 (a := gA) (b := x4.w.heap.size) (by omega))); (first | have f40 := szf3 (a := w.heap.size) (b := x4.w.heap.size) (by omega) | have f40 := szf2 (a := w.heap.size) (b := x4.w.heap.size) (by omega) | have f40 := szf1 (a := w.heap.size) (b := x4.w.heap.size) (by omega) | skip); (first | have f41 := szf2 (a := x1.w.heap.size) (b := x4.w.heap.size) (by omega) | have f41 := szf1 (a := x1.w.heap.size) (b := x4.w.heap.size) (by omega) | skip); (first | have f42 := szf2 (a := x2.w.heap.size) (b := x4.w.heap.size) (by omega) | have f42 := szf1 (a := x2.w.heap.size) (b := x4.w.heap.size) (by omega) | skip); (first | have f43 := szf2 (a := x3.w.heap.size) (b := x4.w.heap.size) (by omega) | have f43 := szf1 (a := x3.w.heap.size) (b := x4.w.heap.size) (by omega) | skip)) | ((fail_if_success revert x5); obtain ⟨x5, rfl⟩ := after_of hb; clear hb; have hz5 := after_size x5; (try (simp only [World.size_alloc, World.size_drew, World.size_setCell] at hz5)); (try (have f5gA := szf1 (a := gA) (b := x5.w.heap.size) (by omega))); (first | have f50 := szf3 (a := w.heap.size) (b := x5.w.heap.size) (by omega) | have f50 := szf2 (a := w.heap.size) (b := x5.w.heap.size) (by omega) | have f50 := szf1 (a := w.heap.size) (b := x5.w.heap.size) (by omega) | skip); (first | have f51 := szf2 (a := x1.w.heap.size) (b := x5.w.heap.size) (by omega) | have f51 := szf1 (a := x1.w.heap.size) (b := x5.w.heap.size) (by omega) | skip); (first | have f52 := szf2 (a := x2.w.heap.size) (b := x5.w.heap.size) (by omega) | have f52 := szf1 (a := x2.w.heap.size) (b := x5.w.heap.size) (by omega) | skip); (first | have f53 := szf2 (a := x3.w.heap.size) (b := x5.w.heap.size) (by omega) | have f53 := szf1 (a := x3.w.heap.size) (b := x5.w.heap.size) (by omega) | skip); (first | have f54 := szf2 (a := x4.w.heap.size) (b := x5.w.heap.size) (by omega) | have f54 := szf1 (a := x4.w.heap.size) (b := x5.w.heap.size) (by omega) | skip)))) | (go_at_call 98; (with_reducible refine (less_v H2.out _).mono ?_); rintro e w' ⟨rfl, hb⟩; (first | ((fail_if_success revert x1); obtain ⟨x1, rfl⟩ := after_of hb; clear hb; have hz1 := after_size x1; (try (simp only [World.size_alloc, World.size_drew, World.size_setCell] at hz1)); (try (have f1gA := szf1 (a := gA) (b := x1.w.heap.size) (by omega))); (first | have f10 := szf3 (a := w.heap.size) (b := x1.w.heap.size) (by omega) | have f10 := szf2 (a := w.heap.size) (b := x1.w.heap.size) (by omega) | have f10 := szf1 (a := w.heap.size) (b := x1.w.heap.size) (by omega) | skip)) | ((fail_if_success revert x2); obtain ⟨x2, rfl⟩ := after_of hb; clear hb; have hz2 := after_size x2; (try (simp only [World.size_alloc, World.size_drew, World.size_setCell] at hz2)); (try (have f2gA := szf1 (a := gA) (b := x2.w.heap.size) (by omega))); (first | have f20 := szf3 (a := w.heap.size) (b := x2.w.heap.size) (by omega) | have f20 := szf2 (a := w.heap.size) (b := x2.w.heap.size) (by omega) | have f20 := szf1 (a := w.heap.size) (b := x2.w.heap.size) (by omega) | skip); (first | have f21 := szf2 (a := x1.w.heap.size) (b := x2.w.heap.size) (by omega) | have f21 := szf1 (a := x1.w.heap.size) (b := x2.w.heap.size) (by omega) | skip)) | ((fail_if_success revert x3); obtain ⟨x3, rfl⟩ := after_of hb; clear hb; have hz3 := after_size x3; (try (simp only [World.size_alloc, World.size_drew, World.size_setCell] at hz3)); (try (have f3gA := szf1 (a := gA) (b := x3.w.heap.size) (by omega))); (first | have f30 := szf3 (a := w.heap.size) (b := x3.w.heap.size) (by omega) | have f30 := szf2 (a := w.heap.size) (b := x3.w.heap.size) (by omega) | have f30 := szf1 (a := w.heap.size) (b := x3.w.heap.size) (by omega) | skip); (first | have f31 := szf2 (a := x1.w.heap.size) (b := x3.w.heap.size) (by omega) | have f31 := szf1 (a := x1.w.heap.size) (b := x3.w.heap.size) (by omega) | skip); (first | have f32 := szf2 (a := x2.w.heap.size) (b := x3.w.heap.size) (by omega) | have f32 := szf1 (a := x2.w.heap.size) (b := x3.w.heap.size) (by omega) | skip)) | ((fail_if_success revert x4); obtain ⟨x4, rfl⟩ := after_of hb; clear hb; have hz4 := after_size x4; (try (simp only [World.size_alloc, World.size_drew, World.size_setCell] at hz4)); (try (have f4gA := szf1 (a := gA) (b := x4.w.heap.size) (by omega))); (first | have f40 := szf3 (a := w.heap.size) (b := x4.w.heap.size) (by omega) | have f40 := szf2 (a := w.heap.size) (b := x4.w.heap.size) (by omega) | have f40 := szf1 (a := w.heap.size) (b := x4.w.heap.size) (by omega) | skip); (first | have f41 := szf2 (a := x1.w.heap.size) (b := x4.w.heap.size) (by omega) | have f41 := szf1 (a := x1.w.heap.size) (b := x4.w.heap.size) (by omega) | skip); (first | have f42 := szf2 (a := x2.w.heap.size) (b := x4.w.heap.size) (by omega) | have f42 := szf1 (a := x2.w.heap.size) (b := x4.w.heap.size) (by omega) | skip); (first | have f43 := szf2 (a := x3.w.heap.size) (b := x4.w.heap.size) (by omega) | have f43 := szf1 (a := x3.w.heap.size) (b := x4.w.heap.size) (by omega) | skip)) | ((fail_if_success revert x5); obtain ⟨x5, rfl⟩ := after_of hb; clear hb; have hz5 := after_size x5; (try (simp only [World.size_alloc, World.size_drew, World.size_setCell] at hz5)); (try (have f5gA := szf1 (a := gA) (b := x5.w.heap.size) (by omega))); (first | have f50 := szf3 (a := w.heap.size) (b := x5.w.heap.size) (by omega) | have f50 := szf2 (a := w.heap.size) (b := x5.w.heap.size) (by omega) | have f50 := szf1 (a := w.heap.size) (b := x5.w.heap.size) (by omega) | skip); (first | have f51 := szf2 (a := x1.w.heap.size) (b := x5.w.heap.size) (by omega) | have f51 := szf1 (a := x1.w.heap.size) (b := x5.w.heap.size) (by omega) | skip); (first | have f52 := szf2 (a := x2.w.heap.size) (b := x5.w.heap.size) (by omega) | have f52 := szf1 (a := x2.w.heap.size) (b := x5.w.heap.size) (by omega) | skip); (first | have f53 := szf2 (a := x3.w.heap.size) (b := x5.w.heap.size) (by omega) | have f53 := szf1 (a := x3.w.heap.size) (b := x5.w.heap.size) (by omega) | skip); (first | have f54 := szf2 (a := x4.w.heap.size) (b := x5.w.heap.size) (by omega) | have f54 := szf1 (a := x4.w.heap.size) (b := x5.w.heap.size) (by omega) | skip)))))
    all_goals first | (rw [Exit.noGoto_ret]; go_ret) | go_ret
    all_goals exact ⟨rfl, by (repeat (first | exact Below.refl _ _ | assumption | refine bel_alloc ?_ _ | refine bel_after _ ?_ | refine bel_drewN ?_ _ | refine bel_drew ?_ | refine bel_set ?_ (by first | omega | (simp only [World.size_alloc, World.size_drew, World.size_setCell]; omega) | (simp; omega)) _))⟩

theorem dless_v {a b : List UInt8} {l : Bool} (h : dgLess a b = l) (ha : a.length = 32) (hb : b.length = 32) (A B : Array Value) (hA : A = (encU a).toArray) (hB : B = (encU b).toArray) (w : World) : Calls Tryz.prog 155 #[.agg A, .agg B] w fun e w' => e = .returned (.bool l) ∧ Below w.heap.size w w' := by
  subst h hA hB; exact dless_c a b ha hb w
set_option maxHeartbeats 1600000 in
theorem orderD_c (a b : List UInt8) (ha : a.length = 32) (hb : b.length = 32) (w : World) : Calls Tryz.prog 154 #[.agg (encU a).toArray, .agg (encU b).toArray, .func (.func 155) #[] #[]] w fun e w' => e = .returned (.int .i64 (ordB (dgLess a b) (dgLess b a))) ∧ Below w.heap.size w w' := by
  obtain ⟨A, hA⟩ : ∃ A, A = (encU a).toArray := ⟨_, rfl⟩
  obtain ⟨B, hB⟩ : ∃ B, B = (encU b).toArray := ⟨_, rfl⟩
  have hAs : A.size = 32 := by rw [hA]; simp [encU_length, ha]
  have hBs : B.size = 32 := by rw [hB]; simp [encU_length, hb]
  rw [← hA, ← hB]
  have HA := Lib.hid hA; have HB := Lib.hid hB; clear hA hB
  cases h1 : dgLess a b <;> cases h2 : dgLess b a
  all_goals
    have H1 := Lib.hid h1; have H2 := Lib.hid h2; clear h1 h2
    go_enter Tryz.func154, Tryz.ntmps154
    go_wp2_with (first | ((fail_if_success have := k1); refine wpList_box_blk rfl 64 _ rfl _ rfl A rfl ?_; intro w1 k1 b1 s1) | (refine wpList_box_blk rfl 64 _ rfl _ rfl B rfl ?_; intro w2 k2 b2 s2; have k1' := k1.below b2 (by omega); rw [s1] at k2; have bel2 := b1.trans (b2.mono (by omega))) | (go_at_call 155; (with_reducible refine (dless_v H1.out ha hb A B HA.out HB.out _).mono ?_); rintro e w3 ⟨rfl, b3⟩; have k13 := k1'.below b3 (by omega); have k23 := k2.below b3 (by omega); have bel3 := bel2.trans (b3.mono (by have := bel2.size; omega))) | (go_at_call 155; (with_reducible refine (dless_v H2.out hb ha B A HB.out HA.out _).mono ?_); rintro e w4 ⟨rfl, b4⟩; have bel4 := bel3.trans (b4.mono (by have := bel3.size; omega))) | (refine wpList_load_row rfl 64 _ rfl w.heap.size rfl _ A _ _ (by first | exact k1' | exact k13) Tryz.underlying64 rfl (by rw [hAs]; exact size32_info) ?_) | (refine wpList_load_row rfl 64 _ rfl (w.heap.size + 1) rfl _ B _ _ (by first | exact k2 | exact k23) Tryz.underlying64 rfl (by rw [hBs]; exact size32_info) ?_))
    all_goals first | (rw [Exit.noGoto_ret]; go_ret) | go_ret
    all_goals first | exact ⟨rfl, bel4⟩ | exact ⟨rfl, bel3⟩

def strLess (a b : ByteArray) : Bool := Op.bytesLess a.toList b.toList
set_option maxHeartbeats 1600000 in
theorem strcmp_c (a b : ByteArray) (w : World) : Calls Tryz.prog 157 #[.string a, .string b] w fun e w' => e = .returned (.int .i64 (ordB (strLess a b) (!(a.toList == b.toList)))) ∧ w = w' := by
  cases h1 : strLess a b <;> cases h2 : (a.toList == b.toList)
  all_goals
    unfold strLess at h1
    go_enter Tryz.func157, Tryz.ntmps157
    go_wp2
    all_goals first | (rw [Exit.noGoto_ret]; go_ret) | go_ret
    all_goals exact ⟨rfl, rfl⟩

def dgS (s : ByteArray) : List UInt8 := dig s.data.toList
theorem dgS_length (s : ByteArray) : (dgS s).length = 32 := by simp [dgS, dig, outs_length]
theorem of_v {s : ByteArray} (hl : s.size ≤ 80000) {A : Array Value} (hA : A = (encU (dgS s)).toArray) (w : World) : Calls Tryz.prog 65 #[.string s] w fun e w' => e = .returned (.agg A) ∧ Below w.heap.size w w' := by
  subst hA; exact of_c s hl w
theorem orderD_v {a b : ByteArray} {A B : Array Value} (hA : A = (encU (dgS a)).toArray) (hB : B = (encU (dgS b)).toArray) (w : World) : Calls Tryz.prog 154 #[.agg A, .agg B, .func (.func 155) #[] #[]] w fun e w' => e = .returned (.int .i64 (ordB (dgLess (dgS a) (dgS b)) (dgLess (dgS b) (dgS a)))) ∧ Below w.heap.size w w' := by
  subst hA hB; exact orderD_c _ _ (dgS_length a) (dgS_length b) w
/-- A cell's cells. -/
abbrev cellA (N R : Int) (s : ByteArray) : Array Value := #[.int .i64 N, .int .i64 R, .string s]
set_option maxHeartbeats 1600000 in
theorem way1_c (p q : Nat) (N R N' R' : Int) (s s' : ByteArray) (w : World) (k1 : Blk w p 68 (cellA N R s)) (k2 : Blk w q 68 (cellA N' R' s')) : Calls Tryz.prog 151 #[.pointer (some ⟨p, 0, none⟩), .pointer (some ⟨q, 0, none⟩)] w fun e w' => e = .returned (.int .i64 (ordB (stLess N R N' R') (stLess N' R' N R))) ∧ Below w.heap.size w w' := by
  have hAc := @after_cell
  have hAf := @after_frozen
  have hSz := sz_facts
  have c0 : w.cell? ⟨p, 0, none⟩ = some (.int .i64 N) := k1.cell 0
  have c1 : w.cell? ⟨p, 1, none⟩ = some (.int .i64 R) := k1.cell 1
  have d0 : w.cell? ⟨q, 0, none⟩ = some (.int .i64 N') := k2.cell 0
  have d1 : w.cell? ⟨q, 1, none⟩ = some (.int .i64 R') := k2.cell 1
  clear k1 k2
  go_enter Tryz.func151, Tryz.ntmps151
  go_wp2_with (go_at_call 152; (with_reducible refine (orderS_c _ _ _ _ _).mono ?_); rintro e w' ⟨rfl, hb⟩; (first | ((fail_if_success revert x1); obtain ⟨x1, rfl⟩ := after_of hb; clear hb; have hz1 := after_size x1; (try (simp only [World.size_alloc, World.size_drew, World.size_setCell] at hz1)); (try (have f1gA := szf1 (a := gA) (b := x1.w.heap.size) (by omega))); (first | have f10 := szf3 (a := w.heap.size) (b := x1.w.heap.size) (by omega) | have f10 := szf2 (a := w.heap.size) (b := x1.w.heap.size) (by omega) | have f10 := szf1 (a := w.heap.size) (b := x1.w.heap.size) (by omega) | skip)) | ((fail_if_success revert x2); obtain ⟨x2, rfl⟩ := after_of hb; clear hb; have hz2 := after_size x2; (try (simp only [World.size_alloc, World.size_drew, World.size_setCell] at hz2)); (try (have f2gA := szf1 (a := gA) (b := x2.w.heap.size) (by omega))); (first | have f20 := szf3 (a := w.heap.size) (b := x2.w.heap.size) (by omega) | have f20 := szf2 (a := w.heap.size) (b := x2.w.heap.size) (by omega) | have f20 := szf1 (a := w.heap.size) (b := x2.w.heap.size) (by omega) | skip); (first | have f21 := szf2 (a := x1.w.heap.size) (b := x2.w.heap.size) (by omega) | have f21 := szf1 (a := x1.w.heap.size) (b := x2.w.heap.size) (by omega) | skip)) | ((fail_if_success revert x3); obtain ⟨x3, rfl⟩ := after_of hb; clear hb; have hz3 := after_size x3; (try (simp only [World.size_alloc, World.size_drew, World.size_setCell] at hz3)); (try (have f3gA := szf1 (a := gA) (b := x3.w.heap.size) (by omega))); (first | have f30 := szf3 (a := w.heap.size) (b := x3.w.heap.size) (by omega) | have f30 := szf2 (a := w.heap.size) (b := x3.w.heap.size) (by omega) | have f30 := szf1 (a := w.heap.size) (b := x3.w.heap.size) (by omega) | skip); (first | have f31 := szf2 (a := x1.w.heap.size) (b := x3.w.heap.size) (by omega) | have f31 := szf1 (a := x1.w.heap.size) (b := x3.w.heap.size) (by omega) | skip); (first | have f32 := szf2 (a := x2.w.heap.size) (b := x3.w.heap.size) (by omega) | have f32 := szf1 (a := x2.w.heap.size) (b := x3.w.heap.size) (by omega) | skip)) | ((fail_if_success revert x4); obtain ⟨x4, rfl⟩ := after_of hb; clear hb; have hz4 := after_size x4; (try (simp only [World.size_alloc, World.size_drew, World.size_setCell] at hz4)); (try (have f4gA := szf1 (a := gA) (b := x4.w.heap.size) (by omega))); (first | have f40 := szf3 (a := w.heap.size) (b := x4.w.heap.size) (by omega) | have f40 := szf2 (a := w.heap.size) (b := x4.w.heap.size) (by omega) | have f40 := szf1 (a := w.heap.size) (b := x4.w.heap.size) (by omega) | skip); (first | have f41 := szf2 (a := x1.w.heap.size) (b := x4.w.heap.size) (by omega) | have f41 := szf1 (a := x1.w.heap.size) (b := x4.w.heap.size) (by omega) | skip); (first | have f42 := szf2 (a := x2.w.heap.size) (b := x4.w.heap.size) (by omega) | have f42 := szf1 (a := x2.w.heap.size) (b := x4.w.heap.size) (by omega) | skip); (first | have f43 := szf2 (a := x3.w.heap.size) (b := x4.w.heap.size) (by omega) | have f43 := szf1 (a := x3.w.heap.size) (b := x4.w.heap.size) (by omega) | skip)) | ((fail_if_success revert x5); obtain ⟨x5, rfl⟩ := after_of hb; clear hb; have hz5 := after_size x5; (try (simp only [World.size_alloc, World.size_drew, World.size_setCell] at hz5)); (try (have f5gA := szf1 (a := gA) (b := x5.w.heap.size) (by omega))); (first | have f50 := szf3 (a := w.heap.size) (b := x5.w.heap.size) (by omega) | have f50 := szf2 (a := w.heap.size) (b := x5.w.heap.size) (by omega) | have f50 := szf1 (a := w.heap.size) (b := x5.w.heap.size) (by omega) | skip); (first | have f51 := szf2 (a := x1.w.heap.size) (b := x5.w.heap.size) (by omega) | have f51 := szf1 (a := x1.w.heap.size) (b := x5.w.heap.size) (by omega) | skip); (first | have f52 := szf2 (a := x2.w.heap.size) (b := x5.w.heap.size) (by omega) | have f52 := szf1 (a := x2.w.heap.size) (b := x5.w.heap.size) (by omega) | skip); (first | have f53 := szf2 (a := x3.w.heap.size) (b := x5.w.heap.size) (by omega) | have f53 := szf1 (a := x3.w.heap.size) (b := x5.w.heap.size) (by omega) | skip); (first | have f54 := szf2 (a := x4.w.heap.size) (b := x5.w.heap.size) (by omega) | have f54 := szf1 (a := x4.w.heap.size) (b := x5.w.heap.size) (by omega) | skip))))
  go_ret
  exact ⟨rfl, by (repeat (first | exact Below.refl _ _ | assumption | refine bel_alloc ?_ _ | refine bel_after _ ?_ | refine bel_drewN ?_ _ | refine bel_drew ?_ | refine bel_set ?_ (by first | omega | (simp only [World.size_alloc, World.size_drew, World.size_setCell]; omega) | (simp; omega)) _))⟩
set_option maxHeartbeats 1600000 in
theorem way2_c (p q : Nat) (N R N' R' : Int) (s s' : ByteArray) (hs : s.size ≤ 80000) (hs' : s'.size ≤ 80000) (w : World) (k1 : Blk w p 68 (cellA N R s)) (k2 : Blk w q 68 (cellA N' R' s')) : Calls Tryz.prog 153 #[.pointer (some ⟨p, 0, none⟩), .pointer (some ⟨q, 0, none⟩)] w fun e w' => e = .returned (.int .i64 (ordB (dgLess (dgS s) (dgS s')) (dgLess (dgS s') (dgS s)))) ∧ Below w.heap.size w w' := by
  have hAc := @after_cell
  obtain ⟨A, hA⟩ : ∃ A, Hid (A = (encU (dgS s)).toArray) := ⟨_, rfl⟩
  obtain ⟨B, hB⟩ : ∃ B, Hid (B = (encU (dgS s')).toArray) := ⟨_, rfl⟩
  have c2 : w.cell? ⟨p, 2, none⟩ = some (.string s) := k1.cell 2
  have d2 : w.cell? ⟨q, 2, none⟩ = some (.string s') := k2.cell 2
  have l1 := k1.lt
  have l2 := k2.lt
  have Hs := Lib.hid hs; have Hs' := Lib.hid hs'
  clear k1 k2 hs hs'
  go_enter Tryz.func153, Tryz.ntmps153
  go_wp2
  refine wp_quiet_all (C := fun w' => ∃ x : After _, w' = x.w) (by kernel_rfl) (by kernel_rfl) (since_drew _) ?_
  repeat (go_big_quiet_step ((first | (go_at_call 65; first | (with_reducible exact after_call _ (of_v Hs.out hA.out _)) | (with_reducible exact after_call _ (of_v Hs'.out hB.out _))) | (go_at_call 154; with_reducible exact after_call _ (orderD_v hA.out hB.out _)))))
  refine wpQuiet_nil ?_
  rintro _ ⟨x1, rfl⟩
  go_wp2
  go_ret
  exact ⟨rfl, x1.h⟩
set_option maxHeartbeats 1600000 in
theorem way3_c (p q : Nat) (N R N' R' : Int) (s s' : ByteArray) (w : World) (k1 : Blk w p 68 (cellA N R s)) (k2 : Blk w q 68 (cellA N' R' s')) : Calls Tryz.prog 156 #[.pointer (some ⟨p, 0, none⟩), .pointer (some ⟨q, 0, none⟩)] w fun e w' => e = .returned (.int .i64 (ordB (strLess s s') (!(s.toList == s'.toList)))) ∧ w = w' := by
  have c2 : w.cell? ⟨p, 2, none⟩ = some (.string s) := k1.cell 2
  have d2 : w.cell? ⟨q, 2, none⟩ = some (.string s') := k2.cell 2
  clear k1 k2
  go_enter Tryz.func156, Tryz.ntmps156
  go_wp2_with (go_at_call 157; (with_reducible refine (strcmp_c _ _ _).mono ?_); rintro e w' ⟨rfl, rfl⟩)
  go_ret
  exact ⟨rfl, rfl⟩
end Go.Proofs.YtolbmemogoojhaaGreat
/- Less and Join of cells. -/
namespace Go.Proofs.YtolbmemogoojhaaGreat
open Go Go.RowKit Go.Deep
set_option linter.unusedVariables false
set_option linter.unusedSimpArgs false
set_option maxRecDepth 100000

theorem index_way (W : World) (f g h : Value) (j : Nat) (hj : j < 3) (i : Int) (hi : i = j) : (Instr.index 185 (.agg #[f, g, h]) (.int .i64 i)).run Tryz.prog W = .ok (#[f, g, h].getD j undef) W := by
  subst hi
  have e1 : ∀ w, (underlying 185).run Tryz.prog w = .ok (.array 3 181) w := fun w => run_underlying (P := Tryz.prog) (by kernel_rfl) w
  have e2 : ∀ w, (isAgg 181).run Tryz.prog w = .ok false w := fun w => by kernel_rfl
  have e3 : ∀ w, (sizeOf 181).run Tryz.prog w = .ok 1 w := fun w => by kernel_rfl
  match j, hj with
  | 0, _ | 1, _ | 2, _ => simp [Instr.index, asIntOf, e1, part, e2, e3]
def pick3 (a b c : Int) : Bool := if a ≠ 0 then decide (a < 0) else if b ≠ 0 then decide (b < 0) else if c ≠ 0 then decide (c < 0) else false
/-- Is one cell less than another one? -/
def cLess (N R : Int) (s : ByteArray) (N' R' : Int) (s' : ByteArray) : Bool :=
  pick3 (ordB (stLess N R N' R') (stLess N' R' N R)) (ordB (dgLess (dgS s) (dgS s')) (dgLess (dgS s') (dgS s))) (ordB (strLess s s') (!(s.toList == s'.toList)))
set_option maxHeartbeats 1600000 in
theorem cless_c (N R N' R' : Int) (s s' : ByteArray) (hs : s.size ≤ 80000) (hs' : s'.size ≤ 80000) (w : World) : Calls Tryz.prog 141 #[.agg (cellA N R s), .agg (cellA N' R' s')] w fun e w' => e = .returned (.bool (cLess N R s N' R' s')) ∧ Below w.heap.size w w' := by
  obtain ⟨n1, hn1⟩ : ∃ n1, n1 = ordB (stLess N R N' R') (stLess N' R' N R) := ⟨_, rfl⟩
  obtain ⟨n2, hn2⟩ : ∃ n2, n2 = ordB (dgLess (dgS s) (dgS s')) (dgLess (dgS s') (dgS s)) := ⟨_, rfl⟩
  obtain ⟨n3, hn3⟩ : ∃ n3, n3 = ordB (strLess s s') (!(s.toList == s'.toList)) := ⟨_, rfl⟩
  have way1 := fun p q w k1 k2 => way1_c p q N R N' R' s s' w k1 k2
  have way2 := fun p q w k1 k2 => way2_c p q N R N' R' s s' hs hs' w k1 k2
  have way3 := fun p q w k1 k2 => way3_c p q N R N' R' s s' w k1 k2
  rw [← hn1] at way1; rw [← hn2] at way2; rw [← hn3] at way3
  rw [show cLess N R s N' R' s' = pick3 n1 n2 n3 by rw [hn1, hn2, hn3]; rfl]
  have Hw1 := Lib.hid way1; have Hw2 := Lib.hid way2; have Hw3 := Lib.hid way3
  clear hn1 hn2 hn3 way1 way2 way3 hs hs'
  go_enter Tryz.func141, Tryz.ntmps141
  go_wp2_with (first | ((fail_if_success have := k1); refine wpList_box_blk rfl 68 _ rfl _ rfl (cellA N R s) rfl ?_; intro w1 k1 b1 s1) | (refine wpList_box_blk rfl 68 _ rfl _ rfl (cellA N' R' s') rfl ?_; intro w2 k2 b2 s2) | (refine wpList_alloc_blk rfl 185 rfl _ rfl (.agg #[.nilFunc, .nilFunc, .nilFunc]) #[.nilFunc, .nilFunc, .nilFunc] (by kernel_rfl) rfl ?_; intro w3 k3 b3 s3) | (refine wpList_store_blk rfl 185 _ _ rfl _ #[.func (.func 151) #[] #[.pointer (some ⟨w.heap.size, 0, none⟩), .pointer (some ⟨w.heap.size + 1, 0, none⟩)], .func (.func 153) #[] #[.pointer (some ⟨w.heap.size, 0, none⟩), .pointer (some ⟨w.heap.size + 1, 0, none⟩)], .func (.func 156) #[] #[.pointer (some ⟨w.heap.size, 0, none⟩), .pointer (some ⟨w.heap.size + 1, 0, none⟩)]] rfl rfl _ _ k3 (by kernel_rfl) rfl (by simp [Value.oneCell']) ?_; intro w4 k4 b4 s4) | (refine wpList_load_row rfl 185 _ rfl _ rfl _ _ _ _ k4 Tryz.underlying185 rfl (by kernel_rfl) ?_))
  rw [s1] at k2
  have hz2 := b2.size
  have K1 := Lib.hid (((k1.below b2 (by omega)).below b3 (by omega)).but b4 (by omega))
  have K2 := Lib.hid ((k2.below b3 (by omega)).but b4 (by omega))
  have HB4 : Hid (Below w.heap.size w w4) := Lib.hid (b1.trans ((b2.mono (by omega)).trans ((b3.mono (by omega)).trans (b4.below (by omega) (by omega)))))
  have hsz := HB4.out.size
  clear k1 k2 k3 k4 b1 b2 b3 b4
  have x0 := fun W f g h => index_way W f g h 0 (by omega) 0 rfl
  have x1 := fun W f g h => index_way W f g h 1 (by omega) 1 rfl
  have x2 := fun W f g h => index_way W f g h 2 (by omega) 2 rfl
  go_loopw [14] (fun i wr => ∃ j : Nat, j ≤ 3 ∧ i = .int .i64 j ∧ Hid ((1 ≤ j → n1 = 0) ∧ (2 ≤ j → n2 = 0) ∧ (3 ≤ j → n3 = 0)) ∧ Hid (Below w4.heap.size w4 wr)) (fun i _ => 3 - (intOf i).toNat)
  case atStart => exact ⟨0, by omega, rfl, Lib.hid ⟨fun h => by omega, fun h => by omega, fun h => by omega⟩, Lib.hid (Below.refl _ _)⟩
  case round =>
    obtain ⟨j, hj, rfl, Z, B⟩ := hrel
    rcases (by omega : j = 0 ∨ j = 1 ∨ j = 2 ∨ j = 3) with h | h | h | h
    all_goals subst h
    · rcases Decidable.em (n1 = 0) with h0 | h0
      · subst h0
        go_wp2_with (go_at_call 151; (refine (Hw1.out _ _ _ (K1.out.below B.out K1.out.lt) (K2.out.below B.out K2.out.lt)).mono ?_); rintro e w5 ⟨rfl, b5⟩)
        go_roundw
        case rel => exact ⟨1, by omega, rfl, Lib.hid ⟨fun _ => by simp, fun h => by omega, fun h => by omega⟩, Lib.hid (B.out.trans (b5.mono B.out.size))⟩
        case measure => simp [intOf]
      · have hne : (n1 != 0) = true := by simpa using h0
        have Hn := Lib.hid h0; clear h0
        go_wp2_with (go_at_call 151; (refine (Hw1.out _ _ _ (K1.out.below B.out K1.out.lt) (K2.out.below B.out K2.out.lt)).mono ?_); rintro e w5 ⟨rfl, b5⟩)
        all_goals first | (rw [Exit.noGoto_ret]; go_ret) | go_ret
        all_goals exact ⟨ret_bool (by have hz := Z.out; have hn := Hn.out; simp [pick3, hn, hz]), HB4.out.trans ((B.out.trans (b5.mono B.out.size)).mono hsz)⟩
    · rcases Decidable.em (n2 = 0) with h0 | h0
      · subst h0
        go_wp2_with (go_at_call 153; (refine (Hw2.out _ _ _ (K1.out.below B.out K1.out.lt) (K2.out.below B.out K2.out.lt)).mono ?_); rintro e w5 ⟨rfl, b5⟩)
        go_roundw
        case rel => exact ⟨2, by omega, rfl, Lib.hid ⟨fun _ => Z.out.1 (by omega), fun _ => by simp, fun h => by omega⟩, Lib.hid (B.out.trans (b5.mono B.out.size))⟩
        case measure => simp [intOf]
      · have hne : (n2 != 0) = true := by simpa using h0
        have Hn := Lib.hid h0; clear h0
        go_wp2_with (go_at_call 153; (refine (Hw2.out _ _ _ (K1.out.below B.out K1.out.lt) (K2.out.below B.out K2.out.lt)).mono ?_); rintro e w5 ⟨rfl, b5⟩)
        all_goals first | (rw [Exit.noGoto_ret]; go_ret) | go_ret
        all_goals exact ⟨ret_bool (by have hz := Z.out; have hn := Hn.out; simp [pick3, hn, hz]), HB4.out.trans ((B.out.trans (b5.mono B.out.size)).mono hsz)⟩
    · rcases Decidable.em (n3 = 0) with h0 | h0
      · subst h0
        go_wp2_with (go_at_call 156; (refine (Hw3.out _ _ _ (K1.out.below B.out K1.out.lt) (K2.out.below B.out K2.out.lt)).mono ?_); rintro e w5 ⟨rfl, rfl⟩; have b5 : Below wr.heap.size wr wr := Below.refl _ _)
        go_roundw
        case rel => exact ⟨3, by omega, rfl, Lib.hid ⟨fun _ => Z.out.1 (by omega), fun _ => Z.out.2.1 (by omega), fun _ => by simp⟩, Lib.hid (B.out.trans (b5.mono B.out.size))⟩
        case measure => simp [intOf]
      · have hne : (n3 != 0) = true := by simpa using h0
        have Hn := Lib.hid h0; clear h0
        go_wp2_with (go_at_call 156; (refine (Hw3.out _ _ _ (K1.out.below B.out K1.out.lt) (K2.out.below B.out K2.out.lt)).mono ?_); rintro e w5 ⟨rfl, rfl⟩; have b5 : Below wr.heap.size wr wr := Below.refl _ _)
        all_goals first | (rw [Exit.noGoto_ret]; go_ret) | go_ret
        all_goals exact ⟨ret_bool (by have hz := Z.out; have hn := Hn.out; simp [pick3, hn, hz]), HB4.out.trans ((B.out.trans (b5.mono B.out.size)).mono hsz)⟩
    · go_wp2
      all_goals first | (rw [Exit.noGoto_ret]; go_ret) | go_ret
      all_goals exact ⟨ret_bool (by have hz := Z.out; simp [pick3, hz]), HB4.out.trans (B.out.mono hsz)⟩
end Go.Proofs.YtolbmemogoojhaaGreat
/- wire.Text and wire.Read. -/
namespace Go.Proofs.YtolbmemogoojhaaGreat
open Go Go.RowKit Go.Deep
set_option linter.unusedVariables false
set_option linter.unusedSimpArgs false
set_option maxRecDepth 100000

/-- What Read reads: the text, how many bytes. -/
def readR (bs : List UInt8) (M : Nat) : Option (ByteArray × Nat) :=
  match getR bs with
  | some (n, u) => if n ≤ min M (bs.length - u) then some (bstr ((bs.drop u).take n), u + n) else none
  | none => none
end Go.Proofs.YtolbmemogoojhaaGreat
/- May, Join, Put and Get of cells. -/
namespace Go.Proofs.YtolbmemogoojhaaGreat
open Go Go.RowKit Go.Deep
set_option linter.unusedVariables false
set_option linter.unusedSimpArgs false
set_option maxRecDepth 100000

def cMay (N R : Int) (s : ByteArray) : Bool := !stEq N R 0 0 && stMay N R && decide (s.size ≤ 200)
set_option maxHeartbeats 1600000 in
theorem cmay_c (N R : Int) (s : ByteArray) (w : World) : Calls Tryz.prog 97 #[.agg (cellA N R s)] w fun e w' => e = .returned (.bool (cMay N R s)) ∧ Below w.heap.size w w' := by
  have hAc := @after_cell
  have hAf := @after_frozen
  have hSz := sz_facts
  have hq := @neq_stamp
  obtain ⟨n, hn⟩ : ∃ n, n = s.size := ⟨_, rfl⟩
  have hlen : ∀ W, (Builtin.len_ #[9] 3 #[.string s]).run Tryz.prog W = .ok (.int .i64 (n : Int)) W := fun W => by
    rw [run_len_string W 9 3 s (by kernel_rfl), hn]; rfl
  have Hn := Lib.hid hn; clear hn
  have Hm : Hid (cMay N R s = (!stEq N R 0 0 && stMay N R && decide (n ≤ 200))) := by rw [Hn.out]; exact Lib.hid rfl
  cases h1 : stEq N R 0 0
  · cases h2 : stMay N R
    · have H2 := Lib.hid h2
      rw [h1, h2] at Hm
      clear h2
      go_enter Tryz.func97, Tryz.ntmps97
      go_wp2_with (go_at_call 96; (with_reducible refine (may_v H2.out _).mono ?_); rintro e w' ⟨rfl, hb⟩; (first | ((fail_if_success revert x1); obtain ⟨x1, rfl⟩ := after_of hb; clear hb; have hz1 := after_size x1; (try (simp only [World.size_alloc, World.size_drew, World.size_setCell] at hz1)); (try (have f1gA := szf1 (a := gA) (b := x1.w.heap.size) (by omega))); (first | have f10 := szf3 (a := w.heap.size) (b := x1.w.heap.size) (by omega) | have f10 := szf2 (a := w.heap.size) (b := x1.w.heap.size) (by omega) | have f10 := szf1 (a := w.heap.size) (b := x1.w.heap.size) (by omega) | skip)) | ((fail_if_success revert x2); obtain ⟨x2, rfl⟩ := after_of hb; clear hb; have hz2 := after_size x2; (try (simp only [World.size_alloc, World.size_drew, World.size_setCell] at hz2)); (try (have f2gA := szf1 (a := gA) (b := x2.w.heap.size) (by omega))); (first | have f20 := szf3 (a := w.heap.size) (b := x2.w.heap.size) (by omega) | have f20 := szf2 (a := w.heap.size) (b := x2.w.heap.size) (by omega) | have f20 := szf1 (a := w.heap.size) (b := x2.w.heap.size) (by omega) | skip); (first | have f21 := szf2 (a := x1.w.heap.size) (b := x2.w.heap.size) (by omega) | have f21 := szf1 (a := x1.w.heap.size) (b := x2.w.heap.size) (by omega) | skip)) | ((fail_if_success revert x3); obtain ⟨x3, rfl⟩ := after_of hb; clear hb; have hz3 := after_size x3; (try (simp only [World.size_alloc, World.size_drew, World.size_setCell] at hz3)); (try (have f3gA := szf1 (a := gA) (b := x3.w.heap.size) (by omega))); (first | have f30 := szf3 (a := w.heap.size) (b := x3.w.heap.size) (by omega) | have f30 := szf2 (a := w.heap.size) (b := x3.w.heap.size) (by omega) | have f30 := szf1 (a := w.heap.size) (b := x3.w.heap.size) (by omega) | skip); (first | have f31 := szf2 (a := x1.w.heap.size) (b := x3.w.heap.size) (by omega) | have f31 := szf1 (a := x1.w.heap.size) (b := x3.w.heap.size) (by omega) | skip); (first | have f32 := szf2 (a := x2.w.heap.size) (b := x3.w.heap.size) (by omega) | have f32 := szf1 (a := x2.w.heap.size) (b := x3.w.heap.size) (by omega) | skip)) | ((fail_if_success revert x4); obtain ⟨x4, rfl⟩ := after_of hb; clear hb; have hz4 := after_size x4; (try (simp only [World.size_alloc, World.size_drew, World.size_setCell] at hz4)); (try (have f4gA := szf1 (a := gA) (b := x4.w.heap.size) (by omega))); (first | have f40 := szf3 (a := w.heap.size) (b := x4.w.heap.size) (by omega) | have f40 := szf2 (a := w.heap.size) (b := x4.w.heap.size) (by omega) | have f40 := szf1 (a := w.heap.size) (b := x4.w.heap.size) (by omega) | skip); (first | have f41 := szf2 (a := x1.w.heap.size) (b := x4.w.heap.size) (by omega) | have f41 := szf1 (a := x1.w.heap.size) (b := x4.w.heap.size) (by omega) | skip); (first | have f42 := szf2 (a := x2.w.heap.size) (b := x4.w.heap.size) (by omega) | have f42 := szf1 (a := x2.w.heap.size) (b := x4.w.heap.size) (by omega) | skip); (first | have f43 := szf2 (a := x3.w.heap.size) (b := x4.w.heap.size) (by omega) | have f43 := szf1 (a := x3.w.heap.size) (b := x4.w.heap.size) (by omega) | skip)) | ((fail_if_success revert x5); obtain ⟨x5, rfl⟩ := after_of hb; clear hb; have hz5 := after_size x5; (try (simp only [World.size_alloc, World.size_drew, World.size_setCell] at hz5)); (try (have f5gA := szf1 (a := gA) (b := x5.w.heap.size) (by omega))); (first | have f50 := szf3 (a := w.heap.size) (b := x5.w.heap.size) (by omega) | have f50 := szf2 (a := w.heap.size) (b := x5.w.heap.size) (by omega) | have f50 := szf1 (a := w.heap.size) (b := x5.w.heap.size) (by omega) | skip); (first | have f51 := szf2 (a := x1.w.heap.size) (b := x5.w.heap.size) (by omega) | have f51 := szf1 (a := x1.w.heap.size) (b := x5.w.heap.size) (by omega) | skip); (first | have f52 := szf2 (a := x2.w.heap.size) (b := x5.w.heap.size) (by omega) | have f52 := szf1 (a := x2.w.heap.size) (b := x5.w.heap.size) (by omega) | skip); (first | have f53 := szf2 (a := x3.w.heap.size) (b := x5.w.heap.size) (by omega) | have f53 := szf1 (a := x3.w.heap.size) (b := x5.w.heap.size) (by omega) | skip); (first | have f54 := szf2 (a := x4.w.heap.size) (b := x5.w.heap.size) (by omega) | have f54 := szf1 (a := x4.w.heap.size) (b := x5.w.heap.size) (by omega) | skip))))
      go_ret
      exact ⟨by rw [Hm.out]; rfl, by (repeat (first | exact Below.refl _ _ | assumption | refine bel_alloc ?_ _ | refine bel_after _ ?_ | refine bel_drewN ?_ _ | refine bel_drew ?_ | refine bel_set ?_ (by first | omega | (simp only [World.size_alloc, World.size_drew, World.size_setCell]; omega) | (simp; omega)) _))⟩
    · have H2 := Lib.hid h2
      rw [h1, h2] at Hm
      clear h2
      go_enter Tryz.func97, Tryz.ntmps97
      go_wp2_with (go_at_call 96; (with_reducible refine (may_v H2.out _).mono ?_); rintro e w' ⟨rfl, hb⟩; (first | ((fail_if_success revert x1); obtain ⟨x1, rfl⟩ := after_of hb; clear hb; have hz1 := after_size x1; (try (simp only [World.size_alloc, World.size_drew, World.size_setCell] at hz1)); (try (have f1gA := szf1 (a := gA) (b := x1.w.heap.size) (by omega))); (first | have f10 := szf3 (a := w.heap.size) (b := x1.w.heap.size) (by omega) | have f10 := szf2 (a := w.heap.size) (b := x1.w.heap.size) (by omega) | have f10 := szf1 (a := w.heap.size) (b := x1.w.heap.size) (by omega) | skip)) | ((fail_if_success revert x2); obtain ⟨x2, rfl⟩ := after_of hb; clear hb; have hz2 := after_size x2; (try (simp only [World.size_alloc, World.size_drew, World.size_setCell] at hz2)); (try (have f2gA := szf1 (a := gA) (b := x2.w.heap.size) (by omega))); (first | have f20 := szf3 (a := w.heap.size) (b := x2.w.heap.size) (by omega) | have f20 := szf2 (a := w.heap.size) (b := x2.w.heap.size) (by omega) | have f20 := szf1 (a := w.heap.size) (b := x2.w.heap.size) (by omega) | skip); (first | have f21 := szf2 (a := x1.w.heap.size) (b := x2.w.heap.size) (by omega) | have f21 := szf1 (a := x1.w.heap.size) (b := x2.w.heap.size) (by omega) | skip)) | ((fail_if_success revert x3); obtain ⟨x3, rfl⟩ := after_of hb; clear hb; have hz3 := after_size x3; (try (simp only [World.size_alloc, World.size_drew, World.size_setCell] at hz3)); (try (have f3gA := szf1 (a := gA) (b := x3.w.heap.size) (by omega))); (first | have f30 := szf3 (a := w.heap.size) (b := x3.w.heap.size) (by omega) | have f30 := szf2 (a := w.heap.size) (b := x3.w.heap.size) (by omega) | have f30 := szf1 (a := w.heap.size) (b := x3.w.heap.size) (by omega) | skip); (first | have f31 := szf2 (a := x1.w.heap.size) (b := x3.w.heap.size) (by omega) | have f31 := szf1 (a := x1.w.heap.size) (b := x3.w.heap.size) (by omega) | skip); (first | have f32 := szf2 (a := x2.w.heap.size) (b := x3.w.heap.size) (by omega) | have f32 := szf1 (a := x2.w.heap.size) (b := x3.w.heap.size) (by omega) | skip)) | ((fail_if_success revert x4); obtain ⟨x4, rfl⟩ := after_of hb; clear hb; have hz4 := after_size x4; (try (simp only [World.size_alloc, World.size_drew, World.size_setCell] at hz4)); (try (have f4gA := szf1 (a := gA) (b := x4.w.heap.size) (by omega))); (first | have f40 := szf3 (a := w.heap.size) (b := x4.w.heap.size) (by omega) | have f40 := szf2 (a := w.heap.size) (b := x4.w.heap.size) (by omega) | have f40 := szf1 (a := w.heap.size) (b := x4.w.heap.size) (by omega) | skip); (first | have f41 := szf2 (a := x1.w.heap.size) (b := x4.w.heap.size) (by omega) | have f41 := szf1 (a := x1.w.heap.size) (b := x4.w.heap.size) (by omega) | skip); (first | have f42 := szf2 (a := x2.w.heap.size) (b := x4.w.heap.size) (by omega) | have f42 := szf1 (a := x2.w.heap.size) (b := x4.w.heap.size) (by omega) | skip); (first | have f43 := szf2 (a := x3.w.heap.size) (b := x4.w.heap.size) (by omega) | have f43 := szf1 (a := x3.w.heap.size) (b := x4.w.heap.size) (by omega) | skip)) | ((fail_if_success revert x5); obtain ⟨x5, rfl⟩ := after_of hb; clear hb; have hz5 := after_size x5; (try (simp only [World.size_alloc, World.size_drew, World.size_setCell] at hz5)); (try (have f5gA := szf1 (a := gA) (b := x5.w.heap.size) (by omega))); (first | have f50 := szf3 (a := w.heap.size) (b := x5.w.heap.size) (by omega) | have f50 := szf2 (a := w.heap.size) (b := x5.w.heap.size) (by omega) | have f50 := szf1 (a := w.heap.size) (b := x5.w.heap.size) (by omega) | skip); (first | have f51 := szf2 (a := x1.w.heap.size) (b := x5.w.heap.size) (by omega) | have f51 := szf1 (a := x1.w.heap.size) (b := x5.w.heap.size) (by omega) | skip); (first | have f52 := szf2 (a := x2.w.heap.size) (b := x5.w.heap.size) (by omega) | have f52 := szf1 (a := x2.w.heap.size) (b := x5.w.heap.size) (by omega) | skip); (first | have f53 := szf2 (a := x3.w.heap.size) (b := x5.w.heap.size) (by omega) | have f53 := szf1 (a := x3.w.heap.size) (b := x5.w.heap.size) (by omega) | skip); (first | have f54 := szf2 (a := x4.w.heap.size) (b := x5.w.heap.size) (by omega) | have f54 := szf1 (a := x4.w.heap.size) (b := x5.w.heap.size) (by omega) | skip))))
      go_ret
      exact ⟨by rw [Hm.out]; simp; omega, by (repeat (first | exact Below.refl _ _ | assumption | refine bel_alloc ?_ _ | refine bel_after _ ?_ | refine bel_drewN ?_ _ | refine bel_drew ?_ | refine bel_set ?_ (by first | omega | (simp only [World.size_alloc, World.size_drew, World.size_setCell]; omega) | (simp; omega)) _))⟩
  · rw [h1] at Hm
    go_enter Tryz.func97, Tryz.ntmps97
    go_wp2
    go_ret
    exact ⟨by rw [Hm.out]; simp, by (repeat (first | exact Below.refl _ _ | assumption | refine bel_alloc ?_ _ | refine bel_after _ ?_ | refine bel_drewN ?_ _ | refine bel_drew ?_ | refine bel_set ?_ (by first | omega | (simp only [World.size_alloc, World.size_drew, World.size_setCell]; omega) | (simp; omega)) _))⟩

theorem cmay_v {N R : Int} {s : ByteArray} {b : Bool} (h : cMay N R s = b) (w : World) : Calls Tryz.prog 97 #[.agg (cellA N R s)] w fun e w' => e = .returned (.bool b) ∧ Below w.heap.size w w' := by
  rw [← h]; exact cmay_c N R s w
theorem cless_v {N R N' R' : Int} {s s' : ByteArray} {b : Bool} (h : cLess N R s N' R' s' = b) (hs : s.size ≤ 80000) (hs' : s'.size ≤ 80000) (w : World) : Calls Tryz.prog 141 #[.agg (cellA N R s), .agg (cellA N' R' s')] w fun e w' => e = .returned (.bool b) ∧ Below w.heap.size w w' := by
  rw [← h]; exact cless_c N R N' R' s s' hs hs' w
theorem cMay_le {N R : Int} {s : ByteArray} (h : cMay N R s = true) : stEq N R 0 0 = false ∧ stMay N R = true ∧ s.size ≤ 200 := by
  simp only [cMay, Bool.and_eq_true, Bool.not_eq_true', decide_eq_true_eq] at h; exact ⟨h.1.1, h.1.2, h.2⟩
set_option maxHeartbeats 1600000 in
theorem cjoin_c (N R N' R' : Int) (s s' : ByteArray) (hs : s.size ≤ 80000) (hs' : s'.size ≤ 80000) (w : World) : Calls Tryz.prog 121 #[.agg (cellA N R s), .agg (cellA N' R' s')] w fun e w' => e = .returned (.agg (bif cLess N R s N' R' s' then cellA N' R' s' else cellA N R s)) ∧ Below w.heap.size w w' := by
  have hAc := @after_cell
  have hAf := @after_frozen
  have hSz := sz_facts
  have Hs := Lib.hid hs; have Hs' := Lib.hid hs'; clear hs hs'
  cases hl : cLess N R s N' R' s'
  all_goals
    have Hl := Lib.hid hl; clear hl
    go_enter Tryz.func121, Tryz.ntmps121
    go_wp2_with (go_at_call 141; (with_reducible refine (cless_v Hl.out Hs.out Hs'.out _).mono ?_); rintro e w' ⟨rfl, hb⟩; (first | ((fail_if_success revert x1); obtain ⟨x1, rfl⟩ := after_of hb; clear hb; have hz1 := after_size x1; (try (simp only [World.size_alloc, World.size_drew, World.size_setCell] at hz1)); (try (have f1gA := szf1 (a := gA) (b := x1.w.heap.size) (by omega))); (first | have f10 := szf3 (a := w.heap.size) (b := x1.w.heap.size) (by omega) | have f10 := szf2 (a := w.heap.size) (b := x1.w.heap.size) (by omega) | have f10 := szf1 (a := w.heap.size) (b := x1.w.heap.size) (by omega) | skip)) | ((fail_if_success revert x2); obtain ⟨x2, rfl⟩ := after_of hb; clear hb; have hz2 := after_size x2; (try (simp only [World.size_alloc, World.size_drew, World.size_setCell] at hz2)); (try (have f2gA := szf1 (a := gA) (b := x2.w.heap.size) (by omega))); (first | have f20 := szf3 (a := w.heap.size) (b := x2.w.heap.size) (by omega) | have f20 := szf2 (a := w.heap.size) (b := x2.w.heap.size) (by omega) | have f20 := szf1 (a := w.heap.size) (b := x2.w.heap.size) (by omega) | skip); (first | have f21 := szf2 (a := x1.w.heap.size) (b := x2.w.heap.size) (by omega) | have f21 := szf1 (a := x1.w.heap.size) (b := x2.w.heap.size) (by omega) | skip)) | ((fail_if_success revert x3); obtain ⟨x3, rfl⟩ := after_of hb; clear hb; have hz3 := after_size x3; (try (simp only [World.size_alloc, World.size_drew, World.size_setCell] at hz3)); (try (have f3gA := szf1 (a := gA) (b := x3.w.heap.size) (by omega))); (first | have f30 := szf3 (a := w.heap.size) (b := x3.w.heap.size) (by omega) | have f30 := szf2 (a := w.heap.size) (b := x3.w.heap.size) (by omega) | have f30 := szf1 (a := w.heap.size) (b := x3.w.heap.size) (by omega) | skip); (first | have f31 := szf2 (a := x1.w.heap.size) (b := x3.w.heap.size) (by omega) | have f31 := szf1 (a := x1.w.heap.size) (b := x3.w.heap.size) (by omega) | skip); (first | have f32 := szf2 (a := x2.w.heap.size) (b := x3.w.heap.size) (by omega) | have f32 := szf1 (a := x2.w.heap.size) (b := x3.w.heap.size) (by omega) | skip)) | ((fail_if_success revert x4); obtain ⟨x4, rfl⟩ := after_of hb; clear hb; have hz4 := after_size x4; (try (simp only [World.size_alloc, World.size_drew, World.size_setCell] at hz4)); (try (have f4gA := szf1 (a := gA) (b := x4.w.heap.size) (by omega))); (first | have f40 := szf3 (a := w.heap.size) (b := x4.w.heap.size) (by omega) | have f40 := szf2 (a := w.heap.size) (b := x4.w.heap.size) (by omega) | have f40 := szf1 (a := w.heap.size) (b := x4.w.heap.size) (by omega) | skip); (first | have f41 := szf2 (a := x1.w.heap.size) (b := x4.w.heap.size) (by omega) | have f41 := szf1 (a := x1.w.heap.size) (b := x4.w.heap.size) (by omega) | skip); (first | have f42 := szf2 (a := x2.w.heap.size) (b := x4.w.heap.size) (by omega) | have f42 := szf1 (a := x2.w.heap.size) (b := x4.w.heap.size) (by omega) | skip); (first | have f43 := szf2 (a := x3.w.heap.size) (b := x4.w.heap.size) (by omega) | have f43 := szf1 (a := x3.w.heap.size) (b := x4.w.heap.size) (by omega) | skip)) | ((fail_if_success revert x5); obtain ⟨x5, rfl⟩ := after_of hb; clear hb; have hz5 := after_size x5; (try (simp only [World.size_alloc, World.size_drew, World.size_setCell] at hz5)); (try (have f5gA := szf1 (a := gA) (b := x5.w.heap.size) (by omega))); (first | have f50 := szf3 (a := w.heap.size) (b := x5.w.heap.size) (by omega) | have f50 := szf2 (a := w.heap.size) (b := x5.w.heap.size) (by omega) | have f50 := szf1 (a := w.heap.size) (b := x5.w.heap.size) (by omega) | skip); (first | have f51 := szf2 (a := x1.w.heap.size) (b := x5.w.heap.size) (by omega) | have f51 := szf1 (a := x1.w.heap.size) (b := x5.w.heap.size) (by omega) | skip); (first | have f52 := szf2 (a := x2.w.heap.size) (b := x5.w.heap.size) (by omega) | have f52 := szf1 (a := x2.w.heap.size) (b := x5.w.heap.size) (by omega) | skip); (first | have f53 := szf2 (a := x3.w.heap.size) (b := x5.w.heap.size) (by omega) | have f53 := szf1 (a := x3.w.heap.size) (b := x5.w.heap.size) (by omega) | skip); (first | have f54 := szf2 (a := x4.w.heap.size) (b := x5.w.heap.size) (by omega) | have f54 := szf1 (a := x4.w.heap.size) (b := x5.w.heap.size) (by omega) | skip))))
  · exact bodyPost_ret (v := .agg (cellA N R s)) (by simp only [results, Tryz.results121]; go_simp) rfl ⟨rfl, by (repeat (first | exact Below.refl _ _ | assumption | refine bel_alloc ?_ _ | refine bel_after _ ?_ | refine bel_drewN ?_ _ | refine bel_drew ?_ | refine bel_set ?_ (by first | omega | (simp only [World.size_alloc, World.size_drew, World.size_setCell]; omega) | (simp; omega)) _))⟩
  · exact bodyPost_ret (v := .agg (cellA N' R' s')) (by simp only [results, Tryz.results121]; go_simp) rfl ⟨rfl, by (repeat (first | exact Below.refl _ _ | assumption | refine bel_alloc ?_ _ | refine bel_after _ ?_ | refine bel_drewN ?_ _ | refine bel_drew ?_ | refine bel_set ?_ (by first | omega | (simp only [World.size_alloc, World.size_drew, World.size_setCell]; omega) | (simp; omega)) _))⟩

/-- What Get tells: the cell, how many bytes, whether. -/
def cGet (bs : List UInt8) : Int × Int × ByteArray × Nat × Bool :=
  match stGet bs with
  | (N, R, u, is) =>
    match readR (bs.drop u) 200 with
    | some (s, m) => if is = true ∧ cMay N R s = true then (N, R, s, u + m, true) else (0, 0, ⟨#[]⟩, 0, false)
    | none => (0, 0, ⟨#[]⟩, 0, false)
def CGetIs (bs : List UInt8) : Value := .tuple #[.agg (cellA (cGet bs).1 (cGet bs).2.1 (cGet bs).2.2.1), .int .i64 ((cGet bs).2.2.2.1 : Int), .bool (cGet bs).2.2.2.2]
theorem CGetIs.mk {bs : List UInt8} {N R c : Int} {s : ByteArray} {k : Nat} {d : Bool} (h : cGet bs = (N, R, s, k, d)) (hc : c = (k : Int)) : Ending.returned (.tuple #[.agg #[.int .i64 N, .int .i64 R, .string s], .int .i64 c, .bool d]) = .returned (CGetIs bs) := by
  unfold CGetIs; rw [h, hc]
end Go.Proofs.YtolbmemogoojhaaGreat
