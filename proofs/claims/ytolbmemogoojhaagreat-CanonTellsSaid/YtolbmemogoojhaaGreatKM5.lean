/- Cells compared. -/
import Derived.Test.YtolbmemogoojhaaGreatKM4
import Derived.Test.YtolbmemogoojhaaGreatKM3
import Derived.Lib.AppendStr
namespace Go.Proofs.YtolbmemogoojhaaGreat
open Go Go.RowKit Go.Deep
set_option linter.unusedVariables false
set_option linter.unusedSimpArgs false
set_option maxRecDepth 100000

def ordB (l g : Bool) : Int := if l then -1 else if g then 1 else 0
set_option maxHeartbeats 800000 in
theorem orderS_c (N R N' R' : Int) (w : World) : Calls Tryz.prog 152 #[.agg #[.int .i64 N, .int .i64 R], .agg #[.int .i64 N', .int .i64 R'], .func (.func 98) #[] #[]] w fun e w' => e = .returned (.int .i64 (ordB (stLess N R N' R') (stLess N' R' N R))) ∧ Below w.heap.size w w' := by
  have hAc := @after_cell
  have hAf := @after_frozen
  have hSz := sz_facts
  cases h1 : stLess N R N' R' <;> cases h2 : stLess N' R' N R
  all_goals
    have H1 := Lib.hid h1; have H2 := Lib.hid h2; clear h1 h2
    go_enter Tryz.func152, Tryz.ntmps152
    go_wp2_with (first | (go_at_call 98; (with_reducible refine (less_v H1.out _).mono ?_); rintro e w' ⟨rfl, hb⟩; (first | ((fail_if_success revert x1); obtain ⟨x1, rfl⟩ := after_of hb; clear hb; have hz1 := after_size x1; (try (simp only [zYA, zYD, zYC] at hz1)); (try (have f1gA := zY1 gA x1.w.heap.size)); (first | have f10 := zY3 w.heap.size x1.w.heap.size | have f10 := zY2 w.heap.size x1.w.heap.size | have f10 := zY1 w.heap.size x1.w.heap.size | skip)) | ((fail_if_success revert x2); obtain ⟨x2, rfl⟩ := after_of hb; clear hb; have hz2 := after_size x2; (try (simp only [zYA, zYD, zYC] at hz2)); (try (have f2gA := zY1 gA x2.w.heap.size)); (first | have f20 := zY3 w.heap.size x2.w.heap.size | have f20 := zY2 w.heap.size x2.w.heap.size | have f20 := zY1 w.heap.size x2.w.heap.size | skip); (first | have f21 := zY2 x1.w.heap.size x2.w.heap.size | have f21 := zY1 x1.w.heap.size x2.w.heap.size | skip)) | ((fail_if_success revert x3); obtain ⟨x3, rfl⟩ := after_of hb; clear hb; have hz3 := after_size x3; (try (simp only [zYA, zYD, zYC] at hz3)); (try (have f3gA := zY1 gA x3.w.heap.size)); (first | have f30 := zY3 w.heap.size x3.w.heap.size | have f30 := zY2 w.heap.size x3.w.heap.size | have f30 := zY1 w.heap.size x3.w.heap.size | skip); (first | have f31 := zY2 x1.w.heap.size x3.w.heap.size | have f31 := zY1 x1.w.heap.size x3.w.heap.size | skip); (first | have f32 := zY2 x2.w.heap.size x3.w.heap.size | have f32 := zY1 x2.w.heap.size x3.w.heap.size | skip)) | ((fail_if_success revert x4); obtain ⟨x4, rfl⟩ := after_of hb; clear hb; have hz4 := after_size x4; (try (simp only [zYA, zYD, zYC] at hz4)); (try (have f4gA := zY1 gA x4.w.heap.size)); (first | have f40 := zY3 w.heap.size x4.w.heap.size | have f40 := zY2 w.heap.size x4.w.heap.size | have f40 := zY1 w.heap.size x4.w.heap.size | skip); (first | have f41 := zY2 x1.w.heap.size x4.w.heap.size | have f41 := zY1 x1.w.heap.size x4.w.heap.size | skip); (first | have f42 := zY2 x2.w.heap.size x4.w.heap.size | have f42 := zY1 x2.w.heap.size x4.w.heap.size | skip); (first | have f43 := zY2 x3.w.heap.size x4.w.heap.size | have f43 := zY1 x3.w.heap.size x4.w.heap.size | skip)) | ((fail_if_success revert x5); obtain ⟨x5, rfl⟩ := after_of hb; clear hb; have hz5 := after_size x5; (try (simp only [zYA, zYD, zYC] at hz5)); (try (have f5gA := zY1 gA x5.w.heap.size)); (first | have f50 := zY3 w.heap.size x5.w.heap.size | have f50 := zY2 w.heap.size x5.w.heap.size | have f50 := zY1 w.heap.size x5.w.heap.size | skip); (first | have f51 := zY2 x1.w.heap.size x5.w.heap.size | have f51 := zY1 x1.w.heap.size x5.w.heap.size | skip); (first | have f52 := zY2 x2.w.heap.size x5.w.heap.size | have f52 := zY1 x2.w.heap.size x5.w.heap.size | skip); (first | have f53 := zY2 x3.w.heap.size x5.w.heap.size | have f53 := zY1 x3.w.heap.size x5.w.heap.size | skip); (first | have f54 := zY2 x4.w.heap.size x5.w.heap.size | have f54 := zY1 x4.w.heap.size x5.w.heap.size | skip)))) | (go_at_call 98; (with_reducible refine (less_v H2.out _).mono ?_); rintro e w' ⟨rfl, hb⟩; (first | ((fail_if_success revert x1); obtain ⟨x1, rfl⟩ := after_of hb; clear hb; have hz1 := after_size x1; (try (simp only [zYA, zYD, zYC] at hz1)); (try (have f1gA := zY1 gA x1.w.heap.size)); (first | have f10 := zY3 w.heap.size x1.w.heap.size | have f10 := zY2 w.heap.size x1.w.heap.size | have f10 := zY1 w.heap.size x1.w.heap.size | skip)) | ((fail_if_success revert x2); obtain ⟨x2, rfl⟩ := after_of hb; clear hb; have hz2 := after_size x2; (try (simp only [zYA, zYD, zYC] at hz2)); (try (have f2gA := zY1 gA x2.w.heap.size)); (first | have f20 := zY3 w.heap.size x2.w.heap.size | have f20 := zY2 w.heap.size x2.w.heap.size | have f20 := zY1 w.heap.size x2.w.heap.size | skip); (first | have f21 := zY2 x1.w.heap.size x2.w.heap.size | have f21 := zY1 x1.w.heap.size x2.w.heap.size | skip)) | ((fail_if_success revert x3); obtain ⟨x3, rfl⟩ := after_of hb; clear hb; have hz3 := after_size x3; (try (simp only [zYA, zYD, zYC] at hz3)); (try (have f3gA := zY1 gA x3.w.heap.size)); (first | have f30 := zY3 w.heap.size x3.w.heap.size | have f30 := zY2 w.heap.size x3.w.heap.size | have f30 := zY1 w.heap.size x3.w.heap.size | skip); (first | have f31 := zY2 x1.w.heap.size x3.w.heap.size | have f31 := zY1 x1.w.heap.size x3.w.heap.size | skip); (first | have f32 := zY2 x2.w.heap.size x3.w.heap.size | have f32 := zY1 x2.w.heap.size x3.w.heap.size | skip)) | ((fail_if_success revert x4); obtain ⟨x4, rfl⟩ := after_of hb; clear hb; have hz4 := after_size x4; (try (simp only [zYA, zYD, zYC] at hz4)); (try (have f4gA := zY1 gA x4.w.heap.size)); (first | have f40 := zY3 w.heap.size x4.w.heap.size | have f40 := zY2 w.heap.size x4.w.heap.size | have f40 := zY1 w.heap.size x4.w.heap.size | skip); (first | have f41 := zY2 x1.w.heap.size x4.w.heap.size | have f41 := zY1 x1.w.heap.size x4.w.heap.size | skip); (first | have f42 := zY2 x2.w.heap.size x4.w.heap.size | have f42 := zY1 x2.w.heap.size x4.w.heap.size | skip); (first | have f43 := zY2 x3.w.heap.size x4.w.heap.size | have f43 := zY1 x3.w.heap.size x4.w.heap.size | skip)) | ((fail_if_success revert x5); obtain ⟨x5, rfl⟩ := after_of hb; clear hb; have hz5 := after_size x5; (try (simp only [zYA, zYD, zYC] at hz5)); (try (have f5gA := zY1 gA x5.w.heap.size)); (first | have f50 := zY3 w.heap.size x5.w.heap.size | have f50 := zY2 w.heap.size x5.w.heap.size | have f50 := zY1 w.heap.size x5.w.heap.size | skip); (first | have f51 := zY2 x1.w.heap.size x5.w.heap.size | have f51 := zY1 x1.w.heap.size x5.w.heap.size | skip); (first | have f52 := zY2 x2.w.heap.size x5.w.heap.size | have f52 := zY1 x2.w.heap.size x5.w.heap.size | skip); (first | have f53 := zY2 x3.w.heap.size x5.w.heap.size | have f53 := zY1 x3.w.heap.size x5.w.heap.size | skip); (first | have f54 := zY2 x4.w.heap.size x5.w.heap.size | have f54 := zY1 x4.w.heap.size x5.w.heap.size | skip)))))
    all_goals first | (rw [Exit.noGoto_ret]; go_ret) | go_ret
    all_goals exact ⟨rfl, by (repeat (first | exact Below.refl _ _ | assumption | refine bel_alloc ?_ _ | refine bel_after _ ?_ | refine bel_drewN ?_ _ | refine bel_drew ?_ | refine bel_set ?_ (by first | omega | (simp only [zYA, zYD, zYC]; omega) | (simp; omega)) _))⟩

theorem dless_v {a b : List UInt8} {l : Bool} (h : dgLess a b = l) (ha : a.length = 32) (hb : b.length = 32) (A B : Array Value) (hA : A = (encU a).toArray) (hB : B = (encU b).toArray) (w : World) : Calls Tryz.prog 155 #[.agg A, .agg B] w fun e w' => e = .returned (.bool l) ∧ Below w.heap.size w w' := by
  subst h hA hB; exact dless_c a b ha hb w
set_option maxHeartbeats 1600000 in
theorem orderD_c (a b : List UInt8) (ha : a.length = 32) (hb : b.length = 32) (w : World) : Calls Tryz.prog 154 #[.agg (encU a).toArray, .agg (encU b).toArray, .func (.func 155) #[] #[]] w fun e w' => e = .returned (.int .i64 (ordB (dgLess a b) (dgLess b a))) ∧ Below w.heap.size w w' := by
  obtain ⟨A, hA⟩ : ∃ A, A = (encU a).toArray := ⟨_, rfl⟩
  obtain ⟨B, hB⟩ : ∃ B, B = (encU b).toArray := ⟨_, rfl⟩
  have hAs : A.size = 32 := by rw [hA]; simp [encU_length, ha]
  have hBs : B.size = 32 := by rw [hB]; simp [encU_length, hb]
  rw [← hA, ← hB]
  have HA := Lib.hid hA; have HB := Lib.hid hB; clear hA hB
  cases h1 : dgLess a b <;> cases h2 : dgLess b a
  all_goals
    have H1 := Lib.hid h1; have H2 := Lib.hid h2; clear h1 h2
    go_enter Tryz.func154, Tryz.ntmps154
    go_wp2_with (first | ((fail_if_success have := k1); refine wpList_box_blk rfl 64 _ rfl _ rfl A rfl ?_; intro w1 k1 b1 s1) | (refine wpList_box_blk rfl 64 _ rfl _ rfl B rfl ?_; intro w2 k2 b2 s2; have k1' := k1.below b2 (by omega); rw [s1] at k2; have bel2 := b1.trans (b2.mono (by omega))) | (go_at_call 155; (with_reducible refine (dless_v H1.out ha hb A B HA.out HB.out _).mono ?_); rintro e w3 ⟨rfl, b3⟩; have k13 := k1'.below b3 (by omega); have k23 := k2.below b3 (by omega); have bel3 := bel2.trans (b3.mono (by have := bel2.size; omega))) | (go_at_call 155; (with_reducible refine (dless_v H2.out hb ha B A HB.out HA.out _).mono ?_); rintro e w4 ⟨rfl, b4⟩; have bel4 := bel3.trans (b4.mono (by have := bel3.size; omega))) | (refine wpList_load_row rfl 64 _ rfl w.heap.size rfl _ A _ _ (by first | exact k1' | exact k13) Tryz.underlying64 rfl (by rw [hAs]; exact size32_info) ?_) | (refine wpList_load_row rfl 64 _ rfl (w.heap.size + 1) rfl _ B _ _ (by first | exact k2 | exact k23) Tryz.underlying64 rfl (by rw [hBs]; exact size32_info) ?_))
    all_goals first | (rw [Exit.noGoto_ret]; go_ret) | go_ret
    all_goals first | exact ⟨rfl, bel4⟩ | exact ⟨rfl, bel3⟩

def strLess (a b : ByteArray) : Bool := Op.bytesLess a.toList b.toList
set_option maxHeartbeats 1600000 in
theorem strcmp_c (a b : ByteArray) (w : World) : Calls Tryz.prog 157 #[.string a, .string b] w fun e w' => e = .returned (.int .i64 (ordB (strLess a b) (!(a.toList == b.toList)))) ∧ w = w' := by
  cases h1 : strLess a b <;> cases h2 : (a.toList == b.toList)
  all_goals
    unfold strLess at h1
    go_enter Tryz.func157, Tryz.ntmps157
    go_wp2
    all_goals first | (rw [Exit.noGoto_ret]; go_ret) | go_ret
    all_goals exact ⟨rfl, rfl⟩

def dgS (s : ByteArray) : List UInt8 := dig s.data.toList
theorem dgS_length (s : ByteArray) : (dgS s).length = 32 := by simp [dgS, dig, outs_length]
theorem of_v {s : ByteArray} (hl : s.size ≤ 80000) {A : Array Value} (hA : A = (encU (dgS s)).toArray) (w : World) : Calls Tryz.prog 65 #[.string s] w fun e w' => e = .returned (.agg A) ∧ Below w.heap.size w w' := by
  subst hA; exact of_c s hl w
theorem orderD_v {a b : ByteArray} {A B : Array Value} (hA : A = (encU (dgS a)).toArray) (hB : B = (encU (dgS b)).toArray) (w : World) : Calls Tryz.prog 154 #[.agg A, .agg B, .func (.func 155) #[] #[]] w fun e w' => e = .returned (.int .i64 (ordB (dgLess (dgS a) (dgS b)) (dgLess (dgS b) (dgS a)))) ∧ Below w.heap.size w w' := by
  subst hA hB; exact orderD_c _ _ (dgS_length a) (dgS_length b) w
/-- A cell's cells. -/
abbrev cellA (N R : Int) (s : ByteArray) : Array Value := #[.int .i64 N, .int .i64 R, .string s]
set_option maxHeartbeats 1600000 in
theorem way1_c (p q : Nat) (N R N' R' : Int) (s s' : ByteArray) (w : World) (k1 : Blk w p 68 (cellA N R s)) (k2 : Blk w q 68 (cellA N' R' s')) : Calls Tryz.prog 151 #[.pointer (some ⟨p, 0, none⟩), .pointer (some ⟨q, 0, none⟩)] w fun e w' => e = .returned (.int .i64 (ordB (stLess N R N' R') (stLess N' R' N R))) ∧ Below w.heap.size w w' := by
  have hAc := @after_cell
  have hAf := @after_frozen
  have hSz := sz_facts
  have c0 : w.cell? ⟨p, 0, none⟩ = some (.int .i64 N) := k1.cell 0
  have c1 : w.cell? ⟨p, 1, none⟩ = some (.int .i64 R) := k1.cell 1
  have d0 : w.cell? ⟨q, 0, none⟩ = some (.int .i64 N') := k2.cell 0
  have d1 : w.cell? ⟨q, 1, none⟩ = some (.int .i64 R') := k2.cell 1
  clear k1 k2
  go_enter Tryz.func151, Tryz.ntmps151
  go_wp2_with (go_at_call 152; (with_reducible refine (orderS_c _ _ _ _ _).mono ?_); rintro e w' ⟨rfl, hb⟩; (first | ((fail_if_success revert x1); obtain ⟨x1, rfl⟩ := after_of hb; clear hb; have hz1 := after_size x1; (try (simp only [zYA, zYD, zYC] at hz1)); (try (have f1gA := zY1 gA x1.w.heap.size)); (first | have f10 := zY3 w.heap.size x1.w.heap.size | have f10 := zY2 w.heap.size x1.w.heap.size | have f10 := zY1 w.heap.size x1.w.heap.size | skip)) | ((fail_if_success revert x2); obtain ⟨x2, rfl⟩ := after_of hb; clear hb; have hz2 := after_size x2; (try (simp only [zYA, zYD, zYC] at hz2)); (try (have f2gA := zY1 gA x2.w.heap.size)); (first | have f20 := zY3 w.heap.size x2.w.heap.size | have f20 := zY2 w.heap.size x2.w.heap.size | have f20 := zY1 w.heap.size x2.w.heap.size | skip); (first | have f21 := zY2 x1.w.heap.size x2.w.heap.size | have f21 := zY1 x1.w.heap.size x2.w.heap.size | skip)) | ((fail_if_success revert x3); obtain ⟨x3, rfl⟩ := after_of hb; clear hb; have hz3 := after_size x3; (try (simp only [zYA, zYD, zYC] at hz3)); (try (have f3gA := zY1 gA x3.w.heap.size)); (first | have f30 := zY3 w.heap.size x3.w.heap.size | have f30 := zY2 w.heap.size x3.w.heap.size | have f30 := zY1 w.heap.size x3.w.heap.size | skip); (first | have f31 := zY2 x1.w.heap.size x3.w.heap.size | have f31 := zY1 x1.w.heap.size x3.w.heap.size | skip); (first | have f32 := zY2 x2.w.heap.size x3.w.heap.size | have f32 := zY1 x2.w.heap.size x3.w.heap.size | skip)) | ((fail_if_success revert x4); obtain ⟨x4, rfl⟩ := after_of hb; clear hb; have hz4 := after_size x4; (try (simp only [zYA, zYD, zYC] at hz4)); (try (have f4gA := zY1 gA x4.w.heap.size)); (first | have f40 := zY3 w.heap.size x4.w.heap.size | have f40 := zY2 w.heap.size x4.w.heap.size | have f40 := zY1 w.heap.size x4.w.heap.size | skip); (first | have f41 := zY2 x1.w.heap.size x4.w.heap.size | have f41 := zY1 x1.w.heap.size x4.w.heap.size | skip); (first | have f42 := zY2 x2.w.heap.size x4.w.heap.size | have f42 := zY1 x2.w.heap.size x4.w.heap.size | skip); (first | have f43 := zY2 x3.w.heap.size x4.w.heap.size | have f43 := zY1 x3.w.heap.size x4.w.heap.size | skip)) | ((fail_if_success revert x5); obtain ⟨x5, rfl⟩ := after_of hb; clear hb; have hz5 := after_size x5; (try (simp only [zYA, zYD, zYC] at hz5)); (try (have f5gA := zY1 gA x5.w.heap.size)); (first | have f50 := zY3 w.heap.size x5.w.heap.size | have f50 := zY2 w.heap.size x5.w.heap.size | have f50 := zY1 w.heap.size x5.w.heap.size | skip); (first | have f51 := zY2 x1.w.heap.size x5.w.heap.size | have f51 := zY1 x1.w.heap.size x5.w.heap.size | skip); (first | have f52 := zY2 x2.w.heap.size x5.w.heap.size | have f52 := zY1 x2.w.heap.size x5.w.heap.size | skip); (first | have f53 := zY2 x3.w.heap.size x5.w.heap.size | have f53 := zY1 x3.w.heap.size x5.w.heap.size | skip); (first | have f54 := zY2 x4.w.heap.size x5.w.heap.size | have f54 := zY1 x4.w.heap.size x5.w.heap.size | skip))))
  go_ret
  exact ⟨rfl, by (repeat (first | exact Below.refl _ _ | assumption | refine bel_alloc ?_ _ | refine bel_after _ ?_ | refine bel_drewN ?_ _ | refine bel_drew ?_ | refine bel_set ?_ (by first | omega | (simp only [zYA, zYD, zYC]; omega) | (simp; omega)) _))⟩
set_option maxHeartbeats 1600000 in
theorem way2_c (p q : Nat) (N R N' R' : Int) (s s' : ByteArray) (hs : s.size ≤ 80000) (hs' : s'.size ≤ 80000) (w : World) (k1 : Blk w p 68 (cellA N R s)) (k2 : Blk w q 68 (cellA N' R' s')) : Calls Tryz.prog 153 #[.pointer (some ⟨p, 0, none⟩), .pointer (some ⟨q, 0, none⟩)] w fun e w' => e = .returned (.int .i64 (ordB (dgLess (dgS s) (dgS s')) (dgLess (dgS s') (dgS s)))) ∧ Below w.heap.size w w' := by
  have hAc := @after_cell
  obtain ⟨A, hA⟩ : ∃ A, Hid (A = (encU (dgS s)).toArray) := ⟨_, rfl⟩
  obtain ⟨B, hB⟩ : ∃ B, Hid (B = (encU (dgS s')).toArray) := ⟨_, rfl⟩
  have c2 : w.cell? ⟨p, 2, none⟩ = some (.string s) := k1.cell 2
  have d2 : w.cell? ⟨q, 2, none⟩ = some (.string s') := k2.cell 2
  have l1 := k1.lt
  have l2 := k2.lt
  have Hs := Lib.hid hs; have Hs' := Lib.hid hs'
  clear k1 k2 hs hs'
  go_enter Tryz.func153, Tryz.ntmps153
  go_wp2
  refine wp_quiet_all (C := fun w' => ∃ x : After _, w' = x.w) (by kernel_rfl) (by kernel_rfl) (since_drew _) ?_
  repeat (go_big_quiet_step ((first | (go_at_call 65; first | (with_reducible exact after_call _ (of_v Hs.out hA.out _)) | (with_reducible exact after_call _ (of_v Hs'.out hB.out _))) | (go_at_call 154; with_reducible exact after_call _ (orderD_v hA.out hB.out _)))))
  refine wpQuiet_nil ?_
  rintro _ ⟨x1, rfl⟩
  go_wp2
  go_ret
  exact ⟨rfl, x1.h⟩
set_option maxHeartbeats 1600000 in
theorem way3_c (p q : Nat) (N R N' R' : Int) (s s' : ByteArray) (w : World) (k1 : Blk w p 68 (cellA N R s)) (k2 : Blk w q 68 (cellA N' R' s')) : Calls Tryz.prog 156 #[.pointer (some ⟨p, 0, none⟩), .pointer (some ⟨q, 0, none⟩)] w fun e w' => e = .returned (.int .i64 (ordB (strLess s s') (!(s.toList == s'.toList)))) ∧ w = w' := by
  have c2 : w.cell? ⟨p, 2, none⟩ = some (.string s) := k1.cell 2
  have d2 : w.cell? ⟨q, 2, none⟩ = some (.string s') := k2.cell 2
  clear k1 k2
  go_enter Tryz.func156, Tryz.ntmps156
  go_wp2_with (go_at_call 157; (with_reducible refine (strcmp_c _ _ _).mono ?_); rintro e w' ⟨rfl, rfl⟩)
  go_ret
  exact ⟨rfl, rfl⟩
end Go.Proofs.YtolbmemogoojhaaGreat
/- Less and Join of cells. -/
namespace Go.Proofs.YtolbmemogoojhaaGreat
open Go Go.RowKit Go.Deep
set_option linter.unusedVariables false
set_option linter.unusedSimpArgs false
set_option maxRecDepth 100000

theorem index_way (W : World) (f g h : Value) (j : Nat) (hj : j < 3) (i : Int) (hi : i = j) : (Instr.index 185 (.agg #[f, g, h]) (.int .i64 i)).run Tryz.prog W = .ok (#[f, g, h].getD j undef) W := by
  subst hi
  have e1 : ∀ w, (underlying 185).run Tryz.prog w = .ok (.array 3 181) w := fun w => run_underlying (P := Tryz.prog) (by kernel_rfl) w
  have e2 : ∀ w, (isAgg 181).run Tryz.prog w = .ok false w := fun w => by kernel_rfl
  have e3 : ∀ w, (sizeOf 181).run Tryz.prog w = .ok 1 w := fun w => by kernel_rfl
  match j, hj with
  | 0, _ | 1, _ | 2, _ => simp [Instr.index, asIntOf, e1, part, e2, e3]
def pick3 (a b c : Int) : Bool := if a ≠ 0 then decide (a < 0) else if b ≠ 0 then decide (b < 0) else if c ≠ 0 then decide (c < 0) else false
/-- Is one cell less than another one? -/
def cLess (N R : Int) (s : ByteArray) (N' R' : Int) (s' : ByteArray) : Bool :=
  pick3 (ordB (stLess N R N' R') (stLess N' R' N R)) (ordB (dgLess (dgS s) (dgS s')) (dgLess (dgS s') (dgS s))) (ordB (strLess s s') (!(s.toList == s'.toList)))
set_option maxHeartbeats 1600000 in
theorem cless_c (N R N' R' : Int) (s s' : ByteArray) (hs : s.size ≤ 80000) (hs' : s'.size ≤ 80000) (w : World) : Calls Tryz.prog 141 #[.agg (cellA N R s), .agg (cellA N' R' s')] w fun e w' => e = .returned (.bool (cLess N R s N' R' s')) ∧ Below w.heap.size w w' := by
  obtain ⟨n1, hn1⟩ : ∃ n1, n1 = ordB (stLess N R N' R') (stLess N' R' N R) := ⟨_, rfl⟩
  obtain ⟨n2, hn2⟩ : ∃ n2, n2 = ordB (dgLess (dgS s) (dgS s')) (dgLess (dgS s') (dgS s)) := ⟨_, rfl⟩
  obtain ⟨n3, hn3⟩ : ∃ n3, n3 = ordB (strLess s s') (!(s.toList == s'.toList)) := ⟨_, rfl⟩
  have way1 := fun p q w k1 k2 => way1_c p q N R N' R' s s' w k1 k2
  have way2 := fun p q w k1 k2 => way2_c p q N R N' R' s s' hs hs' w k1 k2
  have way3 := fun p q w k1 k2 => way3_c p q N R N' R' s s' w k1 k2
  rw [← hn1] at way1; rw [← hn2] at way2; rw [← hn3] at way3
  rw [show cLess N R s N' R' s' = pick3 n1 n2 n3 by rw [hn1, hn2, hn3]; rfl]
  have Hw1 := Lib.hid way1; have Hw2 := Lib.hid way2; have Hw3 := Lib.hid way3
  clear hn1 hn2 hn3 way1 way2 way3 hs hs'
  go_enter Tryz.func141, Tryz.ntmps141
  go_wp2_with (first | ((fail_if_success have := k1); refine wpList_box_blk rfl 68 _ rfl _ rfl (cellA N R s) rfl ?_; intro w1 k1 b1 s1) | (refine wpList_box_blk rfl 68 _ rfl _ rfl (cellA N' R' s') rfl ?_; intro w2 k2 b2 s2) | (refine wpList_alloc_blk rfl 185 rfl _ rfl (.agg #[.nilFunc, .nilFunc, .nilFunc]) #[.nilFunc, .nilFunc, .nilFunc] (by kernel_rfl) rfl ?_; intro w3 k3 b3 s3) | (refine wpList_store_blk rfl 185 _ _ rfl _ #[.func (.func 151) #[] #[.pointer (some ⟨w.heap.size, 0, none⟩), .pointer (some ⟨w.heap.size + 1, 0, none⟩)], .func (.func 153) #[] #[.pointer (some ⟨w.heap.size, 0, none⟩), .pointer (some ⟨w.heap.size + 1, 0, none⟩)], .func (.func 156) #[] #[.pointer (some ⟨w.heap.size, 0, none⟩), .pointer (some ⟨w.heap.size + 1, 0, none⟩)]] rfl rfl _ _ k3 (by kernel_rfl) rfl (by simp [Value.oneCell']) ?_; intro w4 k4 b4 s4) | (refine wpList_load_row rfl 185 _ rfl _ rfl _ _ _ _ k4 Tryz.underlying185 rfl (by kernel_rfl) ?_))
  rw [s1] at k2
  have hz2 := b2.size
  have K1 := Lib.hid (((k1.below b2 (by omega)).below b3 (by omega)).but b4 (by omega))
  have K2 := Lib.hid ((k2.below b3 (by omega)).but b4 (by omega))
  have HB4 : Hid (Below w.heap.size w w4) := Lib.hid (b1.trans ((b2.mono (by omega)).trans ((b3.mono (by omega)).trans (b4.below (by omega) (by omega)))))
  have hsz := HB4.out.size
  clear k1 k2 k3 k4 b1 b2 b3 b4
  have x0 := fun W f g h => index_way W f g h 0 (by omega) 0 rfl
  have x1 := fun W f g h => index_way W f g h 1 (by omega) 1 rfl
  have x2 := fun W f g h => index_way W f g h 2 (by omega) 2 rfl
  go_loopw [14] (fun i wr => ∃ j : Nat, j ≤ 3 ∧ i = .int .i64 j ∧ Hid ((1 ≤ j → n1 = 0) ∧ (2 ≤ j → n2 = 0) ∧ (3 ≤ j → n3 = 0)) ∧ Hid (Below w4.heap.size w4 wr)) (fun i _ => 3 - (intOf i).toNat)
  case atStart => exact ⟨0, by omega, rfl, Lib.hid ⟨fun h => by omega, fun h => by omega, fun h => by omega⟩, Lib.hid (Below.refl _ _)⟩
  case round =>
    obtain ⟨j, hj, rfl, Z, B⟩ := hrel
    rcases (by omega : j = 0 ∨ j = 1 ∨ j = 2 ∨ j = 3) with h | h | h | h
    all_goals subst h
    · rcases Decidable.em (n1 = 0) with h0 | h0
      · subst h0
        go_wp2_with (go_at_call 151; (refine (Hw1.out _ _ _ (K1.out.below B.out K1.out.lt) (K2.out.below B.out K2.out.lt)).mono ?_); rintro e w5 ⟨rfl, b5⟩)
        go_roundw
        case rel => exact ⟨1, by omega, rfl, Lib.hid ⟨fun _ => by simp, fun h => by omega, fun h => by omega⟩, Lib.hid (B.out.trans (b5.mono B.out.size))⟩
        case measure => simp [intOf]
      · have hne : (n1 != 0) = true := by simpa using h0
        have Hn := Lib.hid h0; clear h0
        go_wp2_with (go_at_call 151; (refine (Hw1.out _ _ _ (K1.out.below B.out K1.out.lt) (K2.out.below B.out K2.out.lt)).mono ?_); rintro e w5 ⟨rfl, b5⟩)
        all_goals first | (rw [Exit.noGoto_ret]; go_ret) | go_ret
        all_goals exact ⟨ret_bool (by have hz := Z.out; have hn := Hn.out; simp [pick3, hn, hz]), HB4.out.trans ((B.out.trans (b5.mono B.out.size)).mono hsz)⟩
    · rcases Decidable.em (n2 = 0) with h0 | h0
      · subst h0
        go_wp2_with (go_at_call 153; (refine (Hw2.out _ _ _ (K1.out.below B.out K1.out.lt) (K2.out.below B.out K2.out.lt)).mono ?_); rintro e w5 ⟨rfl, b5⟩)
        go_roundw
        case rel => exact ⟨2, by omega, rfl, Lib.hid ⟨fun _ => Z.out.1 (by omega), fun _ => by simp, fun h => by omega⟩, Lib.hid (B.out.trans (b5.mono B.out.size))⟩
        case measure => simp [intOf]
      · have hne : (n2 != 0) = true := by simpa using h0
        have Hn := Lib.hid h0; clear h0
        go_wp2_with (go_at_call 153; (refine (Hw2.out _ _ _ (K1.out.below B.out K1.out.lt) (K2.out.below B.out K2.out.lt)).mono ?_); rintro e w5 ⟨rfl, b5⟩)
        all_goals first | (rw [Exit.noGoto_ret]; go_ret) | go_ret
        all_goals exact ⟨ret_bool (by have hz := Z.out; have hn := Hn.out; simp [pick3, hn, hz]), HB4.out.trans ((B.out.trans (b5.mono B.out.size)).mono hsz)⟩
    · rcases Decidable.em (n3 = 0) with h0 | h0
      · subst h0
        go_wp2_with (go_at_call 156; (refine (Hw3.out _ _ _ (K1.out.below B.out K1.out.lt) (K2.out.below B.out K2.out.lt)).mono ?_); rintro e w5 ⟨rfl, rfl⟩; have b5 : Below wr.heap.size wr wr := Below.refl _ _)
        go_roundw
        case rel => exact ⟨3, by omega, rfl, Lib.hid ⟨fun _ => Z.out.1 (by omega), fun _ => Z.out.2.1 (by omega), fun _ => by simp⟩, Lib.hid (B.out.trans (b5.mono B.out.size))⟩
        case measure => simp [intOf]
      · have hne : (n3 != 0) = true := by simpa using h0
        have Hn := Lib.hid h0; clear h0
        go_wp2_with (go_at_call 156; (refine (Hw3.out _ _ _ (K1.out.below B.out K1.out.lt) (K2.out.below B.out K2.out.lt)).mono ?_); rintro e w5 ⟨rfl, rfl⟩; have b5 : Below wr.heap.size wr wr := Below.refl _ _)
        all_goals first | (rw [Exit.noGoto_ret]; go_ret) | go_ret
        all_goals exact ⟨ret_bool (by have hz := Z.out; have hn := Hn.out; simp [pick3, hn, hz]), HB4.out.trans ((B.out.trans (b5.mono B.out.size)).mono hsz)⟩
    · go_wp2
      all_goals first | (rw [Exit.noGoto_ret]; go_ret) | go_ret
      all_goals exact ⟨ret_bool (by have hz := Z.out; simp [pick3, hz]), HB4.out.trans (B.out.mono hsz)⟩
end Go.Proofs.YtolbmemogoojhaaGreat
/- wire.Text and wire.Read. -/
namespace Go.Proofs.YtolbmemogoojhaaGreat
open Go Go.RowKit Go.Deep
set_option linter.unusedVariables false
set_option linter.unusedSimpArgs false
set_option maxRecDepth 100000

theorem wpList_app_str {P : Program} {w w0 : World} {ops : Array Oper} {rest : List Oper} {o : Oper} {a : Act} {Q : Exit → Act → World → Prop} (hgd : o.guard = none) (s x : Operand) (t u : TypeId)
    (ho : o.op = .call { callee := .builtin .append, args := #[s, x], argTypes := #[t, u] }) (dst : Option Tmp) (hdst : o.dst = dst)
    (e : TypeId) (ht : P.underlying t = some (.slice e)) (hu : P.underlying u = some .string) (hinfo : (P.info? e).map (fun i => (i.zero, i.size, i.bytes)) = some (some (.int .u8 0), 1, 1))
    (v : Value) (bs0 : List UInt8) (hs : a.eval s = v) (hown : OwnU w0.heap.size w e v bs0) (str : ByteArray) (hx : a.eval x = .string str)
    (hl : bs0.length + str.size ≤ 100000) (hb : Below w0.heap.size w0 w)
    (h : ∀ v' w', OwnU w0.heap.size w' e v' (bs0 ++ str.data.toList) → Below w0.heap.size w0 w' → wpList P ops Q rest (a.put dst v') w') : wpList P ops Q (o :: rest) a w := by
  subst hdst
  obtain ⟨i, hi, hzz⟩ := Option.map_eq_some_iff.1 hinfo
  simp only [Prod.mk.injEq] at hzz
  obtain ⟨hz, hsi, hby⟩ := hzz
  refine Lib.wpList_append_own_string w hgd s x t u ho w0.heap.size e i ht hu hi hz hsi hby v bs0.length (encU bs0) hs hown str hx (by unfold maxLen; omega) (by omega) hb.size fun v' w' h1 h2 _ => h v' w' ?_ (bel_grown (base := 0) hb hown h2)
  unfold OwnU
  rw [List.length_append, encU_append]
  exact h1

def textL (s : ByteArray) : List UInt8 := putL s.size ++ s.data.toList
set_option maxHeartbeats 800000 in
theorem text_c (s : ByteArray) (hs : s.size ≤ 90000) (w : World) : Calls Tryz.prog 109 #[.string s] w (MadeU 5 (textL s) w) := by
  obtain ⟨n, hn⟩ : ∃ n, n = s.size := ⟨_, rfl⟩
  have hlen : ∀ W, (Builtin.len_ #[9] 3 #[.string s]).run Tryz.prog W = .ok (.int .i64 (n : Int)) W := fun W => by
    rw [run_len_string W 9 3 s (by kernel_rfl), hn]; rfl
  have hpl := (putL_le n (by omega)).2
  have Hn := Lib.hid hn; clear hn
  have hn9 : n ≤ 90000 := by rw [Hn.out]; exact hs
  go_enter Tryz.func109, Tryz.ntmps109
  go_wp2_with (first | (go_at_call 70; refine (put_c n (by omega) _).mono ?_; rintro e w1 ⟨v1, rfl, own1, b1⟩) | (at_builtin; refine wpList_app_str (w0 := w) rfl _ _ 58 9 rfl _ rfl 5 (by kernel_rfl) (by kernel_rfl) (by kernel_rfl) _ _ rfl own1 s rfl (by rw [← Hn.out]; omega) b1 ?_; intro v2 w2 own2 b2))
  go_ret
  exact ⟨_, rfl, by rw [textL, ← Hn.out]; exact own2, b2⟩

/-- What Read reads: the text, how many bytes. -/
def readR (bs : List UInt8) (M : Nat) : Option (ByteArray × Nat) :=
  match getR bs with
  | some (n, u) => if n ≤ min M (bs.length - u) then some (bstr ((bs.drop u).take n), u + n) else none
  | none => none
def ReadIs (r : Option (ByteArray × Nat)) : Value := .tuple #[.string (r.elim .empty (·.1)), .int .i64 ((r.elim 0 (·.2) : Nat) : Int), .bool r.isSome]
theorem read_none {r : Option (ByteArray × Nat)} (h : r = none) : Ending.returned (.tuple #[.string .empty, .int .i64 0, .bool false]) = .returned (ReadIs r) := by subst h; rfl
theorem read_some {r : Option (ByteArray × Nat)} {s : ByteArray} {u : Nat} {a : Int} (h : r = some (s, u)) (ha : a = u) : Ending.returned (.tuple #[.string s, .int .i64 a, .bool true]) = .returned (ReadIs r) := by subst h ha; rfl
/-- A piece of a slice. -/
theorem byt_cut {w : World} {b off c : Nat} {bs : List UInt8} (h : Byt w (.slice (some ⟨b, off, none⟩) bs.length c) bs) (k m : Nat) (hk : k + m ≤ bs.length) : Byt w (.slice (some ⟨b, off + k, none⟩) m (c - k)) ((bs.drop k).take m) := by
  obtain ⟨a', c', he, h1, h2, _, h4⟩ := Byt.open_ h
  injection he with e1 e2 e3
  subst e1; subst e3
  refine byt_of _ _ _ _ _ _ (by simp; omega) (by omega) (by omega) fun j hj => ?_
  obtain ⟨b', off', he2, hc⟩ := h4 (by omega)
  injection he2 with he2
  injection he2 with e4 e5
  subst e4; subst e5
  rw [Nat.add_assoc, hc (k + j) (by omega)]
  congr 3
  simp [List.getD_eq_getElem?_getD, List.getElem?_take, List.getElem?_drop, hj]
set_option maxHeartbeats 1600000 in
theorem read_c (v : Value) (bs : List UInt8) (M : Nat) (hM : M ≤ 100000) (w : World) (hv : Byt w v bs) : Calls Tryz.prog 150 #[v, .int .i64 (M : Int)] w fun e w' => e = .returned (ReadIs (readR bs M)) ∧ Below w.heap.size w w' := by
  obtain ⟨a, c, rfl, hc, hm, hn0, hcell⟩ := hv.open_
  unfold maxLen at hm
  cases hg : getR bs with
  | none =>
    have Hr : Hid (readR bs M = none) := by unfold readR; rw [hg]; exact Lib.hid rfl
    have Hget := Lib.hid (get_no_c _ bs w hv hg); clear hv hg hcell hn0
    go_enter Tryz.func150, Tryz.ntmps150
    go_wp2_with (go_at_call 111; refine Hget.out.mono ?_; rintro e w' ⟨rfl, rfl⟩)
    all_goals first | (rw [Exit.noGoto_ret]; go_ret3) | go_ret3
    all_goals exact ⟨read_none Hr.out, by (repeat (first | exact Below.refl _ _ | assumption | refine bel_alloc ?_ _ | refine bel_after _ ?_ | refine bel_drewN ?_ _ | refine bel_drew ?_ | refine bel_set ?_ (by first | omega | (simp only [zYA, zYD, zYC]; omega) | (simp; omega)) _))⟩
  | some q =>
    obtain ⟨n, u⟩ := q
    obtain ⟨hn, hu0, hu1, hu2, _⟩ := getR_some hg
    obtain ⟨b, off, rfl, hcc⟩ := hcell (by omega)
    have Hget := Lib.hid (get_yes_c _ bs n u w hv hg)
    have Hv := Lib.hid hv
    clear hv hcell hcc hn0
    obtain ⟨L, hL⟩ : ∃ L, L = bs.length := ⟨_, rfl⟩
    rw [← hL] at Hget hu1 hc ⊢
    have HL := Lib.hid hL; clear hL
    have Hg := Lib.hid hg; clear hg
    by_cases hk : n ≤ min M (L - u)
    · obtain ⟨str, hstr⟩ : ∃ str, str = bstr ((bs.drop u).take n) := ⟨_, rfl⟩
      have Hr : Hid (readR bs M = some (str, u + n)) := by unfold readR; rw [Hg.out]; simp only; rw [if_pos (by rw [← HL.out]; exact hk), hstr]; exact Lib.hid rfl
      have hby := byt_cut (w := w) (b := b) (off := off) (c := c) (bs := bs) Hv.out u n (by rw [← HL.out]; omega)
      by_cases hcu : c = u
      · subst hcu
        have hn0 : n = 0 := by omega
        have hLu : L = c := by omega
        subst hn0
        subst hLu
        have hcv : (convert 58 9 (.slice (some ⟨b, off, none⟩) 0 0)).run Tryz.prog w = .ok (.string str) w := by
          have hb0 : Byt w (.slice (some ⟨b, off, none⟩) 0 0) [] := ⟨by simp [encU], some ⟨b, off, none⟩, 0, rfl, by simp, by unfold maxLen; omega, (fun h => by cases h), fun h => by simp [encU] at h⟩
          have := conv_bytes (P := Tryz.prog) 58 9 5 (by kernel_rfl) (by kernel_rfl) (by kernel_rfl) hb0
          rw [hstr, List.take_zero]; exact this
        clear hby hstr
        go_enter Tryz.func150, Tryz.ntmps150
        go_wp2_with (go_at_call 111; refine Hget.out.mono ?_; rintro e w' ⟨rfl, rfl⟩)
        all_goals first | (rw [Exit.noGoto_ret]; go_ret3) | go_ret3
        all_goals exact ⟨read_some Hr.out (by first | rfl | omega | simp), by (repeat (first | exact Below.refl _ _ | assumption | refine bel_alloc ?_ _ | refine bel_after _ ?_ | refine bel_drewN ?_ _ | refine bel_drew ?_ | refine bel_set ?_ (by first | omega | (simp only [zYA, zYD, zYC]; omega) | (simp; omega)) _))⟩
      · have hcv : (convert 58 9 (.slice (some ⟨b, off + u, none⟩) n (c - u))).run Tryz.prog w = .ok (.string str) w := by
          rw [hstr]; exact conv_bytes _ _ 5 (by kernel_rfl) (by kernel_rfl) (by kernel_rfl) hby
        clear hby hstr
        go_enter Tryz.func150, Tryz.ntmps150
        go_wp2_with (go_at_call 111; refine Hget.out.mono ?_; rintro e w' ⟨rfl, rfl⟩)
        all_goals first | (rw [Exit.noGoto_ret]; go_ret3) | go_ret3
        all_goals exact ⟨read_some Hr.out (by first | rfl | omega | simp), by (repeat (first | exact Below.refl _ _ | assumption | refine bel_alloc ?_ _ | refine bel_after _ ?_ | refine bel_drewN ?_ _ | refine bel_drew ?_ | refine bel_set ?_ (by first | omega | (simp only [zYA, zYD, zYC]; omega) | (simp; omega)) _))⟩
    · have Hr : Hid (readR bs M = none) := by unfold readR; rw [Hg.out]; simp only; rw [if_neg (by rw [← HL.out]; exact hk)]; exact Lib.hid rfl
      go_enter Tryz.func150, Tryz.ntmps150
      go_wp2_with (go_at_call 111; refine Hget.out.mono ?_; rintro e w' ⟨rfl, rfl⟩)
      all_goals first | (rw [Exit.noGoto_ret]; go_ret3) | go_ret3
      all_goals exact ⟨read_none Hr.out, by (repeat (first | exact Below.refl _ _ | assumption | refine bel_alloc ?_ _ | refine bel_after _ ?_ | refine bel_drewN ?_ _ | refine bel_drew ?_ | refine bel_set ?_ (by first | omega | (simp only [zYA, zYD, zYC]; omega) | (simp; omega)) _))⟩
end Go.Proofs.YtolbmemogoojhaaGreat
/- May, Join, Put and Get of cells. -/
namespace Go.Proofs.YtolbmemogoojhaaGreat
open Go Go.RowKit Go.Deep
set_option linter.unusedVariables false
set_option linter.unusedSimpArgs false
set_option maxRecDepth 100000

theorem add0 (x : Addr) : x.add 0 = x := by simp [Addr.add]
theorem byt_drop {w : World} {v : Value} {bs : List UInt8} (h : Byt w v bs) (k : Nat) (hk : k ≤ bs.length) : ∃ v', Byt w v' (bs.drop k) ∧ ∀ W, (Instr.slice 58 v (some (.int .i64 (k : Int))) none none).run Tryz.prog W = .ok v' W := by
  obtain ⟨a, c, rfl, h1, h2, h3, h4⟩ := id h.open_
  have ht : Tryz.prog.underlying 58 = some (.slice (Tryz.prog.elem 58)) := by kernel_rfl
  have hsz : ∀ W, (sizeOf (Tryz.prog.elem 58)).run Tryz.prog W = .ok 1 W := fun W => by kernel_rfl
  refine ⟨sliced a k bs.length c 1, ?_, fun W => ?_⟩
  · unfold sliced
    by_cases hck : c = k
    · have hb : bs.drop k = [] := by rw [List.drop_eq_nil_iff]; omega
      rw [hb, if_pos hck]
      exact ⟨by simp [encU], a, c - k, by rw [show bs.length - k = 0 by omega]; rfl, by simp, by omega, fun _ => by omega, fun hp => by simp [encU] at hp⟩
    · rw [if_neg hck]
      cases a with
      | none => have := h3 rfl; omega
      | some ad =>
        by_cases hp : 0 < bs.length
        · obtain ⟨b, off, he, hc⟩ := h4 hp
          cases he
          have := byt_cut h k (bs.length - k) (by omega)
          rw [List.take_of_length_le (by simp)] at this
          simpa [Addr.add_lit] using this
        · have hb : bs = [] := List.eq_nil_of_length_eq_zero (by omega)
          subst hb
          have : k = 0 := by simpa using hk
          subst this
          exact ⟨by simp [encU], some ad, c, by simp [add0], by simp, h2, (fun h => by simp at h), fun hp => by simp [encU] at hp⟩
  · rw [run_slice_l W 58 a bs.length c ht .i64 (k : Int) (by omega) (by omega), hsz]
    rfl
theorem byt_take {w : World} {v : Value} {bs : List UInt8} (h : Byt w v bs) (k : Nat) (hk : k ≤ bs.length) : ∃ v', Byt w v' (bs.take k) ∧ ∀ W, (Instr.slice 58 v none (some (.int .i64 (k : Int))) none).run Tryz.prog W = .ok v' W := by
  obtain ⟨a, c, rfl, h1, h2, h3, h4⟩ := id h.open_
  have ht : Tryz.prog.underlying 58 = some (.slice (Tryz.prog.elem 58)) := by kernel_rfl
  have hsz : ∀ W, (sizeOf (Tryz.prog.elem 58)).run Tryz.prog W = .ok 1 W := fun W => by kernel_rfl
  refine ⟨.slice a k c, h.take k hk, fun W => ?_⟩
  rw [run_slice_h W 58 a bs.length c ht .i64 (k : Int) (by omega) (by omega), hsz]
  simp only [Result.andThen, sliced, Int.toNat_natCast, Nat.sub_zero, Nat.zero_mul]
  cases a <;> simp [add0]

def cMay (N R : Int) (s : ByteArray) : Bool := !stEq N R 0 0 && stMay N R && decide (s.size ≤ 200)
set_option maxHeartbeats 1600000 in
theorem cmay_c (N R : Int) (s : ByteArray) (w : World) : Calls Tryz.prog 97 #[.agg (cellA N R s)] w fun e w' => e = .returned (.bool (cMay N R s)) ∧ Below w.heap.size w w' := by
  have hAc := @after_cell
  have hAf := @after_frozen
  have hSz := sz_facts
  have hq := @neq_stamp
  obtain ⟨n, hn⟩ : ∃ n, n = s.size := ⟨_, rfl⟩
  have hlen : ∀ W, (Builtin.len_ #[9] 3 #[.string s]).run Tryz.prog W = .ok (.int .i64 (n : Int)) W := fun W => by
    rw [run_len_string W 9 3 s (by kernel_rfl), hn]; rfl
  have Hn := Lib.hid hn; clear hn
  have Hm : Hid (cMay N R s = (!stEq N R 0 0 && stMay N R && decide (n ≤ 200))) := by rw [Hn.out]; exact Lib.hid rfl
  cases h1 : stEq N R 0 0
  · cases h2 : stMay N R
    · have H2 := Lib.hid h2
      rw [h1, h2] at Hm
      clear h2
      go_enter Tryz.func97, Tryz.ntmps97
      go_wp2_with (go_at_call 96; (with_reducible refine (may_v H2.out _).mono ?_); rintro e w' ⟨rfl, hb⟩; (first | ((fail_if_success revert x1); obtain ⟨x1, rfl⟩ := after_of hb; clear hb; have hz1 := after_size x1; (try (simp only [zYA, zYD, zYC] at hz1)); (try (have f1gA := zY1 gA x1.w.heap.size)); (first | have f10 := zY3 w.heap.size x1.w.heap.size | have f10 := zY2 w.heap.size x1.w.heap.size | have f10 := zY1 w.heap.size x1.w.heap.size | skip)) | ((fail_if_success revert x2); obtain ⟨x2, rfl⟩ := after_of hb; clear hb; have hz2 := after_size x2; (try (simp only [zYA, zYD, zYC] at hz2)); (try (have f2gA := zY1 gA x2.w.heap.size)); (first | have f20 := zY3 w.heap.size x2.w.heap.size | have f20 := zY2 w.heap.size x2.w.heap.size | have f20 := zY1 w.heap.size x2.w.heap.size | skip); (first | have f21 := zY2 x1.w.heap.size x2.w.heap.size | have f21 := zY1 x1.w.heap.size x2.w.heap.size | skip)) | ((fail_if_success revert x3); obtain ⟨x3, rfl⟩ := after_of hb; clear hb; have hz3 := after_size x3; (try (simp only [zYA, zYD, zYC] at hz3)); (try (have f3gA := zY1 gA x3.w.heap.size)); (first | have f30 := zY3 w.heap.size x3.w.heap.size | have f30 := zY2 w.heap.size x3.w.heap.size | have f30 := zY1 w.heap.size x3.w.heap.size | skip); (first | have f31 := zY2 x1.w.heap.size x3.w.heap.size | have f31 := zY1 x1.w.heap.size x3.w.heap.size | skip); (first | have f32 := zY2 x2.w.heap.size x3.w.heap.size | have f32 := zY1 x2.w.heap.size x3.w.heap.size | skip)) | ((fail_if_success revert x4); obtain ⟨x4, rfl⟩ := after_of hb; clear hb; have hz4 := after_size x4; (try (simp only [zYA, zYD, zYC] at hz4)); (try (have f4gA := zY1 gA x4.w.heap.size)); (first | have f40 := zY3 w.heap.size x4.w.heap.size | have f40 := zY2 w.heap.size x4.w.heap.size | have f40 := zY1 w.heap.size x4.w.heap.size | skip); (first | have f41 := zY2 x1.w.heap.size x4.w.heap.size | have f41 := zY1 x1.w.heap.size x4.w.heap.size | skip); (first | have f42 := zY2 x2.w.heap.size x4.w.heap.size | have f42 := zY1 x2.w.heap.size x4.w.heap.size | skip); (first | have f43 := zY2 x3.w.heap.size x4.w.heap.size | have f43 := zY1 x3.w.heap.size x4.w.heap.size | skip)) | ((fail_if_success revert x5); obtain ⟨x5, rfl⟩ := after_of hb; clear hb; have hz5 := after_size x5; (try (simp only [zYA, zYD, zYC] at hz5)); (try (have f5gA := zY1 gA x5.w.heap.size)); (first | have f50 := zY3 w.heap.size x5.w.heap.size | have f50 := zY2 w.heap.size x5.w.heap.size | have f50 := zY1 w.heap.size x5.w.heap.size | skip); (first | have f51 := zY2 x1.w.heap.size x5.w.heap.size | have f51 := zY1 x1.w.heap.size x5.w.heap.size | skip); (first | have f52 := zY2 x2.w.heap.size x5.w.heap.size | have f52 := zY1 x2.w.heap.size x5.w.heap.size | skip); (first | have f53 := zY2 x3.w.heap.size x5.w.heap.size | have f53 := zY1 x3.w.heap.size x5.w.heap.size | skip); (first | have f54 := zY2 x4.w.heap.size x5.w.heap.size | have f54 := zY1 x4.w.heap.size x5.w.heap.size | skip))))
      go_ret
      exact ⟨by rw [Hm.out]; rfl, by (repeat (first | exact Below.refl _ _ | assumption | refine bel_alloc ?_ _ | refine bel_after _ ?_ | refine bel_drewN ?_ _ | refine bel_drew ?_ | refine bel_set ?_ (by first | omega | (simp only [zYA, zYD, zYC]; omega) | (simp; omega)) _))⟩
    · have H2 := Lib.hid h2
      rw [h1, h2] at Hm
      clear h2
      go_enter Tryz.func97, Tryz.ntmps97
      go_wp2_with (go_at_call 96; (with_reducible refine (may_v H2.out _).mono ?_); rintro e w' ⟨rfl, hb⟩; (first | ((fail_if_success revert x1); obtain ⟨x1, rfl⟩ := after_of hb; clear hb; have hz1 := after_size x1; (try (simp only [zYA, zYD, zYC] at hz1)); (try (have f1gA := zY1 gA x1.w.heap.size)); (first | have f10 := zY3 w.heap.size x1.w.heap.size | have f10 := zY2 w.heap.size x1.w.heap.size | have f10 := zY1 w.heap.size x1.w.heap.size | skip)) | ((fail_if_success revert x2); obtain ⟨x2, rfl⟩ := after_of hb; clear hb; have hz2 := after_size x2; (try (simp only [zYA, zYD, zYC] at hz2)); (try (have f2gA := zY1 gA x2.w.heap.size)); (first | have f20 := zY3 w.heap.size x2.w.heap.size | have f20 := zY2 w.heap.size x2.w.heap.size | have f20 := zY1 w.heap.size x2.w.heap.size | skip); (first | have f21 := zY2 x1.w.heap.size x2.w.heap.size | have f21 := zY1 x1.w.heap.size x2.w.heap.size | skip)) | ((fail_if_success revert x3); obtain ⟨x3, rfl⟩ := after_of hb; clear hb; have hz3 := after_size x3; (try (simp only [zYA, zYD, zYC] at hz3)); (try (have f3gA := zY1 gA x3.w.heap.size)); (first | have f30 := zY3 w.heap.size x3.w.heap.size | have f30 := zY2 w.heap.size x3.w.heap.size | have f30 := zY1 w.heap.size x3.w.heap.size | skip); (first | have f31 := zY2 x1.w.heap.size x3.w.heap.size | have f31 := zY1 x1.w.heap.size x3.w.heap.size | skip); (first | have f32 := zY2 x2.w.heap.size x3.w.heap.size | have f32 := zY1 x2.w.heap.size x3.w.heap.size | skip)) | ((fail_if_success revert x4); obtain ⟨x4, rfl⟩ := after_of hb; clear hb; have hz4 := after_size x4; (try (simp only [zYA, zYD, zYC] at hz4)); (try (have f4gA := zY1 gA x4.w.heap.size)); (first | have f40 := zY3 w.heap.size x4.w.heap.size | have f40 := zY2 w.heap.size x4.w.heap.size | have f40 := zY1 w.heap.size x4.w.heap.size | skip); (first | have f41 := zY2 x1.w.heap.size x4.w.heap.size | have f41 := zY1 x1.w.heap.size x4.w.heap.size | skip); (first | have f42 := zY2 x2.w.heap.size x4.w.heap.size | have f42 := zY1 x2.w.heap.size x4.w.heap.size | skip); (first | have f43 := zY2 x3.w.heap.size x4.w.heap.size | have f43 := zY1 x3.w.heap.size x4.w.heap.size | skip)) | ((fail_if_success revert x5); obtain ⟨x5, rfl⟩ := after_of hb; clear hb; have hz5 := after_size x5; (try (simp only [zYA, zYD, zYC] at hz5)); (try (have f5gA := zY1 gA x5.w.heap.size)); (first | have f50 := zY3 w.heap.size x5.w.heap.size | have f50 := zY2 w.heap.size x5.w.heap.size | have f50 := zY1 w.heap.size x5.w.heap.size | skip); (first | have f51 := zY2 x1.w.heap.size x5.w.heap.size | have f51 := zY1 x1.w.heap.size x5.w.heap.size | skip); (first | have f52 := zY2 x2.w.heap.size x5.w.heap.size | have f52 := zY1 x2.w.heap.size x5.w.heap.size | skip); (first | have f53 := zY2 x3.w.heap.size x5.w.heap.size | have f53 := zY1 x3.w.heap.size x5.w.heap.size | skip); (first | have f54 := zY2 x4.w.heap.size x5.w.heap.size | have f54 := zY1 x4.w.heap.size x5.w.heap.size | skip))))
      go_ret
      exact ⟨by rw [Hm.out]; simp; omega, by (repeat (first | exact Below.refl _ _ | assumption | refine bel_alloc ?_ _ | refine bel_after _ ?_ | refine bel_drewN ?_ _ | refine bel_drew ?_ | refine bel_set ?_ (by first | omega | (simp only [zYA, zYD, zYC]; omega) | (simp; omega)) _))⟩
  · rw [h1] at Hm
    go_enter Tryz.func97, Tryz.ntmps97
    go_wp2
    go_ret
    exact ⟨by rw [Hm.out]; simp, by (repeat (first | exact Below.refl _ _ | assumption | refine bel_alloc ?_ _ | refine bel_after _ ?_ | refine bel_drewN ?_ _ | refine bel_drew ?_ | refine bel_set ?_ (by first | omega | (simp only [zYA, zYD, zYC]; omega) | (simp; omega)) _))⟩

theorem cmay_v {N R : Int} {s : ByteArray} {b : Bool} (h : cMay N R s = b) (w : World) : Calls Tryz.prog 97 #[.agg (cellA N R s)] w fun e w' => e = .returned (.bool b) ∧ Below w.heap.size w w' := by
  rw [← h]; exact cmay_c N R s w
theorem cless_v {N R N' R' : Int} {s s' : ByteArray} {b : Bool} (h : cLess N R s N' R' s' = b) (hs : s.size ≤ 80000) (hs' : s'.size ≤ 80000) (w : World) : Calls Tryz.prog 141 #[.agg (cellA N R s), .agg (cellA N' R' s')] w fun e w' => e = .returned (.bool b) ∧ Below w.heap.size w w' := by
  rw [← h]; exact cless_c N R N' R' s s' hs hs' w
theorem cMay_le {N R : Int} {s : ByteArray} (h : cMay N R s = true) : stEq N R 0 0 = false ∧ stMay N R = true ∧ s.size ≤ 200 := by
  simp only [cMay, Bool.and_eq_true, Bool.not_eq_true', decide_eq_true_eq] at h; exact ⟨h.1.1, h.1.2, h.2⟩
set_option maxHeartbeats 1600000 in
theorem cjoin_c (N R N' R' : Int) (s s' : ByteArray) (hs : s.size ≤ 80000) (hs' : s'.size ≤ 80000) (w : World) : Calls Tryz.prog 121 #[.agg (cellA N R s), .agg (cellA N' R' s')] w fun e w' => e = .returned (.agg (bif cLess N R s N' R' s' then cellA N' R' s' else cellA N R s)) ∧ Below w.heap.size w w' := by
  have hAc := @after_cell
  have hAf := @after_frozen
  have hSz := sz_facts
  have Hs := Lib.hid hs; have Hs' := Lib.hid hs'; clear hs hs'
  cases hl : cLess N R s N' R' s'
  all_goals
    have Hl := Lib.hid hl; clear hl
    go_enter Tryz.func121, Tryz.ntmps121
    go_wp2_with (go_at_call 141; (with_reducible refine (cless_v Hl.out Hs.out Hs'.out _).mono ?_); rintro e w' ⟨rfl, hb⟩; (first | ((fail_if_success revert x1); obtain ⟨x1, rfl⟩ := after_of hb; clear hb; have hz1 := after_size x1; (try (simp only [zYA, zYD, zYC] at hz1)); (try (have f1gA := zY1 gA x1.w.heap.size)); (first | have f10 := zY3 w.heap.size x1.w.heap.size | have f10 := zY2 w.heap.size x1.w.heap.size | have f10 := zY1 w.heap.size x1.w.heap.size | skip)) | ((fail_if_success revert x2); obtain ⟨x2, rfl⟩ := after_of hb; clear hb; have hz2 := after_size x2; (try (simp only [zYA, zYD, zYC] at hz2)); (try (have f2gA := zY1 gA x2.w.heap.size)); (first | have f20 := zY3 w.heap.size x2.w.heap.size | have f20 := zY2 w.heap.size x2.w.heap.size | have f20 := zY1 w.heap.size x2.w.heap.size | skip); (first | have f21 := zY2 x1.w.heap.size x2.w.heap.size | have f21 := zY1 x1.w.heap.size x2.w.heap.size | skip)) | ((fail_if_success revert x3); obtain ⟨x3, rfl⟩ := after_of hb; clear hb; have hz3 := after_size x3; (try (simp only [zYA, zYD, zYC] at hz3)); (try (have f3gA := zY1 gA x3.w.heap.size)); (first | have f30 := zY3 w.heap.size x3.w.heap.size | have f30 := zY2 w.heap.size x3.w.heap.size | have f30 := zY1 w.heap.size x3.w.heap.size | skip); (first | have f31 := zY2 x1.w.heap.size x3.w.heap.size | have f31 := zY1 x1.w.heap.size x3.w.heap.size | skip); (first | have f32 := zY2 x2.w.heap.size x3.w.heap.size | have f32 := zY1 x2.w.heap.size x3.w.heap.size | skip)) | ((fail_if_success revert x4); obtain ⟨x4, rfl⟩ := after_of hb; clear hb; have hz4 := after_size x4; (try (simp only [zYA, zYD, zYC] at hz4)); (try (have f4gA := zY1 gA x4.w.heap.size)); (first | have f40 := zY3 w.heap.size x4.w.heap.size | have f40 := zY2 w.heap.size x4.w.heap.size | have f40 := zY1 w.heap.size x4.w.heap.size | skip); (first | have f41 := zY2 x1.w.heap.size x4.w.heap.size | have f41 := zY1 x1.w.heap.size x4.w.heap.size | skip); (first | have f42 := zY2 x2.w.heap.size x4.w.heap.size | have f42 := zY1 x2.w.heap.size x4.w.heap.size | skip); (first | have f43 := zY2 x3.w.heap.size x4.w.heap.size | have f43 := zY1 x3.w.heap.size x4.w.heap.size | skip)) | ((fail_if_success revert x5); obtain ⟨x5, rfl⟩ := after_of hb; clear hb; have hz5 := after_size x5; (try (simp only [zYA, zYD, zYC] at hz5)); (try (have f5gA := zY1 gA x5.w.heap.size)); (first | have f50 := zY3 w.heap.size x5.w.heap.size | have f50 := zY2 w.heap.size x5.w.heap.size | have f50 := zY1 w.heap.size x5.w.heap.size | skip); (first | have f51 := zY2 x1.w.heap.size x5.w.heap.size | have f51 := zY1 x1.w.heap.size x5.w.heap.size | skip); (first | have f52 := zY2 x2.w.heap.size x5.w.heap.size | have f52 := zY1 x2.w.heap.size x5.w.heap.size | skip); (first | have f53 := zY2 x3.w.heap.size x5.w.heap.size | have f53 := zY1 x3.w.heap.size x5.w.heap.size | skip); (first | have f54 := zY2 x4.w.heap.size x5.w.heap.size | have f54 := zY1 x4.w.heap.size x5.w.heap.size | skip))))
  · exact bodyPost_ret (v := .agg (cellA N R s)) (by simp only [results, Tryz.results121]; go_simp) rfl ⟨rfl, by (repeat (first | exact Below.refl _ _ | assumption | refine bel_alloc ?_ _ | refine bel_after _ ?_ | refine bel_drewN ?_ _ | refine bel_drew ?_ | refine bel_set ?_ (by first | omega | (simp only [zYA, zYD, zYC]; omega) | (simp; omega)) _))⟩
  · exact bodyPost_ret (v := .agg (cellA N' R' s')) (by simp only [results, Tryz.results121]; go_simp) rfl ⟨rfl, by (repeat (first | exact Below.refl _ _ | assumption | refine bel_alloc ?_ _ | refine bel_after _ ?_ | refine bel_drewN ?_ _ | refine bel_drew ?_ | refine bel_set ?_ (by first | omega | (simp only [zYA, zYD, zYC]; omega) | (simp; omega)) _))⟩

/-- A cell's bytes. -/
def cBytes (N R : Int) (s : ByteArray) : List UInt8 := if cMay N R s = true then stBytes N R ++ textL s else []
def CPut (w : World) (N R : Int) (s : ByteArray) (e : Ending) (w' : World) : Prop :=
  ∃ v, e = .returned (.tuple #[v, .bool (cMay N R s)]) ∧ OwnU w.heap.size w' 5 v (cBytes N R s) ∧ Below w.heap.size w w'
theorem textL_le {s : ByteArray} (h : s.size ≤ 90000) : (textL s).length ≤ 10 + s.size := by
  have h1 := (putL_le s.size (by omega)).2
  have h2 : s.data.toList.length = s.size := by simp
  unfold textL; rw [List.length_append, h2]; omega
set_option maxHeartbeats 1600000 in
theorem cput_c (N R : Int) (s : ByteArray) (w : World) : Calls Tryz.prog 72 #[.agg (cellA N R s)] w (CPut w N R s) := by
  have hAc := @after_cell
  have hAf := @after_frozen
  have hSz := sz_facts
  cases hm : cMay N R s
  · have Hm := Lib.hid hm; clear hm
    go_enter Tryz.func72, Tryz.ntmps72
    go_wp2_with (go_at_call 97; (with_reducible refine (cmay_v Hm.out _).mono ?_); rintro e w' ⟨rfl, hb⟩; (first | ((fail_if_success revert x1); obtain ⟨x1, rfl⟩ := after_of hb; clear hb; have hz1 := after_size x1; (try (simp only [zYA, zYD, zYC] at hz1)); (try (have f1gA := zY1 gA x1.w.heap.size)); (first | have f10 := zY3 w.heap.size x1.w.heap.size | have f10 := zY2 w.heap.size x1.w.heap.size | have f10 := zY1 w.heap.size x1.w.heap.size | skip)) | ((fail_if_success revert x2); obtain ⟨x2, rfl⟩ := after_of hb; clear hb; have hz2 := after_size x2; (try (simp only [zYA, zYD, zYC] at hz2)); (try (have f2gA := zY1 gA x2.w.heap.size)); (first | have f20 := zY3 w.heap.size x2.w.heap.size | have f20 := zY2 w.heap.size x2.w.heap.size | have f20 := zY1 w.heap.size x2.w.heap.size | skip); (first | have f21 := zY2 x1.w.heap.size x2.w.heap.size | have f21 := zY1 x1.w.heap.size x2.w.heap.size | skip)) | ((fail_if_success revert x3); obtain ⟨x3, rfl⟩ := after_of hb; clear hb; have hz3 := after_size x3; (try (simp only [zYA, zYD, zYC] at hz3)); (try (have f3gA := zY1 gA x3.w.heap.size)); (first | have f30 := zY3 w.heap.size x3.w.heap.size | have f30 := zY2 w.heap.size x3.w.heap.size | have f30 := zY1 w.heap.size x3.w.heap.size | skip); (first | have f31 := zY2 x1.w.heap.size x3.w.heap.size | have f31 := zY1 x1.w.heap.size x3.w.heap.size | skip); (first | have f32 := zY2 x2.w.heap.size x3.w.heap.size | have f32 := zY1 x2.w.heap.size x3.w.heap.size | skip)) | ((fail_if_success revert x4); obtain ⟨x4, rfl⟩ := after_of hb; clear hb; have hz4 := after_size x4; (try (simp only [zYA, zYD, zYC] at hz4)); (try (have f4gA := zY1 gA x4.w.heap.size)); (first | have f40 := zY3 w.heap.size x4.w.heap.size | have f40 := zY2 w.heap.size x4.w.heap.size | have f40 := zY1 w.heap.size x4.w.heap.size | skip); (first | have f41 := zY2 x1.w.heap.size x4.w.heap.size | have f41 := zY1 x1.w.heap.size x4.w.heap.size | skip); (first | have f42 := zY2 x2.w.heap.size x4.w.heap.size | have f42 := zY1 x2.w.heap.size x4.w.heap.size | skip); (first | have f43 := zY2 x3.w.heap.size x4.w.heap.size | have f43 := zY1 x3.w.heap.size x4.w.heap.size | skip)) | ((fail_if_success revert x5); obtain ⟨x5, rfl⟩ := after_of hb; clear hb; have hz5 := after_size x5; (try (simp only [zYA, zYD, zYC] at hz5)); (try (have f5gA := zY1 gA x5.w.heap.size)); (first | have f50 := zY3 w.heap.size x5.w.heap.size | have f50 := zY2 w.heap.size x5.w.heap.size | have f50 := zY1 w.heap.size x5.w.heap.size | skip); (first | have f51 := zY2 x1.w.heap.size x5.w.heap.size | have f51 := zY1 x1.w.heap.size x5.w.heap.size | skip); (first | have f52 := zY2 x2.w.heap.size x5.w.heap.size | have f52 := zY1 x2.w.heap.size x5.w.heap.size | skip); (first | have f53 := zY2 x3.w.heap.size x5.w.heap.size | have f53 := zY1 x3.w.heap.size x5.w.heap.size | skip); (first | have f54 := zY2 x4.w.heap.size x5.w.heap.size | have f54 := zY1 x4.w.heap.size x5.w.heap.size | skip))))
    all_goals go_ret2
    all_goals exact ⟨.slice none 0 0, by rw [Hm.out]; rfl, by unfold cBytes; rw [if_neg (by rw [Hm.out]; simp)]; exact ownU_nil _ _ _, by (repeat (first | exact Below.refl _ _ | assumption | refine bel_alloc ?_ _ | refine bel_after _ ?_ | refine bel_drewN ?_ _ | refine bel_drew ?_ | refine bel_set ?_ (by first | omega | (simp only [zYA, zYD, zYC]; omega) | (simp; omega)) _))⟩
  · obtain ⟨h0, h1, h2⟩ := cMay_le hm
    have Hm := Lib.hid hm
    have Hc : Hid (cBytes N R s = stBytes N R ++ textL s) := by unfold cBytes; rw [if_pos hm]; exact Lib.hid rfl
    have hlen : (stBytes N R).length + (textL s).length ≤ 100000 := by have := stBytes_le h1; have := textL_le (s := s) (by omega); omega
    have Hlen := Lib.hid hlen
    have H1 := Lib.hid h1
    have H2 : Hid (s.size ≤ 90000) := Lib.hid (by omega)
    clear hm h0 h1 h2 hlen
    go_enter Tryz.func72, Tryz.ntmps72
    go_wp2_with (first | (go_at_call 97; (with_reducible refine (cmay_v Hm.out _).mono ?_); rintro e w' ⟨rfl, hb⟩; (first | ((fail_if_success revert x1); obtain ⟨x1, rfl⟩ := after_of hb; clear hb; have hz1 := after_size x1; (try (simp only [zYA, zYD, zYC] at hz1)); (try (have f1gA := zY1 gA x1.w.heap.size)); (first | have f10 := zY3 w.heap.size x1.w.heap.size | have f10 := zY2 w.heap.size x1.w.heap.size | have f10 := zY1 w.heap.size x1.w.heap.size | skip)) | ((fail_if_success revert x2); obtain ⟨x2, rfl⟩ := after_of hb; clear hb; have hz2 := after_size x2; (try (simp only [zYA, zYD, zYC] at hz2)); (try (have f2gA := zY1 gA x2.w.heap.size)); (first | have f20 := zY3 w.heap.size x2.w.heap.size | have f20 := zY2 w.heap.size x2.w.heap.size | have f20 := zY1 w.heap.size x2.w.heap.size | skip); (first | have f21 := zY2 x1.w.heap.size x2.w.heap.size | have f21 := zY1 x1.w.heap.size x2.w.heap.size | skip)) | ((fail_if_success revert x3); obtain ⟨x3, rfl⟩ := after_of hb; clear hb; have hz3 := after_size x3; (try (simp only [zYA, zYD, zYC] at hz3)); (try (have f3gA := zY1 gA x3.w.heap.size)); (first | have f30 := zY3 w.heap.size x3.w.heap.size | have f30 := zY2 w.heap.size x3.w.heap.size | have f30 := zY1 w.heap.size x3.w.heap.size | skip); (first | have f31 := zY2 x1.w.heap.size x3.w.heap.size | have f31 := zY1 x1.w.heap.size x3.w.heap.size | skip); (first | have f32 := zY2 x2.w.heap.size x3.w.heap.size | have f32 := zY1 x2.w.heap.size x3.w.heap.size | skip)) | ((fail_if_success revert x4); obtain ⟨x4, rfl⟩ := after_of hb; clear hb; have hz4 := after_size x4; (try (simp only [zYA, zYD, zYC] at hz4)); (try (have f4gA := zY1 gA x4.w.heap.size)); (first | have f40 := zY3 w.heap.size x4.w.heap.size | have f40 := zY2 w.heap.size x4.w.heap.size | have f40 := zY1 w.heap.size x4.w.heap.size | skip); (first | have f41 := zY2 x1.w.heap.size x4.w.heap.size | have f41 := zY1 x1.w.heap.size x4.w.heap.size | skip); (first | have f42 := zY2 x2.w.heap.size x4.w.heap.size | have f42 := zY1 x2.w.heap.size x4.w.heap.size | skip); (first | have f43 := zY2 x3.w.heap.size x4.w.heap.size | have f43 := zY1 x3.w.heap.size x4.w.heap.size | skip)) | ((fail_if_success revert x5); obtain ⟨x5, rfl⟩ := after_of hb; clear hb; have hz5 := after_size x5; (try (simp only [zYA, zYD, zYC] at hz5)); (try (have f5gA := zY1 gA x5.w.heap.size)); (first | have f50 := zY3 w.heap.size x5.w.heap.size | have f50 := zY2 w.heap.size x5.w.heap.size | have f50 := zY1 w.heap.size x5.w.heap.size | skip); (first | have f51 := zY2 x1.w.heap.size x5.w.heap.size | have f51 := zY1 x1.w.heap.size x5.w.heap.size | skip); (first | have f52 := zY2 x2.w.heap.size x5.w.heap.size | have f52 := zY1 x2.w.heap.size x5.w.heap.size | skip); (first | have f53 := zY2 x3.w.heap.size x5.w.heap.size | have f53 := zY1 x3.w.heap.size x5.w.heap.size | skip); (first | have f54 := zY2 x4.w.heap.size x5.w.heap.size | have f54 := zY1 x4.w.heap.size x5.w.heap.size | skip)))) | (go_at_call 71; (with_reducible refine (stput_v H1.out rfl _).mono ?_); rintro e w' ⟨v, rfl, own2, hb⟩; have Own2 := Lib.hid own2; clear own2; (first | ((fail_if_success revert x1); obtain ⟨x1, rfl⟩ := after_of hb; clear hb; have hz1 := after_size x1; (try (simp only [zYA, zYD, zYC] at hz1)); (try (have f1gA := zY1 gA x1.w.heap.size)); (first | have f10 := zY3 w.heap.size x1.w.heap.size | have f10 := zY2 w.heap.size x1.w.heap.size | have f10 := zY1 w.heap.size x1.w.heap.size | skip)) | ((fail_if_success revert x2); obtain ⟨x2, rfl⟩ := after_of hb; clear hb; have hz2 := after_size x2; (try (simp only [zYA, zYD, zYC] at hz2)); (try (have f2gA := zY1 gA x2.w.heap.size)); (first | have f20 := zY3 w.heap.size x2.w.heap.size | have f20 := zY2 w.heap.size x2.w.heap.size | have f20 := zY1 w.heap.size x2.w.heap.size | skip); (first | have f21 := zY2 x1.w.heap.size x2.w.heap.size | have f21 := zY1 x1.w.heap.size x2.w.heap.size | skip)) | ((fail_if_success revert x3); obtain ⟨x3, rfl⟩ := after_of hb; clear hb; have hz3 := after_size x3; (try (simp only [zYA, zYD, zYC] at hz3)); (try (have f3gA := zY1 gA x3.w.heap.size)); (first | have f30 := zY3 w.heap.size x3.w.heap.size | have f30 := zY2 w.heap.size x3.w.heap.size | have f30 := zY1 w.heap.size x3.w.heap.size | skip); (first | have f31 := zY2 x1.w.heap.size x3.w.heap.size | have f31 := zY1 x1.w.heap.size x3.w.heap.size | skip); (first | have f32 := zY2 x2.w.heap.size x3.w.heap.size | have f32 := zY1 x2.w.heap.size x3.w.heap.size | skip)) | ((fail_if_success revert x4); obtain ⟨x4, rfl⟩ := after_of hb; clear hb; have hz4 := after_size x4; (try (simp only [zYA, zYD, zYC] at hz4)); (try (have f4gA := zY1 gA x4.w.heap.size)); (first | have f40 := zY3 w.heap.size x4.w.heap.size | have f40 := zY2 w.heap.size x4.w.heap.size | have f40 := zY1 w.heap.size x4.w.heap.size | skip); (first | have f41 := zY2 x1.w.heap.size x4.w.heap.size | have f41 := zY1 x1.w.heap.size x4.w.heap.size | skip); (first | have f42 := zY2 x2.w.heap.size x4.w.heap.size | have f42 := zY1 x2.w.heap.size x4.w.heap.size | skip); (first | have f43 := zY2 x3.w.heap.size x4.w.heap.size | have f43 := zY1 x3.w.heap.size x4.w.heap.size | skip)) | ((fail_if_success revert x5); obtain ⟨x5, rfl⟩ := after_of hb; clear hb; have hz5 := after_size x5; (try (simp only [zYA, zYD, zYC] at hz5)); (try (have f5gA := zY1 gA x5.w.heap.size)); (first | have f50 := zY3 w.heap.size x5.w.heap.size | have f50 := zY2 w.heap.size x5.w.heap.size | have f50 := zY1 w.heap.size x5.w.heap.size | skip); (first | have f51 := zY2 x1.w.heap.size x5.w.heap.size | have f51 := zY1 x1.w.heap.size x5.w.heap.size | skip); (first | have f52 := zY2 x2.w.heap.size x5.w.heap.size | have f52 := zY1 x2.w.heap.size x5.w.heap.size | skip); (first | have f53 := zY2 x3.w.heap.size x5.w.heap.size | have f53 := zY1 x3.w.heap.size x5.w.heap.size | skip); (first | have f54 := zY2 x4.w.heap.size x5.w.heap.size | have f54 := zY1 x4.w.heap.size x5.w.heap.size | skip)))) | (go_at_call 109; (with_reducible refine (text_c s H2.out _).mono ?_); rintro e w' ⟨v2, rfl, own3, hb⟩; have Own3 := Lib.hid own3; clear own3; (first | ((fail_if_success revert x1); obtain ⟨x1, rfl⟩ := after_of hb; clear hb; have hz1 := after_size x1; (try (simp only [zYA, zYD, zYC] at hz1)); (try (have f1gA := zY1 gA x1.w.heap.size)); (first | have f10 := zY3 w.heap.size x1.w.heap.size | have f10 := zY2 w.heap.size x1.w.heap.size | have f10 := zY1 w.heap.size x1.w.heap.size | skip)) | ((fail_if_success revert x2); obtain ⟨x2, rfl⟩ := after_of hb; clear hb; have hz2 := after_size x2; (try (simp only [zYA, zYD, zYC] at hz2)); (try (have f2gA := zY1 gA x2.w.heap.size)); (first | have f20 := zY3 w.heap.size x2.w.heap.size | have f20 := zY2 w.heap.size x2.w.heap.size | have f20 := zY1 w.heap.size x2.w.heap.size | skip); (first | have f21 := zY2 x1.w.heap.size x2.w.heap.size | have f21 := zY1 x1.w.heap.size x2.w.heap.size | skip)) | ((fail_if_success revert x3); obtain ⟨x3, rfl⟩ := after_of hb; clear hb; have hz3 := after_size x3; (try (simp only [zYA, zYD, zYC] at hz3)); (try (have f3gA := zY1 gA x3.w.heap.size)); (first | have f30 := zY3 w.heap.size x3.w.heap.size | have f30 := zY2 w.heap.size x3.w.heap.size | have f30 := zY1 w.heap.size x3.w.heap.size | skip); (first | have f31 := zY2 x1.w.heap.size x3.w.heap.size | have f31 := zY1 x1.w.heap.size x3.w.heap.size | skip); (first | have f32 := zY2 x2.w.heap.size x3.w.heap.size | have f32 := zY1 x2.w.heap.size x3.w.heap.size | skip)) | ((fail_if_success revert x4); obtain ⟨x4, rfl⟩ := after_of hb; clear hb; have hz4 := after_size x4; (try (simp only [zYA, zYD, zYC] at hz4)); (try (have f4gA := zY1 gA x4.w.heap.size)); (first | have f40 := zY3 w.heap.size x4.w.heap.size | have f40 := zY2 w.heap.size x4.w.heap.size | have f40 := zY1 w.heap.size x4.w.heap.size | skip); (first | have f41 := zY2 x1.w.heap.size x4.w.heap.size | have f41 := zY1 x1.w.heap.size x4.w.heap.size | skip); (first | have f42 := zY2 x2.w.heap.size x4.w.heap.size | have f42 := zY1 x2.w.heap.size x4.w.heap.size | skip); (first | have f43 := zY2 x3.w.heap.size x4.w.heap.size | have f43 := zY1 x3.w.heap.size x4.w.heap.size | skip)) | ((fail_if_success revert x5); obtain ⟨x5, rfl⟩ := after_of hb; clear hb; have hz5 := after_size x5; (try (simp only [zYA, zYD, zYC] at hz5)); (try (have f5gA := zY1 gA x5.w.heap.size)); (first | have f50 := zY3 w.heap.size x5.w.heap.size | have f50 := zY2 w.heap.size x5.w.heap.size | have f50 := zY1 w.heap.size x5.w.heap.size | skip); (first | have f51 := zY2 x1.w.heap.size x5.w.heap.size | have f51 := zY1 x1.w.heap.size x5.w.heap.size | skip); (first | have f52 := zY2 x2.w.heap.size x5.w.heap.size | have f52 := zY1 x2.w.heap.size x5.w.heap.size | skip); (first | have f53 := zY2 x3.w.heap.size x5.w.heap.size | have f53 := zY1 x3.w.heap.size x5.w.heap.size | skip); (first | have f54 := zY2 x4.w.heap.size x5.w.heap.size | have f54 := zY1 x4.w.heap.size x5.w.heap.size | skip)))) | (at_builtin; refine wpList_app (w0 := w) rfl _ _ 58 rfl _ rfl 5 (by kernel_rfl) (by kernel_rfl) _ _ rfl ((Own2.out.below x3.h).lower (by omega)) _ _ rfl Own3.out.byt Hlen.out (by (repeat (first | exact Below.refl _ _ | assumption | refine bel_alloc ?_ _ | refine bel_after _ ?_ | refine bel_drewN ?_ _ | refine bel_drew ?_ | refine bel_set ?_ (by first | omega | (simp only [zYA, zYD, zYC]; omega) | (simp; omega)) _))) ?_; intro v4 w4 own4 b4))
    all_goals go_ret2
    all_goals exact ⟨v4, by rw [Hm.out]; rfl, by rw [Hc.out]; exact own4, b4⟩

/-- What Get tells: the cell, how many bytes, whether. -/
def cGet (bs : List UInt8) : Int × Int × ByteArray × Nat × Bool :=
  match stGet bs with
  | (N, R, u, is) =>
    match readR (bs.drop u) 200 with
    | some (s, m) => if is = true ∧ cMay N R s = true then (N, R, s, u + m, true) else (0, 0, ⟨#[]⟩, 0, false)
    | none => (0, 0, ⟨#[]⟩, 0, false)
def CGetIs (bs : List UInt8) : Value := .tuple #[.agg (cellA (cGet bs).1 (cGet bs).2.1 (cGet bs).2.2.1), .int .i64 ((cGet bs).2.2.2.1 : Int), .bool (cGet bs).2.2.2.2]
theorem CGetIs.mk {bs : List UInt8} {N R c : Int} {s : ByteArray} {k : Nat} {d : Bool} (h : cGet bs = (N, R, s, k, d)) (hc : c = (k : Int)) : Ending.returned (.tuple #[.agg #[.int .i64 N, .int .i64 R, .string s], .int .i64 c, .bool d]) = .returned (CGetIs bs) := by
  unfold CGetIs; rw [h, hc]
theorem read_m {bs : List UInt8} {M : Nat} {s : ByteArray} {m : Nat} {d : Bool} {v : Value} (hM : M ≤ 100000) (HR : ReadIs (readR bs M) = .tuple #[.string s, .int .i64 (m : Int), .bool d]) (w : World) (hv : Byt w v bs) : Calls Tryz.prog 150 #[v, .int .i64 (M : Int)] w fun e w' =>
    e = .returned (.tuple #[.string s, .int .i64 (m : Int), .bool d]) ∧ Below w.heap.size w w' :=
  (read_c v bs M hM w hv).mono fun e w' ⟨he, hb⟩ => ⟨by rw [he, HR], hb⟩
theorem read_200 {bs : List UInt8} {s : ByteArray} {m : Nat} {d : Bool} {v : Value} (HR : ReadIs (readR bs 200) = .tuple #[.string s, .int .i64 (m : Int), .bool d]) (w : World) (hv : Byt w v bs) : Calls Tryz.prog 150 #[v, .int .i64 200] w fun e w' =>
    e = .returned (.tuple #[.string s, .int .i64 (m : Int), .bool d]) ∧ Below w.heap.size w w' := read_m (M := 200) (by omega) HR w hv
theorem readIs_cases (r : Option (ByteArray × Nat)) : (r = none ∧ ReadIs r = .tuple #[.string .empty, .int .i64 ((0 : Nat) : Int), .bool false]) ∨ ∃ s m, r = some (s, m) ∧ ReadIs r = .tuple #[.string s, .int .i64 (m : Int), .bool true] := by
  cases r with
  | none => exact .inl ⟨rfl, rfl⟩
  | some q => exact .inr ⟨q.1, q.2, rfl, rfl⟩
theorem readR_some {bs : List UInt8} {M : Nat} {s : ByteArray} {m : Nat} (h : readR bs M = some (s, m)) : ∃ n u, getR bs = some (n, u) ∧ n ≤ min M (bs.length - u) ∧ s = bstr ((bs.drop u).take n) ∧ m = u + n := by
  unfold readR at h
  cases hg : getR bs with
  | none => rw [hg] at h; cases h
  | some q =>
    rw [hg] at h
    obtain ⟨n, u⟩ := q
    simp only at h
    split at h
    · rename_i hk
      simp only [Option.some.injEq, Prod.mk.injEq] at h
      exact ⟨n, u, rfl, hk, h.1.symm, h.2.symm⟩
    · cases h
theorem readR_le {bs : List UInt8} {M : Nat} {s : ByteArray} {m : Nat} (h : readR bs M = some (s, m)) : m ≤ M + 10 ∧ m ≤ bs.length ∧ s.size ≤ M := by
  obtain ⟨n, u, h1, h2, h3, h4⟩ := readR_some h
  obtain ⟨_, _, h5, h6, _⟩ := getR_some h1
  refine ⟨by omega, by omega, ?_⟩
  rw [h3, bstr_size]; simp; omega
theorem stGet_ten (bs : List UInt8) : (stGet bs).2.2.1 ≤ 10 := by
  rcases st_back2 bs with h | ⟨a, b, u, h, h1, h2, hu, h4⟩
  · rw [h]; exact Nat.zero_le _
  · rw [h]
    have h5 := congrArg List.length h4
    have := stBytes_le h1
    rw [List.length_take] at h5
    show u ≤ 10
    omega
theorem stGet_le (bs : List UInt8) : (stGet bs).2.2.1 ≤ bs.length := by
  rcases st_back2 bs with h | ⟨a, b, u, h, _, _, hu, _⟩
  · rw [h]; exact Nat.zero_le _
  · rw [h]; exact hu
set_option maxHeartbeats 3200000 in
theorem cget_c (v : Value) (bs : List UInt8) (w : World) (hv : Byt w v bs) : Calls Tryz.prog 139 #[v] w fun e w' => e = .returned (CGetIs bs) ∧ Below w.heap.size w w' := by
  have hAc := @after_cell
  have hAf := @after_frozen
  have hSz := sz_facts
  obtain ⟨N, R, u, is, hst⟩ : ∃ N R u is, stGet bs = (N, R, u, is) := ⟨_, _, _, _, rfl⟩
  have hu : u ≤ bs.length := by have := stGet_le bs; rw [hst] at this; exact this
  obtain ⟨v', hv', hcut⟩ := byt_drop hv u hu
  have Hst := Lib.hid hst; have Hv := Lib.hid hv; have Hv' := Lib.hid hv'
  clear hv hv' hu
  rcases readIs_cases (readR (bs.drop u) 200) with ⟨hr, hrd⟩ | ⟨s, m, hr, hrd⟩
  · have Hg : Hid (cGet bs = (0, 0, ⟨#[]⟩, 0, false)) := by unfold cGet; rw [hst]; simp only; rw [hr]; exact Lib.hid rfl
    have Hrd := Lib.hid hrd; clear hrd hr hst
    cases is
    all_goals
      go_enter Tryz.func139, Tryz.ntmps139
      go_wp2_with (first | (go_at_call 113; (with_reducible refine (stget_m v bs _ (Hv.out.alloc _) _ _ _ _ Hst.out).mono ?_); rintro e w' ⟨rfl, hb⟩; (first | ((fail_if_success revert x1); obtain ⟨x1, rfl⟩ := after_of hb; clear hb; have hz1 := after_size x1; (try (simp only [zYA, zYD, zYC] at hz1)); (try (have f1gA := zY1 gA x1.w.heap.size)); (first | have f10 := zY3 w.heap.size x1.w.heap.size | have f10 := zY2 w.heap.size x1.w.heap.size | have f10 := zY1 w.heap.size x1.w.heap.size | skip)) | ((fail_if_success revert x2); obtain ⟨x2, rfl⟩ := after_of hb; clear hb; have hz2 := after_size x2; (try (simp only [zYA, zYD, zYC] at hz2)); (try (have f2gA := zY1 gA x2.w.heap.size)); (first | have f20 := zY3 w.heap.size x2.w.heap.size | have f20 := zY2 w.heap.size x2.w.heap.size | have f20 := zY1 w.heap.size x2.w.heap.size | skip); (first | have f21 := zY2 x1.w.heap.size x2.w.heap.size | have f21 := zY1 x1.w.heap.size x2.w.heap.size | skip)) | ((fail_if_success revert x3); obtain ⟨x3, rfl⟩ := after_of hb; clear hb; have hz3 := after_size x3; (try (simp only [zYA, zYD, zYC] at hz3)); (try (have f3gA := zY1 gA x3.w.heap.size)); (first | have f30 := zY3 w.heap.size x3.w.heap.size | have f30 := zY2 w.heap.size x3.w.heap.size | have f30 := zY1 w.heap.size x3.w.heap.size | skip); (first | have f31 := zY2 x1.w.heap.size x3.w.heap.size | have f31 := zY1 x1.w.heap.size x3.w.heap.size | skip); (first | have f32 := zY2 x2.w.heap.size x3.w.heap.size | have f32 := zY1 x2.w.heap.size x3.w.heap.size | skip)) | ((fail_if_success revert x4); obtain ⟨x4, rfl⟩ := after_of hb; clear hb; have hz4 := after_size x4; (try (simp only [zYA, zYD, zYC] at hz4)); (try (have f4gA := zY1 gA x4.w.heap.size)); (first | have f40 := zY3 w.heap.size x4.w.heap.size | have f40 := zY2 w.heap.size x4.w.heap.size | have f40 := zY1 w.heap.size x4.w.heap.size | skip); (first | have f41 := zY2 x1.w.heap.size x4.w.heap.size | have f41 := zY1 x1.w.heap.size x4.w.heap.size | skip); (first | have f42 := zY2 x2.w.heap.size x4.w.heap.size | have f42 := zY1 x2.w.heap.size x4.w.heap.size | skip); (first | have f43 := zY2 x3.w.heap.size x4.w.heap.size | have f43 := zY1 x3.w.heap.size x4.w.heap.size | skip)) | ((fail_if_success revert x5); obtain ⟨x5, rfl⟩ := after_of hb; clear hb; have hz5 := after_size x5; (try (simp only [zYA, zYD, zYC] at hz5)); (try (have f5gA := zY1 gA x5.w.heap.size)); (first | have f50 := zY3 w.heap.size x5.w.heap.size | have f50 := zY2 w.heap.size x5.w.heap.size | have f50 := zY1 w.heap.size x5.w.heap.size | skip); (first | have f51 := zY2 x1.w.heap.size x5.w.heap.size | have f51 := zY1 x1.w.heap.size x5.w.heap.size | skip); (first | have f52 := zY2 x2.w.heap.size x5.w.heap.size | have f52 := zY1 x2.w.heap.size x5.w.heap.size | skip); (first | have f53 := zY2 x3.w.heap.size x5.w.heap.size | have f53 := zY1 x3.w.heap.size x5.w.heap.size | skip); (first | have f54 := zY2 x4.w.heap.size x5.w.heap.size | have f54 := zY1 x4.w.heap.size x5.w.heap.size | skip)))) | (go_at_call 150; refine (read_200 Hrd.out _ (Hv'.out.below (by (repeat (first | exact Below.refl _ _ | assumption | refine bel_alloc ?_ _ | refine bel_after _ ?_ | refine bel_drewN ?_ _ | refine bel_drew ?_ | refine bel_set ?_ (by first | omega | (simp only [zYA, zYD, zYC]; omega) | (simp; omega)) _))))).mono ?_; rintro e w' ⟨rfl, hb⟩; (first | ((fail_if_success revert x1); obtain ⟨x1, rfl⟩ := after_of hb; clear hb; have hz1 := after_size x1; (try (simp only [zYA, zYD, zYC] at hz1)); (try (have f1gA := zY1 gA x1.w.heap.size)); (first | have f10 := zY3 w.heap.size x1.w.heap.size | have f10 := zY2 w.heap.size x1.w.heap.size | have f10 := zY1 w.heap.size x1.w.heap.size | skip)) | ((fail_if_success revert x2); obtain ⟨x2, rfl⟩ := after_of hb; clear hb; have hz2 := after_size x2; (try (simp only [zYA, zYD, zYC] at hz2)); (try (have f2gA := zY1 gA x2.w.heap.size)); (first | have f20 := zY3 w.heap.size x2.w.heap.size | have f20 := zY2 w.heap.size x2.w.heap.size | have f20 := zY1 w.heap.size x2.w.heap.size | skip); (first | have f21 := zY2 x1.w.heap.size x2.w.heap.size | have f21 := zY1 x1.w.heap.size x2.w.heap.size | skip)) | ((fail_if_success revert x3); obtain ⟨x3, rfl⟩ := after_of hb; clear hb; have hz3 := after_size x3; (try (simp only [zYA, zYD, zYC] at hz3)); (try (have f3gA := zY1 gA x3.w.heap.size)); (first | have f30 := zY3 w.heap.size x3.w.heap.size | have f30 := zY2 w.heap.size x3.w.heap.size | have f30 := zY1 w.heap.size x3.w.heap.size | skip); (first | have f31 := zY2 x1.w.heap.size x3.w.heap.size | have f31 := zY1 x1.w.heap.size x3.w.heap.size | skip); (first | have f32 := zY2 x2.w.heap.size x3.w.heap.size | have f32 := zY1 x2.w.heap.size x3.w.heap.size | skip)) | ((fail_if_success revert x4); obtain ⟨x4, rfl⟩ := after_of hb; clear hb; have hz4 := after_size x4; (try (simp only [zYA, zYD, zYC] at hz4)); (try (have f4gA := zY1 gA x4.w.heap.size)); (first | have f40 := zY3 w.heap.size x4.w.heap.size | have f40 := zY2 w.heap.size x4.w.heap.size | have f40 := zY1 w.heap.size x4.w.heap.size | skip); (first | have f41 := zY2 x1.w.heap.size x4.w.heap.size | have f41 := zY1 x1.w.heap.size x4.w.heap.size | skip); (first | have f42 := zY2 x2.w.heap.size x4.w.heap.size | have f42 := zY1 x2.w.heap.size x4.w.heap.size | skip); (first | have f43 := zY2 x3.w.heap.size x4.w.heap.size | have f43 := zY1 x3.w.heap.size x4.w.heap.size | skip)) | ((fail_if_success revert x5); obtain ⟨x5, rfl⟩ := after_of hb; clear hb; have hz5 := after_size x5; (try (simp only [zYA, zYD, zYC] at hz5)); (try (have f5gA := zY1 gA x5.w.heap.size)); (first | have f50 := zY3 w.heap.size x5.w.heap.size | have f50 := zY2 w.heap.size x5.w.heap.size | have f50 := zY1 w.heap.size x5.w.heap.size | skip); (first | have f51 := zY2 x1.w.heap.size x5.w.heap.size | have f51 := zY1 x1.w.heap.size x5.w.heap.size | skip); (first | have f52 := zY2 x2.w.heap.size x5.w.heap.size | have f52 := zY1 x2.w.heap.size x5.w.heap.size | skip); (first | have f53 := zY2 x3.w.heap.size x5.w.heap.size | have f53 := zY1 x3.w.heap.size x5.w.heap.size | skip); (first | have f54 := zY2 x4.w.heap.size x5.w.heap.size | have f54 := zY1 x4.w.heap.size x5.w.heap.size | skip)))))
      all_goals exact bodyPost_ret (v := .tuple #[.agg #[.int .i64 0, .int .i64 0, .string ⟨#[]⟩], .int .i64 0, .bool false]) (by simp only [results, Tryz.results139]; go_simp) rfl ⟨CGetIs.mk (k := 0) Hg.out rfl, by (repeat (first | exact Below.refl _ _ | assumption | refine bel_alloc ?_ _ | refine bel_after _ ?_ | refine bel_drewN ?_ _ | refine bel_drew ?_ | refine bel_set ?_ (by first | omega | (simp only [zYA, zYD, zYC]; omega) | (simp; omega)) _))⟩
  · cases is
    · have Hg : Hid (cGet bs = (0, 0, ⟨#[]⟩, 0, false)) := by unfold cGet; rw [hst]; simp only; rw [hr]; simp only; rw [if_neg (by simp)]; exact Lib.hid rfl
      have Hrd := Lib.hid hrd; clear hrd hr hst
      go_enter Tryz.func139, Tryz.ntmps139
      go_wp2_with (first | (go_at_call 113; (with_reducible refine (stget_m v bs _ (Hv.out.alloc _) _ _ _ _ Hst.out).mono ?_); rintro e w' ⟨rfl, hb⟩; (first | ((fail_if_success revert x1); obtain ⟨x1, rfl⟩ := after_of hb; clear hb; have hz1 := after_size x1; (try (simp only [zYA, zYD, zYC] at hz1)); (try (have f1gA := zY1 gA x1.w.heap.size)); (first | have f10 := zY3 w.heap.size x1.w.heap.size | have f10 := zY2 w.heap.size x1.w.heap.size | have f10 := zY1 w.heap.size x1.w.heap.size | skip)) | ((fail_if_success revert x2); obtain ⟨x2, rfl⟩ := after_of hb; clear hb; have hz2 := after_size x2; (try (simp only [zYA, zYD, zYC] at hz2)); (try (have f2gA := zY1 gA x2.w.heap.size)); (first | have f20 := zY3 w.heap.size x2.w.heap.size | have f20 := zY2 w.heap.size x2.w.heap.size | have f20 := zY1 w.heap.size x2.w.heap.size | skip); (first | have f21 := zY2 x1.w.heap.size x2.w.heap.size | have f21 := zY1 x1.w.heap.size x2.w.heap.size | skip)) | ((fail_if_success revert x3); obtain ⟨x3, rfl⟩ := after_of hb; clear hb; have hz3 := after_size x3; (try (simp only [zYA, zYD, zYC] at hz3)); (try (have f3gA := zY1 gA x3.w.heap.size)); (first | have f30 := zY3 w.heap.size x3.w.heap.size | have f30 := zY2 w.heap.size x3.w.heap.size | have f30 := zY1 w.heap.size x3.w.heap.size | skip); (first | have f31 := zY2 x1.w.heap.size x3.w.heap.size | have f31 := zY1 x1.w.heap.size x3.w.heap.size | skip); (first | have f32 := zY2 x2.w.heap.size x3.w.heap.size | have f32 := zY1 x2.w.heap.size x3.w.heap.size | skip)) | ((fail_if_success revert x4); obtain ⟨x4, rfl⟩ := after_of hb; clear hb; have hz4 := after_size x4; (try (simp only [zYA, zYD, zYC] at hz4)); (try (have f4gA := zY1 gA x4.w.heap.size)); (first | have f40 := zY3 w.heap.size x4.w.heap.size | have f40 := zY2 w.heap.size x4.w.heap.size | have f40 := zY1 w.heap.size x4.w.heap.size | skip); (first | have f41 := zY2 x1.w.heap.size x4.w.heap.size | have f41 := zY1 x1.w.heap.size x4.w.heap.size | skip); (first | have f42 := zY2 x2.w.heap.size x4.w.heap.size | have f42 := zY1 x2.w.heap.size x4.w.heap.size | skip); (first | have f43 := zY2 x3.w.heap.size x4.w.heap.size | have f43 := zY1 x3.w.heap.size x4.w.heap.size | skip)) | ((fail_if_success revert x5); obtain ⟨x5, rfl⟩ := after_of hb; clear hb; have hz5 := after_size x5; (try (simp only [zYA, zYD, zYC] at hz5)); (try (have f5gA := zY1 gA x5.w.heap.size)); (first | have f50 := zY3 w.heap.size x5.w.heap.size | have f50 := zY2 w.heap.size x5.w.heap.size | have f50 := zY1 w.heap.size x5.w.heap.size | skip); (first | have f51 := zY2 x1.w.heap.size x5.w.heap.size | have f51 := zY1 x1.w.heap.size x5.w.heap.size | skip); (first | have f52 := zY2 x2.w.heap.size x5.w.heap.size | have f52 := zY1 x2.w.heap.size x5.w.heap.size | skip); (first | have f53 := zY2 x3.w.heap.size x5.w.heap.size | have f53 := zY1 x3.w.heap.size x5.w.heap.size | skip); (first | have f54 := zY2 x4.w.heap.size x5.w.heap.size | have f54 := zY1 x4.w.heap.size x5.w.heap.size | skip)))) | (go_at_call 150; refine (read_200 Hrd.out _ (Hv'.out.below (by (repeat (first | exact Below.refl _ _ | assumption | refine bel_alloc ?_ _ | refine bel_after _ ?_ | refine bel_drewN ?_ _ | refine bel_drew ?_ | refine bel_set ?_ (by first | omega | (simp only [zYA, zYD, zYC]; omega) | (simp; omega)) _))))).mono ?_; rintro e w' ⟨rfl, hb⟩; (first | ((fail_if_success revert x1); obtain ⟨x1, rfl⟩ := after_of hb; clear hb; have hz1 := after_size x1; (try (simp only [zYA, zYD, zYC] at hz1)); (try (have f1gA := zY1 gA x1.w.heap.size)); (first | have f10 := zY3 w.heap.size x1.w.heap.size | have f10 := zY2 w.heap.size x1.w.heap.size | have f10 := zY1 w.heap.size x1.w.heap.size | skip)) | ((fail_if_success revert x2); obtain ⟨x2, rfl⟩ := after_of hb; clear hb; have hz2 := after_size x2; (try (simp only [zYA, zYD, zYC] at hz2)); (try (have f2gA := zY1 gA x2.w.heap.size)); (first | have f20 := zY3 w.heap.size x2.w.heap.size | have f20 := zY2 w.heap.size x2.w.heap.size | have f20 := zY1 w.heap.size x2.w.heap.size | skip); (first | have f21 := zY2 x1.w.heap.size x2.w.heap.size | have f21 := zY1 x1.w.heap.size x2.w.heap.size | skip)) | ((fail_if_success revert x3); obtain ⟨x3, rfl⟩ := after_of hb; clear hb; have hz3 := after_size x3; (try (simp only [zYA, zYD, zYC] at hz3)); (try (have f3gA := zY1 gA x3.w.heap.size)); (first | have f30 := zY3 w.heap.size x3.w.heap.size | have f30 := zY2 w.heap.size x3.w.heap.size | have f30 := zY1 w.heap.size x3.w.heap.size | skip); (first | have f31 := zY2 x1.w.heap.size x3.w.heap.size | have f31 := zY1 x1.w.heap.size x3.w.heap.size | skip); (first | have f32 := zY2 x2.w.heap.size x3.w.heap.size | have f32 := zY1 x2.w.heap.size x3.w.heap.size | skip)) | ((fail_if_success revert x4); obtain ⟨x4, rfl⟩ := after_of hb; clear hb; have hz4 := after_size x4; (try (simp only [zYA, zYD, zYC] at hz4)); (try (have f4gA := zY1 gA x4.w.heap.size)); (first | have f40 := zY3 w.heap.size x4.w.heap.size | have f40 := zY2 w.heap.size x4.w.heap.size | have f40 := zY1 w.heap.size x4.w.heap.size | skip); (first | have f41 := zY2 x1.w.heap.size x4.w.heap.size | have f41 := zY1 x1.w.heap.size x4.w.heap.size | skip); (first | have f42 := zY2 x2.w.heap.size x4.w.heap.size | have f42 := zY1 x2.w.heap.size x4.w.heap.size | skip); (first | have f43 := zY2 x3.w.heap.size x4.w.heap.size | have f43 := zY1 x3.w.heap.size x4.w.heap.size | skip)) | ((fail_if_success revert x5); obtain ⟨x5, rfl⟩ := after_of hb; clear hb; have hz5 := after_size x5; (try (simp only [zYA, zYD, zYC] at hz5)); (try (have f5gA := zY1 gA x5.w.heap.size)); (first | have f50 := zY3 w.heap.size x5.w.heap.size | have f50 := zY2 w.heap.size x5.w.heap.size | have f50 := zY1 w.heap.size x5.w.heap.size | skip); (first | have f51 := zY2 x1.w.heap.size x5.w.heap.size | have f51 := zY1 x1.w.heap.size x5.w.heap.size | skip); (first | have f52 := zY2 x2.w.heap.size x5.w.heap.size | have f52 := zY1 x2.w.heap.size x5.w.heap.size | skip); (first | have f53 := zY2 x3.w.heap.size x5.w.heap.size | have f53 := zY1 x3.w.heap.size x5.w.heap.size | skip); (first | have f54 := zY2 x4.w.heap.size x5.w.heap.size | have f54 := zY1 x4.w.heap.size x5.w.heap.size | skip)))))
      all_goals exact bodyPost_ret (v := .tuple #[.agg #[.int .i64 0, .int .i64 0, .string ⟨#[]⟩], .int .i64 0, .bool false]) (by simp only [results, Tryz.results139]; go_simp) rfl ⟨CGetIs.mk (k := 0) Hg.out rfl, by (repeat (first | exact Below.refl _ _ | assumption | refine bel_alloc ?_ _ | refine bel_after _ ?_ | refine bel_drewN ?_ _ | refine bel_drew ?_ | refine bel_set ?_ (by first | omega | (simp only [zYA, zYD, zYC]; omega) | (simp; omega)) _))⟩
    · cases hmay : cMay N R s
      · have Hg : Hid (cGet bs = (0, 0, ⟨#[]⟩, 0, false)) := by unfold cGet; rw [hst]; simp only; rw [hr]; simp only; rw [if_neg (by rw [hmay]; simp)]; exact Lib.hid rfl
        have Hrd := Lib.hid hrd; have Hmay := Lib.hid hmay; clear hrd hr hst hmay
        go_enter Tryz.func139, Tryz.ntmps139
        go_wp2_with (first | (go_at_call 113; (with_reducible refine (stget_m v bs _ (Hv.out.alloc _) _ _ _ _ Hst.out).mono ?_); rintro e w' ⟨rfl, hb⟩; (first | ((fail_if_success revert x1); obtain ⟨x1, rfl⟩ := after_of hb; clear hb; have hz1 := after_size x1; (try (simp only [zYA, zYD, zYC] at hz1)); (try (have f1gA := zY1 gA x1.w.heap.size)); (first | have f10 := zY3 w.heap.size x1.w.heap.size | have f10 := zY2 w.heap.size x1.w.heap.size | have f10 := zY1 w.heap.size x1.w.heap.size | skip)) | ((fail_if_success revert x2); obtain ⟨x2, rfl⟩ := after_of hb; clear hb; have hz2 := after_size x2; (try (simp only [zYA, zYD, zYC] at hz2)); (try (have f2gA := zY1 gA x2.w.heap.size)); (first | have f20 := zY3 w.heap.size x2.w.heap.size | have f20 := zY2 w.heap.size x2.w.heap.size | have f20 := zY1 w.heap.size x2.w.heap.size | skip); (first | have f21 := zY2 x1.w.heap.size x2.w.heap.size | have f21 := zY1 x1.w.heap.size x2.w.heap.size | skip)) | ((fail_if_success revert x3); obtain ⟨x3, rfl⟩ := after_of hb; clear hb; have hz3 := after_size x3; (try (simp only [zYA, zYD, zYC] at hz3)); (try (have f3gA := zY1 gA x3.w.heap.size)); (first | have f30 := zY3 w.heap.size x3.w.heap.size | have f30 := zY2 w.heap.size x3.w.heap.size | have f30 := zY1 w.heap.size x3.w.heap.size | skip); (first | have f31 := zY2 x1.w.heap.size x3.w.heap.size | have f31 := zY1 x1.w.heap.size x3.w.heap.size | skip); (first | have f32 := zY2 x2.w.heap.size x3.w.heap.size | have f32 := zY1 x2.w.heap.size x3.w.heap.size | skip)) | ((fail_if_success revert x4); obtain ⟨x4, rfl⟩ := after_of hb; clear hb; have hz4 := after_size x4; (try (simp only [zYA, zYD, zYC] at hz4)); (try (have f4gA := zY1 gA x4.w.heap.size)); (first | have f40 := zY3 w.heap.size x4.w.heap.size | have f40 := zY2 w.heap.size x4.w.heap.size | have f40 := zY1 w.heap.size x4.w.heap.size | skip); (first | have f41 := zY2 x1.w.heap.size x4.w.heap.size | have f41 := zY1 x1.w.heap.size x4.w.heap.size | skip); (first | have f42 := zY2 x2.w.heap.size x4.w.heap.size | have f42 := zY1 x2.w.heap.size x4.w.heap.size | skip); (first | have f43 := zY2 x3.w.heap.size x4.w.heap.size | have f43 := zY1 x3.w.heap.size x4.w.heap.size | skip)) | ((fail_if_success revert x5); obtain ⟨x5, rfl⟩ := after_of hb; clear hb; have hz5 := after_size x5; (try (simp only [zYA, zYD, zYC] at hz5)); (try (have f5gA := zY1 gA x5.w.heap.size)); (first | have f50 := zY3 w.heap.size x5.w.heap.size | have f50 := zY2 w.heap.size x5.w.heap.size | have f50 := zY1 w.heap.size x5.w.heap.size | skip); (first | have f51 := zY2 x1.w.heap.size x5.w.heap.size | have f51 := zY1 x1.w.heap.size x5.w.heap.size | skip); (first | have f52 := zY2 x2.w.heap.size x5.w.heap.size | have f52 := zY1 x2.w.heap.size x5.w.heap.size | skip); (first | have f53 := zY2 x3.w.heap.size x5.w.heap.size | have f53 := zY1 x3.w.heap.size x5.w.heap.size | skip); (first | have f54 := zY2 x4.w.heap.size x5.w.heap.size | have f54 := zY1 x4.w.heap.size x5.w.heap.size | skip)))) | (go_at_call 150; refine (read_200 Hrd.out _ (Hv'.out.below (by (repeat (first | exact Below.refl _ _ | assumption | refine bel_alloc ?_ _ | refine bel_after _ ?_ | refine bel_drewN ?_ _ | refine bel_drew ?_ | refine bel_set ?_ (by first | omega | (simp only [zYA, zYD, zYC]; omega) | (simp; omega)) _))))).mono ?_; rintro e w' ⟨rfl, hb⟩; (first | ((fail_if_success revert x1); obtain ⟨x1, rfl⟩ := after_of hb; clear hb; have hz1 := after_size x1; (try (simp only [zYA, zYD, zYC] at hz1)); (try (have f1gA := zY1 gA x1.w.heap.size)); (first | have f10 := zY3 w.heap.size x1.w.heap.size | have f10 := zY2 w.heap.size x1.w.heap.size | have f10 := zY1 w.heap.size x1.w.heap.size | skip)) | ((fail_if_success revert x2); obtain ⟨x2, rfl⟩ := after_of hb; clear hb; have hz2 := after_size x2; (try (simp only [zYA, zYD, zYC] at hz2)); (try (have f2gA := zY1 gA x2.w.heap.size)); (first | have f20 := zY3 w.heap.size x2.w.heap.size | have f20 := zY2 w.heap.size x2.w.heap.size | have f20 := zY1 w.heap.size x2.w.heap.size | skip); (first | have f21 := zY2 x1.w.heap.size x2.w.heap.size | have f21 := zY1 x1.w.heap.size x2.w.heap.size | skip)) | ((fail_if_success revert x3); obtain ⟨x3, rfl⟩ := after_of hb; clear hb; have hz3 := after_size x3; (try (simp only [zYA, zYD, zYC] at hz3)); (try (have f3gA := zY1 gA x3.w.heap.size)); (first | have f30 := zY3 w.heap.size x3.w.heap.size | have f30 := zY2 w.heap.size x3.w.heap.size | have f30 := zY1 w.heap.size x3.w.heap.size | skip); (first | have f31 := zY2 x1.w.heap.size x3.w.heap.size | have f31 := zY1 x1.w.heap.size x3.w.heap.size | skip); (first | have f32 := zY2 x2.w.heap.size x3.w.heap.size | have f32 := zY1 x2.w.heap.size x3.w.heap.size | skip)) | ((fail_if_success revert x4); obtain ⟨x4, rfl⟩ := after_of hb; clear hb; have hz4 := after_size x4; (try (simp only [zYA, zYD, zYC] at hz4)); (try (have f4gA := zY1 gA x4.w.heap.size)); (first | have f40 := zY3 w.heap.size x4.w.heap.size | have f40 := zY2 w.heap.size x4.w.heap.size | have f40 := zY1 w.heap.size x4.w.heap.size | skip); (first | have f41 := zY2 x1.w.heap.size x4.w.heap.size | have f41 := zY1 x1.w.heap.size x4.w.heap.size | skip); (first | have f42 := zY2 x2.w.heap.size x4.w.heap.size | have f42 := zY1 x2.w.heap.size x4.w.heap.size | skip); (first | have f43 := zY2 x3.w.heap.size x4.w.heap.size | have f43 := zY1 x3.w.heap.size x4.w.heap.size | skip)) | ((fail_if_success revert x5); obtain ⟨x5, rfl⟩ := after_of hb; clear hb; have hz5 := after_size x5; (try (simp only [zYA, zYD, zYC] at hz5)); (try (have f5gA := zY1 gA x5.w.heap.size)); (first | have f50 := zY3 w.heap.size x5.w.heap.size | have f50 := zY2 w.heap.size x5.w.heap.size | have f50 := zY1 w.heap.size x5.w.heap.size | skip); (first | have f51 := zY2 x1.w.heap.size x5.w.heap.size | have f51 := zY1 x1.w.heap.size x5.w.heap.size | skip); (first | have f52 := zY2 x2.w.heap.size x5.w.heap.size | have f52 := zY1 x2.w.heap.size x5.w.heap.size | skip); (first | have f53 := zY2 x3.w.heap.size x5.w.heap.size | have f53 := zY1 x3.w.heap.size x5.w.heap.size | skip); (first | have f54 := zY2 x4.w.heap.size x5.w.heap.size | have f54 := zY1 x4.w.heap.size x5.w.heap.size | skip)))) | (go_at_call 97; (with_reducible refine (cmay_v Hmay.out _).mono ?_); rintro e w' ⟨rfl, hb⟩; (first | ((fail_if_success revert x1); obtain ⟨x1, rfl⟩ := after_of hb; clear hb; have hz1 := after_size x1; (try (simp only [zYA, zYD, zYC] at hz1)); (try (have f1gA := zY1 gA x1.w.heap.size)); (first | have f10 := zY3 w.heap.size x1.w.heap.size | have f10 := zY2 w.heap.size x1.w.heap.size | have f10 := zY1 w.heap.size x1.w.heap.size | skip)) | ((fail_if_success revert x2); obtain ⟨x2, rfl⟩ := after_of hb; clear hb; have hz2 := after_size x2; (try (simp only [zYA, zYD, zYC] at hz2)); (try (have f2gA := zY1 gA x2.w.heap.size)); (first | have f20 := zY3 w.heap.size x2.w.heap.size | have f20 := zY2 w.heap.size x2.w.heap.size | have f20 := zY1 w.heap.size x2.w.heap.size | skip); (first | have f21 := zY2 x1.w.heap.size x2.w.heap.size | have f21 := zY1 x1.w.heap.size x2.w.heap.size | skip)) | ((fail_if_success revert x3); obtain ⟨x3, rfl⟩ := after_of hb; clear hb; have hz3 := after_size x3; (try (simp only [zYA, zYD, zYC] at hz3)); (try (have f3gA := zY1 gA x3.w.heap.size)); (first | have f30 := zY3 w.heap.size x3.w.heap.size | have f30 := zY2 w.heap.size x3.w.heap.size | have f30 := zY1 w.heap.size x3.w.heap.size | skip); (first | have f31 := zY2 x1.w.heap.size x3.w.heap.size | have f31 := zY1 x1.w.heap.size x3.w.heap.size | skip); (first | have f32 := zY2 x2.w.heap.size x3.w.heap.size | have f32 := zY1 x2.w.heap.size x3.w.heap.size | skip)) | ((fail_if_success revert x4); obtain ⟨x4, rfl⟩ := after_of hb; clear hb; have hz4 := after_size x4; (try (simp only [zYA, zYD, zYC] at hz4)); (try (have f4gA := zY1 gA x4.w.heap.size)); (first | have f40 := zY3 w.heap.size x4.w.heap.size | have f40 := zY2 w.heap.size x4.w.heap.size | have f40 := zY1 w.heap.size x4.w.heap.size | skip); (first | have f41 := zY2 x1.w.heap.size x4.w.heap.size | have f41 := zY1 x1.w.heap.size x4.w.heap.size | skip); (first | have f42 := zY2 x2.w.heap.size x4.w.heap.size | have f42 := zY1 x2.w.heap.size x4.w.heap.size | skip); (first | have f43 := zY2 x3.w.heap.size x4.w.heap.size | have f43 := zY1 x3.w.heap.size x4.w.heap.size | skip)) | ((fail_if_success revert x5); obtain ⟨x5, rfl⟩ := after_of hb; clear hb; have hz5 := after_size x5; (try (simp only [zYA, zYD, zYC] at hz5)); (try (have f5gA := zY1 gA x5.w.heap.size)); (first | have f50 := zY3 w.heap.size x5.w.heap.size | have f50 := zY2 w.heap.size x5.w.heap.size | have f50 := zY1 w.heap.size x5.w.heap.size | skip); (first | have f51 := zY2 x1.w.heap.size x5.w.heap.size | have f51 := zY1 x1.w.heap.size x5.w.heap.size | skip); (first | have f52 := zY2 x2.w.heap.size x5.w.heap.size | have f52 := zY1 x2.w.heap.size x5.w.heap.size | skip); (first | have f53 := zY2 x3.w.heap.size x5.w.heap.size | have f53 := zY1 x3.w.heap.size x5.w.heap.size | skip); (first | have f54 := zY2 x4.w.heap.size x5.w.heap.size | have f54 := zY1 x4.w.heap.size x5.w.heap.size | skip)))))
        all_goals exact bodyPost_ret (v := .tuple #[.agg #[.int .i64 0, .int .i64 0, .string ⟨#[]⟩], .int .i64 0, .bool false]) (by simp only [results, Tryz.results139]; go_simp) rfl ⟨CGetIs.mk (k := 0) Hg.out rfl, by (repeat (first | exact Below.refl _ _ | assumption | refine bel_alloc ?_ _ | refine bel_after _ ?_ | refine bel_drewN ?_ _ | refine bel_drew ?_ | refine bel_set ?_ (by first | omega | (simp only [zYA, zYD, zYC]; omega) | (simp; omega)) _))⟩
      · have Hg : Hid (cGet bs = (N, R, s, u + m, true)) := by unfold cGet; rw [hst]; simp only; rw [hr]; simp only; rw [if_pos (by simp [hmay])]; exact Lib.hid rfl
        have Hum : Hid (u + m ≤ 1000000) := by have h1 := stGet_ten bs; rw [hst] at h1; have h2 := readR_le hr; exact Lib.hid (by simp only at h1; omega)
        have hum := Hum.out
        have Hrd := Lib.hid hrd; have Hmay := Lib.hid hmay; clear hrd hr hst hmay
        go_enter Tryz.func139, Tryz.ntmps139
        go_wp2_with (first | (go_at_call 113; (with_reducible refine (stget_m v bs _ (Hv.out.alloc _) _ _ _ _ Hst.out).mono ?_); rintro e w' ⟨rfl, hb⟩; (first | ((fail_if_success revert x1); obtain ⟨x1, rfl⟩ := after_of hb; clear hb; have hz1 := after_size x1; (try (simp only [zYA, zYD, zYC] at hz1)); (try (have f1gA := zY1 gA x1.w.heap.size)); (first | have f10 := zY3 w.heap.size x1.w.heap.size | have f10 := zY2 w.heap.size x1.w.heap.size | have f10 := zY1 w.heap.size x1.w.heap.size | skip)) | ((fail_if_success revert x2); obtain ⟨x2, rfl⟩ := after_of hb; clear hb; have hz2 := after_size x2; (try (simp only [zYA, zYD, zYC] at hz2)); (try (have f2gA := zY1 gA x2.w.heap.size)); (first | have f20 := zY3 w.heap.size x2.w.heap.size | have f20 := zY2 w.heap.size x2.w.heap.size | have f20 := zY1 w.heap.size x2.w.heap.size | skip); (first | have f21 := zY2 x1.w.heap.size x2.w.heap.size | have f21 := zY1 x1.w.heap.size x2.w.heap.size | skip)) | ((fail_if_success revert x3); obtain ⟨x3, rfl⟩ := after_of hb; clear hb; have hz3 := after_size x3; (try (simp only [zYA, zYD, zYC] at hz3)); (try (have f3gA := zY1 gA x3.w.heap.size)); (first | have f30 := zY3 w.heap.size x3.w.heap.size | have f30 := zY2 w.heap.size x3.w.heap.size | have f30 := zY1 w.heap.size x3.w.heap.size | skip); (first | have f31 := zY2 x1.w.heap.size x3.w.heap.size | have f31 := zY1 x1.w.heap.size x3.w.heap.size | skip); (first | have f32 := zY2 x2.w.heap.size x3.w.heap.size | have f32 := zY1 x2.w.heap.size x3.w.heap.size | skip)) | ((fail_if_success revert x4); obtain ⟨x4, rfl⟩ := after_of hb; clear hb; have hz4 := after_size x4; (try (simp only [zYA, zYD, zYC] at hz4)); (try (have f4gA := zY1 gA x4.w.heap.size)); (first | have f40 := zY3 w.heap.size x4.w.heap.size | have f40 := zY2 w.heap.size x4.w.heap.size | have f40 := zY1 w.heap.size x4.w.heap.size | skip); (first | have f41 := zY2 x1.w.heap.size x4.w.heap.size | have f41 := zY1 x1.w.heap.size x4.w.heap.size | skip); (first | have f42 := zY2 x2.w.heap.size x4.w.heap.size | have f42 := zY1 x2.w.heap.size x4.w.heap.size | skip); (first | have f43 := zY2 x3.w.heap.size x4.w.heap.size | have f43 := zY1 x3.w.heap.size x4.w.heap.size | skip)) | ((fail_if_success revert x5); obtain ⟨x5, rfl⟩ := after_of hb; clear hb; have hz5 := after_size x5; (try (simp only [zYA, zYD, zYC] at hz5)); (try (have f5gA := zY1 gA x5.w.heap.size)); (first | have f50 := zY3 w.heap.size x5.w.heap.size | have f50 := zY2 w.heap.size x5.w.heap.size | have f50 := zY1 w.heap.size x5.w.heap.size | skip); (first | have f51 := zY2 x1.w.heap.size x5.w.heap.size | have f51 := zY1 x1.w.heap.size x5.w.heap.size | skip); (first | have f52 := zY2 x2.w.heap.size x5.w.heap.size | have f52 := zY1 x2.w.heap.size x5.w.heap.size | skip); (first | have f53 := zY2 x3.w.heap.size x5.w.heap.size | have f53 := zY1 x3.w.heap.size x5.w.heap.size | skip); (first | have f54 := zY2 x4.w.heap.size x5.w.heap.size | have f54 := zY1 x4.w.heap.size x5.w.heap.size | skip)))) | (go_at_call 150; refine (read_200 Hrd.out _ (Hv'.out.below (by (repeat (first | exact Below.refl _ _ | assumption | refine bel_alloc ?_ _ | refine bel_after _ ?_ | refine bel_drewN ?_ _ | refine bel_drew ?_ | refine bel_set ?_ (by first | omega | (simp only [zYA, zYD, zYC]; omega) | (simp; omega)) _))))).mono ?_; rintro e w' ⟨rfl, hb⟩; (first | ((fail_if_success revert x1); obtain ⟨x1, rfl⟩ := after_of hb; clear hb; have hz1 := after_size x1; (try (simp only [zYA, zYD, zYC] at hz1)); (try (have f1gA := zY1 gA x1.w.heap.size)); (first | have f10 := zY3 w.heap.size x1.w.heap.size | have f10 := zY2 w.heap.size x1.w.heap.size | have f10 := zY1 w.heap.size x1.w.heap.size | skip)) | ((fail_if_success revert x2); obtain ⟨x2, rfl⟩ := after_of hb; clear hb; have hz2 := after_size x2; (try (simp only [zYA, zYD, zYC] at hz2)); (try (have f2gA := zY1 gA x2.w.heap.size)); (first | have f20 := zY3 w.heap.size x2.w.heap.size | have f20 := zY2 w.heap.size x2.w.heap.size | have f20 := zY1 w.heap.size x2.w.heap.size | skip); (first | have f21 := zY2 x1.w.heap.size x2.w.heap.size | have f21 := zY1 x1.w.heap.size x2.w.heap.size | skip)) | ((fail_if_success revert x3); obtain ⟨x3, rfl⟩ := after_of hb; clear hb; have hz3 := after_size x3; (try (simp only [zYA, zYD, zYC] at hz3)); (try (have f3gA := zY1 gA x3.w.heap.size)); (first | have f30 := zY3 w.heap.size x3.w.heap.size | have f30 := zY2 w.heap.size x3.w.heap.size | have f30 := zY1 w.heap.size x3.w.heap.size | skip); (first | have f31 := zY2 x1.w.heap.size x3.w.heap.size | have f31 := zY1 x1.w.heap.size x3.w.heap.size | skip); (first | have f32 := zY2 x2.w.heap.size x3.w.heap.size | have f32 := zY1 x2.w.heap.size x3.w.heap.size | skip)) | ((fail_if_success revert x4); obtain ⟨x4, rfl⟩ := after_of hb; clear hb; have hz4 := after_size x4; (try (simp only [zYA, zYD, zYC] at hz4)); (try (have f4gA := zY1 gA x4.w.heap.size)); (first | have f40 := zY3 w.heap.size x4.w.heap.size | have f40 := zY2 w.heap.size x4.w.heap.size | have f40 := zY1 w.heap.size x4.w.heap.size | skip); (first | have f41 := zY2 x1.w.heap.size x4.w.heap.size | have f41 := zY1 x1.w.heap.size x4.w.heap.size | skip); (first | have f42 := zY2 x2.w.heap.size x4.w.heap.size | have f42 := zY1 x2.w.heap.size x4.w.heap.size | skip); (first | have f43 := zY2 x3.w.heap.size x4.w.heap.size | have f43 := zY1 x3.w.heap.size x4.w.heap.size | skip)) | ((fail_if_success revert x5); obtain ⟨x5, rfl⟩ := after_of hb; clear hb; have hz5 := after_size x5; (try (simp only [zYA, zYD, zYC] at hz5)); (try (have f5gA := zY1 gA x5.w.heap.size)); (first | have f50 := zY3 w.heap.size x5.w.heap.size | have f50 := zY2 w.heap.size x5.w.heap.size | have f50 := zY1 w.heap.size x5.w.heap.size | skip); (first | have f51 := zY2 x1.w.heap.size x5.w.heap.size | have f51 := zY1 x1.w.heap.size x5.w.heap.size | skip); (first | have f52 := zY2 x2.w.heap.size x5.w.heap.size | have f52 := zY1 x2.w.heap.size x5.w.heap.size | skip); (first | have f53 := zY2 x3.w.heap.size x5.w.heap.size | have f53 := zY1 x3.w.heap.size x5.w.heap.size | skip); (first | have f54 := zY2 x4.w.heap.size x5.w.heap.size | have f54 := zY1 x4.w.heap.size x5.w.heap.size | skip)))) | (go_at_call 97; (with_reducible refine (cmay_v Hmay.out _).mono ?_); rintro e w' ⟨rfl, hb⟩; (first | ((fail_if_success revert x1); obtain ⟨x1, rfl⟩ := after_of hb; clear hb; have hz1 := after_size x1; (try (simp only [zYA, zYD, zYC] at hz1)); (try (have f1gA := zY1 gA x1.w.heap.size)); (first | have f10 := zY3 w.heap.size x1.w.heap.size | have f10 := zY2 w.heap.size x1.w.heap.size | have f10 := zY1 w.heap.size x1.w.heap.size | skip)) | ((fail_if_success revert x2); obtain ⟨x2, rfl⟩ := after_of hb; clear hb; have hz2 := after_size x2; (try (simp only [zYA, zYD, zYC] at hz2)); (try (have f2gA := zY1 gA x2.w.heap.size)); (first | have f20 := zY3 w.heap.size x2.w.heap.size | have f20 := zY2 w.heap.size x2.w.heap.size | have f20 := zY1 w.heap.size x2.w.heap.size | skip); (first | have f21 := zY2 x1.w.heap.size x2.w.heap.size | have f21 := zY1 x1.w.heap.size x2.w.heap.size | skip)) | ((fail_if_success revert x3); obtain ⟨x3, rfl⟩ := after_of hb; clear hb; have hz3 := after_size x3; (try (simp only [zYA, zYD, zYC] at hz3)); (try (have f3gA := zY1 gA x3.w.heap.size)); (first | have f30 := zY3 w.heap.size x3.w.heap.size | have f30 := zY2 w.heap.size x3.w.heap.size | have f30 := zY1 w.heap.size x3.w.heap.size | skip); (first | have f31 := zY2 x1.w.heap.size x3.w.heap.size | have f31 := zY1 x1.w.heap.size x3.w.heap.size | skip); (first | have f32 := zY2 x2.w.heap.size x3.w.heap.size | have f32 := zY1 x2.w.heap.size x3.w.heap.size | skip)) | ((fail_if_success revert x4); obtain ⟨x4, rfl⟩ := after_of hb; clear hb; have hz4 := after_size x4; (try (simp only [zYA, zYD, zYC] at hz4)); (try (have f4gA := zY1 gA x4.w.heap.size)); (first | have f40 := zY3 w.heap.size x4.w.heap.size | have f40 := zY2 w.heap.size x4.w.heap.size | have f40 := zY1 w.heap.size x4.w.heap.size | skip); (first | have f41 := zY2 x1.w.heap.size x4.w.heap.size | have f41 := zY1 x1.w.heap.size x4.w.heap.size | skip); (first | have f42 := zY2 x2.w.heap.size x4.w.heap.size | have f42 := zY1 x2.w.heap.size x4.w.heap.size | skip); (first | have f43 := zY2 x3.w.heap.size x4.w.heap.size | have f43 := zY1 x3.w.heap.size x4.w.heap.size | skip)) | ((fail_if_success revert x5); obtain ⟨x5, rfl⟩ := after_of hb; clear hb; have hz5 := after_size x5; (try (simp only [zYA, zYD, zYC] at hz5)); (try (have f5gA := zY1 gA x5.w.heap.size)); (first | have f50 := zY3 w.heap.size x5.w.heap.size | have f50 := zY2 w.heap.size x5.w.heap.size | have f50 := zY1 w.heap.size x5.w.heap.size | skip); (first | have f51 := zY2 x1.w.heap.size x5.w.heap.size | have f51 := zY1 x1.w.heap.size x5.w.heap.size | skip); (first | have f52 := zY2 x2.w.heap.size x5.w.heap.size | have f52 := zY1 x2.w.heap.size x5.w.heap.size | skip); (first | have f53 := zY2 x3.w.heap.size x5.w.heap.size | have f53 := zY1 x3.w.heap.size x5.w.heap.size | skip); (first | have f54 := zY2 x4.w.heap.size x5.w.heap.size | have f54 := zY1 x4.w.heap.size x5.w.heap.size | skip)))))
        all_goals exact bodyPost_ret (v := .tuple #[.agg #[.int .i64 N, .int .i64 R, .string s], .int .i64 ((u : Int) + (m : Int)), .bool true]) (by simp only [results, Tryz.results139]; go_simp) rfl ⟨CGetIs.mk Hg.out (by simp), by (repeat (first | exact Below.refl _ _ | assumption | refine bel_alloc ?_ _ | refine bel_after _ ?_ | refine bel_drewN ?_ _ | refine bel_drew ?_ | refine bel_set ?_ (by first | omega | (simp only [zYA, zYD, zYC]; omega) | (simp; omega)) _))⟩
end Go.Proofs.YtolbmemogoojhaaGreat
