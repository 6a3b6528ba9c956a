/- The reference's cells: Less and Join. -/
import Derived.Test.YtgckgbonhbabpaaRefD
import Derived.Test.YtgckgbonhbabpaaCellF
namespace Go.Proofs.Ytgckgbonhbabpaa
open Go Go.RowKit Go.Deep
set_option linter.unusedVariables false
set_option linter.unusedSimpArgs false
set_option maxRecDepth 100000

theorem cLs {N R N' R' : Int} {s s' : ByteArray} (h : stEq N R N' R' = false) : cLess N R s N' R' s' = stLess N R N' R' := by
  have h' := stEq_false h
  rw [Bool.eq_iff_iff, cLess_iff]
  unfold Ord3.lt keyC
  simp only [stLess, decide_eq_true_eq]
  omega
theorem cLd {N R N' R' : Int} {s s' : ByteArray} (h : stEq N R N' R' = true) (hd : (dgS s == dgS s') = false) : cLess N R s N' R' s' = dgLess (dgS s) (dgS s') := by
  obtain ⟨h1, h2⟩ := stEq_true h
  rw [beq_eq_false_iff_ne] at hd
  rw [Bool.eq_iff_iff, cLess_iff, dgLess, decide_eq_true_eq, cb_iff]
  unfold Ord3.lt keyC
  simp only [h1, h2, Int.lt_irrefl, and_false, or_false, and_self, true_and, false_or, hd, false_and]
theorem cLt {N R N' R' : Int} {s s' : ByteArray} (h : stEq N R N' R' = true) (hd : (dgS s == dgS s') = true) : cLess N R s N' R' s' = true ↔ s.data.toList < s'.data.toList := by
  obtain ⟨h1, h2⟩ := stEq_true h
  have hd' := eq_of_beq hd
  rw [cLess_iff]
  unfold Ord3.lt keyC
  simp only [h1, h2, Int.lt_irrefl, and_false, or_false, and_self, true_and, false_or, hd', l_irr, ByteArray.toList_eq]
theorem index_str (W : World) (s : ByteArray) (j : Nat) (h : j < s.size) : (Instr.index 9 (.string s) (.int .i64 (j : Int))).run Try.prog W = .ok (.int .u8 ((s.data.toList.getD j 0).toNat : Int)) W := by
  have e1 : ∀ w, (underlying 9).run Try.prog w = .ok .string w := fun w => run_underlying (P := Try.prog) (by kernel_rfl) w
  have e2 : s[j]? = some (s.data.toList.getD j 0) := by
    rw [ByteArray.getElem?_lt' s j h]
    congr 1
    rw [List.getD_eq_getElem?_getD, List.getElem?_eq_getElem (by simpa using h)]
    simp [ByteArray.getElem_eq_getElem_data]
  simp [Instr.index, asIntOf, e1, e2]
theorem rneq_dig (W : World) (a b : ByteArray) {A B : Array Value} (hA : A = (encU (dgS a)).toArray) (hB : B = (encU (dgS b)).toArray) {d : Bool} (hd : (dgS a == dgS b) = d) : (binOp .neq 39 (.agg A) (.agg B)).run Try.prog W = .ok (.bool (!d)) W := by
  subst hA hB hd; exact neq_dig W _ _ (dgS_length a) (dgS_length b)
theorem rof_v {s : ByteArray} (hl : s.size ≤ 80000) {A : Array Value} (hA : A = (encU (dgS s)).toArray) (w : World) : Calls Try.prog 63 #[.string s] w fun e w' => e = .returned (.agg A) ∧ Below w.heap.size w w' := by
  subst hA; exact rof_c s hl w
theorem rdless_v {a b : ByteArray} {l : Bool} (h : dgLess (dgS a) (dgS b) = l) {A B : Array Value} (hA : A = (encU (dgS a)).toArray) (hB : B = (encU (dgS b)).toArray) (w : World) : Calls Try.prog 64 #[.agg A, .agg B] w fun e w' => e = .returned (.bool l) ∧ Below w.heap.size w w' := by
  subst h hA hB; exact rdless_c _ _ (dgS_length a) (dgS_length b) w








theorem lex_take : ∀ (l : List UInt8) (j : Nat), j < l.length → l.take j < l
  | x :: l, 0, _ => by rw [List.take_zero]; exact List.nil_lt_cons _ _
  | x :: l, j + 1, h => by
    rw [List.take_succ_cons, List.cons_lt_cons_iff]
    exact .inr ⟨rfl, lex_take l j (by simpa using h)⟩
theorem lex_take_not (l : List UInt8) (j : Nat) (h : l < l.take j) : False := by
  by_cases hj : j < l.length
  · exact l_irr _ (l_trans h (lex_take l j hj))
  · rw [List.take_of_length_le (by omega)] at h
    exact l_irr _ h
theorem strLess_tl (s s' : ByteArray) : strLess s s' = true ↔ s.data.toList < s'.data.toList := by rw [bl_eq, ByteArray.toList_eq, ByteArray.toList_eq]
set_option maxHeartbeats 3200000 in
theorem rcless_c (N R N' R' : Int) (s s' : ByteArray) (hs : s.size ≤ 80000) (hs' : s'.size ≤ 80000) (w : World) : Calls Try.prog 26 #[.agg (cellA N R s), .agg (cellA N' R' s')] w fun e w' => e = .returned (.bool (cLess N R s N' R' s')) ∧ Below w.heap.size w w' := by
  have hqs := neq_stamp
  have Hs := Lib.hid hs; have Hs' := Lib.hid hs'
  clear hs hs'
  cases hste : stEq N R N' R'
  · have hAc := @after_cell
    have hAf := @after_frozen
    have hSz := sz_facts
    have Hc := Lib.hid (cLs (s := s) (s' := s') hste)
    go_enter Try.func26, Try.ntmps26
    go_wp2_with (go_at_call 62; (with_reducible refine (rless_c _ _ _ _ _).mono ?_); rintro e w' ⟨rfl, hb⟩; (first | ((fail_if_success revert x1); obtain ⟨x1, rfl⟩ := after_of hb; clear hb; have hz1 := after_size x1; (try (simp only [World.size_alloc, World.size_drew, World.size_setCell] at hz1)); (try (have f1gA := szf1 (a := gA) (b := x1.w.heap.size) (by omega))); (first | have f10 := szf3 (a := w.heap.size) (b := x1.w.heap.size) (by omega) | have f10 := szf2 (a := w.heap.size) (b := x1.w.heap.size) (by omega) | have f10 := szf1 (a := w.heap.size) (b := x1.w.heap.size) (by omega) | skip)) | ((fail_if_success revert x2); obtain ⟨x2, rfl⟩ := after_of hb; clear hb; have hz2 := after_size x2; (try (simp only [World.size_alloc, World.size_drew, World.size_setCell] at hz2)); (try (have f2gA := szf1 (a := gA) (b := x2.w.heap.size) (by omega))); (first | have f20 := szf3 (a := w.heap.size) (b := x2.w.heap.size) (by omega) | have f20 := szf2 (a := w.heap.size) (b := x2.w.heap.size) (by omega) | have f20 := szf1 (a := w.heap.size) (b := x2.w.heap.size) (by omega) | skip); (first | have f21 := szf2 (a := x1.w.heap.size) (b := x2.w.heap.size) (by omega) | have f21 := szf1 (a := x1.w.heap.size) (b := x2.w.heap.size) (by omega) | skip)) | ((fail_if_success revert x3); obtain ⟨x3, rfl⟩ := after_of hb; clear hb; have hz3 := after_size x3; (try (simp only [World.size_alloc, World.size_drew, World.size_setCell] at hz3)); (try (have f3gA := szf1 (a := gA) (b := x3.w.heap.size) (by omega))); (first | have f30 := szf3 (a := w.heap.size) (b := x3.w.heap.size) (by omega) | have f30 := szf2 (a := w.heap.size) (b := x3.w.heap.size) (by omega) | have f30 := szf1 (a := w.heap.size) (b := x3.w.heap.size) (by omega) | skip); (first | have f31 := szf2 (a := x1.w.heap.size) (b := x3.w.heap.size) (by omega) | have f31 := szf1 (a := x1.w.heap.size) (b := x3.w.heap.size) (by omega) | skip); (first | have f32 := szf2 (a := x2.w.heap.size) (b := x3.w.heap.size) (by omega) | have f32 := szf1 (a := x2.w.heap.size) (b := x3.w.heap.size) (by omega) | skip)) | ((fail_if_success revert x4); obtain ⟨x4, rfl⟩ := after_of hb; clear hb; have hz4 := after_size x4; (try (simp only [World.size_alloc, World.size_drew, World.size_setCell] at hz4)); (try (have f4gA := szf1 (a := gA) (b := x4.w.heap.size) (by omega))); (first | have f40 := szf3 (a := w.heap.size) (b := x4.w.heap.size) (by omega) | have f40 := szf2 (a := w.heap.size) (b := x4.w.heap.size) (by omega) | have f40 := szf1 (a := w.heap.size) (b := x4.w.heap.size) (by omega) | skip); (first | have f41 := szf2 (a := x1.w.heap.size) (b := x4.w.heap.size) (by omega) | have f41 := szf1 (a := x1.w.heap.size) (b := x4.w.heap.size) (by omega) | skip); (first | have f42 := szf2 (a := x2.w.heap.size) (b := x4.w.heap.size) (by omega) | have f42 := szf1 (a := x2.w.heap.size) (b := x4.w.heap.size) (by omega) | skip); (first | have f43 := szf2 (a := x3.w.heap.size) (b := x4.w.heap.size) (by omega) | have f43 := szf1 (a := x3.w.heap.size) (b := x4.w.heap.size) (by omega) | skip)) | ((fail_if_success revert x5); obtain ⟨x5, rfl⟩ := after_of hb; clear hb; have hz5 := after_size x5; (try (simp only [World.size_alloc, World.size_drew, World.size_setCell] at hz5)); (try (have f5gA := szf1 (a := gA) (b := x5.w.heap.size) (by omega))); (first | have f50 := szf3 (a := w.heap.size) (b := x5.w.heap.size) (by omega) | have f50 := szf2 (a := w.heap.size) (b := x5.w.heap.size) (by omega) | have f50 := szf1 (a := w.heap.size) (b := x5.w.heap.size) (by omega) | skip); (first | have f51 := szf2 (a := x1.w.heap.size) (b := x5.w.heap.size) (by omega) | have f51 := szf1 (a := x1.w.heap.size) (b := x5.w.heap.size) (by omega) | skip); (first | have f52 := szf2 (a := x2.w.heap.size) (b := x5.w.heap.size) (by omega) | have f52 := szf1 (a := x2.w.heap.size) (b := x5.w.heap.size) (by omega) | skip); (first | have f53 := szf2 (a := x3.w.heap.size) (b := x5.w.heap.size) (by omega) | have f53 := szf1 (a := x3.w.heap.size) (b := x5.w.heap.size) (by omega) | skip); (first | have f54 := szf2 (a := x4.w.heap.size) (b := x5.w.heap.size) (by omega) | have f54 := szf1 (a := x4.w.heap.size) (b := x5.w.heap.size) (by omega) | skip)) | ((fail_if_success revert x6); obtain ⟨x6, rfl⟩ := after_of hb; clear hb; have hz6 := after_size x6; (try (simp only [World.size_alloc, World.size_drew, World.size_setCell] at hz6)); (try (have f6gA := szf1 (a := gA) (b := x6.w.heap.size) (by omega))); (first | have f60 := szf3 (a := w.heap.size) (b := x6.w.heap.size) (by omega) | have f60 := szf2 (a := w.heap.size) (b := x6.w.heap.size) (by omega) | have f60 := szf1 (a := w.heap.size) (b := x6.w.heap.size) (by omega) | skip); (first | have f61 := szf2 (a := x1.w.heap.size) (b := x6.w.heap.size) (by omega) | have f61 := szf1 (a := x1.w.heap.size) (b := x6.w.heap.size) (by omega) | skip); (first | have f62 := szf2 (a := x2.w.heap.size) (b := x6.w.heap.size) (by omega) | have f62 := szf1 (a := x2.w.heap.size) (b := x6.w.heap.size) (by omega) | skip); (first | have f63 := szf2 (a := x3.w.heap.size) (b := x6.w.heap.size) (by omega) | have f63 := szf1 (a := x3.w.heap.size) (b := x6.w.heap.size) (by omega) | skip); (first | have f64 := szf2 (a := x4.w.heap.size) (b := x6.w.heap.size) (by omega) | have f64 := szf1 (a := x4.w.heap.size) (b := x6.w.heap.size) (by omega) | skip); (first | have f65 := szf2 (a := x5.w.heap.size) (b := x6.w.heap.size) (by omega) | have f65 := szf1 (a := x5.w.heap.size) (b := x6.w.heap.size) (by omega) | skip)) | ((fail_if_success revert x7); obtain ⟨x7, rfl⟩ := after_of hb; clear hb; have hz7 := after_size x7; (try (simp only [World.size_alloc, World.size_drew, World.size_setCell] at hz7)); (try (have f7gA := szf1 (a := gA) (b := x7.w.heap.size) (by omega))); (first | have f70 := szf3 (a := w.heap.size) (b := x7.w.heap.size) (by omega) | have f70 := szf2 (a := w.heap.size) (b := x7.w.heap.size) (by omega) | have f70 := szf1 (a := w.heap.size) (b := x7.w.heap.size) (by omega) | skip); (first | have f71 := szf2 (a := x1.w.heap.size) (b := x7.w.heap.size) (by omega) | have f71 := szf1 (a := x1.w.heap.size) (b := x7.w.heap.size) (by omega) | skip); (first | have f72 := szf2 (a := x2.w.heap.size) (b := x7.w.heap.size) (by omega) | have f72 := szf1 (a := x2.w.heap.size) (b := x7.w.heap.size) (by omega) | skip); (first | have f73 := szf2 (a := x3.w.heap.size) (b := x7.w.heap.size) (by omega) | have f73 := szf1 (a := x3.w.heap.size) (b := x7.w.heap.size) (by omega) | skip); (first | have f74 := szf2 (a := x4.w.heap.size) (b := x7.w.heap.size) (by omega) | have f74 := szf1 (a := x4.w.heap.size) (b := x7.w.heap.size) (by omega) | skip); (first | have f75 := szf2 (a := x5.w.heap.size) (b := x7.w.heap.size) (by omega) | have f75 := szf1 (a := x5.w.heap.size) (b := x7.w.heap.size) (by omega) | skip); (first | have f76 := szf2 (a := x6.w.heap.size) (b := x7.w.heap.size) (by omega) | have f76 := szf1 (a := x6.w.heap.size) (b := x7.w.heap.size) (by omega) | skip)) | ((fail_if_success revert x8); obtain ⟨x8, rfl⟩ := after_of hb; clear hb; have hz8 := after_size x8; (try (simp only [World.size_alloc, World.size_drew, World.size_setCell] at hz8)); (try (have f8gA := szf1 (a := gA) (b := x8.w.heap.size) (by omega))); (first | have f80 := szf3 (a := w.heap.size) (b := x8.w.heap.size) (by omega) | have f80 := szf2 (a := w.heap.size) (b := x8.w.heap.size) (by omega) | have f80 := szf1 (a := w.heap.size) (b := x8.w.heap.size) (by omega) | skip); (first | have f81 := szf2 (a := x1.w.heap.size) (b := x8.w.heap.size) (by omega) | have f81 := szf1 (a := x1.w.heap.size) (b := x8.w.heap.size) (by omega) | skip); (first | have f82 := szf2 (a := x2.w.heap.size) (b := x8.w.heap.size) (by omega) | have f82 := szf1 (a := x2.w.heap.size) (b := x8.w.heap.size) (by omega) | skip); (first | have f83 := szf2 (a := x3.w.heap.size) (b := x8.w.heap.size) (by omega) | have f83 := szf1 (a := x3.w.heap.size) (b := x8.w.heap.size) (by omega) | skip); (first | have f84 := szf2 (a := x4.w.heap.size) (b := x8.w.heap.size) (by omega) | have f84 := szf1 (a := x4.w.heap.size) (b := x8.w.heap.size) (by omega) | skip); (first | have f85 := szf2 (a := x5.w.heap.size) (b := x8.w.heap.size) (by omega) | have f85 := szf1 (a := x5.w.heap.size) (b := x8.w.heap.size) (by omega) | skip); (first | have f86 := szf2 (a := x6.w.heap.size) (b := x8.w.heap.size) (by omega) | have f86 := szf1 (a := x6.w.heap.size) (b := x8.w.heap.size) (by omega) | skip); (first | have f87 := szf2 (a := x7.w.heap.size) (b := x8.w.heap.size) (by omega) | have f87 := szf1 (a := x7.w.heap.size) (b := x8.w.heap.size) (by omega) | skip)) | ((fail_if_success revert x9); obtain ⟨x9, rfl⟩ := after_of hb; clear hb; have hz9 := after_size x9; (try (simp only [World.size_alloc, World.size_drew, World.size_setCell] at hz9)); (try (have f9gA := szf1 (a := gA) (b := x9.w.heap.size) (by omega))); (first | have f90 := szf3 (a := w.heap.size) (b := x9.w.heap.size) (by omega) | have f90 := szf2 (a := w.heap.size) (b := x9.w.heap.size) (by omega) | have f90 := szf1 (a := w.heap.size) (b := x9.w.heap.size) (by omega) | skip); (first | have f91 := szf2 (a := x1.w.heap.size) (b := x9.w.heap.size) (by omega) | have f91 := szf1 (a := x1.w.heap.size) (b := x9.w.heap.size) (by omega) | skip); (first | have f92 := szf2 (a := x2.w.heap.size) (b := x9.w.heap.size) (by omega) | have f92 := szf1 (a := x2.w.heap.size) (b := x9.w.heap.size) (by omega) | skip); (first | have f93 := szf2 (a := x3.w.heap.size) (b := x9.w.heap.size) (by omega) | have f93 := szf1 (a := x3.w.heap.size) (b := x9.w.heap.size) (by omega) | skip); (first | have f94 := szf2 (a := x4.w.heap.size) (b := x9.w.heap.size) (by omega) | have f94 := szf1 (a := x4.w.heap.size) (b := x9.w.heap.size) (by omega) | skip); (first | have f95 := szf2 (a := x5.w.heap.size) (b := x9.w.heap.size) (by omega) | have f95 := szf1 (a := x5.w.heap.size) (b := x9.w.heap.size) (by omega) | skip); (first | have f96 := szf2 (a := x6.w.heap.size) (b := x9.w.heap.size) (by omega) | have f96 := szf1 (a := x6.w.heap.size) (b := x9.w.heap.size) (by omega) | skip); (first | have f97 := szf2 (a := x7.w.heap.size) (b := x9.w.heap.size) (by omega) | have f97 := szf1 (a := x7.w.heap.size) (b := x9.w.heap.size) (by omega) | skip); (first | have f98 := szf2 (a := x8.w.heap.size) (b := x9.w.heap.size) (by omega) | have f98 := szf1 (a := x8.w.heap.size) (b := x9.w.heap.size) (by omega) | skip)) | ((fail_if_success revert x10); obtain ⟨x10, rfl⟩ := after_of hb; clear hb; have hz10 := after_size x10; (try (simp only [World.size_alloc, World.size_drew, World.size_setCell] at hz10)); (try (have f10gA := szf1 (a := gA) (b := x10.w.heap.size) (by omega))); (first | have f100 := szf3 (a := w.heap.size) (b := x10.w.heap.size) (by omega) | have f100 := szf2 (a := w.heap.size) (b := x10.w.heap.size) (by omega) | have f100 := szf1 (a := w.heap.size) (b := x10.w.heap.size) (by omega) | skip); (first | have f101 := szf2 (a := x1.w.heap.size) (b := x10.w.heap.size) (by omega) | have f101 := szf1 (a := x1.w.heap.size) (b := x10.w.heap.size) (by omega) | skip); (first | have f102 := szf2 (a := x2.w.heap.size) (b := x10.w.heap.size) (by omega) | have f102 := szf1 (a := x2.w.heap.size) (b := x10.w.heap.size) (by omega) | skip); (first | have f103 := szf2 (a := x3.w.heap.size) (b := x10.w.heap.size) (by omega) | have f103 := szf1 (a := x3.w.heap.size) (b := x10.w.heap.size) (by omega) | skip); (first | have f104 := szf2 (a := x4.w.heap.size) (b := x10.w.heap.size) (by omega) | have f104 := szf1 (a := x4.w.heap.size) (b := x10.w.heap.size) (by omega) | skip); (first | have f105 := szf2 (a := x5.w.heap.size) (b := x10.w.heap.size) (by omega) | have f105 := szf1 (a := x5.w.heap.size) (b := x10.w.heap.size) (by omega) | skip); (first | have f106 := szf2 (a := x6.w.heap.size) (b := x10.w.heap.size) (by omega) | have f106 := szf1 (a := x6.w.heap.size) (b := x10.w.heap.size) (by omega) | skip); (first | have f107 := szf2 (a := x7.w.heap.size) (b := x10.w.heap.size) (by omega) | have f107 := szf1 (a := x7.w.heap.size) (b := x10.w.heap.size) (by omega) | skip); (first | have f108 := szf2 (a := x8.w.heap.size) (b := x10.w.heap.size) (by omega) | have f108 := szf1 (a := x8.w.heap.size) (b := x10.w.heap.size) (by omega) | skip); (first | have f109 := szf2 (a := x9.w.heap.size) (b := x10.w.heap.size) (by omega) | have f109 := szf1 (a := x9.w.heap.size) (b := x10.w.heap.size) (by omega) | skip))))
    all_goals first | (rw [Exit.noGoto_ret]; go_ret) | go_ret
    all_goals exact ⟨by rw [Hc.out]; rfl, by (repeat (first | exact Below.refl _ _ | assumption | refine bel_alloc ?_ _ | refine bel_after _ ?_ | refine bel_drewN ?_ _ | refine bel_drew ?_ | refine bel_set ?_ (by first | omega | (simp only [World.size_alloc, World.size_drew, World.size_setCell]; omega) | (simp; omega)) _))⟩
  · obtain ⟨A, hA⟩ : ∃ A, Hid (A = (encU (dgS s)).toArray) := ⟨_, rfl⟩
    obtain ⟨B, hB⟩ : ∃ B, Hid (B = (encU (dgS s')).toArray) := ⟨_, rfl⟩
    have hAs : Hid (A.size = 32) := Lib.hid (by rw [hA.out]; simp [encU_length, dgS_length])
    have hBs : Hid (B.size = 32) := Lib.hid (by rw [hB.out]; simp [encU_length, dgS_length])
    have hA1 : Hid (A.all (·.oneCell') = true) := Lib.hid (by rw [hA.out]; simp [encU, Value.oneCell'])
    have hB1 : Hid (B.all (·.oneCell') = true) := Lib.hid (by rw [hB.out]; simp [encU, Value.oneCell'])
    cases hd : (dgS s == dgS s')
    · have Hc := Lib.hid (cLd hste hd)
      have hqd := fun W => rneq_dig W s s' hA.out hB.out hd
      obtain ⟨l, hl⟩ : ∃ l, dgLess (dgS s) (dgS s') = l := ⟨_, rfl⟩
      rw [hl] at Hc
      have Hl := Lib.hid hl
      clear hd hl
      go_enter Try.func26, Try.ntmps26
      go_wp2_with (first | ((fail_if_success have := k1); (fail_if_success have := HB2); refine wpList_box_blk rfl 25 _ rfl _ rfl (cellA N R s) rfl ?_; intro w1 k1 b1 s1) | ((fail_if_success have := HB2); refine wpList_box_blk rfl 25 _ rfl _ rfl (cellA N' R' s') rfl ?_; intro w2 k2 b2 s2; rw [s1] at k2 ⊢; have k1' := k1.below b2 (by omega); have hb2 : Below w.heap.size w w2 := b1.trans (b2.mono (by omega)); have z2 : w2.heap.size = w.heap.size + 2 := (by omega); have c0 : w2.cell? ⟨w.heap.size, 0, none⟩ = some (.int .i64 N) := k1'.cell 0; have c1 : w2.cell? ⟨w.heap.size, 1, none⟩ = some (.int .i64 R) := k1'.cell 1; have c2 : w2.cell? ⟨w.heap.size, 2, none⟩ = some (.string s) := k1'.cell 2; have d0 : w2.cell? ⟨w.heap.size + 1, 0, none⟩ = some (.int .i64 N') := k2.cell 0; have d1 : w2.cell? ⟨w.heap.size + 1, 1, none⟩ = some (.int .i64 R') := k2.cell 1; have d2 : w2.cell? ⟨w.heap.size + 1, 2, none⟩ = some (.string s') := k2.cell 2; have HB2 := Lib.hid hb2; have t1 : (w.heap.size < w2.heap.size) = True ∧ (w.heap.size + 1 < w2.heap.size) = True := (by simp only [eq_iff_iff, iff_true]; omega); have Z2 := Lib.hid z2; clear k1 k1' k2 b1 b2 hb2 s1 s2 z2) | ((fail_if_success have := o1); (fail_if_success have := HB5); go_at_call 63; refine (rof_v (s := s) Hs.out hA.out _).mono ?_; rintro e w3 ⟨rfl, o1⟩) | ((fail_if_success have := HB5); refine wpList_alloc_blk rfl 39 rfl _ rfl (.agg zero32) zero32 zero32_info rfl ?_; intro w4 k4 b4 s4) | ((fail_if_success have := HB5); refine wpList_store_blk rfl 39 _ _ rfl _ A rfl rfl _ _ k4 (by rw [hAs.out]; exact size32_info) (by rw [hAs.out]; rfl) hA1.out ?_; intro w5 k5 b5 s5; obtain ⟨g1, hg1⟩ : ∃ g1, w3.heap.size = g1 := ⟨_, rfl⟩; have hb5 : Below w2.heap.size w2 w5 := o1.trans ((b4.trans (b5.below (Nat.le_refl _) (by omega))).mono o1.size); have z5 : w2.heap.size ≤ g1 ∧ w5.heap.size = g1 + 1 := (by have := o1.size; omega); rw [hg1] at k5 ⊢; have c2' := cell_below hb5 _ _ _ c2; have d2' := cell_below hb5 _ _ _ d2; have HB5 := Lib.hid hb5; have K5 := Lib.hid k5; have Z5 := Lib.hid z5; have t2 : (w.heap.size < w5.heap.size) = True ∧ (w.heap.size + 1 < w5.heap.size) = True := (by have := Z2.out; simp only [eq_iff_iff, iff_true]; omega); clear c0 c1 c2 d0 d1 d2 k4 b4 s4 k5 b5 s5 o1 hb5 z5 hg1) | ((fail_if_success have := o2); go_at_call 63; refine (rof_v (s := s') Hs'.out hB.out _).mono ?_; rintro e w6 ⟨rfl, o2⟩) | (refine wpList_alloc_blk rfl 39 rfl _ rfl (.agg zero32) zero32 zero32_info rfl ?_; intro w7 k7 b7 s7) | (refine wpList_store_blk rfl 39 _ _ rfl _ B rfl rfl _ _ k7 (by rw [hBs.out]; exact size32_info) (by rw [hBs.out]; rfl) hB1.out ?_; intro w8 k8 b8 s8; obtain ⟨g2, hg2⟩ : ∃ g2, w6.heap.size = g2 := ⟨_, rfl⟩; have hb8 : Below w5.heap.size w5 w8 := o2.trans ((b7.trans (b8.below (Nat.le_refl _) (by omega))).mono o2.size); have z8 : w5.heap.size ≤ g2 ∧ w8.heap.size = g2 + 1 := (by have := o2.size; omega); rw [hg2] at k8 ⊢; have c2 := cell_below hb8 _ _ _ c2'; have d2 := cell_below hb8 _ _ _ d2'; have hz8 := hb8.size; have K5' : Hid (Blk w8 g1 39 A) := Lib.hid (K5.out.below hb8 K5.out.lt); have HB8 : Hid (Below w2.heap.size w2 w8) := Lib.hid (HB5.out.trans (hb8.mono HB5.out.size)); have K8 := Lib.hid k8; have Z8 := Lib.hid z8; have t3 : (w.heap.size < w8.heap.size) = True ∧ (w.heap.size + 1 < w8.heap.size) = True := (by have := Z2.out; have := Z5.out; simp only [eq_iff_iff, iff_true]; omega); clear c2' d2' k7 b7 s7 k8 b8 s8 o2 hb8 z8 hg2 hz8) | (have _h8 := HB8; refine wpList_load_row rfl 39 _ rfl _ rfl _ _ _ _ (by first | exact K5'.out | exact K8.out) Try.underlying39 rfl (by first | (rw [hAs.out]; exact size32_info) | (rw [hBs.out]; exact size32_info)) ?_) | (have _h8 := HB8; go_at_call 64; refine (rdless_v Hl.out hA.out hB.out _).mono ?_; rintro e w9 ⟨rfl, b9⟩))
      all_goals first | (rw [Exit.noGoto_ret]; go_ret) | go_ret
      all_goals exact ⟨by rw [Hc.out]; rfl, HB2.out.trans ((HB8.out.trans (b9.mono HB8.out.size)).mono HB2.out.size)⟩
    · have Hc := Lib.hid (cLt hste hd)
      have hqd := fun W => rneq_dig W s s' hA.out hB.out hd
      clear hd
      go_enter Try.func26, Try.ntmps26
      go_wp2_with (first | ((fail_if_success have := k1); (fail_if_success have := HB2); refine wpList_box_blk rfl 25 _ rfl _ rfl (cellA N R s) rfl ?_; intro w1 k1 b1 s1) | ((fail_if_success have := HB2); refine wpList_box_blk rfl 25 _ rfl _ rfl (cellA N' R' s') rfl ?_; intro w2 k2 b2 s2; rw [s1] at k2 ⊢; have k1' := k1.below b2 (by omega); have hb2 : Below w.heap.size w w2 := b1.trans (b2.mono (by omega)); have z2 : w2.heap.size = w.heap.size + 2 := (by omega); have c0 : w2.cell? ⟨w.heap.size, 0, none⟩ = some (.int .i64 N) := k1'.cell 0; have c1 : w2.cell? ⟨w.heap.size, 1, none⟩ = some (.int .i64 R) := k1'.cell 1; have c2 : w2.cell? ⟨w.heap.size, 2, none⟩ = some (.string s) := k1'.cell 2; have d0 : w2.cell? ⟨w.heap.size + 1, 0, none⟩ = some (.int .i64 N') := k2.cell 0; have d1 : w2.cell? ⟨w.heap.size + 1, 1, none⟩ = some (.int .i64 R') := k2.cell 1; have d2 : w2.cell? ⟨w.heap.size + 1, 2, none⟩ = some (.string s') := k2.cell 2; have HB2 := Lib.hid hb2; have t1 : (w.heap.size < w2.heap.size) = True ∧ (w.heap.size + 1 < w2.heap.size) = True := (by simp only [eq_iff_iff, iff_true]; omega); have Z2 := Lib.hid z2; clear k1 k1' k2 b1 b2 hb2 s1 s2 z2) | ((fail_if_success have := o1); (fail_if_success have := HB5); go_at_call 63; refine (rof_v (s := s) Hs.out hA.out _).mono ?_; rintro e w3 ⟨rfl, o1⟩) | ((fail_if_success have := HB5); refine wpList_alloc_blk rfl 39 rfl _ rfl (.agg zero32) zero32 zero32_info rfl ?_; intro w4 k4 b4 s4) | ((fail_if_success have := HB5); refine wpList_store_blk rfl 39 _ _ rfl _ A rfl rfl _ _ k4 (by rw [hAs.out]; exact size32_info) (by rw [hAs.out]; rfl) hA1.out ?_; intro w5 k5 b5 s5; obtain ⟨g1, hg1⟩ : ∃ g1, w3.heap.size = g1 := ⟨_, rfl⟩; have hb5 : Below w2.heap.size w2 w5 := o1.trans ((b4.trans (b5.below (Nat.le_refl _) (by omega))).mono o1.size); have z5 : w2.heap.size ≤ g1 ∧ w5.heap.size = g1 + 1 := (by have := o1.size; omega); rw [hg1] at k5 ⊢; have c2' := cell_below hb5 _ _ _ c2; have d2' := cell_below hb5 _ _ _ d2; have HB5 := Lib.hid hb5; have K5 := Lib.hid k5; have Z5 := Lib.hid z5; have t2 : (w.heap.size < w5.heap.size) = True ∧ (w.heap.size + 1 < w5.heap.size) = True := (by have := Z2.out; simp only [eq_iff_iff, iff_true]; omega); clear c0 c1 c2 d0 d1 d2 k4 b4 s4 k5 b5 s5 o1 hb5 z5 hg1) | ((fail_if_success have := o2); go_at_call 63; refine (rof_v (s := s') Hs'.out hB.out _).mono ?_; rintro e w6 ⟨rfl, o2⟩) | (refine wpList_alloc_blk rfl 39 rfl _ rfl (.agg zero32) zero32 zero32_info rfl ?_; intro w7 k7 b7 s7) | (refine wpList_store_blk rfl 39 _ _ rfl _ B rfl rfl _ _ k7 (by rw [hBs.out]; exact size32_info) (by rw [hBs.out]; rfl) hB1.out ?_; intro w8 k8 b8 s8; obtain ⟨g2, hg2⟩ : ∃ g2, w6.heap.size = g2 := ⟨_, rfl⟩; have hb8 : Below w5.heap.size w5 w8 := o2.trans ((b7.trans (b8.below (Nat.le_refl _) (by omega))).mono o2.size); have z8 : w5.heap.size ≤ g2 ∧ w8.heap.size = g2 + 1 := (by have := o2.size; omega); rw [hg2] at k8 ⊢; have c2 := cell_below hb8 _ _ _ c2'; have d2 := cell_below hb8 _ _ _ d2'; have hz8 := hb8.size; have K5' : Hid (Blk w8 g1 39 A) := Lib.hid (K5.out.below hb8 K5.out.lt); have HB8 : Hid (Below w2.heap.size w2 w8) := Lib.hid (HB5.out.trans (hb8.mono HB5.out.size)); have K8 := Lib.hid k8; have Z8 := Lib.hid z8; have t3 : (w.heap.size < w8.heap.size) = True ∧ (w.heap.size + 1 < w8.heap.size) = True := (by have := Z2.out; have := Z5.out; simp only [eq_iff_iff, iff_true]; omega); clear c2' d2' k7 b7 s7 k8 b8 s8 o2 hb8 z8 hg2 hz8) | (have _h8 := HB8; refine wpList_load_row rfl 39 _ rfl _ rfl _ _ _ _ (by first | exact K5'.out | exact K8.out) Try.underlying39 rfl (by first | (rw [hAs.out]; exact size32_info) | (rw [hBs.out]; exact size32_info)) ?_))
      obtain ⟨n, hn⟩ : ∃ n, n = s.size := ⟨_, rfl⟩
      obtain ⟨n', hn'⟩ : ∃ n', n' = s'.size := ⟨_, rfl⟩
      have hlen : ∀ W, (Builtin.len_ #[9] 3 #[.string s]).run Try.prog W = .ok (.int .i64 (n : Int)) W := fun W => by
        rw [run_len_string W 9 3 s (by kernel_rfl), hn]; rfl
      have hlen' : ∀ W, (Builtin.len_ #[9] 3 #[.string s']).run Try.prog W = .ok (.int .i64 (n' : Int)) W := fun W => by
        rw [run_len_string W 9 3 s' (by kernel_rfl), hn']; rfl
      have Hn := Lib.hid hn; have Hn' := Lib.hid hn'
      have ls : Hid (s.data.toList.length = n) := Lib.hid (by rw [hn]; simp)
      have ls' : Hid (s'.data.toList.length = n') := Lib.hid (by rw [hn']; simp)
      have hn2 : n ≤ 80000 ∧ n' ≤ 80000 := by have := Hs.out; have := Hs'.out; omega
      clear hn hn' hqd hqs
      go_loopw [9] (fun i wr => ∃ j : Nat, j ≤ n' ∧ j ≤ n ∧ i = .int .i64 j ∧ Hid (s.data.toList.take j = s'.data.toList.take j) ∧ Hid (Below w8.heap.size w8 wr)) (fun i _ => n' - (intOf i).toNat)
      case atStart => exact ⟨0, by omega, by omega, rfl, Lib.hid (by simp), Lib.hid (Below.refl _ _)⟩
      case round =>
        obtain ⟨j, hj, hj', rfl, T, BB⟩ := hrel
        have hbz := BB.out.size
        have c2r := cell_below BB.out _ _ _ c2
        have d2r := cell_below BB.out _ _ _ d2
        have hz2 := Z2.out
        have hz5 := Z5.out
        have hz8 := Z8.out
        have l1 : (w.heap.size < wr.heap.size) = True ∧ (w.heap.size + 1 < wr.heap.size) = True := by simp only [eq_iff_iff, iff_true]; omega
        clear hz2 hz5 hz8
        have hA' := @after_cell
        by_cases hjn' : j < n'
        · by_cases hjn : j < n
          · obtain ⟨x, hx⟩ : ∃ x : UInt8, Hid (x = s.data.toList.getD j 0) := ⟨_, rfl⟩
            obtain ⟨y, hy⟩ : ∃ y : UInt8, Hid (y = s'.data.toList.getD j 0) := ⟨_, rfl⟩
            have ix : ∀ W, (Instr.index 9 (.string s) (.int .i64 (j : Int))).run Try.prog W = .ok (.int .u8 (x.toNat : Int)) W := fun W => by rw [hx.out]; exact index_str W s j (by rw [← Hn.out]; exact hjn)
            have iy : ∀ W, (Instr.index 9 (.string s') (.int .i64 (j : Int))).run Try.prog W = .ok (.int .u8 (y.toNat : Int)) W := fun W => by rw [hy.out]; exact index_str W s' j (by rw [← Hn'.out]; exact hjn')
            by_cases hxy : x = y
            · have hq : ((x.toNat : Int) != (y.toNat : Int)) = false := by rw [hxy]; simp
              have Hxy := Lib.hid hxy; clear hxy
              go_wp2
              refine wp_quiet_all (C := fun w' => ∃ x : After _, w' = x.w) (by kernel_rfl) (by kernel_rfl) (since_drew _) ?_
              repeat (go_big_quiet_step (fail))
              refine wpQuiet_nil ?_
              rintro _ ⟨x0, rfl⟩
              go_wp2
              go_roundw
              case rel => exact ⟨j + 1, by omega, by omega, by go_num, Lib.hid (take_more _ _ j (by rw [ls.out]; exact hjn) (by rw [ls'.out]; exact hjn') T.out (by rw [← hx.out, ← hy.out]; exact Hxy.out)), Lib.hid (bel_step BB.out x0.h)⟩
              case measure => simp [intOf]; omega
            · have hq : ((x.toNat : Int) != (y.toNat : Int)) = true := by simp; intro h; exact hxy (UInt8.toNat_inj.1 (by omega))
              have hres : cLess N R s N' R' s' = decide (x.toNat < y.toNat) := by
                have h1 := lex_diff s.data.toList s'.data.toList j (by rw [ls.out]; exact hjn) (by rw [ls'.out]; exact hjn') T.out (by rw [← hx.out, ← hy.out]; exact hxy)
                rw [Bool.eq_iff_iff, Hc.out, decide_eq_true_eq, h1, ← hx.out, ← hy.out, UInt8.lt_iff_toNat_lt]
              have Hres := Lib.hid hres; clear hres hxy
              go_wp2
              refine wp_quiet_all (C := fun w' => ∃ x : After _, w' = x.w) (by kernel_rfl) (by kernel_rfl) (since_drew _) ?_
              repeat (go_big_quiet_step (fail))
              refine wpQuiet_nil ?_
              rintro _ ⟨x0, rfl⟩
              have hz0 := after_size x0
              have l2 : (w.heap.size < x0.w.heap.size) = True ∧ (w.heap.size + 1 < x0.w.heap.size) = True := by simp only [eq_iff_iff, iff_true] at l1 ⊢; omega
              go_wp2
              refine wp_quiet_all (C := fun w' => ∃ x : After _, w' = x.w) (by kernel_rfl) (by kernel_rfl) (since_drew _) ?_
              repeat (go_big_quiet_step (fail))
              refine wpQuiet_nil ?_
              rintro _ ⟨x3, rfl⟩
              go_wp2
              all_goals first | (rw [Exit.noGoto_ret]; go_ret) | go_ret
              all_goals exact ⟨by rw [Hres.out]; rfl, HB2.out.trans ((HB8.out.trans ((BB.out.trans ((x0.h.trans (x3.h.mono hz0)).mono hbz)).mono HB8.out.size)).mono HB2.out.size)⟩
          · have hjn2 : j = n := by omega
            have hres : cLess N R s N' R' s' = true := by
              rw [Hc.out]
              have h1 := T.out
              rw [List.take_of_length_le (by rw [ls.out]; omega)] at h1
              rw [h1]
              exact lex_take _ j (by rw [ls'.out]; exact hjn')
            have Hres := Lib.hid hres; clear hres
            have hjn3 : ((n : Int) ≤ (j : Int)) = True := by simp only [eq_iff_iff, iff_true]; omega
            clear hjn2
            go_wp2
            all_goals first | (rw [Exit.noGoto_ret]; go_ret) | go_ret
            all_goals exact ⟨by rw [Hres.out]; rfl, HB2.out.trans ((HB8.out.trans (BB.out.mono HB8.out.size)).mono HB2.out.size)⟩
        · have hjn2 : j = n' := by omega
          have hres : cLess N R s N' R' s' = false := by
            rw [Bool.eq_false_iff]
            intro h
            have h2 := Hc.out.1 h
            have h1 := T.out
            rw [List.take_of_length_le (l := s'.data.toList) (by rw [ls'.out]; omega)] at h1
            rw [← h1] at h2
            exact lex_take_not _ j h2
          have Hres := Lib.hid hres; clear hres
          clear hjn2
          go_wp2
          all_goals first | (rw [Exit.noGoto_ret]; go_ret) | go_ret
          all_goals exact ⟨by rw [Hres.out]; rfl, HB2.out.trans ((HB8.out.trans (BB.out.mono HB8.out.size)).mono HB2.out.size)⟩
end Go.Proofs.Ytgckgbonhbabpaa
