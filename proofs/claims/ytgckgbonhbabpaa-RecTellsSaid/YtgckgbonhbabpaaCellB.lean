/- Less and Join of cells. -/
import Derived.Test.YtgckgbonhbabpaaCellA
namespace Go.Proofs.Ytgckgbonhbabpaa
open Go Go.RowKit Go.Deep
set_option linter.unusedVariables false
set_option linter.unusedSimpArgs false
set_option maxRecDepth 100000

theorem index_way (W : World) (f g h : Value) (j : Nat) (hj : j < 3) (i : Int) (hi : i = j) : (Instr.index 78 (.agg #[f, g, h]) (.int .i64 i)).run Try.prog W = .ok (#[f, g, h].getD j undef) W := by
  subst hi
  have e1 : ∀ w, (underlying 78).run Try.prog w = .ok (.array 3 75) w := fun w => run_underlying (P := Try.prog) (by kernel_rfl) w
  have e2 : ∀ w, (isAgg 75).run Try.prog w = .ok false w := fun w => by kernel_rfl
  have e3 : ∀ w, (sizeOf 75).run Try.prog w = .ok 1 w := fun w => by kernel_rfl
  match j, hj with
  | 0, _ | 1, _ | 2, _ => simp [Instr.index, asIntOf, e1, part, e2, e3]
def pick3 (a b c : Int) : Bool := if a ≠ 0 then decide (a < 0) else if b ≠ 0 then decide (b < 0) else if c ≠ 0 then decide (c < 0) else false
/-- Is one cell less than another one? -/
def cLess (N R : Int) (s : ByteArray) (N' R' : Int) (s' : ByteArray) : Bool :=
  pick3 (ordB (stLess N R N' R') (stLess N' R' N R)) (ordB (dgLess (dgS s) (dgS s')) (dgLess (dgS s') (dgS s))) (ordB (strLess s s') (!(s.toList == s'.toList)))
set_option maxHeartbeats 1600000 in
theorem cless_c (N R N' R' : Int) (s s' : ByteArray) (hs : s.size ≤ 80000) (hs' : s'.size ≤ 80000) (w : World) : Calls Try.prog 25 #[.agg (cellA N R s), .agg (cellA N' R' s')] w fun e w' => e = .returned (.bool (cLess N R s N' R' s')) ∧ Below w.heap.size w w' := by
  obtain ⟨n1, hn1⟩ : ∃ n1, n1 = ordB (stLess N R N' R') (stLess N' R' N R) := ⟨_, rfl⟩
  obtain ⟨n2, hn2⟩ : ∃ n2, n2 = ordB (dgLess (dgS s) (dgS s')) (dgLess (dgS s') (dgS s)) := ⟨_, rfl⟩
  obtain ⟨n3, hn3⟩ : ∃ n3, n3 = ordB (strLess s s') (!(s.toList == s'.toList)) := ⟨_, rfl⟩
  have way1 := fun p q w k1 k2 => way1_c p q N R N' R' s s' w k1 k2
  have way2 := fun p q w k1 k2 => way2_c p q N R N' R' s s' hs hs' w k1 k2
  have way3 := fun p q w k1 k2 => way3_c p q N R N' R' s s' w k1 k2
  rw [← hn1] at way1; rw [← hn2] at way2; rw [← hn3] at way3
  rw [show cLess N R s N' R' s' = pick3 n1 n2 n3 by rw [hn1, hn2, hn3]; rfl]
  have Hw1 := Lib.hid way1; have Hw2 := Lib.hid way2; have Hw3 := Lib.hid way3
  clear hn1 hn2 hn3 way1 way2 way3 hs hs'
  go_enter Try.func25, Try.ntmps25
  go_wp2_with (first | ((fail_if_success have := k1); refine wpList_box_blk rfl 25 _ rfl _ rfl (cellA N R s) rfl ?_; intro w1 k1 b1 s1) | (refine wpList_box_blk rfl 25 _ rfl _ rfl (cellA N' R' s') rfl ?_; intro w2 k2 b2 s2) | (refine wpList_alloc_blk rfl 78 rfl _ rfl (.agg #[.nilFunc, .nilFunc, .nilFunc]) #[.nilFunc, .nilFunc, .nilFunc] (by kernel_rfl) rfl ?_; intro w3 k3 b3 s3) | (refine wpList_store_blk rfl 78 _ _ rfl _ #[.func (.func 56) #[] #[.pointer (some ⟨w.heap.size, 0, none⟩), .pointer (some ⟨w.heap.size + 1, 0, none⟩)], .func (.func 58) #[] #[.pointer (some ⟨w.heap.size, 0, none⟩), .pointer (some ⟨w.heap.size + 1, 0, none⟩)], .func (.func 60) #[] #[.pointer (some ⟨w.heap.size, 0, none⟩), .pointer (some ⟨w.heap.size + 1, 0, none⟩)]] rfl rfl _ _ k3 (by kernel_rfl) rfl (by simp [Value.oneCell']) ?_; intro w4 k4 b4 s4) | (refine wpList_load_row rfl 78 _ rfl _ rfl _ _ _ _ k4 Try.underlying78 rfl (by kernel_rfl) ?_))
  rw [s1] at k2
  have hz2 := b2.size
  have K1 := Lib.hid (((k1.below b2 (by omega)).below b3 (by omega)).but b4 (by omega))
  have K2 := Lib.hid ((k2.below b3 (by omega)).but b4 (by omega))
  have HB4 : Hid (Below w.heap.size w w4) := Lib.hid (b1.trans ((b2.mono (by omega)).trans ((b3.mono (by omega)).trans (b4.below (by omega) (by omega)))))
  have hsz := HB4.out.size
  clear k1 k2 k3 k4 b1 b2 b3 b4
  have x0 := fun W f g h => index_way W f g h 0 (by omega) 0 rfl
  have x1 := fun W f g h => index_way W f g h 1 (by omega) 1 rfl
  have x2 := fun W f g h => index_way W f g h 2 (by omega) 2 rfl
  go_loopw [14] (fun i wr => ∃ j : Nat, j ≤ 3 ∧ i = .int .i64 j ∧ Hid ((1 ≤ j → n1 = 0) ∧ (2 ≤ j → n2 = 0) ∧ (3 ≤ j → n3 = 0)) ∧ Hid (Below w4.heap.size w4 wr)) (fun i _ => 3 - (intOf i).toNat)
  case atStart => exact ⟨0, by omega, rfl, Lib.hid ⟨fun h => by omega, fun h => by omega, fun h => by omega⟩, Lib.hid (Below.refl _ _)⟩
  case round =>
    obtain ⟨j, hj, rfl, Z, B⟩ := hrel
    rcases (by omega : j = 0 ∨ j = 1 ∨ j = 2 ∨ j = 3) with h | h | h | h
    all_goals subst h
    · rcases Decidable.em (n1 = 0) with h0 | h0
      · subst h0
        go_wp2_with (go_at_call 56; (refine (Hw1.out _ _ _ (K1.out.below B.out K1.out.lt) (K2.out.below B.out K2.out.lt)).mono ?_); rintro e w5 ⟨rfl, b5⟩)
        go_roundw
        case rel => exact ⟨1, by omega, rfl, Lib.hid ⟨fun _ => by simp, fun h => by omega, fun h => by omega⟩, Lib.hid (B.out.trans (b5.mono B.out.size))⟩
        case measure => simp [intOf]
      · have hne : (n1 != 0) = true := by simpa using h0
        have Hn := Lib.hid h0; clear h0
        go_wp2_with (go_at_call 56; (refine (Hw1.out _ _ _ (K1.out.below B.out K1.out.lt) (K2.out.below B.out K2.out.lt)).mono ?_); rintro e w5 ⟨rfl, b5⟩)
        all_goals first | (rw [Exit.noGoto_ret]; go_ret) | go_ret
        all_goals exact ⟨ret_bool (by have hz := Z.out; have hn := Hn.out; simp [pick3, hn, hz]), HB4.out.trans ((B.out.trans (b5.mono B.out.size)).mono hsz)⟩
    · rcases Decidable.em (n2 = 0) with h0 | h0
      · subst h0
        go_wp2_with (go_at_call 58; (refine (Hw2.out _ _ _ (K1.out.below B.out K1.out.lt) (K2.out.below B.out K2.out.lt)).mono ?_); rintro e w5 ⟨rfl, b5⟩)
        go_roundw
        case rel => exact ⟨2, by omega, rfl, Lib.hid ⟨fun _ => Z.out.1 (by omega), fun _ => by simp, fun h => by omega⟩, Lib.hid (B.out.trans (b5.mono B.out.size))⟩
        case measure => simp [intOf]
      · have hne : (n2 != 0) = true := by simpa using h0
        have Hn := Lib.hid h0; clear h0
        go_wp2_with (go_at_call 58; (refine (Hw2.out _ _ _ (K1.out.below B.out K1.out.lt) (K2.out.below B.out K2.out.lt)).mono ?_); rintro e w5 ⟨rfl, b5⟩)
        all_goals first | (rw [Exit.noGoto_ret]; go_ret) | go_ret
        all_goals exact ⟨ret_bool (by have hz := Z.out; have hn := Hn.out; simp [pick3, hn, hz]), HB4.out.trans ((B.out.trans (b5.mono B.out.size)).mono hsz)⟩
    · rcases Decidable.em (n3 = 0) with h0 | h0
      · subst h0
        go_wp2_with (go_at_call 60; (refine (Hw3.out _ _ _ (K1.out.below B.out K1.out.lt) (K2.out.below B.out K2.out.lt)).mono ?_); rintro e w5 ⟨rfl, rfl⟩; have b5 : Below wr.heap.size wr wr := Below.refl _ _)
        go_roundw
        case rel => exact ⟨3, by omega, rfl, Lib.hid ⟨fun _ => Z.out.1 (by omega), fun _ => Z.out.2.1 (by omega), fun _ => by simp⟩, Lib.hid (B.out.trans (b5.mono B.out.size))⟩
        case measure => simp [intOf]
      · have hne : (n3 != 0) = true := by simpa using h0
        have Hn := Lib.hid h0; clear h0
        go_wp2_with (go_at_call 60; (refine (Hw3.out _ _ _ (K1.out.below B.out K1.out.lt) (K2.out.below B.out K2.out.lt)).mono ?_); rintro e w5 ⟨rfl, rfl⟩; have b5 : Below wr.heap.size wr wr := Below.refl _ _)
        all_goals first | (rw [Exit.noGoto_ret]; go_ret) | go_ret
        all_goals exact ⟨ret_bool (by have hz := Z.out; have hn := Hn.out; simp [pick3, hn, hz]), HB4.out.trans ((B.out.trans (b5.mono B.out.size)).mono hsz)⟩
    · go_wp2
      all_goals first | (rw [Exit.noGoto_ret]; go_ret) | go_ret
      all_goals exact ⟨ret_bool (by have hz := Z.out; simp [pick3, hz]), HB4.out.trans (B.out.mono hsz)⟩
end Go.Proofs.Ytgckgbonhbabpaa
