/- The contracts of stamp.Put, stamp.Get, and of the reference's. -/
import Derived.Test.YtolbmemogoojhaaGreatKM1
import Derived.Test.YtolbmemogoojhaaGreatKM2
import Derived.Test.YtolbmemogoojhaaGreatProg
import Derived.WalkKit
import Derived.ProofKit
import Derived.OpenShut
import Derived.ShutString
import Derived.ChangeOld
import Derived.Below
import Derived.SizedLaws
import Derived.Laws.Rows
import Derived.Laws.Tables
import Derived.Laws.CopyRow
import Derived.Laws.Cover3
namespace Go.Proofs.YtolbmemogoojhaaGreat
open Go Go.RowKit Go.Deep
set_option linter.unusedVariables false
set_option linter.unusedSimpArgs false

def stBytes (N R : Int) : List UInt8 := if stMay N R = true then putL (8 * N + R).toNat else []
def StPut (w : World) (N R : Int) (e : Ending) (w' : World) : Prop :=
  ∃ v, e = .returned (.tuple #[v, .bool (stMay N R)]) ∧ OwnU w.heap.size w' 5 v (stBytes N R) ∧ Below w.heap.size w w'
theorem stBytes_no {N R : Int} (h : stMay N R = false) : stBytes N R = [] := by unfold stBytes; rw [if_neg (by rw [h]; simp)]
theorem stBytes_yes {n r : Nat} (h : stMay n r = true) : stBytes n r = putL (8 * n + r) := by
  unfold stBytes; rw [if_pos h]; congr 1
theorem StPut.no {w w' : World} {N R : Int} (h : stMay N R = false) (hb : Below w.heap.size w w') : StPut w N R (.returned (.tuple #[.slice none 0 0, .bool false])) w' :=
  ⟨.slice none 0 0, by rw [h], by rw [stBytes_no h]; exact World.ownsRow_nil _ _ _ _, hb⟩

theorem join8 (n r : Nat) (hn : n ≤ 1099511627776) (hr : r < 8) : bits BinOp.or IntKind.u64 ((n : Int) * 8) (r : Int) = ((8 * n + r : Nat) : Int) := by
  have h1 : ((n : Int) * 8) = ((n * 8 : Nat) : Int) := by omega
  rw [h1, u64_or_nat _ _ (by omega) (by omega), nat_join 3 _ _ (by omega) (by omega)]
  congr 1; omega

set_option maxRecDepth 100000 in
set_option maxHeartbeats 800000 in
theorem stput_c (N R : Int) (w : World) : Calls Tryz.prog 71 #[.agg #[.int .i64 N, .int .i64 R]] w (StPut w N R) := by
  have hAc := @after_cell
  have hAf := @after_frozen
  have hSz := sz_facts
  cases hm : stMay N R
  · have Hm := Lib.hid hm
    go_enter Tryz.func71, Tryz.ntmps71
    go_wp2_with (go_at_call 96; (with_reducible refine (may_c _ _ _).mono ?_); rintro e w' ⟨rfl, hb⟩; (first | ((fail_if_success revert x1); obtain ⟨x1, rfl⟩ := after_of hb; clear hb; have hz1 := after_size x1; (try (simp only [zYA, zYD, zYC] at hz1)); (try (have f1gA := zY1 gA x1.w.heap.size)); (first | have f10 := zY3 w.heap.size x1.w.heap.size | have f10 := zY2 w.heap.size x1.w.heap.size | have f10 := zY1 w.heap.size x1.w.heap.size | skip)) | ((fail_if_success revert x2); obtain ⟨x2, rfl⟩ := after_of hb; clear hb; have hz2 := after_size x2; (try (simp only [zYA, zYD, zYC] at hz2)); (try (have f2gA := zY1 gA x2.w.heap.size)); (first | have f20 := zY3 w.heap.size x2.w.heap.size | have f20 := zY2 w.heap.size x2.w.heap.size | have f20 := zY1 w.heap.size x2.w.heap.size | skip); (first | have f21 := zY2 x1.w.heap.size x2.w.heap.size | have f21 := zY1 x1.w.heap.size x2.w.heap.size | skip)) | ((fail_if_success revert x3); obtain ⟨x3, rfl⟩ := after_of hb; clear hb; have hz3 := after_size x3; (try (simp only [zYA, zYD, zYC] at hz3)); (try (have f3gA := zY1 gA x3.w.heap.size)); (first | have f30 := zY3 w.heap.size x3.w.heap.size | have f30 := zY2 w.heap.size x3.w.heap.size | have f30 := zY1 w.heap.size x3.w.heap.size | skip); (first | have f31 := zY2 x1.w.heap.size x3.w.heap.size | have f31 := zY1 x1.w.heap.size x3.w.heap.size | skip); (first | have f32 := zY2 x2.w.heap.size x3.w.heap.size | have f32 := zY1 x2.w.heap.size x3.w.heap.size | skip)) | ((fail_if_success revert x4); obtain ⟨x4, rfl⟩ := after_of hb; clear hb; have hz4 := after_size x4; (try (simp only [zYA, zYD, zYC] at hz4)); (try (have f4gA := zY1 gA x4.w.heap.size)); (first | have f40 := zY3 w.heap.size x4.w.heap.size | have f40 := zY2 w.heap.size x4.w.heap.size | have f40 := zY1 w.heap.size x4.w.heap.size | skip); (first | have f41 := zY2 x1.w.heap.size x4.w.heap.size | have f41 := zY1 x1.w.heap.size x4.w.heap.size | skip); (first | have f42 := zY2 x2.w.heap.size x4.w.heap.size | have f42 := zY1 x2.w.heap.size x4.w.heap.size | skip); (first | have f43 := zY2 x3.w.heap.size x4.w.heap.size | have f43 := zY1 x3.w.heap.size x4.w.heap.size | skip)) | ((fail_if_success revert x5); obtain ⟨x5, rfl⟩ := after_of hb; clear hb; have hz5 := after_size x5; (try (simp only [zYA, zYD, zYC] at hz5)); (try (have f5gA := zY1 gA x5.w.heap.size)); (first | have f50 := zY3 w.heap.size x5.w.heap.size | have f50 := zY2 w.heap.size x5.w.heap.size | have f50 := zY1 w.heap.size x5.w.heap.size | skip); (first | have f51 := zY2 x1.w.heap.size x5.w.heap.size | have f51 := zY1 x1.w.heap.size x5.w.heap.size | skip); (first | have f52 := zY2 x2.w.heap.size x5.w.heap.size | have f52 := zY1 x2.w.heap.size x5.w.heap.size | skip); (first | have f53 := zY2 x3.w.heap.size x5.w.heap.size | have f53 := zY1 x3.w.heap.size x5.w.heap.size | skip); (first | have f54 := zY2 x4.w.heap.size x5.w.heap.size | have f54 := zY1 x4.w.heap.size x5.w.heap.size | skip))))
    all_goals go_ret2
    all_goals exact StPut.no Hm.out (by (repeat (first | exact Below.refl _ _ | assumption | refine bel_alloc ?_ _ | refine bel_after _ ?_ | refine bel_drewN ?_ _ | refine bel_drew ?_ | refine bel_set ?_ (by first | omega | (simp only [zYA, zYD, zYC]; omega) | (simp; omega)) _)))
  · obtain ⟨h0, h1, h2, h3⟩ := stMay_le hm
    obtain ⟨n, rfl⟩ := Int.eq_ofNat_of_zero_le h0
    obtain ⟨r, rfl⟩ := Int.eq_ofNat_of_zero_le h2
    have Hm := Lib.hid hm
    have Hj := Lib.hid (join8 n r (by omega) (by omega))
    go_enter Tryz.func71, Tryz.ntmps71
    go_wp2_with (go_at_call 96; (with_reducible refine (may_c _ _ _).mono ?_); rintro e w' ⟨rfl, hb⟩; (first | ((fail_if_success revert x1); obtain ⟨x1, rfl⟩ := after_of hb; clear hb; have hz1 := after_size x1; (try (simp only [zYA, zYD, zYC] at hz1)); (try (have f1gA := zY1 gA x1.w.heap.size)); (first | have f10 := zY3 w.heap.size x1.w.heap.size | have f10 := zY2 w.heap.size x1.w.heap.size | have f10 := zY1 w.heap.size x1.w.heap.size | skip)) | ((fail_if_success revert x2); obtain ⟨x2, rfl⟩ := after_of hb; clear hb; have hz2 := after_size x2; (try (simp only [zYA, zYD, zYC] at hz2)); (try (have f2gA := zY1 gA x2.w.heap.size)); (first | have f20 := zY3 w.heap.size x2.w.heap.size | have f20 := zY2 w.heap.size x2.w.heap.size | have f20 := zY1 w.heap.size x2.w.heap.size | skip); (first | have f21 := zY2 x1.w.heap.size x2.w.heap.size | have f21 := zY1 x1.w.heap.size x2.w.heap.size | skip)) | ((fail_if_success revert x3); obtain ⟨x3, rfl⟩ := after_of hb; clear hb; have hz3 := after_size x3; (try (simp only [zYA, zYD, zYC] at hz3)); (try (have f3gA := zY1 gA x3.w.heap.size)); (first | have f30 := zY3 w.heap.size x3.w.heap.size | have f30 := zY2 w.heap.size x3.w.heap.size | have f30 := zY1 w.heap.size x3.w.heap.size | skip); (first | have f31 := zY2 x1.w.heap.size x3.w.heap.size | have f31 := zY1 x1.w.heap.size x3.w.heap.size | skip); (first | have f32 := zY2 x2.w.heap.size x3.w.heap.size | have f32 := zY1 x2.w.heap.size x3.w.heap.size | skip)) | ((fail_if_success revert x4); obtain ⟨x4, rfl⟩ := after_of hb; clear hb; have hz4 := after_size x4; (try (simp only [zYA, zYD, zYC] at hz4)); (try (have f4gA := zY1 gA x4.w.heap.size)); (first | have f40 := zY3 w.heap.size x4.w.heap.size | have f40 := zY2 w.heap.size x4.w.heap.size | have f40 := zY1 w.heap.size x4.w.heap.size | skip); (first | have f41 := zY2 x1.w.heap.size x4.w.heap.size | have f41 := zY1 x1.w.heap.size x4.w.heap.size | skip); (first | have f42 := zY2 x2.w.heap.size x4.w.heap.size | have f42 := zY1 x2.w.heap.size x4.w.heap.size | skip); (first | have f43 := zY2 x3.w.heap.size x4.w.heap.size | have f43 := zY1 x3.w.heap.size x4.w.heap.size | skip)) | ((fail_if_success revert x5); obtain ⟨x5, rfl⟩ := after_of hb; clear hb; have hz5 := after_size x5; (try (simp only [zYA, zYD, zYC] at hz5)); (try (have f5gA := zY1 gA x5.w.heap.size)); (first | have f50 := zY3 w.heap.size x5.w.heap.size | have f50 := zY2 w.heap.size x5.w.heap.size | have f50 := zY1 w.heap.size x5.w.heap.size | skip); (first | have f51 := zY2 x1.w.heap.size x5.w.heap.size | have f51 := zY1 x1.w.heap.size x5.w.heap.size | skip); (first | have f52 := zY2 x2.w.heap.size x5.w.heap.size | have f52 := zY1 x2.w.heap.size x5.w.heap.size | skip); (first | have f53 := zY2 x3.w.heap.size x5.w.heap.size | have f53 := zY1 x3.w.heap.size x5.w.heap.size | skip); (first | have f54 := zY2 x4.w.heap.size x5.w.heap.size | have f54 := zY1 x4.w.heap.size x5.w.heap.size | skip))))
    simp only [Hj.out]
    refine (put_c (8 * n + r) (by omega) _).mono ?_
    rintro e w' ⟨v', rfl, hown, hb⟩
    have Hown := Lib.hid hown; clear hown
    (first | ((fail_if_success revert x1); obtain ⟨x1, rfl⟩ := after_of hb; clear hb; have hz1 := after_size x1; (try (simp only [zYA, zYD, zYC] at hz1)); (try (have f1gA := zY1 gA x1.w.heap.size)); (first | have f10 := zY3 w.heap.size x1.w.heap.size | have f10 := zY2 w.heap.size x1.w.heap.size | have f10 := zY1 w.heap.size x1.w.heap.size | skip)) | ((fail_if_success revert x2); obtain ⟨x2, rfl⟩ := after_of hb; clear hb; have hz2 := after_size x2; (try (simp only [zYA, zYD, zYC] at hz2)); (try (have f2gA := zY1 gA x2.w.heap.size)); (first | have f20 := zY3 w.heap.size x2.w.heap.size | have f20 := zY2 w.heap.size x2.w.heap.size | have f20 := zY1 w.heap.size x2.w.heap.size | skip); (first | have f21 := zY2 x1.w.heap.size x2.w.heap.size | have f21 := zY1 x1.w.heap.size x2.w.heap.size | skip)) | ((fail_if_success revert x3); obtain ⟨x3, rfl⟩ := after_of hb; clear hb; have hz3 := after_size x3; (try (simp only [zYA, zYD, zYC] at hz3)); (try (have f3gA := zY1 gA x3.w.heap.size)); (first | have f30 := zY3 w.heap.size x3.w.heap.size | have f30 := zY2 w.heap.size x3.w.heap.size | have f30 := zY1 w.heap.size x3.w.heap.size | skip); (first | have f31 := zY2 x1.w.heap.size x3.w.heap.size | have f31 := zY1 x1.w.heap.size x3.w.heap.size | skip); (first | have f32 := zY2 x2.w.heap.size x3.w.heap.size | have f32 := zY1 x2.w.heap.size x3.w.heap.size | skip)) | ((fail_if_success revert x4); obtain ⟨x4, rfl⟩ := after_of hb; clear hb; have hz4 := after_size x4; (try (simp only [zYA, zYD, zYC] at hz4)); (try (have f4gA := zY1 gA x4.w.heap.size)); (first | have f40 := zY3 w.heap.size x4.w.heap.size | have f40 := zY2 w.heap.size x4.w.heap.size | have f40 := zY1 w.heap.size x4.w.heap.size | skip); (first | have f41 := zY2 x1.w.heap.size x4.w.heap.size | have f41 := zY1 x1.w.heap.size x4.w.heap.size | skip); (first | have f42 := zY2 x2.w.heap.size x4.w.heap.size | have f42 := zY1 x2.w.heap.size x4.w.heap.size | skip); (first | have f43 := zY2 x3.w.heap.size x4.w.heap.size | have f43 := zY1 x3.w.heap.size x4.w.heap.size | skip)) | ((fail_if_success revert x5); obtain ⟨x5, rfl⟩ := after_of hb; clear hb; have hz5 := after_size x5; (try (simp only [zYA, zYD, zYC] at hz5)); (try (have f5gA := zY1 gA x5.w.heap.size)); (first | have f50 := zY3 w.heap.size x5.w.heap.size | have f50 := zY2 w.heap.size x5.w.heap.size | have f50 := zY1 w.heap.size x5.w.heap.size | skip); (first | have f51 := zY2 x1.w.heap.size x5.w.heap.size | have f51 := zY1 x1.w.heap.size x5.w.heap.size | skip); (first | have f52 := zY2 x2.w.heap.size x5.w.heap.size | have f52 := zY1 x2.w.heap.size x5.w.heap.size | skip); (first | have f53 := zY2 x3.w.heap.size x5.w.heap.size | have f53 := zY1 x3.w.heap.size x5.w.heap.size | skip); (first | have f54 := zY2 x4.w.heap.size x5.w.heap.size | have f54 := zY1 x4.w.heap.size x5.w.heap.size | skip)))
    go_wp2
    go_ret2
    refine ⟨v', by rw [Hm.out]; rfl, ?_, by (repeat (first | exact Below.refl _ _ | assumption | refine bel_alloc ?_ _ | refine bel_after _ ?_ | refine bel_drewN ?_ _ | refine bel_drew ?_ | refine bel_set ?_ (by first | omega | (simp only [zYA, zYD, zYC]; omega) | (simp; omega)) _))⟩
    rw [stBytes_yes Hm.out]
    exact own_lower Hown.out (by omega)

theorem wrap_ref (n r : Nat) (hn : n ≤ 1099511627776) (hr : r < 8) : 8 * (n : Int) + (r : Int) = ((8 * n + r : Nat) : Int) := by omega
set_option maxRecDepth 100000 in
set_option maxHeartbeats 800000 in
theorem rstput_c (N R : Int) (w : World) : Calls Tryz.prog 74 #[.agg #[.int .i64 N, .int .i64 R]] w (StPut w N R) := by
  have hAc := @after_cell
  have hAf := @after_frozen
  have hSz := sz_facts
  cases hm : stMay N R
  · have Hm := Lib.hid hm
    go_enter Tryz.func74, Tryz.ntmps74
    go_wp2_with (go_at_call 93; (with_reducible refine (rmay_c _ _ _).mono ?_); rintro e w' ⟨rfl, hb⟩; (first | ((fail_if_success revert x1); obtain ⟨x1, rfl⟩ := after_of hb; clear hb; have hz1 := after_size x1; (try (simp only [zYA, zYD, zYC] at hz1)); (try (have f1gA := zY1 gA x1.w.heap.size)); (first | have f10 := zY3 w.heap.size x1.w.heap.size | have f10 := zY2 w.heap.size x1.w.heap.size | have f10 := zY1 w.heap.size x1.w.heap.size | skip)) | ((fail_if_success revert x2); obtain ⟨x2, rfl⟩ := after_of hb; clear hb; have hz2 := after_size x2; (try (simp only [zYA, zYD, zYC] at hz2)); (try (have f2gA := zY1 gA x2.w.heap.size)); (first | have f20 := zY3 w.heap.size x2.w.heap.size | have f20 := zY2 w.heap.size x2.w.heap.size | have f20 := zY1 w.heap.size x2.w.heap.size | skip); (first | have f21 := zY2 x1.w.heap.size x2.w.heap.size | have f21 := zY1 x1.w.heap.size x2.w.heap.size | skip)) | ((fail_if_success revert x3); obtain ⟨x3, rfl⟩ := after_of hb; clear hb; have hz3 := after_size x3; (try (simp only [zYA, zYD, zYC] at hz3)); (try (have f3gA := zY1 gA x3.w.heap.size)); (first | have f30 := zY3 w.heap.size x3.w.heap.size | have f30 := zY2 w.heap.size x3.w.heap.size | have f30 := zY1 w.heap.size x3.w.heap.size | skip); (first | have f31 := zY2 x1.w.heap.size x3.w.heap.size | have f31 := zY1 x1.w.heap.size x3.w.heap.size | skip); (first | have f32 := zY2 x2.w.heap.size x3.w.heap.size | have f32 := zY1 x2.w.heap.size x3.w.heap.size | skip)) | ((fail_if_success revert x4); obtain ⟨x4, rfl⟩ := after_of hb; clear hb; have hz4 := after_size x4; (try (simp only [zYA, zYD, zYC] at hz4)); (try (have f4gA := zY1 gA x4.w.heap.size)); (first | have f40 := zY3 w.heap.size x4.w.heap.size | have f40 := zY2 w.heap.size x4.w.heap.size | have f40 := zY1 w.heap.size x4.w.heap.size | skip); (first | have f41 := zY2 x1.w.heap.size x4.w.heap.size | have f41 := zY1 x1.w.heap.size x4.w.heap.size | skip); (first | have f42 := zY2 x2.w.heap.size x4.w.heap.size | have f42 := zY1 x2.w.heap.size x4.w.heap.size | skip); (first | have f43 := zY2 x3.w.heap.size x4.w.heap.size | have f43 := zY1 x3.w.heap.size x4.w.heap.size | skip)) | ((fail_if_success revert x5); obtain ⟨x5, rfl⟩ := after_of hb; clear hb; have hz5 := after_size x5; (try (simp only [zYA, zYD, zYC] at hz5)); (try (have f5gA := zY1 gA x5.w.heap.size)); (first | have f50 := zY3 w.heap.size x5.w.heap.size | have f50 := zY2 w.heap.size x5.w.heap.size | have f50 := zY1 w.heap.size x5.w.heap.size | skip); (first | have f51 := zY2 x1.w.heap.size x5.w.heap.size | have f51 := zY1 x1.w.heap.size x5.w.heap.size | skip); (first | have f52 := zY2 x2.w.heap.size x5.w.heap.size | have f52 := zY1 x2.w.heap.size x5.w.heap.size | skip); (first | have f53 := zY2 x3.w.heap.size x5.w.heap.size | have f53 := zY1 x3.w.heap.size x5.w.heap.size | skip); (first | have f54 := zY2 x4.w.heap.size x5.w.heap.size | have f54 := zY1 x4.w.heap.size x5.w.heap.size | skip))))
    all_goals go_ret2
    all_goals exact StPut.no Hm.out (by (repeat (first | exact Below.refl _ _ | assumption | refine bel_alloc ?_ _ | refine bel_after _ ?_ | refine bel_drewN ?_ _ | refine bel_drew ?_ | refine bel_set ?_ (by first | omega | (simp only [zYA, zYD, zYC]; omega) | (simp; omega)) _)))
  · obtain ⟨h0, h1, h2, h3⟩ := stMay_le hm
    obtain ⟨n, rfl⟩ := Int.eq_ofNat_of_zero_le h0
    obtain ⟨r, rfl⟩ := Int.eq_ofNat_of_zero_le h2
    have Hm := Lib.hid hm
    have Hj := Lib.hid (wrap_ref n r (by omega) (by omega))
    go_enter Tryz.func74, Tryz.ntmps74
    go_wp2_with (go_at_call 93; (with_reducible refine (rmay_c _ _ _).mono ?_); rintro e w' ⟨rfl, hb⟩; (first | ((fail_if_success revert x1); obtain ⟨x1, rfl⟩ := after_of hb; clear hb; have hz1 := after_size x1; (try (simp only [zYA, zYD, zYC] at hz1)); (try (have f1gA := zY1 gA x1.w.heap.size)); (first | have f10 := zY3 w.heap.size x1.w.heap.size | have f10 := zY2 w.heap.size x1.w.heap.size | have f10 := zY1 w.heap.size x1.w.heap.size | skip)) | ((fail_if_success revert x2); obtain ⟨x2, rfl⟩ := after_of hb; clear hb; have hz2 := after_size x2; (try (simp only [zYA, zYD, zYC] at hz2)); (try (have f2gA := zY1 gA x2.w.heap.size)); (first | have f20 := zY3 w.heap.size x2.w.heap.size | have f20 := zY2 w.heap.size x2.w.heap.size | have f20 := zY1 w.heap.size x2.w.heap.size | skip); (first | have f21 := zY2 x1.w.heap.size x2.w.heap.size | have f21 := zY1 x1.w.heap.size x2.w.heap.size | skip)) | ((fail_if_success revert x3); obtain ⟨x3, rfl⟩ := after_of hb; clear hb; have hz3 := after_size x3; (try (simp only [zYA, zYD, zYC] at hz3)); (try (have f3gA := zY1 gA x3.w.heap.size)); (first | have f30 := zY3 w.heap.size x3.w.heap.size | have f30 := zY2 w.heap.size x3.w.heap.size | have f30 := zY1 w.heap.size x3.w.heap.size | skip); (first | have f31 := zY2 x1.w.heap.size x3.w.heap.size | have f31 := zY1 x1.w.heap.size x3.w.heap.size | skip); (first | have f32 := zY2 x2.w.heap.size x3.w.heap.size | have f32 := zY1 x2.w.heap.size x3.w.heap.size | skip)) | ((fail_if_success revert x4); obtain ⟨x4, rfl⟩ := after_of hb; clear hb; have hz4 := after_size x4; (try (simp only [zYA, zYD, zYC] at hz4)); (try (have f4gA := zY1 gA x4.w.heap.size)); (first | have f40 := zY3 w.heap.size x4.w.heap.size | have f40 := zY2 w.heap.size x4.w.heap.size | have f40 := zY1 w.heap.size x4.w.heap.size | skip); (first | have f41 := zY2 x1.w.heap.size x4.w.heap.size | have f41 := zY1 x1.w.heap.size x4.w.heap.size | skip); (first | have f42 := zY2 x2.w.heap.size x4.w.heap.size | have f42 := zY1 x2.w.heap.size x4.w.heap.size | skip); (first | have f43 := zY2 x3.w.heap.size x4.w.heap.size | have f43 := zY1 x3.w.heap.size x4.w.heap.size | skip)) | ((fail_if_success revert x5); obtain ⟨x5, rfl⟩ := after_of hb; clear hb; have hz5 := after_size x5; (try (simp only [zYA, zYD, zYC] at hz5)); (try (have f5gA := zY1 gA x5.w.heap.size)); (first | have f50 := zY3 w.heap.size x5.w.heap.size | have f50 := zY2 w.heap.size x5.w.heap.size | have f50 := zY1 w.heap.size x5.w.heap.size | skip); (first | have f51 := zY2 x1.w.heap.size x5.w.heap.size | have f51 := zY1 x1.w.heap.size x5.w.heap.size | skip); (first | have f52 := zY2 x2.w.heap.size x5.w.heap.size | have f52 := zY1 x2.w.heap.size x5.w.heap.size | skip); (first | have f53 := zY2 x3.w.heap.size x5.w.heap.size | have f53 := zY1 x3.w.heap.size x5.w.heap.size | skip); (first | have f54 := zY2 x4.w.heap.size x5.w.heap.size | have f54 := zY1 x4.w.heap.size x5.w.heap.size | skip))))
    simp only [Hj.out]
    refine (rput_c (8 * n + r) (by omega) _).mono ?_
    rintro e w' ⟨v', rfl, hown, hb⟩
    have Hown := Lib.hid hown; clear hown
    (first | ((fail_if_success revert x1); obtain ⟨x1, rfl⟩ := after_of hb; clear hb; have hz1 := after_size x1; (try (simp only [zYA, zYD, zYC] at hz1)); (try (have f1gA := zY1 gA x1.w.heap.size)); (first | have f10 := zY3 w.heap.size x1.w.heap.size | have f10 := zY2 w.heap.size x1.w.heap.size | have f10 := zY1 w.heap.size x1.w.heap.size | skip)) | ((fail_if_success revert x2); obtain ⟨x2, rfl⟩ := after_of hb; clear hb; have hz2 := after_size x2; (try (simp only [zYA, zYD, zYC] at hz2)); (try (have f2gA := zY1 gA x2.w.heap.size)); (first | have f20 := zY3 w.heap.size x2.w.heap.size | have f20 := zY2 w.heap.size x2.w.heap.size | have f20 := zY1 w.heap.size x2.w.heap.size | skip); (first | have f21 := zY2 x1.w.heap.size x2.w.heap.size | have f21 := zY1 x1.w.heap.size x2.w.heap.size | skip)) | ((fail_if_success revert x3); obtain ⟨x3, rfl⟩ := after_of hb; clear hb; have hz3 := after_size x3; (try (simp only [zYA, zYD, zYC] at hz3)); (try (have f3gA := zY1 gA x3.w.heap.size)); (first | have f30 := zY3 w.heap.size x3.w.heap.size | have f30 := zY2 w.heap.size x3.w.heap.size | have f30 := zY1 w.heap.size x3.w.heap.size | skip); (first | have f31 := zY2 x1.w.heap.size x3.w.heap.size | have f31 := zY1 x1.w.heap.size x3.w.heap.size | skip); (first | have f32 := zY2 x2.w.heap.size x3.w.heap.size | have f32 := zY1 x2.w.heap.size x3.w.heap.size | skip)) | ((fail_if_success revert x4); obtain ⟨x4, rfl⟩ := after_of hb; clear hb; have hz4 := after_size x4; (try (simp only [zYA, zYD, zYC] at hz4)); (try (have f4gA := zY1 gA x4.w.heap.size)); (first | have f40 := zY3 w.heap.size x4.w.heap.size | have f40 := zY2 w.heap.size x4.w.heap.size | have f40 := zY1 w.heap.size x4.w.heap.size | skip); (first | have f41 := zY2 x1.w.heap.size x4.w.heap.size | have f41 := zY1 x1.w.heap.size x4.w.heap.size | skip); (first | have f42 := zY2 x2.w.heap.size x4.w.heap.size | have f42 := zY1 x2.w.heap.size x4.w.heap.size | skip); (first | have f43 := zY2 x3.w.heap.size x4.w.heap.size | have f43 := zY1 x3.w.heap.size x4.w.heap.size | skip)) | ((fail_if_success revert x5); obtain ⟨x5, rfl⟩ := after_of hb; clear hb; have hz5 := after_size x5; (try (simp only [zYA, zYD, zYC] at hz5)); (try (have f5gA := zY1 gA x5.w.heap.size)); (first | have f50 := zY3 w.heap.size x5.w.heap.size | have f50 := zY2 w.heap.size x5.w.heap.size | have f50 := zY1 w.heap.size x5.w.heap.size | skip); (first | have f51 := zY2 x1.w.heap.size x5.w.heap.size | have f51 := zY1 x1.w.heap.size x5.w.heap.size | skip); (first | have f52 := zY2 x2.w.heap.size x5.w.heap.size | have f52 := zY1 x2.w.heap.size x5.w.heap.size | skip); (first | have f53 := zY2 x3.w.heap.size x5.w.heap.size | have f53 := zY1 x3.w.heap.size x5.w.heap.size | skip); (first | have f54 := zY2 x4.w.heap.size x5.w.heap.size | have f54 := zY1 x4.w.heap.size x5.w.heap.size | skip)))
    go_wp2
    go_ret2
    refine ⟨v', by rw [Hm.out]; rfl, ?_, by (repeat (first | exact Below.refl _ _ | assumption | refine bel_alloc ?_ _ | refine bel_after _ ?_ | refine bel_drewN ?_ _ | refine bel_drew ?_ | refine bel_set ?_ (by first | omega | (simp only [zYA, zYD, zYC]; omega) | (simp; omega)) _))⟩
    rw [stBytes_yes Hm.out]
    exact own_lower Hown.out (by omega)

/-- What Get tells: the stamp, how many bytes, whether. -/
def stGet (bs : List UInt8) : Int × Int × Nat × Bool :=
  match getR bs with
  | some (n, u) => if stMay ((n : Int) / 8) ((n : Int) % 8) = true then (((n : Int) / 8), ((n : Int) % 8), u, true) else (0, 0, 0, false)
  | none => (0, 0, 0, false)
def StGetIs (bs : List UInt8) : Value := .tuple #[.agg #[.int .i64 (stGet bs).1, .int .i64 (stGet bs).2.1], .int .i64 ((stGet bs).2.2.1 : Int), .bool (stGet bs).2.2.2]
theorem stGet_none {bs : List UInt8} (h : getR bs = none) : stGet bs = (0, 0, 0, false) := by unfold stGet; rw [h]
theorem stGet_no {bs : List UInt8} {n u : Nat} (h : getR bs = some (n, u)) (k : stMay ((n : Int) / 8) ((n : Int) % 8) = false) : stGet bs = (0, 0, 0, false) := by unfold stGet; rw [h]; simp only; rw [if_neg (by rw [k]; simp)]
theorem stGet_yes {bs : List UInt8} {n u : Nat} (h : getR bs = some (n, u)) (k : stMay ((n : Int) / 8) ((n : Int) % 8) = true) : stGet bs = (((n : Int) / 8), ((n : Int) % 8), u, true) := by unfold stGet; rw [h]; simp only; rw [if_pos k]
theorem StGetIs.mk {bs : List UInt8} {a b c : Int} {d : Bool} {u : Nat} (h : stGet bs = (a, b, u, d)) (hc : c = (u : Int)) : Ending.returned (.tuple #[.agg #[.int .i64 a, .int .i64 b], .int .i64 c, .bool d]) = .returned (StGetIs bs) := by
  unfold StGetIs; rw [h, hc]

theorem and7 (n : Nat) (hn : n < 18446744073709551616) : wrap64 (bits BinOp.and IntKind.u64 (n : Int) 7) = ((n : Int) % 8) := by
  have := u64_and_nat n 7 hn (by omega)
  rw [nat_mask3] at this
  have e : bits BinOp.and IntKind.u64 (n : Int) 7 = ((n : Int) % 8) := by rw [show ((7 : Int)) = ((7 : Nat) : Int) from rfl, this]; omega
  rw [e]; unfold wrap64; omega

set_option maxRecDepth 100000 in
set_option maxHeartbeats 1600000 in
theorem stget_c (v : Value) (bs : List UInt8) (w : World) (hv : Byt w v bs) : Calls Tryz.prog 113 #[v] w fun e w' => e = .returned (StGetIs bs) ∧ Below w.heap.size w w' := by
  have hAc := @after_cell
  have hAf := @after_frozen
  have hSz := sz_facts
  cases hg : getR bs with
  | none =>
    have Hs := Lib.hid (stGet_none hg)
    have Hget := Lib.hid (fun o => get_no_c v bs (w.alloc o) (hv.alloc o) hg); clear hv hg
    go_enter Tryz.func113, Tryz.ntmps113
    go_wp2_with (first | (go_at_call 111; refine (Hget.out _).mono ?_; rintro e w' ⟨rfl, rfl⟩) | (go_at_call 96; (with_reducible refine (may_c _ _ _).mono ?_); rintro e w' ⟨rfl, hb⟩; (first | ((fail_if_success revert x1); obtain ⟨x1, rfl⟩ := after_of hb; clear hb; have hz1 := after_size x1; (try (simp only [zYA, zYD, zYC] at hz1)); (try (have f1gA := zY1 gA x1.w.heap.size)); (first | have f10 := zY3 w.heap.size x1.w.heap.size | have f10 := zY2 w.heap.size x1.w.heap.size | have f10 := zY1 w.heap.size x1.w.heap.size | skip)) | ((fail_if_success revert x2); obtain ⟨x2, rfl⟩ := after_of hb; clear hb; have hz2 := after_size x2; (try (simp only [zYA, zYD, zYC] at hz2)); (try (have f2gA := zY1 gA x2.w.heap.size)); (first | have f20 := zY3 w.heap.size x2.w.heap.size | have f20 := zY2 w.heap.size x2.w.heap.size | have f20 := zY1 w.heap.size x2.w.heap.size | skip); (first | have f21 := zY2 x1.w.heap.size x2.w.heap.size | have f21 := zY1 x1.w.heap.size x2.w.heap.size | skip)) | ((fail_if_success revert x3); obtain ⟨x3, rfl⟩ := after_of hb; clear hb; have hz3 := after_size x3; (try (simp only [zYA, zYD, zYC] at hz3)); (try (have f3gA := zY1 gA x3.w.heap.size)); (first | have f30 := zY3 w.heap.size x3.w.heap.size | have f30 := zY2 w.heap.size x3.w.heap.size | have f30 := zY1 w.heap.size x3.w.heap.size | skip); (first | have f31 := zY2 x1.w.heap.size x3.w.heap.size | have f31 := zY1 x1.w.heap.size x3.w.heap.size | skip); (first | have f32 := zY2 x2.w.heap.size x3.w.heap.size | have f32 := zY1 x2.w.heap.size x3.w.heap.size | skip)) | ((fail_if_success revert x4); obtain ⟨x4, rfl⟩ := after_of hb; clear hb; have hz4 := after_size x4; (try (simp only [zYA, zYD, zYC] at hz4)); (try (have f4gA := zY1 gA x4.w.heap.size)); (first | have f40 := zY3 w.heap.size x4.w.heap.size | have f40 := zY2 w.heap.size x4.w.heap.size | have f40 := zY1 w.heap.size x4.w.heap.size | skip); (first | have f41 := zY2 x1.w.heap.size x4.w.heap.size | have f41 := zY1 x1.w.heap.size x4.w.heap.size | skip); (first | have f42 := zY2 x2.w.heap.size x4.w.heap.size | have f42 := zY1 x2.w.heap.size x4.w.heap.size | skip); (first | have f43 := zY2 x3.w.heap.size x4.w.heap.size | have f43 := zY1 x3.w.heap.size x4.w.heap.size | skip)) | ((fail_if_success revert x5); obtain ⟨x5, rfl⟩ := after_of hb; clear hb; have hz5 := after_size x5; (try (simp only [zYA, zYD, zYC] at hz5)); (try (have f5gA := zY1 gA x5.w.heap.size)); (first | have f50 := zY3 w.heap.size x5.w.heap.size | have f50 := zY2 w.heap.size x5.w.heap.size | have f50 := zY1 w.heap.size x5.w.heap.size | skip); (first | have f51 := zY2 x1.w.heap.size x5.w.heap.size | have f51 := zY1 x1.w.heap.size x5.w.heap.size | skip); (first | have f52 := zY2 x2.w.heap.size x5.w.heap.size | have f52 := zY1 x2.w.heap.size x5.w.heap.size | skip); (first | have f53 := zY2 x3.w.heap.size x5.w.heap.size | have f53 := zY1 x3.w.heap.size x5.w.heap.size | skip); (first | have f54 := zY2 x4.w.heap.size x5.w.heap.size | have f54 := zY1 x4.w.heap.size x5.w.heap.size | skip)))))
    all_goals exact bodyPost_ret (v := .tuple #[.agg #[.int .i64 0, .int .i64 0], .int .i64 0, .bool false]) (by simp only [results, Tryz.results113]; go_simp) rfl ⟨StGetIs.mk (u := 0) Hs.out rfl, by (repeat (first | exact Below.refl _ _ | assumption | refine bel_alloc ?_ _ | refine bel_after _ ?_ | refine bel_drewN ?_ _ | refine bel_drew ?_ | refine bel_set ?_ (by first | omega | (simp only [zYA, zYD, zYC]; omega) | (simp; omega)) _))⟩
  | some q =>
    obtain ⟨n, u⟩ := q
    have hn := (getR_some hg).1
    have Ha := Lib.hid (and7 n hn)
    have Hget := Lib.hid (fun o => get_yes_c v bs n u (w.alloc o) (hv.alloc o) hg); clear hv
    cases hm : stMay ((n : Int) / 8) ((n : Int) % 8)
    · have Hs := Lib.hid (stGet_no hg hm)
      clear hg
      go_enter Tryz.func113, Tryz.ntmps113
      go_wp2_with (go_at_call 111; refine (Hget.out _).mono ?_; rintro e w' ⟨rfl, rfl⟩)
      simp only [Ha.out]
      go_wp2_with (go_at_call 96; (with_reducible refine (may_c _ _ _).mono ?_); rintro e w' ⟨rfl, hb⟩; (first | ((fail_if_success revert x1); obtain ⟨x1, rfl⟩ := after_of hb; clear hb; have hz1 := after_size x1; (try (simp only [zYA, zYD, zYC] at hz1)); (try (have f1gA := zY1 gA x1.w.heap.size)); (first | have f10 := zY3 w.heap.size x1.w.heap.size | have f10 := zY2 w.heap.size x1.w.heap.size | have f10 := zY1 w.heap.size x1.w.heap.size | skip)) | ((fail_if_success revert x2); obtain ⟨x2, rfl⟩ := after_of hb; clear hb; have hz2 := after_size x2; (try (simp only [zYA, zYD, zYC] at hz2)); (try (have f2gA := zY1 gA x2.w.heap.size)); (first | have f20 := zY3 w.heap.size x2.w.heap.size | have f20 := zY2 w.heap.size x2.w.heap.size | have f20 := zY1 w.heap.size x2.w.heap.size | skip); (first | have f21 := zY2 x1.w.heap.size x2.w.heap.size | have f21 := zY1 x1.w.heap.size x2.w.heap.size | skip)) | ((fail_if_success revert x3); obtain ⟨x3, rfl⟩ := after_of hb; clear hb; have hz3 := after_size x3; (try (simp only [zYA, zYD, zYC] at hz3)); (try (have f3gA := zY1 gA x3.w.heap.size)); (first | have f30 := zY3 w.heap.size x3.w.heap.size | have f30 := zY2 w.heap.size x3.w.heap.size | have f30 := zY1 w.heap.size x3.w.heap.size | skip); (first | have f31 := zY2 x1.w.heap.size x3.w.heap.size | have f31 := zY1 x1.w.heap.size x3.w.heap.size | skip); (first | have f32 := zY2 x2.w.heap.size x3.w.heap.size | have f32 := zY1 x2.w.heap.size x3.w.heap.size | skip)) | ((fail_if_success revert x4); obtain ⟨x4, rfl⟩ := after_of hb; clear hb; have hz4 := after_size x4; (try (simp only [zYA, zYD, zYC] at hz4)); (try (have f4gA := zY1 gA x4.w.heap.size)); (first | have f40 := zY3 w.heap.size x4.w.heap.size | have f40 := zY2 w.heap.size x4.w.heap.size | have f40 := zY1 w.heap.size x4.w.heap.size | skip); (first | have f41 := zY2 x1.w.heap.size x4.w.heap.size | have f41 := zY1 x1.w.heap.size x4.w.heap.size | skip); (first | have f42 := zY2 x2.w.heap.size x4.w.heap.size | have f42 := zY1 x2.w.heap.size x4.w.heap.size | skip); (first | have f43 := zY2 x3.w.heap.size x4.w.heap.size | have f43 := zY1 x3.w.heap.size x4.w.heap.size | skip)) | ((fail_if_success revert x5); obtain ⟨x5, rfl⟩ := after_of hb; clear hb; have hz5 := after_size x5; (try (simp only [zYA, zYD, zYC] at hz5)); (try (have f5gA := zY1 gA x5.w.heap.size)); (first | have f50 := zY3 w.heap.size x5.w.heap.size | have f50 := zY2 w.heap.size x5.w.heap.size | have f50 := zY1 w.heap.size x5.w.heap.size | skip); (first | have f51 := zY2 x1.w.heap.size x5.w.heap.size | have f51 := zY1 x1.w.heap.size x5.w.heap.size | skip); (first | have f52 := zY2 x2.w.heap.size x5.w.heap.size | have f52 := zY1 x2.w.heap.size x5.w.heap.size | skip); (first | have f53 := zY2 x3.w.heap.size x5.w.heap.size | have f53 := zY1 x3.w.heap.size x5.w.heap.size | skip); (first | have f54 := zY2 x4.w.heap.size x5.w.heap.size | have f54 := zY1 x4.w.heap.size x5.w.heap.size | skip))))
      all_goals exact bodyPost_ret (v := .tuple #[.agg #[.int .i64 0, .int .i64 0], .int .i64 0, .bool false]) (by simp only [results, Tryz.results113]; go_simp) rfl ⟨StGetIs.mk (u := 0) Hs.out rfl, by (repeat (first | exact Below.refl _ _ | assumption | refine bel_alloc ?_ _ | refine bel_after _ ?_ | refine bel_drewN ?_ _ | refine bel_drew ?_ | refine bel_set ?_ (by first | omega | (simp only [zYA, zYD, zYC]; omega) | (simp; omega)) _))⟩
    · have Hs := Lib.hid (stGet_yes hg hm)
      clear hg
      go_enter Tryz.func113, Tryz.ntmps113
      go_wp2_with (go_at_call 111; refine (Hget.out _).mono ?_; rintro e w' ⟨rfl, rfl⟩)
      simp only [Ha.out]
      go_wp2_with (go_at_call 96; (with_reducible refine (may_c _ _ _).mono ?_); rintro e w' ⟨rfl, hb⟩; (first | ((fail_if_success revert x1); obtain ⟨x1, rfl⟩ := after_of hb; clear hb; have hz1 := after_size x1; (try (simp only [zYA, zYD, zYC] at hz1)); (try (have f1gA := zY1 gA x1.w.heap.size)); (first | have f10 := zY3 w.heap.size x1.w.heap.size | have f10 := zY2 w.heap.size x1.w.heap.size | have f10 := zY1 w.heap.size x1.w.heap.size | skip)) | ((fail_if_success revert x2); obtain ⟨x2, rfl⟩ := after_of hb; clear hb; have hz2 := after_size x2; (try (simp only [zYA, zYD, zYC] at hz2)); (try (have f2gA := zY1 gA x2.w.heap.size)); (first | have f20 := zY3 w.heap.size x2.w.heap.size | have f20 := zY2 w.heap.size x2.w.heap.size | have f20 := zY1 w.heap.size x2.w.heap.size | skip); (first | have f21 := zY2 x1.w.heap.size x2.w.heap.size | have f21 := zY1 x1.w.heap.size x2.w.heap.size | skip)) | ((fail_if_success revert x3); obtain ⟨x3, rfl⟩ := after_of hb; clear hb; have hz3 := after_size x3; (try (simp only [zYA, zYD, zYC] at hz3)); (try (have f3gA := zY1 gA x3.w.heap.size)); (first | have f30 := zY3 w.heap.size x3.w.heap.size | have f30 := zY2 w.heap.size x3.w.heap.size | have f30 := zY1 w.heap.size x3.w.heap.size | skip); (first | have f31 := zY2 x1.w.heap.size x3.w.heap.size | have f31 := zY1 x1.w.heap.size x3.w.heap.size | skip); (first | have f32 := zY2 x2.w.heap.size x3.w.heap.size | have f32 := zY1 x2.w.heap.size x3.w.heap.size | skip)) | ((fail_if_success revert x4); obtain ⟨x4, rfl⟩ := after_of hb; clear hb; have hz4 := after_size x4; (try (simp only [zYA, zYD, zYC] at hz4)); (try (have f4gA := zY1 gA x4.w.heap.size)); (first | have f40 := zY3 w.heap.size x4.w.heap.size | have f40 := zY2 w.heap.size x4.w.heap.size | have f40 := zY1 w.heap.size x4.w.heap.size | skip); (first | have f41 := zY2 x1.w.heap.size x4.w.heap.size | have f41 := zY1 x1.w.heap.size x4.w.heap.size | skip); (first | have f42 := zY2 x2.w.heap.size x4.w.heap.size | have f42 := zY1 x2.w.heap.size x4.w.heap.size | skip); (first | have f43 := zY2 x3.w.heap.size x4.w.heap.size | have f43 := zY1 x3.w.heap.size x4.w.heap.size | skip)) | ((fail_if_success revert x5); obtain ⟨x5, rfl⟩ := after_of hb; clear hb; have hz5 := after_size x5; (try (simp only [zYA, zYD, zYC] at hz5)); (try (have f5gA := zY1 gA x5.w.heap.size)); (first | have f50 := zY3 w.heap.size x5.w.heap.size | have f50 := zY2 w.heap.size x5.w.heap.size | have f50 := zY1 w.heap.size x5.w.heap.size | skip); (first | have f51 := zY2 x1.w.heap.size x5.w.heap.size | have f51 := zY1 x1.w.heap.size x5.w.heap.size | skip); (first | have f52 := zY2 x2.w.heap.size x5.w.heap.size | have f52 := zY1 x2.w.heap.size x5.w.heap.size | skip); (first | have f53 := zY2 x3.w.heap.size x5.w.heap.size | have f53 := zY1 x3.w.heap.size x5.w.heap.size | skip); (first | have f54 := zY2 x4.w.heap.size x5.w.heap.size | have f54 := zY1 x4.w.heap.size x5.w.heap.size | skip))))
      all_goals exact bodyPost_ret (v := .tuple #[.agg #[.int .i64 ((n : Int) / 8), .int .i64 ((n : Int) % 8)], .int .i64 (u : Int), .bool true]) (by simp only [results, Tryz.results113]; go_simp) rfl ⟨StGetIs.mk Hs.out rfl, by (repeat (first | exact Below.refl _ _ | assumption | refine bel_alloc ?_ _ | refine bel_after _ ?_ | refine bel_drewN ?_ _ | refine bel_drew ?_ | refine bel_set ?_ (by first | omega | (simp only [zYA, zYD, zYC]; omega) | (simp; omega)) _))⟩


theorem stMay_big {n : Nat} (h : (8796093022216 : Int) ≤ (n : Int)) : stMay ((n : Int) / 8) ((n : Int) % 8) = false := by
  rw [Bool.eq_false_iff]; intro h'; have := stMay_le h'; omega
set_option maxRecDepth 100000 in
set_option maxHeartbeats 1600000 in
theorem rstget_c (v : Value) (bs : List UInt8) (w : World) (hv : Byt w v bs) : Calls Tryz.prog 115 #[v] w fun e w' => e = .returned (StGetIs bs) ∧ Below w.heap.size w w' := by
  have hAc := @after_cell
  have hAf := @after_frozen
  have hSz := sz_facts
  cases hg : getR bs with
  | none =>
    have Hs := Lib.hid (stGet_none hg)
    have Hget := Lib.hid (fun o => rget_no_c v bs (w.alloc o) (hv.alloc o) hg); clear hv hg
    go_enter Tryz.func115, Tryz.ntmps115
    go_wp2_with (first | (go_at_call 79; refine (Hget.out _).mono ?_; rintro e w' ⟨rfl, hb⟩; (first | ((fail_if_success revert x1); obtain ⟨x1, rfl⟩ := after_of hb; clear hb; have hz1 := after_size x1; (try (simp only [zYA, zYD, zYC] at hz1)); (try (have f1gA := zY1 gA x1.w.heap.size)); (first | have f10 := zY3 w.heap.size x1.w.heap.size | have f10 := zY2 w.heap.size x1.w.heap.size | have f10 := zY1 w.heap.size x1.w.heap.size | skip)) | ((fail_if_success revert x2); obtain ⟨x2, rfl⟩ := after_of hb; clear hb; have hz2 := after_size x2; (try (simp only [zYA, zYD, zYC] at hz2)); (try (have f2gA := zY1 gA x2.w.heap.size)); (first | have f20 := zY3 w.heap.size x2.w.heap.size | have f20 := zY2 w.heap.size x2.w.heap.size | have f20 := zY1 w.heap.size x2.w.heap.size | skip); (first | have f21 := zY2 x1.w.heap.size x2.w.heap.size | have f21 := zY1 x1.w.heap.size x2.w.heap.size | skip)) | ((fail_if_success revert x3); obtain ⟨x3, rfl⟩ := after_of hb; clear hb; have hz3 := after_size x3; (try (simp only [zYA, zYD, zYC] at hz3)); (try (have f3gA := zY1 gA x3.w.heap.size)); (first | have f30 := zY3 w.heap.size x3.w.heap.size | have f30 := zY2 w.heap.size x3.w.heap.size | have f30 := zY1 w.heap.size x3.w.heap.size | skip); (first | have f31 := zY2 x1.w.heap.size x3.w.heap.size | have f31 := zY1 x1.w.heap.size x3.w.heap.size | skip); (first | have f32 := zY2 x2.w.heap.size x3.w.heap.size | have f32 := zY1 x2.w.heap.size x3.w.heap.size | skip)) | ((fail_if_success revert x4); obtain ⟨x4, rfl⟩ := after_of hb; clear hb; have hz4 := after_size x4; (try (simp only [zYA, zYD, zYC] at hz4)); (try (have f4gA := zY1 gA x4.w.heap.size)); (first | have f40 := zY3 w.heap.size x4.w.heap.size | have f40 := zY2 w.heap.size x4.w.heap.size | have f40 := zY1 w.heap.size x4.w.heap.size | skip); (first | have f41 := zY2 x1.w.heap.size x4.w.heap.size | have f41 := zY1 x1.w.heap.size x4.w.heap.size | skip); (first | have f42 := zY2 x2.w.heap.size x4.w.heap.size | have f42 := zY1 x2.w.heap.size x4.w.heap.size | skip); (first | have f43 := zY2 x3.w.heap.size x4.w.heap.size | have f43 := zY1 x3.w.heap.size x4.w.heap.size | skip)) | ((fail_if_success revert x5); obtain ⟨x5, rfl⟩ := after_of hb; clear hb; have hz5 := after_size x5; (try (simp only [zYA, zYD, zYC] at hz5)); (try (have f5gA := zY1 gA x5.w.heap.size)); (first | have f50 := zY3 w.heap.size x5.w.heap.size | have f50 := zY2 w.heap.size x5.w.heap.size | have f50 := zY1 w.heap.size x5.w.heap.size | skip); (first | have f51 := zY2 x1.w.heap.size x5.w.heap.size | have f51 := zY1 x1.w.heap.size x5.w.heap.size | skip); (first | have f52 := zY2 x2.w.heap.size x5.w.heap.size | have f52 := zY1 x2.w.heap.size x5.w.heap.size | skip); (first | have f53 := zY2 x3.w.heap.size x5.w.heap.size | have f53 := zY1 x3.w.heap.size x5.w.heap.size | skip); (first | have f54 := zY2 x4.w.heap.size x5.w.heap.size | have f54 := zY1 x4.w.heap.size x5.w.heap.size | skip)))) | (go_at_call 93; (with_reducible refine (rmay_c _ _ _).mono ?_); rintro e w' ⟨rfl, hb⟩; (first | ((fail_if_success revert x1); obtain ⟨x1, rfl⟩ := after_of hb; clear hb; have hz1 := after_size x1; (try (simp only [zYA, zYD, zYC] at hz1)); (try (have f1gA := zY1 gA x1.w.heap.size)); (first | have f10 := zY3 w.heap.size x1.w.heap.size | have f10 := zY2 w.heap.size x1.w.heap.size | have f10 := zY1 w.heap.size x1.w.heap.size | skip)) | ((fail_if_success revert x2); obtain ⟨x2, rfl⟩ := after_of hb; clear hb; have hz2 := after_size x2; (try (simp only [zYA, zYD, zYC] at hz2)); (try (have f2gA := zY1 gA x2.w.heap.size)); (first | have f20 := zY3 w.heap.size x2.w.heap.size | have f20 := zY2 w.heap.size x2.w.heap.size | have f20 := zY1 w.heap.size x2.w.heap.size | skip); (first | have f21 := zY2 x1.w.heap.size x2.w.heap.size | have f21 := zY1 x1.w.heap.size x2.w.heap.size | skip)) | ((fail_if_success revert x3); obtain ⟨x3, rfl⟩ := after_of hb; clear hb; have hz3 := after_size x3; (try (simp only [zYA, zYD, zYC] at hz3)); (try (have f3gA := zY1 gA x3.w.heap.size)); (first | have f30 := zY3 w.heap.size x3.w.heap.size | have f30 := zY2 w.heap.size x3.w.heap.size | have f30 := zY1 w.heap.size x3.w.heap.size | skip); (first | have f31 := zY2 x1.w.heap.size x3.w.heap.size | have f31 := zY1 x1.w.heap.size x3.w.heap.size | skip); (first | have f32 := zY2 x2.w.heap.size x3.w.heap.size | have f32 := zY1 x2.w.heap.size x3.w.heap.size | skip)) | ((fail_if_success revert x4); obtain ⟨x4, rfl⟩ := after_of hb; clear hb; have hz4 := after_size x4; (try (simp only [zYA, zYD, zYC] at hz4)); (try (have f4gA := zY1 gA x4.w.heap.size)); (first | have f40 := zY3 w.heap.size x4.w.heap.size | have f40 := zY2 w.heap.size x4.w.heap.size | have f40 := zY1 w.heap.size x4.w.heap.size | skip); (first | have f41 := zY2 x1.w.heap.size x4.w.heap.size | have f41 := zY1 x1.w.heap.size x4.w.heap.size | skip); (first | have f42 := zY2 x2.w.heap.size x4.w.heap.size | have f42 := zY1 x2.w.heap.size x4.w.heap.size | skip); (first | have f43 := zY2 x3.w.heap.size x4.w.heap.size | have f43 := zY1 x3.w.heap.size x4.w.heap.size | skip)) | ((fail_if_success revert x5); obtain ⟨x5, rfl⟩ := after_of hb; clear hb; have hz5 := after_size x5; (try (simp only [zYA, zYD, zYC] at hz5)); (try (have f5gA := zY1 gA x5.w.heap.size)); (first | have f50 := zY3 w.heap.size x5.w.heap.size | have f50 := zY2 w.heap.size x5.w.heap.size | have f50 := zY1 w.heap.size x5.w.heap.size | skip); (first | have f51 := zY2 x1.w.heap.size x5.w.heap.size | have f51 := zY1 x1.w.heap.size x5.w.heap.size | skip); (first | have f52 := zY2 x2.w.heap.size x5.w.heap.size | have f52 := zY1 x2.w.heap.size x5.w.heap.size | skip); (first | have f53 := zY2 x3.w.heap.size x5.w.heap.size | have f53 := zY1 x3.w.heap.size x5.w.heap.size | skip); (first | have f54 := zY2 x4.w.heap.size x5.w.heap.size | have f54 := zY1 x4.w.heap.size x5.w.heap.size | skip)))))
    all_goals exact bodyPost_ret (v := .tuple #[.agg #[.int .i64 0, .int .i64 0], .int .i64 0, .bool false]) (by simp only [results, Tryz.results115]; go_simp) rfl ⟨StGetIs.mk (u := 0) Hs.out rfl, by (repeat (first | exact Below.refl _ _ | assumption | refine bel_alloc ?_ _ | refine bel_after _ ?_ | refine bel_drewN ?_ _ | refine bel_drew ?_ | refine bel_set ?_ (by first | omega | (simp only [zYA, zYD, zYC]; omega) | (simp; omega)) _))⟩
  | some q =>
    obtain ⟨n, u⟩ := q
    have Hget := Lib.hid (fun o => rget_yes_c v bs n u (w.alloc o) (hv.alloc o) hg); clear hv
    by_cases hbig : (8796093022216 : Int) ≤ (n : Int)
    · have Hs := Lib.hid (stGet_no hg (stMay_big hbig))
      clear hg
      go_enter Tryz.func115, Tryz.ntmps115
      go_wp2_with (first | (go_at_call 79; refine (Hget.out _).mono ?_; rintro e w' ⟨rfl, hb⟩; (first | ((fail_if_success revert x1); obtain ⟨x1, rfl⟩ := after_of hb; clear hb; have hz1 := after_size x1; (try (simp only [zYA, zYD, zYC] at hz1)); (try (have f1gA := zY1 gA x1.w.heap.size)); (first | have f10 := zY3 w.heap.size x1.w.heap.size | have f10 := zY2 w.heap.size x1.w.heap.size | have f10 := zY1 w.heap.size x1.w.heap.size | skip)) | ((fail_if_success revert x2); obtain ⟨x2, rfl⟩ := after_of hb; clear hb; have hz2 := after_size x2; (try (simp only [zYA, zYD, zYC] at hz2)); (try (have f2gA := zY1 gA x2.w.heap.size)); (first | have f20 := zY3 w.heap.size x2.w.heap.size | have f20 := zY2 w.heap.size x2.w.heap.size | have f20 := zY1 w.heap.size x2.w.heap.size | skip); (first | have f21 := zY2 x1.w.heap.size x2.w.heap.size | have f21 := zY1 x1.w.heap.size x2.w.heap.size | skip)) | ((fail_if_success revert x3); obtain ⟨x3, rfl⟩ := after_of hb; clear hb; have hz3 := after_size x3; (try (simp only [zYA, zYD, zYC] at hz3)); (try (have f3gA := zY1 gA x3.w.heap.size)); (first | have f30 := zY3 w.heap.size x3.w.heap.size | have f30 := zY2 w.heap.size x3.w.heap.size | have f30 := zY1 w.heap.size x3.w.heap.size | skip); (first | have f31 := zY2 x1.w.heap.size x3.w.heap.size | have f31 := zY1 x1.w.heap.size x3.w.heap.size | skip); (first | have f32 := zY2 x2.w.heap.size x3.w.heap.size | have f32 := zY1 x2.w.heap.size x3.w.heap.size | skip)) | ((fail_if_success revert x4); obtain ⟨x4, rfl⟩ := after_of hb; clear hb; have hz4 := after_size x4; (try (simp only [zYA, zYD, zYC] at hz4)); (try (have f4gA := zY1 gA x4.w.heap.size)); (first | have f40 := zY3 w.heap.size x4.w.heap.size | have f40 := zY2 w.heap.size x4.w.heap.size | have f40 := zY1 w.heap.size x4.w.heap.size | skip); (first | have f41 := zY2 x1.w.heap.size x4.w.heap.size | have f41 := zY1 x1.w.heap.size x4.w.heap.size | skip); (first | have f42 := zY2 x2.w.heap.size x4.w.heap.size | have f42 := zY1 x2.w.heap.size x4.w.heap.size | skip); (first | have f43 := zY2 x3.w.heap.size x4.w.heap.size | have f43 := zY1 x3.w.heap.size x4.w.heap.size | skip)) | ((fail_if_success revert x5); obtain ⟨x5, rfl⟩ := after_of hb; clear hb; have hz5 := after_size x5; (try (simp only [zYA, zYD, zYC] at hz5)); (try (have f5gA := zY1 gA x5.w.heap.size)); (first | have f50 := zY3 w.heap.size x5.w.heap.size | have f50 := zY2 w.heap.size x5.w.heap.size | have f50 := zY1 w.heap.size x5.w.heap.size | skip); (first | have f51 := zY2 x1.w.heap.size x5.w.heap.size | have f51 := zY1 x1.w.heap.size x5.w.heap.size | skip); (first | have f52 := zY2 x2.w.heap.size x5.w.heap.size | have f52 := zY1 x2.w.heap.size x5.w.heap.size | skip); (first | have f53 := zY2 x3.w.heap.size x5.w.heap.size | have f53 := zY1 x3.w.heap.size x5.w.heap.size | skip); (first | have f54 := zY2 x4.w.heap.size x5.w.heap.size | have f54 := zY1 x4.w.heap.size x5.w.heap.size | skip)))) | (go_at_call 93; (with_reducible refine (rmay_c _ _ _).mono ?_); rintro e w' ⟨rfl, hb⟩; (first | ((fail_if_success revert x1); obtain ⟨x1, rfl⟩ := after_of hb; clear hb; have hz1 := after_size x1; (try (simp only [zYA, zYD, zYC] at hz1)); (try (have f1gA := zY1 gA x1.w.heap.size)); (first | have f10 := zY3 w.heap.size x1.w.heap.size | have f10 := zY2 w.heap.size x1.w.heap.size | have f10 := zY1 w.heap.size x1.w.heap.size | skip)) | ((fail_if_success revert x2); obtain ⟨x2, rfl⟩ := after_of hb; clear hb; have hz2 := after_size x2; (try (simp only [zYA, zYD, zYC] at hz2)); (try (have f2gA := zY1 gA x2.w.heap.size)); (first | have f20 := zY3 w.heap.size x2.w.heap.size | have f20 := zY2 w.heap.size x2.w.heap.size | have f20 := zY1 w.heap.size x2.w.heap.size | skip); (first | have f21 := zY2 x1.w.heap.size x2.w.heap.size | have f21 := zY1 x1.w.heap.size x2.w.heap.size | skip)) | ((fail_if_success revert x3); obtain ⟨x3, rfl⟩ := after_of hb; clear hb; have hz3 := after_size x3; (try (simp only [zYA, zYD, zYC] at hz3)); (try (have f3gA := zY1 gA x3.w.heap.size)); (first | have f30 := zY3 w.heap.size x3.w.heap.size | have f30 := zY2 w.heap.size x3.w.heap.size | have f30 := zY1 w.heap.size x3.w.heap.size | skip); (first | have f31 := zY2 x1.w.heap.size x3.w.heap.size | have f31 := zY1 x1.w.heap.size x3.w.heap.size | skip); (first | have f32 := zY2 x2.w.heap.size x3.w.heap.size | have f32 := zY1 x2.w.heap.size x3.w.heap.size | skip)) | ((fail_if_success revert x4); obtain ⟨x4, rfl⟩ := after_of hb; clear hb; have hz4 := after_size x4; (try (simp only [zYA, zYD, zYC] at hz4)); (try (have f4gA := zY1 gA x4.w.heap.size)); (first | have f40 := zY3 w.heap.size x4.w.heap.size | have f40 := zY2 w.heap.size x4.w.heap.size | have f40 := zY1 w.heap.size x4.w.heap.size | skip); (first | have f41 := zY2 x1.w.heap.size x4.w.heap.size | have f41 := zY1 x1.w.heap.size x4.w.heap.size | skip); (first | have f42 := zY2 x2.w.heap.size x4.w.heap.size | have f42 := zY1 x2.w.heap.size x4.w.heap.size | skip); (first | have f43 := zY2 x3.w.heap.size x4.w.heap.size | have f43 := zY1 x3.w.heap.size x4.w.heap.size | skip)) | ((fail_if_success revert x5); obtain ⟨x5, rfl⟩ := after_of hb; clear hb; have hz5 := after_size x5; (try (simp only [zYA, zYD, zYC] at hz5)); (try (have f5gA := zY1 gA x5.w.heap.size)); (first | have f50 := zY3 w.heap.size x5.w.heap.size | have f50 := zY2 w.heap.size x5.w.heap.size | have f50 := zY1 w.heap.size x5.w.heap.size | skip); (first | have f51 := zY2 x1.w.heap.size x5.w.heap.size | have f51 := zY1 x1.w.heap.size x5.w.heap.size | skip); (first | have f52 := zY2 x2.w.heap.size x5.w.heap.size | have f52 := zY1 x2.w.heap.size x5.w.heap.size | skip); (first | have f53 := zY2 x3.w.heap.size x5.w.heap.size | have f53 := zY1 x3.w.heap.size x5.w.heap.size | skip); (first | have f54 := zY2 x4.w.heap.size x5.w.heap.size | have f54 := zY1 x4.w.heap.size x5.w.heap.size | skip)))))
      all_goals exact bodyPost_ret (v := .tuple #[.agg #[.int .i64 0, .int .i64 0], .int .i64 0, .bool false]) (by simp only [results, Tryz.results115]; go_simp) rfl ⟨StGetIs.mk (u := 0) Hs.out rfl, by (repeat (first | exact Below.refl _ _ | assumption | refine bel_alloc ?_ _ | refine bel_after _ ?_ | refine bel_drewN ?_ _ | refine bel_drew ?_ | refine bel_set ?_ (by first | omega | (simp only [zYA, zYD, zYC]; omega) | (simp; omega)) _))⟩
    · have hlt : (n : Int) < 8796093022216 := by omega
      have htest : decide ((8796093022216 : Int) ≤ (n : Int)) = false := by simpa using hbig
      have Hlt := Lib.hid hlt
      have Hw : Hid (wrap64 (IntKind.u64.wrap ((n : Int) / 8)) = (n : Int) / 8) := by rw [IntWalk.u64_in _ (by omega)]; unfold wrap64; exact Lib.hid (by omega)
      clear hbig hlt
      cases hm : stMay ((n : Int) / 8) ((n : Int) % 8)
      · have Hs := Lib.hid (stGet_no hg hm)
        clear hg
        go_enter Tryz.func115, Tryz.ntmps115
        go_wp2_with (go_at_call 79; refine (Hget.out _).mono ?_; rintro e w' ⟨rfl, hb⟩; (first | ((fail_if_success revert x1); obtain ⟨x1, rfl⟩ := after_of hb; clear hb; have hz1 := after_size x1; (try (simp only [zYA, zYD, zYC] at hz1)); (try (have f1gA := zY1 gA x1.w.heap.size)); (first | have f10 := zY3 w.heap.size x1.w.heap.size | have f10 := zY2 w.heap.size x1.w.heap.size | have f10 := zY1 w.heap.size x1.w.heap.size | skip)) | ((fail_if_success revert x2); obtain ⟨x2, rfl⟩ := after_of hb; clear hb; have hz2 := after_size x2; (try (simp only [zYA, zYD, zYC] at hz2)); (try (have f2gA := zY1 gA x2.w.heap.size)); (first | have f20 := zY3 w.heap.size x2.w.heap.size | have f20 := zY2 w.heap.size x2.w.heap.size | have f20 := zY1 w.heap.size x2.w.heap.size | skip); (first | have f21 := zY2 x1.w.heap.size x2.w.heap.size | have f21 := zY1 x1.w.heap.size x2.w.heap.size | skip)) | ((fail_if_success revert x3); obtain ⟨x3, rfl⟩ := after_of hb; clear hb; have hz3 := after_size x3; (try (simp only [zYA, zYD, zYC] at hz3)); (try (have f3gA := zY1 gA x3.w.heap.size)); (first | have f30 := zY3 w.heap.size x3.w.heap.size | have f30 := zY2 w.heap.size x3.w.heap.size | have f30 := zY1 w.heap.size x3.w.heap.size | skip); (first | have f31 := zY2 x1.w.heap.size x3.w.heap.size | have f31 := zY1 x1.w.heap.size x3.w.heap.size | skip); (first | have f32 := zY2 x2.w.heap.size x3.w.heap.size | have f32 := zY1 x2.w.heap.size x3.w.heap.size | skip)) | ((fail_if_success revert x4); obtain ⟨x4, rfl⟩ := after_of hb; clear hb; have hz4 := after_size x4; (try (simp only [zYA, zYD, zYC] at hz4)); (try (have f4gA := zY1 gA x4.w.heap.size)); (first | have f40 := zY3 w.heap.size x4.w.heap.size | have f40 := zY2 w.heap.size x4.w.heap.size | have f40 := zY1 w.heap.size x4.w.heap.size | skip); (first | have f41 := zY2 x1.w.heap.size x4.w.heap.size | have f41 := zY1 x1.w.heap.size x4.w.heap.size | skip); (first | have f42 := zY2 x2.w.heap.size x4.w.heap.size | have f42 := zY1 x2.w.heap.size x4.w.heap.size | skip); (first | have f43 := zY2 x3.w.heap.size x4.w.heap.size | have f43 := zY1 x3.w.heap.size x4.w.heap.size | skip)) | ((fail_if_success revert x5); obtain ⟨x5, rfl⟩ := after_of hb; clear hb; have hz5 := after_size x5; (try (simp only [zYA, zYD, zYC] at hz5)); (try (have f5gA := zY1 gA x5.w.heap.size)); (first | have f50 := zY3 w.heap.size x5.w.heap.size | have f50 := zY2 w.heap.size x5.w.heap.size | have f50 := zY1 w.heap.size x5.w.heap.size | skip); (first | have f51 := zY2 x1.w.heap.size x5.w.heap.size | have f51 := zY1 x1.w.heap.size x5.w.heap.size | skip); (first | have f52 := zY2 x2.w.heap.size x5.w.heap.size | have f52 := zY1 x2.w.heap.size x5.w.heap.size | skip); (first | have f53 := zY2 x3.w.heap.size x5.w.heap.size | have f53 := zY1 x3.w.heap.size x5.w.heap.size | skip); (first | have f54 := zY2 x4.w.heap.size x5.w.heap.size | have f54 := zY1 x4.w.heap.size x5.w.heap.size | skip))))
        simp only [Hw.out]
        go_wp2_with (go_at_call 93; (with_reducible refine (rmay_c _ _ _).mono ?_); rintro e w' ⟨rfl, hb⟩; (first | ((fail_if_success revert x1); obtain ⟨x1, rfl⟩ := after_of hb; clear hb; have hz1 := after_size x1; (try (simp only [zYA, zYD, zYC] at hz1)); (try (have f1gA := zY1 gA x1.w.heap.size)); (first | have f10 := zY3 w.heap.size x1.w.heap.size | have f10 := zY2 w.heap.size x1.w.heap.size | have f10 := zY1 w.heap.size x1.w.heap.size | skip)) | ((fail_if_success revert x2); obtain ⟨x2, rfl⟩ := after_of hb; clear hb; have hz2 := after_size x2; (try (simp only [zYA, zYD, zYC] at hz2)); (try (have f2gA := zY1 gA x2.w.heap.size)); (first | have f20 := zY3 w.heap.size x2.w.heap.size | have f20 := zY2 w.heap.size x2.w.heap.size | have f20 := zY1 w.heap.size x2.w.heap.size | skip); (first | have f21 := zY2 x1.w.heap.size x2.w.heap.size | have f21 := zY1 x1.w.heap.size x2.w.heap.size | skip)) | ((fail_if_success revert x3); obtain ⟨x3, rfl⟩ := after_of hb; clear hb; have hz3 := after_size x3; (try (simp only [zYA, zYD, zYC] at hz3)); (try (have f3gA := zY1 gA x3.w.heap.size)); (first | have f30 := zY3 w.heap.size x3.w.heap.size | have f30 := zY2 w.heap.size x3.w.heap.size | have f30 := zY1 w.heap.size x3.w.heap.size | skip); (first | have f31 := zY2 x1.w.heap.size x3.w.heap.size | have f31 := zY1 x1.w.heap.size x3.w.heap.size | skip); (first | have f32 := zY2 x2.w.heap.size x3.w.heap.size | have f32 := zY1 x2.w.heap.size x3.w.heap.size | skip)) | ((fail_if_success revert x4); obtain ⟨x4, rfl⟩ := after_of hb; clear hb; have hz4 := after_size x4; (try (simp only [zYA, zYD, zYC] at hz4)); (try (have f4gA := zY1 gA x4.w.heap.size)); (first | have f40 := zY3 w.heap.size x4.w.heap.size | have f40 := zY2 w.heap.size x4.w.heap.size | have f40 := zY1 w.heap.size x4.w.heap.size | skip); (first | have f41 := zY2 x1.w.heap.size x4.w.heap.size | have f41 := zY1 x1.w.heap.size x4.w.heap.size | skip); (first | have f42 := zY2 x2.w.heap.size x4.w.heap.size | have f42 := zY1 x2.w.heap.size x4.w.heap.size | skip); (first | have f43 := zY2 x3.w.heap.size x4.w.heap.size | have f43 := zY1 x3.w.heap.size x4.w.heap.size | skip)) | ((fail_if_success revert x5); obtain ⟨x5, rfl⟩ := after_of hb; clear hb; have hz5 := after_size x5; (try (simp only [zYA, zYD, zYC] at hz5)); (try (have f5gA := zY1 gA x5.w.heap.size)); (first | have f50 := zY3 w.heap.size x5.w.heap.size | have f50 := zY2 w.heap.size x5.w.heap.size | have f50 := zY1 w.heap.size x5.w.heap.size | skip); (first | have f51 := zY2 x1.w.heap.size x5.w.heap.size | have f51 := zY1 x1.w.heap.size x5.w.heap.size | skip); (first | have f52 := zY2 x2.w.heap.size x5.w.heap.size | have f52 := zY1 x2.w.heap.size x5.w.heap.size | skip); (first | have f53 := zY2 x3.w.heap.size x5.w.heap.size | have f53 := zY1 x3.w.heap.size x5.w.heap.size | skip); (first | have f54 := zY2 x4.w.heap.size x5.w.heap.size | have f54 := zY1 x4.w.heap.size x5.w.heap.size | skip))))
        all_goals exact bodyPost_ret (v := .tuple #[.agg #[.int .i64 0, .int .i64 0], .int .i64 0, .bool false]) (by simp only [results, Tryz.results115]; go_simp) rfl ⟨StGetIs.mk (u := 0) Hs.out rfl, by (repeat (first | exact Below.refl _ _ | assumption | refine bel_alloc ?_ _ | refine bel_after _ ?_ | refine bel_drewN ?_ _ | refine bel_drew ?_ | refine bel_set ?_ (by first | omega | (simp only [zYA, zYD, zYC]; omega) | (simp; omega)) _))⟩
      · have Hs := Lib.hid (stGet_yes hg hm)
        clear hg
        go_enter Tryz.func115, Tryz.ntmps115
        go_wp2_with (go_at_call 79; refine (Hget.out _).mono ?_; rintro e w' ⟨rfl, hb⟩; (first | ((fail_if_success revert x1); obtain ⟨x1, rfl⟩ := after_of hb; clear hb; have hz1 := after_size x1; (try (simp only [zYA, zYD, zYC] at hz1)); (try (have f1gA := zY1 gA x1.w.heap.size)); (first | have f10 := zY3 w.heap.size x1.w.heap.size | have f10 := zY2 w.heap.size x1.w.heap.size | have f10 := zY1 w.heap.size x1.w.heap.size | skip)) | ((fail_if_success revert x2); obtain ⟨x2, rfl⟩ := after_of hb; clear hb; have hz2 := after_size x2; (try (simp only [zYA, zYD, zYC] at hz2)); (try (have f2gA := zY1 gA x2.w.heap.size)); (first | have f20 := zY3 w.heap.size x2.w.heap.size | have f20 := zY2 w.heap.size x2.w.heap.size | have f20 := zY1 w.heap.size x2.w.heap.size | skip); (first | have f21 := zY2 x1.w.heap.size x2.w.heap.size | have f21 := zY1 x1.w.heap.size x2.w.heap.size | skip)) | ((fail_if_success revert x3); obtain ⟨x3, rfl⟩ := after_of hb; clear hb; have hz3 := after_size x3; (try (simp only [zYA, zYD, zYC] at hz3)); (try (have f3gA := zY1 gA x3.w.heap.size)); (first | have f30 := zY3 w.heap.size x3.w.heap.size | have f30 := zY2 w.heap.size x3.w.heap.size | have f30 := zY1 w.heap.size x3.w.heap.size | skip); (first | have f31 := zY2 x1.w.heap.size x3.w.heap.size | have f31 := zY1 x1.w.heap.size x3.w.heap.size | skip); (first | have f32 := zY2 x2.w.heap.size x3.w.heap.size | have f32 := zY1 x2.w.heap.size x3.w.heap.size | skip)) | ((fail_if_success revert x4); obtain ⟨x4, rfl⟩ := after_of hb; clear hb; have hz4 := after_size x4; (try (simp only [zYA, zYD, zYC] at hz4)); (try (have f4gA := zY1 gA x4.w.heap.size)); (first | have f40 := zY3 w.heap.size x4.w.heap.size | have f40 := zY2 w.heap.size x4.w.heap.size | have f40 := zY1 w.heap.size x4.w.heap.size | skip); (first | have f41 := zY2 x1.w.heap.size x4.w.heap.size | have f41 := zY1 x1.w.heap.size x4.w.heap.size | skip); (first | have f42 := zY2 x2.w.heap.size x4.w.heap.size | have f42 := zY1 x2.w.heap.size x4.w.heap.size | skip); (first | have f43 := zY2 x3.w.heap.size x4.w.heap.size | have f43 := zY1 x3.w.heap.size x4.w.heap.size | skip)) | ((fail_if_success revert x5); obtain ⟨x5, rfl⟩ := after_of hb; clear hb; have hz5 := after_size x5; (try (simp only [zYA, zYD, zYC] at hz5)); (try (have f5gA := zY1 gA x5.w.heap.size)); (first | have f50 := zY3 w.heap.size x5.w.heap.size | have f50 := zY2 w.heap.size x5.w.heap.size | have f50 := zY1 w.heap.size x5.w.heap.size | skip); (first | have f51 := zY2 x1.w.heap.size x5.w.heap.size | have f51 := zY1 x1.w.heap.size x5.w.heap.size | skip); (first | have f52 := zY2 x2.w.heap.size x5.w.heap.size | have f52 := zY1 x2.w.heap.size x5.w.heap.size | skip); (first | have f53 := zY2 x3.w.heap.size x5.w.heap.size | have f53 := zY1 x3.w.heap.size x5.w.heap.size | skip); (first | have f54 := zY2 x4.w.heap.size x5.w.heap.size | have f54 := zY1 x4.w.heap.size x5.w.heap.size | skip))))
        simp only [Hw.out]
        go_wp2_with (go_at_call 93; (with_reducible refine (rmay_c _ _ _).mono ?_); rintro e w' ⟨rfl, hb⟩; (first | ((fail_if_success revert x1); obtain ⟨x1, rfl⟩ := after_of hb; clear hb; have hz1 := after_size x1; (try (simp only [zYA, zYD, zYC] at hz1)); (try (have f1gA := zY1 gA x1.w.heap.size)); (first | have f10 := zY3 w.heap.size x1.w.heap.size | have f10 := zY2 w.heap.size x1.w.heap.size | have f10 := zY1 w.heap.size x1.w.heap.size | skip)) | ((fail_if_success revert x2); obtain ⟨x2, rfl⟩ := after_of hb; clear hb; have hz2 := after_size x2; (try (simp only [zYA, zYD, zYC] at hz2)); (try (have f2gA := zY1 gA x2.w.heap.size)); (first | have f20 := zY3 w.heap.size x2.w.heap.size | have f20 := zY2 w.heap.size x2.w.heap.size | have f20 := zY1 w.heap.size x2.w.heap.size | skip); (first | have f21 := zY2 x1.w.heap.size x2.w.heap.size | have f21 := zY1 x1.w.heap.size x2.w.heap.size | skip)) | ((fail_if_success revert x3); obtain ⟨x3, rfl⟩ := after_of hb; clear hb; have hz3 := after_size x3; (try (simp only [zYA, zYD, zYC] at hz3)); (try (have f3gA := zY1 gA x3.w.heap.size)); (first | have f30 := zY3 w.heap.size x3.w.heap.size | have f30 := zY2 w.heap.size x3.w.heap.size | have f30 := zY1 w.heap.size x3.w.heap.size | skip); (first | have f31 := zY2 x1.w.heap.size x3.w.heap.size | have f31 := zY1 x1.w.heap.size x3.w.heap.size | skip); (first | have f32 := zY2 x2.w.heap.size x3.w.heap.size | have f32 := zY1 x2.w.heap.size x3.w.heap.size | skip)) | ((fail_if_success revert x4); obtain ⟨x4, rfl⟩ := after_of hb; clear hb; have hz4 := after_size x4; (try (simp only [zYA, zYD, zYC] at hz4)); (try (have f4gA := zY1 gA x4.w.heap.size)); (first | have f40 := zY3 w.heap.size x4.w.heap.size | have f40 := zY2 w.heap.size x4.w.heap.size | have f40 := zY1 w.heap.size x4.w.heap.size | skip); (first | have f41 := zY2 x1.w.heap.size x4.w.heap.size | have f41 := zY1 x1.w.heap.size x4.w.heap.size | skip); (first | have f42 := zY2 x2.w.heap.size x4.w.heap.size | have f42 := zY1 x2.w.heap.size x4.w.heap.size | skip); (first | have f43 := zY2 x3.w.heap.size x4.w.heap.size | have f43 := zY1 x3.w.heap.size x4.w.heap.size | skip)) | ((fail_if_success revert x5); obtain ⟨x5, rfl⟩ := after_of hb; clear hb; have hz5 := after_size x5; (try (simp only [zYA, zYD, zYC] at hz5)); (try (have f5gA := zY1 gA x5.w.heap.size)); (first | have f50 := zY3 w.heap.size x5.w.heap.size | have f50 := zY2 w.heap.size x5.w.heap.size | have f50 := zY1 w.heap.size x5.w.heap.size | skip); (first | have f51 := zY2 x1.w.heap.size x5.w.heap.size | have f51 := zY1 x1.w.heap.size x5.w.heap.size | skip); (first | have f52 := zY2 x2.w.heap.size x5.w.heap.size | have f52 := zY1 x2.w.heap.size x5.w.heap.size | skip); (first | have f53 := zY2 x3.w.heap.size x5.w.heap.size | have f53 := zY1 x3.w.heap.size x5.w.heap.size | skip); (first | have f54 := zY2 x4.w.heap.size x5.w.heap.size | have f54 := zY1 x4.w.heap.size x5.w.heap.size | skip))))
        all_goals exact bodyPost_ret (v := .tuple #[.agg #[.int .i64 ((n : Int) / 8), .int .i64 ((n : Int) % 8)], .int .i64 (u : Int), .bool true]) (by simp only [results, Tryz.results115]; go_simp) rfl ⟨StGetIs.mk Hs.out rfl, by (repeat (first | exact Below.refl _ _ | assumption | refine bel_alloc ?_ _ | refine bel_after _ ?_ | refine bel_drewN ?_ _ | refine bel_drew ?_ | refine bel_set ?_ (by first | omega | (simp only [zYA, zYD, zYC]; omega) | (simp; omega)) _))⟩

end Go.Proofs.YtolbmemogoojhaaGreat
/- An argument that reads as data, opened: stamps, numbers, bytes. -/
namespace Go.Proofs.YtolbmemogoojhaaGreat
set_option maxRecDepth 100000
open Go Go.RowKit Go.ChangeShapes Go.WideShapes Go.ChangeAt
set_option linter.unusedVariables false
set_option linter.unusedSimpArgs false

section
variable {H : Type} {enc : TypeId × Value → H} {P : Program} {w : World} {base : Nat} {spare : Nat → Bool} {held : Bool}

theorem mapM_all {α β : Type} {f : α → Option β} : ∀ {l : List α} {ys : List β}, l.mapM f = some ys → ∀ a ∈ l, ∃ y, f a = some y
  | [], _, _, a, ha => by cases ha
  | b :: l, ys, h, a, ha => by
    rw [List.mapM_cons] at h
    cases hb : f b with
    | none => rw [hb] at h; cases h
    | some y =>
      rw [hb] at h
      cases hl : l.mapM f with
      | none => rw [hl] at h; cases h
      | some zs =>
        rcases List.mem_cons.1 ha with rfl | ha
        · exact ⟨y, hb⟩
        · exact mapM_all hl a ha

/-- Some reading of so many cells at a type. -/
def Rd (enc : TypeId × Value → H) (P : Program) (w : World) (base : Nat) (spare : Nat → Bool) (held : Bool) (t : TypeId) (cs : List Value) : Prop := ∃ n x, DataW.trod enc P w base spare held n t cs = some x

theorem Rd.struct {t : TypeId} {fs : Array Field} {cs : List Value} (hs : P.underlying t = some (.struct fs)) (h : Rd enc P w base spare held t cs) :
    cs.length = P.cellsOf t ∧ ∀ f ∈ fs.toList, Rd enc P w base spare held f.type ((cs.drop f.offset).take (P.cellsOf f.type)) := by
  obtain ⟨n, x, h⟩ := h
  cases n with
  | zero => simp [DataW.trod] at h
  | succ n =>
    unfold DataW.trod at h
    simp only [hs] at h
    split at h
    · rename_i hl
      refine ⟨hl, fun f hf => ?_⟩
      obtain ⟨ys, hy, _⟩ := Option.map_eq_some_iff.1 h
      obtain ⟨y, hy⟩ := mapM_all hy f hf
      exact ⟨n, y, hy⟩
    · cases h
theorem Rd.array {t e : TypeId} {m : Nat} {cs : List Value} (hs : P.underlying t = some (.array m e)) (h : Rd enc P w base spare held t cs) :
    cs.length = P.cellsOf t ∧ ∀ i, i < m → Rd enc P w base spare held e ((cs.drop (i * P.cellsOf e)).take (P.cellsOf e)) := by
  obtain ⟨n, x, h⟩ := h
  cases n with
  | zero => simp [DataW.trod] at h
  | succ n =>
    unfold DataW.trod at h
    simp only [hs] at h
    split at h
    · rename_i hl
      refine ⟨hl, fun i hi => ?_⟩
      obtain ⟨ys, hy, _⟩ := Option.map_eq_some_iff.1 h
      obtain ⟨y, hy⟩ := mapM_all hy i (List.mem_range.2 hi)
      exact ⟨n, y, hy⟩
    · cases h
theorem Rd.int {t : TypeId} {k : IntKind} {cs : List Value} (ht : P.underlying t = some (.int k)) (h : Rd enc P w base spare held t cs) : ∃ n, cs = [.int k n] ∧ (Lit.int k n).wf = true := by
  obtain ⟨m, x, h⟩ := h
  obtain ⟨n, h1, _, h2⟩ := DataW.trod_int ht h
  exact ⟨n, h1, h2⟩
theorem Rd.str {t : TypeId} {cs : List Value} (ht : P.underlying t = some .string) (h : Rd enc P w base spare held t cs) : ∃ s : ByteArray, cs = [.string s] ∧ s.size ≤ maxLen := by
  obtain ⟨m, x, h⟩ := h
  obtain ⟨s, h1, _, h2⟩ := DataW.trod_string ht h
  exact ⟨s, h1, h2⟩
/-- A slice: its value, and what each element reads. -/
theorem Rd.slice {t e : TypeId} {cs : List Value} (hs : P.underlying t = some (.slice e)) (h : Rd enc P w base spare held t cs) :
    cs = [.slice none 0 0] ∨ ∃ a len cap, cs = [.slice (some a) len cap] ∧ len ≤ cap ∧ cap ≤ maxLen ∧ ∀ i, i < len → ∃ es, w.cells? base (a.add (i * P.cellsOf e)) (P.cellsOf e) = some es ∧ Rd enc P w base spare held e es := by
  obtain ⟨m, x, h⟩ := h
  rcases DataW.trod_slice hs h with ⟨h0, _⟩ | ⟨a, len, cap, elems, rest, n, _, rfl, _, hb, hl, hm, hlen, hel, _, _⟩
  · exact .inl h0
  · refine .inr ⟨a, len, cap, rfl, hl, hm, fun i hi => ?_⟩
    have h1 := hel i hi
    rw [List.getElem?_eq_getElem (by rw [hlen]; exact hi)] at h1
    obtain ⟨es, h2, h3⟩ := Option.bind_eq_some_iff.1 h1
    exact ⟨es, h2, n, _, h3⟩

theorem cell_spot {a : Addr} {u : Value} (h : w.cell? a = some u) : a.spot = none := by
  unfold World.cell? at h
  split at h
  · split at h
    · cases h
    · rename_i hs; simpa using hs
  · cases h

theorem add_add (a : Addr) (k m : Nat) : (a.add k).add m = a.add (k + m) := by
  unfold Addr.add
  by_cases hk : k = 0
  · subst hk; simp
  · by_cases hm : m = 0
    · subst hm; simp [hk]
    · simp [hk, hm]; omega
/-- A row, element by element. -/
theorem rd_cells {t : TypeId} {s : Nat} {a : Addr} (hs0 : 0 < s) : ∀ (len : Nat), (∀ i, i < len → ∃ es, w.cells? base (a.add (i * s)) s = some es ∧ Rd enc P w base spare held t es) →
    ∃ cs : List Value, cs.length = len * s ∧ (∀ j u, cs[j]? = some u → w.cell? (a.add j) = some u) ∧ ∀ i, i < len → Rd enc P w base spare held t ((cs.drop (i * s)).take s)
  | 0, _ => ⟨[], by simp, by simp, fun i hi => absurd hi (Nat.not_lt_zero _)⟩
  | len + 1, h => by
    obtain ⟨cs, h1, h2, h3⟩ := rd_cells hs0 len fun i hi => h i (by omega)
    obtain ⟨es, h4, h5⟩ := h len (by omega)
    obtain ⟨_, hl, hc⟩ := World.cells?_some h4
    refine ⟨cs ++ es, by rw [List.length_append, h1, hl, Nat.succ_mul], fun j u hj => ?_, fun i hi => ?_⟩
    · rw [List.getElem?_append] at hj
      split at hj
      · exact h2 j u hj
      · rename_i hge
        have hjl : j - cs.length < s := by rw [← hl]; exact (List.getElem?_eq_some_iff.1 hj).1
        have h6 := hc (j - cs.length) hjl
        rw [hj, add_add, h1, show len * s + (j - len * s) = j by rw [h1] at hge; omega] at h6
        exact h6
    · rcases Nat.lt_or_ge i len with hlt | hge
      · have := h3 i hlt
        have hb : i * s + s ≤ cs.length := by rw [h1, ← Nat.succ_mul]; exact Nat.mul_le_mul_right _ hlt
        rw [List.drop_append_of_le_length (by omega), List.take_append_of_le_length (by rw [List.length_drop]; omega)]
        exact this
      · have : i = len := by omega
        subst this
        rw [List.drop_append, h1]
        simp only [Nat.sub_self, List.drop_zero]
        rw [List.drop_of_length_le (by omega), List.nil_append, List.take_of_length_le (by omega)]
        exact h5

/-- A slice that reads: a row, and each element reads. -/
theorem Rd.row {t e : TypeId} {s : Nat} {cs : List Value} (ht : P.underlying t = some (.slice e)) (hs : P.cellsOf e = s) (hs0 : 0 < s) (h : Rd enc P w base spare held t cs) :
    ∃ v n es, cs = [v] ∧ Row w s v n es ∧ ∀ i, i < n → Rd enc P w base spare held e ((es.drop (i * s)).take s) := by
  rcases h.slice ht with rfl | ⟨a, len, cap, rfl, h1, h2, h3⟩
  · exact ⟨_, 0, [], rfl, Row.nil w s, fun i hi => absurd hi (Nat.not_lt_zero _)⟩
  · rw [hs] at h3
    obtain ⟨es, k1, k2, k3⟩ := rd_cells hs0 len h3
    refine ⟨_, len, es, rfl, ⟨k1, some a, cap, rfl, h1, h2, (fun h => by cases h), fun hp => ?_⟩, k3⟩
    have h0 := k2 0 _ (List.getElem?_eq_getElem hp)
    have hsp : a.spot = none := by have := cell_spot h0; simpa [Addr.add] using this
    obtain ⟨b, off, sp⟩ := a
    simp only at hsp
    subst hsp
    exact ⟨b, off, rfl, fun j u hj => by have := k2 j u hj; rwa [Addr.add_lit] at this⟩
end

/-! The arguments' types -/
section
variable {H : Type} {enc : TypeId × Value → H} {w : World} {base base' : Nat} {spare : Nat → Bool} {held : Bool}
theorem Rd.of_Trod {P : Program} {t : TypeId} {v : Value} {d : DataW H} {p : List MemPlace} (h : DataW.Trod enc P w base spare held t v d p) : Rd enc P w base spare held t v.cells.toList := by
  obtain ⟨n, h⟩ := h; exact ⟨n, _, h⟩
def I64 (n : Int) : Prop := -9223372036854775808 ≤ n ∧ n ≤ 9223372036854775807
theorem i64_of {n : Int} (h : (Lit.int .i64 n).wf = true) : I64 n := by
  simp only [Lit.wf, Bool.and_eq_true, decide_eq_true_eq] at h
  exact h
theorem cells_int : Tryz.prog.cellsOf 3 = 1 := by kernel_rfl
theorem rd_stamp {cs : List Value} (h : Rd enc Tryz.prog w base spare held 30 cs) : ∃ N R, cs = [.int .i64 N, .int .i64 R] ∧ I64 N ∧ I64 R := by
  obtain ⟨hl, hf⟩ := h.struct Tryz.underlying30
  have hl2 : cs.length = 2 := hl.trans (by kernel_rfl)
  match cs, hl2 with
  | [c0, c1], _ =>
    simp only [List.mem_cons, List.not_mem_nil, or_false, forall_eq_or_imp, forall_eq] at hf
    rw [cells_int] at hf
    obtain ⟨N, h1, w1⟩ := hf.1.int Tryz.underlying3
    obtain ⟨R, h2, w2⟩ := hf.2.int Tryz.underlying3
    simp at h1 h2
    exact ⟨N, R, by rw [h1, h2], i64_of w1, i64_of w2⟩

theorem u8_nat {n : Int} (h : (Lit.int .u8 n).wf = true) : ∃ c : UInt8, n = (c.toNat : Int) := by
  simp only [Lit.wf, Bool.and_eq_true, decide_eq_true_eq] at h
  have h1 : (0 : Int) ≤ n := h.1
  have h2 : n ≤ 255 := h.2
  exact ⟨UInt8.ofNat n.toNat, by simp; omega⟩
theorem rd_u8s : ∀ (n : Nat) (es : List Value), es.length = n → (∀ i, i < n → Rd enc Tryz.prog w base spare held 5 ((es.drop i).take 1)) → ∃ bs : List UInt8, es = encU bs
  | 0, es, hl, _ => ⟨[], by rw [List.eq_nil_of_length_eq_zero hl]; rfl⟩
  | n + 1, e :: es, hl, h => by
    have h0 := h 0 (by omega)
    simp only [List.drop_zero, List.take_succ_cons, List.take_zero] at h0
    obtain ⟨x, hx, hw⟩ := h0.int Tryz.underlying5
    obtain ⟨c, rfl⟩ := u8_nat hw
    obtain ⟨bs, rfl⟩ := rd_u8s n es (by simpa using hl) fun i hi => by have := h (i + 1) (by omega); simpa using this
    simp at hx
    exact ⟨c :: bs, by rw [hx]; rfl⟩

theorem open_bytes {r : Reach} {v : Value} {d : DataW H} {p : List MemPlace} (h : DataW.Trod enc Tryz.prog w base spare held 58 v d p) (hv : Value.okWide Tryz.prog w r base' 58 v) : ∃ bs, Byt w v bs := by
  obtain ⟨a, len, cap, rfl⟩ := okWide_slice Tryz.underlying58 hv
  obtain ⟨v', n, es, h1, h2, h3⟩ := (Rd.of_Trod h).row (s := 1) Tryz.underlying58 (by kernel_rfl) (by omega)
  simp [Value.cells] at h1
  subst h1
  have hl : es.length = n := by have := h2.1; omega
  obtain ⟨bs, rfl⟩ := rd_u8s n es hl fun i hi => by have := h3 i hi; simpa using this
  rw [encU_length] at hl
  subst hl
  exact ⟨bs, h2⟩

end
end Go.Proofs.YtolbmemogoojhaaGreat
/- Arrays in blocks of their own: made, built, stored and read as a whole, with the array a letter. No program. -/
namespace Go.Proofs.YtolbmemogoojhaaGreat
open Go Go.RowKit Go.Deep
set_option linter.unusedVariables false
set_option linter.unusedSimpArgs false

/-- Turned at no old block but b. -/
structure But (b : Nat) (w w' : World) : Prop where
  os : w'.os = w.os
  tape : w'.tape = w.tape
  output : w'.output = w.output
  size : w.heap.size ≤ w'.heap.size
  block : ∀ k, k < w.heap.size → k ≠ b → w'.heap[k]? = w.heap[k]?
theorem But.refl (b : Nat) (w : World) : But b w w := ⟨rfl, rfl, rfl, Nat.le_refl _, fun _ _ _ => rfl⟩
theorem But.trans {b : Nat} {u v w : World} (h : But b u v) (k : But b v w) : But b u w :=
  ⟨k.os.trans h.os, k.tape.trans h.tape, k.output.trans h.output, Nat.le_trans h.size k.size, fun i hi hb => (k.block i (Nat.lt_of_lt_of_le hi h.size) hb).trans (h.block i hi hb)⟩
theorem But.of_below {b : Nat} {w w' : World} (h : Below w.heap.size w w') : But b w w' := ⟨h.os, h.tape, h.output, h.size, fun k hk _ => h.block k hk⟩
theorem But.below {b B : Nat} {w w' : World} (h : But b w w') (h1 : B ≤ b) (h2 : B ≤ w.heap.size) : Below B w w' := ⟨h.os, h.tape, h.output, h.size, fun k hk => h.block k (by omega) (by omega)⟩
theorem But.drew {b : Nat} {w w' : World} (h : But b w w') : But b w w'.drew := ⟨h.os, h.tape, h.output, h.size, h.block⟩
theorem But.set {b : Nat} {w w' : World} (h : But b w w') (o : Nat) (u : Value) : But b w (w'.setCell ⟨b, o, none⟩ u) :=
  ⟨h.os, h.tape, h.output, by simpa using h.size, fun k hk hb => (Below.heap_setCell _ _ _ _ (by simpa using hb)).trans (h.block k hk hb)⟩
theorem But.alloc {b : Nat} {w w' : World} (h : But b w w') (o : Obj) : But b w (w'.alloc o) := h.trans (But.of_below (bel_alloc (Below.refl _ _) o))
theorem But.after {b : Nat} {w w' : World} (h : But b w w') (x : After w') : But b w x.w := h.trans (But.of_below x.h)
theorem But.cell {b : Nat} {w w' : World} (h : But b w w') {p : Addr} (h1 : p.block < w.heap.size) (h2 : p.block ≠ b) : w'.cell? p = w.cell? p := World.cell?_of_block (w := w) (h.block p.block h1 h2)
theorem But.setRow {b : Nat} {w w' : World} (h : But b w w') (cs : Array Value) : But b w (w'.setRow b cs) :=
  ⟨h.os, h.tape, h.output, by simpa using h.size, fun k hk hb => (setRow_other _ _ _ _ hb).trans (h.block k hk hb)⟩

/-- Block b holds just these cells. -/
def Blk (w : World) (b : Nat) (t : TypeId) (cs : Array Value) : Prop := w.heap[b]? = some (.cells cs t (0, 0))
theorem Blk.lt {w : World} {b : Nat} {t : TypeId} {cs : Array Value} (h : Blk w b t cs) : b < w.heap.size := (Array.getElem?_eq_some_iff.1 h).1
theorem Blk.cell {w : World} {b : Nat} {t : TypeId} {cs : Array Value} (h : Blk w b t cs) (i : Nat) : w.cell? ⟨b, i, none⟩ = cs[i]? := cell_of_row w b i cs t _ h
theorem Blk.frozen {w : World} {b : Nat} {t : TypeId} {cs : Array Value} (h : Blk w b t cs) (i : Nat) : w.frozen? ⟨b, i, none⟩ = false := frozen_of_row w b i cs t h
theorem Blk.set {w : World} {b : Nat} {t : TypeId} {cs : Array Value} (h : Blk w b t cs) (i : Nat) (u : Value) : Blk (w.setCell ⟨b, i, none⟩ u) b t (cs.setIfInBounds i u) := heap_setCell_same w b i cs t u h
theorem Blk.setOther {w : World} {b : Nat} {t : TypeId} {cs : Array Value} (h : Blk w b t cs) {p : Addr} (hp : b ≠ p.block) (u : Value) : Blk (w.setCell p u) b t cs := (heap_setCell_other w p b u hp).trans h
theorem Blk.setRow {w : World} {b : Nat} {t : TypeId} {cs : Array Value} (h : Blk w b t cs) (cs' : Array Value) : Blk (w.setRow b cs') b t cs' := setRow_heap w b cs cs' t _ h
theorem Blk.below {w w' : World} {b B : Nat} {t : TypeId} {cs : Array Value} (h : Blk w b t cs) (hb : Below B w w') (hB : b < B) : Blk w' b t cs := (hb.block b hB).trans h
theorem Blk.after {w : World} {b : Nat} {t : TypeId} {cs : Array Value} (h : Blk w b t cs) (x : After w) : Blk x.w b t cs := h.below x.h h.lt
theorem Blk.drew {w : World} {b : Nat} {t : TypeId} {cs : Array Value} (h : Blk w b t cs) : Blk w.drew b t cs := h
theorem Blk.alloc {w : World} {b : Nat} {t : TypeId} {cs : Array Value} (h : Blk w b t cs) (o : Obj) : Blk (w.alloc o) b t cs := (Below.heap_alloc w o b h.lt).trans h
theorem Blk.but {w w' : World} {b c : Nat} {t : TypeId} {cs : Array Value} (h : Blk w b t cs) (hb : But c w w') (hc : b ≠ c) : Blk w' b t cs := (hb.block b h.lt hc).trans h
theorem Blk.new (w : World) (t : TypeId) (cs : Array Value) : Blk (w.alloc (.cells cs t)) w.heap.size t cs := heap_alloc_new w _

section
variable {P : Program} {ops : Array Oper} {rest : List Oper} {o : Oper} {a : Act} {w : World} {Q : Exit → Act → World → Prop}

theorem run_alloc_blk (ty : TypeId) (z : Value) (hz : (P.info? ty).map (·.zero) = some (some z)) (ρ : Operand → Value) (o : Oper) (ho : o.op = .alloc ty) :
    (execOp ρ o).run P w = .ok (.value (.pointer (some ⟨w.heap.size, 0, none⟩))) (w.alloc (.cells z.cells ty)) := by
  obtain ⟨i, hi, hzz⟩ := Option.map_eq_some_iff.1 hz
  unfold execOp
  simp [ho, Instr.alloc, zeroValue, typeInfo, hi, hzz, newVar, newRow]
/-- A new block, its world a letter. -/
theorem wpList_alloc_blk (hg : o.guard = none) (ty : TypeId) (ho : o.op = .alloc ty) (dst : Option Tmp) (hdst : o.dst = dst) (z : Value) (cs : Array Value) (hz : (P.info? ty).map (·.zero) = some (some z)) (hcs : z.cells = cs)
    (h : ∀ w', Blk w' w.heap.size ty cs → Below w.heap.size w w' → w'.heap.size = w.heap.size + 1 → wpList P ops Q rest (a.put dst (.pointer (some ⟨w.heap.size, 0, none⟩))) w') : wpList P ops Q (o :: rest) a w := by
  subst hcs; subst hdst
  refine wpList_plain hg fun K hK => ?_
  unfold Oper.wp
  rw [run_alloc_blk ty z hz _ _ ho, Oper.upon_value]
  exact hK _ _ (h _ (Blk.new _ _ _) (bel_alloc (Below.refl _ _) _) (by simp))

theorem run_box_blk (ty : TypeId) (x : Operand) (ρ : Operand → Value) (o : Oper) (ho : o.op = .box ty x) (cs : Array Value) (hx : ρ x = .agg cs) :
    (execOp ρ o).run P w = .ok (.value (.pointer (some ⟨w.heap.size, 0, none⟩))) (w.alloc (.cells cs ty)) := by
  unfold execOp
  simp [ho, hx, Instr.box, newVar, newRow, Value.cells]
/-- A struct or an array boxed, its world a letter. -/
theorem wpList_box_blk (hg : o.guard = none) (ty : TypeId) (x : Operand) (ho : o.op = .box ty x) (dst : Option Tmp) (hdst : o.dst = dst) (cs : Array Value) (hx : a.eval x = .agg cs)
    (h : ∀ w', Blk w' w.heap.size ty cs → Below w.heap.size w w' → w'.heap.size = w.heap.size + 1 → wpList P ops Q rest (a.put dst (.pointer (some ⟨w.heap.size, 0, none⟩))) w') : wpList P ops Q (o :: rest) a w := by
  subst hdst
  refine wpList_plain hg fun K hK => ?_
  unfold Oper.wp
  rw [run_box_blk ty x _ _ ho cs hx, Oper.upon_value]
  exact hK _ _ (h _ (Blk.new _ _ _) (bel_alloc (Below.refl _ _) _) (by simp))
/-- In a region that draws: a whole block is read. -/
theorem quiet_load_blk {C : World → Prop} {K : Act → Prop} (ty : TypeId) (x : Operand) (ho : o.op = .load ty x) (dst : Option Tmp) (hdst : o.dst = dst)
    (g : Nat) (hx : a.eval x = .pointer (some ⟨g, 0, none⟩)) (t : TypeId) (cs : Array Value) (d : TypeDesc) (hg : ∀ w, C w → Blk w g t cs)
    (hu : P.underlying ty = some d) (hd : (match d with | .struct _ | .array _ _ => true | _ => false) = true) (hi : (P.info? ty).map (·.size) = some cs.size)
    (h : K (a.put dst (.agg cs))) : o.quiet P a C K := by
  subst hdst
  refine ⟨.agg cs, fun w hw => ?_, h⟩
  unfold Oper.quietAt execOp
  simp only [ho, hx, Instr.loadAt, Instr.sureAddr, Sem.run_bind, Sem.run_pure, Result.andThen_ok, run_loadVar_row w g t ty cs _ d (hg w hw) hu hd hi]
  exact ⟨rfl, rfl⟩

theorem wpList_build_to (hg : o.guard = none) (t : TypeId) (parts : Array (Nat × Operand)) (ho : o.op = .build t parts) (dst : Option Tmp) (hdst : o.dst = dst) (cells : Array Value)
    (hf : P.built t (parts.map fun (i, x) => (i, a.eval x)).toList = some cells)
    (h : wpList P ops Q rest (a.put dst (.agg cells)) w) : wpList P ops Q (o :: rest) a w := by
  subst hdst
  refine wpList_build hg t parts ho (by rw [hf]; rfl) ?_
  rw [hf]
  exact h

/-- A whole array into a block, its world a letter. -/
theorem wpList_store_blk (hgd : o.guard = none) (ty : TypeId) (x y : Operand) (ho : o.op = .store ty x y)
    (g : Nat) (cells : Array Value) (hx : a.eval x = .pointer (some ⟨g, 0, none⟩)) (hy : a.eval y = .agg cells)
    (t : TypeId) (old : Array Value) (hg : Blk w g t old) (hi : (P.info? ty).map (·.size) = some cells.size)
    (hold : old.size = cells.size) (h1 : cells.all (·.oneCell') = true)
    (h : ∀ w', Blk w' g t cells → But g w w' → w'.heap.size = w.heap.size → wpList P ops Q rest (a.put o.dst undef) w') : wpList P ops Q (o :: rest) a w :=
  wpList_store_row hgd ty x y ho g cells hx hy t old hg hi hold h1 (h _ (hg.setRow _) ((But.refl _ _).setRow _) (by simp))

/-- copy into a block, from whatever cells. -/
theorem wpList_copy_blk (hgd : o.guard = none) (x y : Operand) (dT sT elem : TypeId) (ho : o.op = .call { callee := .builtin .copy, args := #[x, y], argTypes := #[dT, sT] }) (dst : Option Tmp) (hdst : o.dst = dst)
    (g off dLen dCap : Nat) (ad : Addr) (sLen sCap : Nat) (hx : a.eval x = .slice (some ⟨g, off, none⟩) dLen dCap) (hy : a.eval y = .slice (some ad) sLen sCap)
    (cur : Array Value) (t : TypeId) (cs : List Value) (hu : P.underlying dT = some (.slice elem)) (hs : (P.info? elem).map (·.size) = some 1)
    (hg : Blk w g t cur) (hn : cs.length = Nat.min sLen dLen) (hsrc : ∀ j v, cs[j]? = some v → w.cell? (ad.add j) = some v) (hfit : off + cs.length ≤ cur.size) (h1 : ∀ v ∈ cs, v.oneCell' = true)
    (new : Array Value) (hnew : (cur.toList.take off ++ cs ++ cur.toList.drop (off + cs.length)).toArray = new)
    (h : ∀ w', Blk w' g t new → But g w w' → w'.heap.size = w.heap.size → wpList P ops Q rest (a.put dst (.int .i64 cs.length)) w') : wpList P ops Q (o :: rest) a w := by
  subst hdst; subst hnew
  refine wpList_plain hgd fun K hK => ?_
  unfold Oper.wp execOp
  simp only [ho, resolve, invoke, builtin, Sem.run_bind, Sem.run_pure, Result.andThen_ok, List.map_toArray, List.map_cons, List.map_nil, hx, hy, run_copy_row P w dT sT o.type elem g off dLen dCap ad sLen sCap cur t cs hu hs hg hn hsrc hfit h1]
  exact hK _ _ (h _ (hg.setRow _) ((But.refl _ _).setRow _) (by simp))
end
end Go.Proofs.YtolbmemogoojhaaGreat
/- Bytes appended to a row of the call's own; slices of bytes cut. -/
namespace Go.Proofs.YtolbmemogoojhaaGreat
open Go Go.RowKit Go.Deep
set_option linter.unusedVariables false
set_option linter.unusedSimpArgs false

theorem wpList_app_bytes {P : Program} {w : World} {ops : Array Oper} {rest : List Oper} {o : Oper} {a : Act} {Q : Exit → Act → World → Prop} (hgd : o.guard = none) (s x : Operand) (t : TypeId)
    (ho : o.op = .call { callee := .builtin .append, args := #[s, x], argTypes := #[t, t] })
    (base : Nat) (e : TypeId) (ht : P.underlying t = some (.slice e)) (hinfo : (P.info? e).map (fun i => (i.zero, i.size, i.bytes)) = some (some (.int .u8 0), 1, 1))
    (v : Value) (bs0 : List UInt8) (hs : a.eval s = v) (hown : OwnU base w e v bs0) (xv : Value) (bs : List UInt8) (hxv : a.eval x = xv) (hx : Byt w xv bs)
    (hl : bs0.length + bs.length ≤ 100000) (hbase : base ≤ w.heap.size)
    (h : ∀ v' w', OwnU base w' e v' (bs0 ++ bs) → w.grownBy w' v.ownBlock → wpList P ops Q rest (a.put o.dst v') w') : wpList P ops Q (o :: rest) a w :=
  wpList_append_row hgd s x t ho base e (.int .u8 0) 1 1 ht hinfo (by rfl) (by omega) v bs0.length (encU bs0) hs hown xv bs.length (encU bs) hxv hx (encU_one bs) (Nat.le_trans hl (by decide)) (by omega) hbase
    fun v' w' h1 h2 => h v' w' (by unfold OwnU; rw [List.length_append, encU_append]; exact h1) h2

/-- An append with the frame said by Below. -/
theorem wpList_app {P : Program} {w w0 : World} {ops : Array Oper} {rest : List Oper} {o : Oper} {a : Act} {Q : Exit → Act → World → Prop} (hgd : o.guard = none) (s x : Operand) (t : TypeId)
    (ho : o.op = .call { callee := .builtin .append, args := #[s, x], argTypes := #[t, t] }) (dst : Option Tmp) (hdst : o.dst = dst)
    (e : TypeId) (ht : P.underlying t = some (.slice e)) (hinfo : (P.info? e).map (fun i => (i.zero, i.size, i.bytes)) = some (some (.int .u8 0), 1, 1))
    (v : Value) (bs0 : List UInt8) (hs : a.eval s = v) (hown : OwnU w0.heap.size w e v bs0) (xv : Value) (bs : List UInt8) (hxv : a.eval x = xv) (hx : Byt w xv bs)
    (hl : bs0.length + bs.length ≤ 100000) (hb : Below w0.heap.size w0 w)
    (h : ∀ v' w', OwnU w0.heap.size w' e v' (bs0 ++ bs) → Below w0.heap.size w0 w' → wpList P ops Q rest (a.put dst v') w') : wpList P ops Q (o :: rest) a w := by
  subst hdst
  exact wpList_app_bytes hgd s x t ho w0.heap.size e ht hinfo v bs0 hs hown xv bs hxv hx hl hb.size fun v' w' h1 h2 => h v' w' h1 (bel_grown (base := 0) hb hown h2)

theorem len_of {w : World} {v : Value} {x : List UInt8} (h : Byt w v x) (W : World) : Sem.run Tryz.prog (Builtin.len_ #[58] 3 #[v]) W = .ok (.int .i64 (x.length : Int)) W := by
  obtain ⟨a, c, rfl, _⟩ := h.open_
  have := Tryz.underlying58
  simp [go_sem, this]
def lenV : Value → Nat
  | .slice _ n _ => n
  | _ => 0
theorem lenV_of {w : World} {v : Value} {x : List UInt8} (h : Byt w v x) : lenV v = x.length := by obtain ⟨a, c, rfl, _⟩ := h.open_; rfl
theorem byt_lit (w : World) (e : TypeId) (bs : List UInt8) (hl : bs.length ≤ maxLen) (h0 : 0 < bs.length) : Byt (w.alloc (.cells (encU bs).toArray e)) (.slice (some ⟨w.heap.size, 0, none⟩) bs.length bs.length) bs := by
  refine ⟨by simp [encU_length], _, _, rfl, Nat.le_refl _, hl, (fun h => by cases h), fun _ => ⟨_, 0, rfl, fun j u hj => ?_⟩⟩
  rw [Nat.zero_add, (Blk.new w e _).cell]; simpa using hj
theorem byt_one (w : World) (e : TypeId) (c : UInt8) (n : Int) (hn : (c.toNat : Int) = n) : Byt (w.alloc (.cells #[.int .u8 n] e)) (.slice (some ⟨w.heap.size, 0, none⟩) 1 1) [c] := by
  subst hn; exact byt_lit w e [c] (by simp [maxLen]) (by simp)
theorem OwnU.below {base : Nat} {w w' : World} {e : TypeId} {v : Value} {bs : List UInt8} (h : OwnU base w e v bs) (hb : Below w.heap.size w w') : OwnU base w' e v bs := own_below h hb
theorem OwnU.lower {base base' : Nat} {w : World} {e : TypeId} {v : Value} {bs : List UInt8} (h : OwnU base w e v bs) (hb : base' ≤ base) : OwnU base' w e v bs := own_lower h hb
theorem ownU_nil (base : Nat) (w : World) (e : TypeId) : OwnU base w e (.slice none 0 0) [] := World.ownsRow_nil _ _ _ _
/-- Where the bytes of an own row lie. -/
theorem OwnU.open_ {base : Nat} {w : World} {e : TypeId} {v : Value} {bs : List UInt8} (h : OwnU base w e v bs) (h0 : 0 < bs.length) :
    ∃ g c, v = .slice (some ⟨g, 0, none⟩) bs.length c ∧ base ≤ g ∧ g < w.heap.size ∧ bs.length ≤ c ∧ c ≤ maxLen ∧ ∀ j, j < bs.length → w.cell? ⟨g, j, none⟩ = some (.int .u8 ((bs.getD j 0).toNat : Int)) := by
  have hb := h.byt
  obtain ⟨hl, ⟨rfl, hn0⟩ | ⟨g, cap, cur, rfl, hb0, hg, h1, h2, h3, h4⟩⟩ := id h
  · omega
  · obtain ⟨a, c, he, k1, k2, _, k4⟩ := hb.open_
    injection he with e1 e2 e3
    subst e1; subst e3
    obtain ⟨b, off, he2, hc⟩ := k4 h0
    injection he2 with he2
    injection he2 with e4 e5
    subst e4; subst e5
    exact ⟨g, _, rfl, hb0, (Array.getElem?_eq_some_iff.1 hg).1, h1, h2, fun j hj => by have := hc j hj; rwa [Nat.zero_add] at this⟩
/-- Bytes said cell by cell. -/
theorem byt_of (w : World) (b off n c : Nat) (bs : List UInt8) (hn : bs.length = n) (hc : n ≤ c) (hm : c ≤ maxLen) (h : ∀ j, j < n → w.cell? ⟨b, off + j, none⟩ = some (.int .u8 ((bs.getD j 0).toNat : Int))) : Byt w (.slice (some ⟨b, off, none⟩) n c) bs := by
  subst hn
  refine ⟨by simp [encU_length], _, _, rfl, hc, hm, (fun h => by cases h), fun _ => ⟨b, off, rfl, fun j u hj => ?_⟩⟩
  rw [encU_get] at hj
  obtain ⟨x, hx, rfl⟩ := Option.map_eq_some_iff.1 hj
  have hlt := (List.getElem?_eq_some_iff.1 hx).1
  rw [h j hlt, List.getD_eq_getElem?_getD, hx]; rfl

theorem eql_nil (W : World) (a : Option Addr) (l c : Nat) : (binOp .eql 58 (.slice a l c) (.slice none 0 0)).run Tryz.prog W = .ok (.bool a.isNone) W := by
  have h : (Op.equal 58 (.slice a l c) (.slice none 0 0)).run Tryz.prog W = .ok a.isNone W := run_equal_slice_nil W _ _ a l c Tryz.underlying58
  simp [binOp, h]
set_option maxRecDepth 100000 in
set_option maxHeartbeats 800000 in
theorem clone_c (v : Value) (bs : List UInt8) (hl : bs.length ≤ 90000) (w : World) (hv : Byt w v bs) : Calls Tryz.prog 104 #[v] w (MadeU 5 bs w) := by
  obtain ⟨a, c, rfl, _, hm, hn, hcell⟩ := hv.open_
  have hq := eql_nil
  cases a with
  | none =>
    have hc := hn rfl
    have hb : bs = [] := List.eq_nil_of_length_eq_zero (by omega)
    subst hb; subst hc
    clear hcell
    go_enter Tryz.func104, Tryz.ntmps104
    go_wp2
    go_ret
    exact ⟨_, rfl, ownU_nil _ _ _, Below.refl _ _⟩
  | some ad =>
    have Hv := Lib.hid hv
    clear hcell hn hv hm
    go_enter Tryz.func104, Tryz.ntmps104
    go_wp2_with (at_builtin; refine wpList_app (w0 := w) rfl _ _ 58 rfl _ rfl 5 (by kernel_rfl) (by kernel_rfl) _ [] rfl (World.ownsRow_lit (base := w.heap.size) (size := 1) _ _ 0 (Nat.le_refl _) (by decide) rfl) _ bs rfl (Hv.out.alloc _) (by simp; omega) (by first | exact bel_alloc (Below.refl _ _) _) ?_; intro v1 w1 own1 b1)
    go_ret
    exact ⟨_, rfl, own1, b1⟩
end Go.Proofs.YtolbmemogoojhaaGreat
