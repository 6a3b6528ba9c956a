/- Records one behind the other. -/
import Derived.Test.YtolbmemogoojhaaBookE
namespace Go.Proofs.Ytolbmemogoojhaa
open Go Go.RowKit Go.Deep
set_option linter.unusedVariables false
set_option linter.unusedSimpArgs false
set_option maxRecDepth 100000
theorem info_rec3 : (Try.prog.info? 38).map (fun i => (i.zero, i.size, i.bytes)) = some (some (.agg (rA noRD (.slice none 0 0))), 19, 56) := by kernel_rfl
theorem size_rec0 : (Value.agg (rA noRD (.slice none 0 0))).cells.size = 19 := noA_size
theorem grow_c (n : Nat) (hn : n ≤ 2000) (w : World) : Calls Try.prog 81 #[.slice none 0 0, .int .i64 n] w fun e w' => ∃ v, e = .returned v ∧ St w w' [Res.row 38 19 v 0 []] := by
  by_cases h0 : n = 0
  · subst h0
    have hcon := Any8.slices_Grow_room layGrow none 0 0 0 w (by omega) (by omega) (by omega) (by omega)
    change Calls Try.prog 81 _ _ _ at hcon
    exact hcon.mono fun e w' ⟨he, hw⟩ => ⟨_, he, by rw [hw]; exact (St.init w).nilRow _ _⟩
  · obtain ⟨i, hi, hzz⟩ := Option.map_eq_some_iff.1 info_rec3
    simp only [Prod.mk.injEq] at hzz
    obtain ⟨hz, hsi, hby⟩ := hzz
    have hcon := Any8.slices_Grow_grow layGrow i _ hi hz (by rw [hsi]; omega) none 0 0 n [] w (Nat.le_refl _) (by omega) (by rw [hby]; omega) (by omega) (by simp) (fun _ => rfl) (fun a h => by cases h)
    change Calls Try.prog 81 _ _ _ at hcon
    refine hcon.mono fun e w' ⟨he, hw⟩ => ⟨_, he, ?_⟩
    subst hw
    have hge := grownCap_ge w (0 + n) 0 38
    have hcm : grownCap w (0 + n) 0 38 ≤ maxLen := grownCap_le_maxLen w (0 + n) 0 38 (by unfold maxLen; omega)
    refine St.ofRow (bel_alloc (bel_drew (Below.refl _ _)) _) ⟨by simp, .inr ⟨w.heap.size, _, _, rfl, Nat.le_refl _, heap_alloc_new w.drew _, Nat.zero_le _, hcm, ?_, by simp⟩⟩
    simp only [Array.size_append, size_zeroCells, size_rec0, List.size_toArray, List.length_nil]
    rw [show layGrow_ren.t 25 = 38 from rfl]
    omega
def szAt (a b : Nat) : Nat → Nat
  | 0 => 0
  | 1 => a
  | _ => a + b
def rsAt (a b : RS) : Nat → RS
  | 0 => []
  | 1 => a
  | _ => a ++ b
set_option maxHeartbeats 6400000 in
theorem concat_c (va vb : Value) (A B : RS) (k : Nat) (hA1 : A.length ≤ 1000) (hB1 : B.length ≤ 1000) (w : World) (hk0 : Sub w k 0 #[va]) (hk1 : Sub w k 1 #[vb]) (hA : Row w 19 va A.length (recsL A)) (hB : Row w 19 vb B.length (recsL B)) (oA : ∀ p ∈ A, p.2.oneCell' = true) (oB : ∀ p ∈ B, p.2.oneCell' = true) :
    Calls Try.prog 49 #[.slice (some ⟨k, 0, none⟩) 2 2] w fun e w' => ∃ v, e = .returned v ∧ St w w' [Res.row 38 19 v (A ++ B).length (recsL (A ++ B))] := by
  obtain ⟨_, aa, ca, rfl, _⟩ := id hA
  obtain ⟨_, ab, cb, rfl, _⟩ := id hB
  obtain ⟨n, hn⟩ : ∃ n, A.length = n := ⟨_, rfl⟩
  obtain ⟨m, hm⟩ : ∃ m, B.length = m := ⟨_, rfl⟩
  rw [hn] at hA hA1 hk0; rw [hm] at hB hB1 hk1
  have HA := Lib.hid hA; have HB := Lib.hid hB; have Hk0 := Lib.hid hk0; have Hk1 := Lib.hid hk1; have OA := Lib.hid oA; have OB := Lib.hid oB; have Hn := Lib.hid hn; have Hm := Lib.hid hm
  clear hA hB hk0 hk1 oA oB hn hm
  have H := St.init w
  go_enter Try.func49, Try.ntmps49
  go_wp2_with (first | go_skip | ((with_reducible refine ld_one (ty := 22) Try.underlying22 rfl ?_ ?_ (Hk0.out.keep H.bel) ?_); rfl; rfl) | ((with_reducible refine ld_one (ty := 22) Try.underlying22 rfl ?_ ?_ (Hk1.out.keep H.bel) ?_); rfl; rfl))
  go_loopw [11, 3] (fun i q wr => ∃ j : Nat, j ≤ 2 ∧ i = .int .i64 j ∧ q = .int .i64 (szAt n m j) ∧ St w wr []) (fun i _ _ => 2 - (intOf i).toNat)
  case atStart => exact ⟨0, by omega, rfl, rfl, H⟩
  case round =>
    clear H
    obtain ⟨j, hj, rfl, rfl, H⟩ := hrel
    match j, hj with
    | 0, _ =>
      simp only [szAt]
      go_wp2_with (first | go_skip | ((with_reducible refine ld_one (ty := 22) Try.underlying22 rfl ?_ ?_ (Hk0.out.keep H.bel) ?_); rfl; rfl) | ((with_reducible refine ld_one (ty := 22) Try.underlying22 rfl ?_ ?_ (Hk1.out.keep H.bel) ?_); rfl; rfl))
      go_roundw
      case rel => exact ⟨1, by omega, rfl, by first | rfl | (simp only [szAt]; go_num), H.sub (by (repeat (first | with_reducible exact List.Sublist.refl _ | with_reducible refine List.Sublist.cons_cons _ ?_ | refine List.Sublist.cons _ ?_)))⟩
      case measure => simp [intOf]
    | 1, _ =>
      simp only [szAt]
      go_wp2_with (first | go_skip | ((with_reducible refine ld_one (ty := 22) Try.underlying22 rfl ?_ ?_ (Hk0.out.keep H.bel) ?_); rfl; rfl) | ((with_reducible refine ld_one (ty := 22) Try.underlying22 rfl ?_ ?_ (Hk1.out.keep H.bel) ?_); rfl; rfl))
      go_roundw
      case rel => exact ⟨2, by omega, rfl, by first | rfl | (simp only [szAt]; go_num), H.sub (by (repeat (first | with_reducible exact List.Sublist.refl _ | with_reducible refine List.Sublist.cons_cons _ ?_ | refine List.Sublist.cons _ ?_)))⟩
      case measure => simp [intOf]
    | 2, _ =>
      simp only [szAt]
      have hg := fun W => grow_c (n + m) (by omega) W
      simp only [Int.natCast_add] at hg
      have HG := Lib.hid hg; clear hg
      go_wp2_with (first | go_skip | (go_at_call 81; (with_reducible refine (HG.out _).mono ?_); rintro e wn ⟨vg, rfl, hs⟩; replace H := H.comp hs; clear hs; simp only [List.cons_append, List.nil_append] at H))
      go_loopw [27, 6] (fun i q wr => ∃ (j : Nat) (v : Value), j ≤ 2 ∧ i = .int .i64 j ∧ q = v ∧ St w wr [Res.row 38 19 v (rsAt A B j).length (recsL (rsAt A B j))]) (fun i _ _ => 2 - (intOf i).toNat)
      case atStart => exact ⟨0, vg, by omega, rfl, rfl, H⟩
      case round =>
        clear H
        obtain ⟨j, v, hj, rfl, rfl, H⟩ := hrel
        match j, hj with
        | 0, _ =>
          simp only [rsAt, List.length_nil, recsL] at H
          go_wp2_with (first | go_skip | ((with_reducible refine ld_one (ty := 22) Try.underlying22 rfl ?_ ?_ (Hk0.out.keep H.bel) ?_); rfl; rfl) | ((with_reducible refine ld_one (ty := 22) Try.underlying22 rfl ?_ ?_ (Hk1.out.keep H.bel) ?_); rfl; rfl) | ((with_reducible apply arm_app H (ht := Try.underlying22) (hinfo := info_rec3) (hzs := size_rec0) (hsz := by decide)); (conv => lhs; whnf); (conv => lhs; whnf); (intro v; (repeat (first | with_reducible apply Upd.head | with_reducible apply Upd.tail))); (focus (exact HA.out.below H.bel; done)); (focus (exact recsL_one OA.out; done)); (focus (unfold maxLen; omega; done)); (focus (omega; done)); clear H; intro wn vn H))
          go_roundw
          case rel => exact ⟨1, vn, by omega, rfl, rfl, by simp only [rsAt]; rw [Hn.out]; simp only [Nat.zero_add, List.nil_append] at H; exact H⟩
          case measure => simp [intOf]
        | 1, _ =>
          simp only [rsAt] at H
          rw [Hn.out] at H
          go_wp2_with (first | go_skip | ((with_reducible refine ld_one (ty := 22) Try.underlying22 rfl ?_ ?_ (Hk0.out.keep H.bel) ?_); rfl; rfl) | ((with_reducible refine ld_one (ty := 22) Try.underlying22 rfl ?_ ?_ (Hk1.out.keep H.bel) ?_); rfl; rfl) | ((with_reducible apply arm_app H (ht := Try.underlying22) (hinfo := info_rec3) (hzs := size_rec0) (hsz := by decide)); (conv => lhs; whnf); (conv => lhs; whnf); (intro v; (repeat (first | with_reducible apply Upd.head | with_reducible apply Upd.tail))); (focus (exact HB.out.below H.bel; done)); (focus (exact recsL_one OB.out; done)); (focus (unfold maxLen; omega; done)); (focus (omega; done)); clear H; intro wn vn H))
          go_roundw
          case rel => exact ⟨2, vn, by omega, rfl, rfl, by simp only [rsAt]; rw [List.length_append, Hn.out, Hm.out, recsL_append]; exact H⟩
          case measure => simp [intOf]
        | 2, _ =>
          simp only [rsAt] at H
          go_wp2_with (fail)
          all_goals first | (rw [Exit.noGoto_ret]; go_ret) | go_ret
          all_goals exact ⟨_, rfl, H⟩
end Go.Proofs.Ytolbmemogoojhaa
