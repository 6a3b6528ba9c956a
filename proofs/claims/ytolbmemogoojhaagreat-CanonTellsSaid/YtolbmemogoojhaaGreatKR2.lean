/- rolodexref06.Same: the same pure function. -/
import Derived.Test.YtolbmemogoojhaaGreatKM9
import Derived.Test.YtolbmemogoojhaaGreatKR1
namespace Go.Proofs.YtolbmemogoojhaaGreat
open Go Go.RowKit Go.Deep
set_option linter.unusedVariables false
set_option linter.unusedSimpArgs false
set_option maxRecDepth 100000
set_option maxHeartbeats 6400000 in
theorem rfsame_c (ra rb : RD) (sa sb : Value) (ha : ra.ok) (hb : rb.ok) (w : World) (hva : Flds w sa ra.f) (hvb : Flds w sb rb.f) : Calls Tryz.prog 13 #[.agg (rA ra sa), .agg (rA rb sb)] w fun e w' => e = .returned (.bool (rSame ra rb)) ∧ Below w.heap.size w w' := by
  have hAc := @after_cell
  have hAf := @after_frozen
  have hSz := sz_facts
  have hqf := neq_field
  have hlena := len_row (ti := 0) hva Tryz.underlying31
  have hlenb := len_row (ti := 0) hvb Tryz.underlying31
  obtain ⟨i, hi⟩ : ∃ i, (ra.id == rb.id) = i := ⟨_, rfl⟩
  obtain ⟨d, hd⟩ : ∃ d, stEq ra.N ra.R rb.N rb.R = d := ⟨_, rfl⟩
  have hq : ∀ W, (binOp .neq 26 (.agg (idA ra)) (.agg (idA rb))).run Tryz.prog W = .ok (.bool (!i)) W := fun W => by rw [← hi]; exact neq_id ra.id rb.id ha hb W
  have hq2 : ∀ W, (binOp .neq 30 (.agg #[.int .i64 ra.N, .int .i64 ra.R]) (.agg #[.int .i64 rb.N, .int .i64 rb.R])).run Tryz.prog W = .ok (.bool (!d)) W := fun W => by rw [neq_stamp, hd]
  have Hr : Hid (rSame ra rb = (i && d && fsEq ra.f rb.f)) := Lib.hid (by unfold rSame recSame; rw [hi, hd])
  clear hi hd
  obtain ⟨n, hn⟩ : ∃ n, ra.f.length = n := ⟨_, rfl⟩
  obtain ⟨n', hn'⟩ : ∃ n', rb.f.length = n' := ⟨_, rfl⟩
  rw [hn] at hlena; rw [hn'] at hlenb
  have Ha := Lib.hid ha; have Hb := Lib.hid hb; have Hva := Lib.hid hva; have Hvb := Lib.hid hvb; have Hn := Lib.hid hn; have Hn' := Lib.hid hn'
  clear ha hb hva hvb hn hn'
  have hcase : (i = false ∨ i = true ∧ d = false ∨ i = true ∧ d = true ∧ ((n : Int) == (n' : Int)) = false) ∨ (i = true ∧ d = true ∧ n = n') := by
    by_cases h : n = n'
    · cases i <;> cases d <;> simp [h]
    · have : ((n : Int) == (n' : Int)) = false := by simp; omega
      cases i <;> cases d <;> simp [h, this]
  rcases hcase with (rfl | ⟨rfl, rfl⟩ | ⟨rfl, rfl, hne⟩) | ⟨rfl, rfl, hnn⟩
  · go_enter Tryz.func13, Tryz.ntmps13
    go_wp2_with (first | go_skip | ((fail_if_success have := Ka); refine wpList_box_blk rfl 33 _ rfl _ rfl (rA ra sa) rfl ?_; intro w1 Ka b1 s1; clear s1; obtain ⟨ya, rfl⟩ := after_of b1; obtain ⟨sAa, sIa, sDa, sFa⟩ := rA_subs Ka Ha.out) | ((fail_if_success have := Kb); refine wpList_box_blk rfl 33 _ rfl _ rfl (rA rb sb) rfl ?_; intro w1 Kb b1 s1; clear s1; obtain ⟨yb, rfl⟩ := after_of b1; obtain ⟨sAb, sIb, sDb, sFb⟩ := rA_subs Kb Hb.out) | (refine wpList_load_sub rfl 33 _ rfl _ rfl w.heap.size 0 rfl (rA ra sa) _ (by repeat (first | exact sAa | refine Sub.after ?_ _ | refine Sub.alloc ?_ _)) Tryz.underlying33 rfl (rA_info Ha.out) ?_) | (refine wpList_load_sub rfl 26 _ rfl _ rfl w.heap.size 0 rfl (idA ra) _ (by repeat (first | exact sIa | refine Sub.after ?_ _ | refine Sub.alloc ?_ _)) Tryz.underlying26 rfl (idA_info Ha.out) ?_) | (refine wpList_load_sub rfl 30 _ rfl _ rfl w.heap.size 16 rfl #[.int .i64 (ra).N, .int .i64 (ra).R] _ (by repeat (first | exact sDa | refine Sub.after ?_ _ | refine Sub.alloc ?_ _)) Tryz.underlying30 rfl stamp_info ?_) | (refine wpList_load_one rfl 31 _ rfl _ rfl w.heap.size 18 rfl sa _ (by repeat (first | exact sFa | refine Sub.after ?_ _ | refine Sub.alloc ?_ _)) Tryz.underlying31 rfl ?_) | (refine wpList_load_sub rfl 33 _ rfl _ rfl ya.w.heap.size 0 rfl (rA rb sb) _ (by repeat (first | exact sAb | refine Sub.after ?_ _ | refine Sub.alloc ?_ _)) Tryz.underlying33 rfl (rA_info Hb.out) ?_) | (refine wpList_load_sub rfl 26 _ rfl _ rfl ya.w.heap.size 0 rfl (idA rb) _ (by repeat (first | exact sIb | refine Sub.after ?_ _ | refine Sub.alloc ?_ _)) Tryz.underlying26 rfl (idA_info Hb.out) ?_) | (refine wpList_load_sub rfl 30 _ rfl _ rfl ya.w.heap.size 16 rfl #[.int .i64 (rb).N, .int .i64 (rb).R] _ (by repeat (first | exact sDb | refine Sub.after ?_ _ | refine Sub.alloc ?_ _)) Tryz.underlying30 rfl stamp_info ?_) | (refine wpList_load_one rfl 31 _ rfl _ rfl ya.w.heap.size 18 rfl sb _ (by repeat (first | exact sFb | refine Sub.after ?_ _ | refine Sub.alloc ?_ _)) Tryz.underlying31 rfl ?_))
    all_goals first | (rw [Exit.noGoto_ret]; go_ret) | go_ret
    all_goals exact ⟨by rw [Hr.out]; rfl, by (repeat (first | exact Below.refl _ _ | assumption | refine bel_alloc ?_ _ | refine bel_after _ ?_ | refine bel_drewN ?_ _ | refine bel_drew ?_ | refine bel_set ?_ (by first | omega | (simp only [zYA, zYD, zYC]; omega) | (simp; omega)) _))⟩
  · go_enter Tryz.func13, Tryz.ntmps13
    go_wp2_with (first | go_skip | ((fail_if_success have := Ka); refine wpList_box_blk rfl 33 _ rfl _ rfl (rA ra sa) rfl ?_; intro w1 Ka b1 s1; clear s1; obtain ⟨ya, rfl⟩ := after_of b1; obtain ⟨sAa, sIa, sDa, sFa⟩ := rA_subs Ka Ha.out) | ((fail_if_success have := Kb); refine wpList_box_blk rfl 33 _ rfl _ rfl (rA rb sb) rfl ?_; intro w1 Kb b1 s1; clear s1; obtain ⟨yb, rfl⟩ := after_of b1; obtain ⟨sAb, sIb, sDb, sFb⟩ := rA_subs Kb Hb.out) | (refine wpList_load_sub rfl 33 _ rfl _ rfl w.heap.size 0 rfl (rA ra sa) _ (by repeat (first | exact sAa | refine Sub.after ?_ _ | refine Sub.alloc ?_ _)) Tryz.underlying33 rfl (rA_info Ha.out) ?_) | (refine wpList_load_sub rfl 26 _ rfl _ rfl w.heap.size 0 rfl (idA ra) _ (by repeat (first | exact sIa | refine Sub.after ?_ _ | refine Sub.alloc ?_ _)) Tryz.underlying26 rfl (idA_info Ha.out) ?_) | (refine wpList_load_sub rfl 30 _ rfl _ rfl w.heap.size 16 rfl #[.int .i64 (ra).N, .int .i64 (ra).R] _ (by repeat (first | exact sDa | refine Sub.after ?_ _ | refine Sub.alloc ?_ _)) Tryz.underlying30 rfl stamp_info ?_) | (refine wpList_load_one rfl 31 _ rfl _ rfl w.heap.size 18 rfl sa _ (by repeat (first | exact sFa | refine Sub.after ?_ _ | refine Sub.alloc ?_ _)) Tryz.underlying31 rfl ?_) | (refine wpList_load_sub rfl 33 _ rfl _ rfl ya.w.heap.size 0 rfl (rA rb sb) _ (by repeat (first | exact sAb | refine Sub.after ?_ _ | refine Sub.alloc ?_ _)) Tryz.underlying33 rfl (rA_info Hb.out) ?_) | (refine wpList_load_sub rfl 26 _ rfl _ rfl ya.w.heap.size 0 rfl (idA rb) _ (by repeat (first | exact sIb | refine Sub.after ?_ _ | refine Sub.alloc ?_ _)) Tryz.underlying26 rfl (idA_info Hb.out) ?_) | (refine wpList_load_sub rfl 30 _ rfl _ rfl ya.w.heap.size 16 rfl #[.int .i64 (rb).N, .int .i64 (rb).R] _ (by repeat (first | exact sDb | refine Sub.after ?_ _ | refine Sub.alloc ?_ _)) Tryz.underlying30 rfl stamp_info ?_) | (refine wpList_load_one rfl 31 _ rfl _ rfl ya.w.heap.size 18 rfl sb _ (by repeat (first | exact sFb | refine Sub.after ?_ _ | refine Sub.alloc ?_ _)) Tryz.underlying31 rfl ?_))
    all_goals first | (rw [Exit.noGoto_ret]; go_ret) | go_ret
    all_goals exact ⟨by rw [Hr.out]; rfl, by (repeat (first | exact Below.refl _ _ | assumption | refine bel_alloc ?_ _ | refine bel_after _ ?_ | refine bel_drewN ?_ _ | refine bel_drew ?_ | refine bel_set ?_ (by first | omega | (simp only [zYA, zYD, zYC]; omega) | (simp; omega)) _))⟩
  · have Hend : Hid (rSame ra rb = false) := Lib.hid (by
      have : fsEq ra.f rb.f = false := fsEq_len (by rw [Hn.out, Hn'.out]; intro h; rw [h] at hne; simp at hne)
      rw [Hr.out, this]; rfl)
    go_enter Tryz.func13, Tryz.ntmps13
    go_wp2_with (first | go_skip | ((fail_if_success have := Ka); refine wpList_box_blk rfl 33 _ rfl _ rfl (rA ra sa) rfl ?_; intro w1 Ka b1 s1; clear s1; obtain ⟨ya, rfl⟩ := after_of b1; obtain ⟨sAa, sIa, sDa, sFa⟩ := rA_subs Ka Ha.out) | ((fail_if_success have := Kb); refine wpList_box_blk rfl 33 _ rfl _ rfl (rA rb sb) rfl ?_; intro w1 Kb b1 s1; clear s1; obtain ⟨yb, rfl⟩ := after_of b1; obtain ⟨sAb, sIb, sDb, sFb⟩ := rA_subs Kb Hb.out) | (refine wpList_load_sub rfl 33 _ rfl _ rfl w.heap.size 0 rfl (rA ra sa) _ (by repeat (first | exact sAa | refine Sub.after ?_ _ | refine Sub.alloc ?_ _)) Tryz.underlying33 rfl (rA_info Ha.out) ?_) | (refine wpList_load_sub rfl 26 _ rfl _ rfl w.heap.size 0 rfl (idA ra) _ (by repeat (first | exact sIa | refine Sub.after ?_ _ | refine Sub.alloc ?_ _)) Tryz.underlying26 rfl (idA_info Ha.out) ?_) | (refine wpList_load_sub rfl 30 _ rfl _ rfl w.heap.size 16 rfl #[.int .i64 (ra).N, .int .i64 (ra).R] _ (by repeat (first | exact sDa | refine Sub.after ?_ _ | refine Sub.alloc ?_ _)) Tryz.underlying30 rfl stamp_info ?_) | (refine wpList_load_one rfl 31 _ rfl _ rfl w.heap.size 18 rfl sa _ (by repeat (first | exact sFa | refine Sub.after ?_ _ | refine Sub.alloc ?_ _)) Tryz.underlying31 rfl ?_) | (refine wpList_load_sub rfl 33 _ rfl _ rfl ya.w.heap.size 0 rfl (rA rb sb) _ (by repeat (first | exact sAb | refine Sub.after ?_ _ | refine Sub.alloc ?_ _)) Tryz.underlying33 rfl (rA_info Hb.out) ?_) | (refine wpList_load_sub rfl 26 _ rfl _ rfl ya.w.heap.size 0 rfl (idA rb) _ (by repeat (first | exact sIb | refine Sub.after ?_ _ | refine Sub.alloc ?_ _)) Tryz.underlying26 rfl (idA_info Hb.out) ?_) | (refine wpList_load_sub rfl 30 _ rfl _ rfl ya.w.heap.size 16 rfl #[.int .i64 (rb).N, .int .i64 (rb).R] _ (by repeat (first | exact sDb | refine Sub.after ?_ _ | refine Sub.alloc ?_ _)) Tryz.underlying30 rfl stamp_info ?_) | (refine wpList_load_one rfl 31 _ rfl _ rfl ya.w.heap.size 18 rfl sb _ (by repeat (first | exact sFb | refine Sub.after ?_ _ | refine Sub.alloc ?_ _)) Tryz.underlying31 rfl ?_))
    all_goals first | (rw [Exit.noGoto_ret]; go_ret) | go_ret
    all_goals exact ⟨by rw [Hend.out]; rfl, by (repeat (first | exact Below.refl _ _ | assumption | refine bel_alloc ?_ _ | refine bel_after _ ?_ | refine bel_drewN ?_ _ | refine bel_drew ?_ | refine bel_set ?_ (by first | omega | (simp only [zYA, zYD, zYC]; omega) | (simp; omega)) _))⟩
  · subst hnn
    have hS : Hid (∃ aa c, sa = .slice aa n c ∧ n ≤ maxLen) := by
      obtain ⟨_, aa, c, e, q1, hm1, _⟩ := id Hva.out
      rw [Hn.out] at e
      exact Lib.hid ⟨aa, c, e, by have h := Hn.out; have := fieldsL_length ra.f; omega⟩
    have hS' : Hid (∃ aa c, sb = .slice aa n c) := by
      obtain ⟨_, aa, c, e, _⟩ := id Hvb.out
      rw [Hn'.out] at e
      exact Lib.hid ⟨aa, c, e⟩
    obtain ⟨aa, c, rfl, hm1⟩ := hS.out
    obtain ⟨ab, cb, rfl⟩ := hS'.out
    clear hS hS'
    unfold maxLen at hm1
    go_enter Tryz.func13, Tryz.ntmps13
    go_wp2_with (first | go_skip | ((fail_if_success have := Ka); refine wpList_box_blk rfl 33 _ rfl _ rfl (rA ra (.slice aa n c)) rfl ?_; intro w1 Ka b1 s1; clear s1; obtain ⟨ya, rfl⟩ := after_of b1; obtain ⟨sAa, sIa, sDa, sFa⟩ := rA_subs Ka Ha.out) | ((fail_if_success have := Kb); refine wpList_box_blk rfl 33 _ rfl _ rfl (rA rb (.slice ab n cb)) rfl ?_; intro w1 Kb b1 s1; clear s1; obtain ⟨yb, rfl⟩ := after_of b1; obtain ⟨sAb, sIb, sDb, sFb⟩ := rA_subs Kb Hb.out) | (refine wpList_load_sub rfl 33 _ rfl _ rfl w.heap.size 0 rfl (rA ra (.slice aa n c)) _ (by repeat (first | exact sAa | refine Sub.after ?_ _ | refine Sub.alloc ?_ _)) Tryz.underlying33 rfl (rA_info Ha.out) ?_) | (refine wpList_load_sub rfl 26 _ rfl _ rfl w.heap.size 0 rfl (idA ra) _ (by repeat (first | exact sIa | refine Sub.after ?_ _ | refine Sub.alloc ?_ _)) Tryz.underlying26 rfl (idA_info Ha.out) ?_) | (refine wpList_load_sub rfl 30 _ rfl _ rfl w.heap.size 16 rfl #[.int .i64 (ra).N, .int .i64 (ra).R] _ (by repeat (first | exact sDa | refine Sub.after ?_ _ | refine Sub.alloc ?_ _)) Tryz.underlying30 rfl stamp_info ?_) | (refine wpList_load_one rfl 31 _ rfl _ rfl w.heap.size 18 rfl (.slice aa n c) _ (by repeat (first | exact sFa | refine Sub.after ?_ _ | refine Sub.alloc ?_ _)) Tryz.underlying31 rfl ?_) | (refine wpList_load_sub rfl 33 _ rfl _ rfl ya.w.heap.size 0 rfl (rA rb (.slice ab n cb)) _ (by repeat (first | exact sAb | refine Sub.after ?_ _ | refine Sub.alloc ?_ _)) Tryz.underlying33 rfl (rA_info Hb.out) ?_) | (refine wpList_load_sub rfl 26 _ rfl _ rfl ya.w.heap.size 0 rfl (idA rb) _ (by repeat (first | exact sIb | refine Sub.after ?_ _ | refine Sub.alloc ?_ _)) Tryz.underlying26 rfl (idA_info Hb.out) ?_) | (refine wpList_load_sub rfl 30 _ rfl _ rfl ya.w.heap.size 16 rfl #[.int .i64 (rb).N, .int .i64 (rb).R] _ (by repeat (first | exact sDb | refine Sub.after ?_ _ | refine Sub.alloc ?_ _)) Tryz.underlying30 rfl stamp_info ?_) | (refine wpList_load_one rfl 31 _ rfl _ rfl ya.w.heap.size 18 rfl (.slice ab n cb) _ (by repeat (first | exact sFb | refine Sub.after ?_ _ | refine Sub.alloc ?_ _)) Tryz.underlying31 rfl ?_))
    have Hwm : Hid (Below w.heap.size w yb.w) := Lib.hid (by (repeat (first | exact Below.refl _ _ | assumption | refine bel_alloc ?_ _ | refine bel_after _ ?_ | refine bel_drewN ?_ _ | refine bel_drew ?_ | refine bel_set ?_ (by first | omega | (simp only [zYA, zYD, zYC]; omega) | (simp; omega)) _)))
    go_loopw [5] (fun i wr => ∃ j : Nat, j ≤ n ∧ i = .int .i64 j ∧ Hid (fsEq ra.f rb.f = fsEq (ra.f.drop j) (rb.f.drop j)) ∧ Hid (Below yb.w.heap.size yb.w wr)) (fun i _ => n - (intOf i).toNat)
    case atStart => exact ⟨0, by omega, rfl, Lib.hid rfl, Lib.hid (Below.refl _ _)⟩
    case round =>
      obtain ⟨j, hj, rfl, I, B⟩ := hrel
      obtain ⟨xr, rfl⟩ := after_of B.out
      have hwx : Below w.heap.size w xr.w := bel_after xr Hwm.out
      by_cases hlt : j < n
      · obtain ⟨⟨no, cN, cR, cS⟩, hf⟩ : ∃ f, ra.f[j]? = some f := ⟨_, List.getElem?_eq_getElem (by rw [Hn.out]; exact hlt)⟩
        obtain ⟨⟨no', cN', cR', cS'⟩, hf'⟩ : ∃ f, rb.f[j]? = some f := ⟨_, List.getElem?_eq_getElem (by rw [Hn'.out]; exact hlt)⟩
        obtain ⟨b, off, rfl, hbw, g0, g1, g2, g3⟩ := Hva.out.at hf
        obtain ⟨b', off', rfl, hbw', k0, k1, k2, k3⟩ := Hvb.out.at hf'
        have Hst := Lib.hid (fsEq_step hf hf')
        clear hf hf'
        have g0 := cell_below (hwx) _ _ _ g0; have g1 := cell_below (hwx) _ _ _ g1; have g2 := cell_below (hwx) _ _ _ g2; have g3 := cell_below (hwx) _ _ _ g3
        have k0 := cell_below (hwx) _ _ _ k0; have k1 := cell_below (hwx) _ _ _ k1; have k2 := cell_below (hwx) _ _ _ k2; have k3 := cell_below (hwx) _ _ _ k3
        dsimp only at g0 g1 g2 g3 k0 k1 k2 k3
        have hs1 := szf1 (a := b) (b := xr.w.heap.size) (by have := hwx.size; omega)
        have hs2 := szf1 (a := b') (b := xr.w.heap.size) (by have := hwx.size; omega)
        have HWX := Lib.hid hwx; clear hwx
        obtain ⟨r, hr⟩ : ∃ r, Hid (fEq (no, cN, cR, cS) (no', cN', cR', cS') = r) := ⟨_, rfl⟩
        rw [hr.out] at Hst
        have hr' := hr.out
        cases r
        · have Hend : Hid (rSame ra rb = false) := Lib.hid (by rw [Hr.out, I.out, Hst.out]; rfl)
          go_wp2_with (first | go_skip | (refine wpList_load_one rfl 31 _ rfl _ rfl w.heap.size 18 rfl (.slice (some ⟨b, off, none⟩) n c) _ (by repeat (first | exact sFa | refine Sub.after ?_ _ | refine Sub.alloc ?_ _)) Tryz.underlying31 rfl ?_) | (refine wpList_load_one rfl 31 _ rfl _ rfl ya.w.heap.size 18 rfl (.slice (some ⟨b', off', none⟩) n cb) _ (by repeat (first | exact sFb | refine Sub.after ?_ _ | refine Sub.alloc ?_ _)) Tryz.underlying31 rfl ?_))
          refine wp_quiet_all (C := fun w' => ∃ x : After _, w' = x.w) (by kernel_rfl) (by kernel_rfl) (since_drew _) ?_
          repeat (first | go_big_quiet_skip | (go_big_quiet_want; (refine quiet_load_one 31 _ rfl _ rfl w.heap.size 18 rfl (.slice (some ⟨b, off, none⟩) n c) _ ?_ Tryz.underlying31 rfl ?_; rotate_left; (go_simp; go_big_quiet_on); rotate_left; (rintro _ ⟨x, rfl⟩; repeat (first | exact sFa | refine Sub.after ?_ _ | refine Sub.alloc ?_ _)))) | (go_big_quiet_want; (refine quiet_load_one 31 _ rfl _ rfl ya.w.heap.size 18 rfl (.slice (some ⟨b', off', none⟩) n cb) _ ?_ Tryz.underlying31 rfl ?_; rotate_left; (go_simp; go_big_quiet_on); rotate_left; (rintro _ ⟨x, rfl⟩; repeat (first | exact sFb | refine Sub.after ?_ _ | refine Sub.alloc ?_ _)))) | (go_big_quiet_step (fail)))
          refine wpQuiet_nil ?_
          rintro _ ⟨zq, rfl⟩
          go_wp2
          all_goals first | (rw [Exit.noGoto_ret]; go_ret) | go_ret
          all_goals (have hB := HWX.out; exact ⟨by rw [Hend.out]; rfl, by (repeat (first | exact Below.refl _ _ | assumption | refine bel_alloc ?_ _ | refine bel_after _ ?_ | refine bel_drewN ?_ _ | refine bel_drew ?_ | refine bel_set ?_ (by first | omega | (simp only [zYA, zYD, zYC]; omega) | (simp; omega)) _))⟩)
        · have Hend : Hid (fsEq ra.f rb.f = fsEq (ra.f.drop (j + 1)) (rb.f.drop (j + 1))) := Lib.hid (by rw [I.out, Hst.out]; rfl)
          go_wp2_with (first | go_skip | (refine wpList_load_one rfl 31 _ rfl _ rfl w.heap.size 18 rfl (.slice (some ⟨b, off, none⟩) n c) _ (by repeat (first | exact sFa | refine Sub.after ?_ _ | refine Sub.alloc ?_ _)) Tryz.underlying31 rfl ?_) | (refine wpList_load_one rfl 31 _ rfl _ rfl ya.w.heap.size 18 rfl (.slice (some ⟨b', off', none⟩) n cb) _ (by repeat (first | exact sFb | refine Sub.after ?_ _ | refine Sub.alloc ?_ _)) Tryz.underlying31 rfl ?_))
          refine wp_quiet_all (C := fun w' => ∃ x : After _, w' = x.w) (by kernel_rfl) (by kernel_rfl) (since_drew _) ?_
          repeat (first | go_big_quiet_skip | (go_big_quiet_want; (refine quiet_load_one 31 _ rfl _ rfl w.heap.size 18 rfl (.slice (some ⟨b, off, none⟩) n c) _ ?_ Tryz.underlying31 rfl ?_; rotate_left; (go_simp; go_big_quiet_on); rotate_left; (rintro _ ⟨x, rfl⟩; repeat (first | exact sFa | refine Sub.after ?_ _ | refine Sub.alloc ?_ _)))) | (go_big_quiet_want; (refine quiet_load_one 31 _ rfl _ rfl ya.w.heap.size 18 rfl (.slice (some ⟨b', off', none⟩) n cb) _ ?_ Tryz.underlying31 rfl ?_; rotate_left; (go_simp; go_big_quiet_on); rotate_left; (rintro _ ⟨x, rfl⟩; repeat (first | exact sFb | refine Sub.after ?_ _ | refine Sub.alloc ?_ _)))) | (go_big_quiet_step (fail)))
          refine wpQuiet_nil ?_
          rintro _ ⟨zq, rfl⟩
          go_wp2
          go_roundw
          case rel => exact ⟨j + 1, by omega, by go_num, Hend, Lib.hid (xr.h.trans (zq.h.mono xr.h.size))⟩
          case measure => simp [intOf]; omega
      · have hjn : j = n := by omega
        subst hjn
        have HWX := Lib.hid hwx; clear hwx
        have Hend : Hid (rSame ra rb = true) := Lib.hid (by rw [Hr.out, I.out]; exact fsEq_end (by rw [Hn.out]; exact Nat.le_refl _) (by rw [Hn'.out]; exact Nat.le_refl _))
        go_wp2_with (first | go_skip | (refine wpList_load_one rfl 31 _ rfl _ rfl w.heap.size 18 rfl (.slice aa j c) _ (by repeat (first | exact sFa | refine Sub.after ?_ _ | refine Sub.alloc ?_ _)) Tryz.underlying31 rfl ?_) | (refine wpList_load_one rfl 31 _ rfl _ rfl ya.w.heap.size 18 rfl (.slice ab j cb) _ (by repeat (first | exact sFb | refine Sub.after ?_ _ | refine Sub.alloc ?_ _)) Tryz.underlying31 rfl ?_))
        all_goals first | (rw [Exit.noGoto_ret]; go_ret) | go_ret
        all_goals (have hB := HWX.out; exact ⟨by rw [Hend.out]; rfl, by (repeat (first | exact Below.refl _ _ | assumption | refine bel_alloc ?_ _ | refine bel_after _ ?_ | refine bel_drewN ?_ _ | refine bel_drew ?_ | refine bel_set ?_ (by first | omega | (simp only [zYA, zYD, zYC]; omega) | (simp; omega)) _))⟩)
theorem rfsame_v {r r' : RD} {s s' : Value} {b : Bool} (hr : r.ok) (hr' : r'.ok) (h : rSame r r' = b) (w : World) (hv : Flds w s r.f) (hv' : Flds w s' r'.f) : Calls Tryz.prog 13 #[.agg (rA r s), .agg (rA r' s')] w fun e w' => e = .returned (.bool b) ∧ Below w.heap.size w w' := by
  subst h; exact rfsame_c r r' s s' hr hr' w hv hv'
end Go.Proofs.YtolbmemogoojhaaGreat
/- rolodexref06.Find: the same pure function. -/
namespace Go.Proofs.YtolbmemogoojhaaGreat
open Go Go.RowKit Go.Deep
set_option linter.unusedVariables false
set_option linter.unusedSimpArgs false
set_option maxRecDepth 100000
end Go.Proofs.YtolbmemogoojhaaGreat
/- rolodexref06.May: the same pure function. -/
namespace Go.Proofs.YtolbmemogoojhaaGreat
open Go Go.RowKit Go.Deep
set_option linter.unusedVariables false
set_option linter.unusedSimpArgs false
set_option maxRecDepth 100000
theorem rsmay_v {N R : Int} {b : Bool} (h : stMay N R = b) (w : World) : Calls Tryz.prog 93 #[.agg #[.int .i64 N, .int .i64 R]] w fun e w' => e = .returned (.bool b) ∧ Below w.heap.size w w' := by subst h; exact rmay_c N R w
theorem rsless_v {N R N' R' : Int} {b : Bool} (h : stLess N R N' R' = b) (w : World) : Calls Tryz.prog 95 #[.agg #[.int .i64 N, .int .i64 R], .agg #[.int .i64 N', .int .i64 R']] w fun e w' => e = .returned (.bool b) ∧ Below w.heap.size w w' := by subst h; exact rless_c N R N' R' w
theorem field_zero : (Tryz.prog.info? 82).map (·.zero) = some (some (.agg #[.int .i64 0, .int .i64 0, .int .i64 0, .string ⟨#[]⟩])) := by kernel_rfl
theorem field_one {i N R : Int} {s : ByteArray} : (#[Value.int .i64 i, .int .i64 N, .int .i64 R, .string s]).all (·.oneCell') = true := by simp [Value.oneCell']
theorem fMay_at {N R : Int} {l : List F4} {j : Nat} {f : F4} (la : Int) (hj : l[j]? = some f) :
    fMay N R la (l.drop j) = (decide (la < f.1) && decide (f.1 < 8) && cMay f.2.1 f.2.2.1 f.2.2.2 && stLess N R f.2.1 f.2.2.1 && fMay N R f.1 (l.drop (j + 1))) := by
  have h1 := List.getElem?_eq_some_iff.1 hj
  rw [List.drop_eq_getElem_cons h1.1, h1.2]; rfl
set_option maxHeartbeats 12800000 in
theorem rfmay_c (ra : RD) (sa : Value) (ha : ra.ok) (w : World) (hva : Flds w sa ra.f) : Calls Tryz.prog 55 #[.agg (rA ra sa)] w fun e w' => e = .returned (.bool (rMay ra)) ∧ Below w.heap.size w w' := by
  have hAc := @after_cell
  have hAf := @after_frozen
  have hSz := sz_facts
  have hlena := len_row (ti := 0) hva Tryz.underlying31
  obtain ⟨n, hn⟩ : ∃ n, ra.f.length = n := ⟨_, rfl⟩
  rw [hn] at hlena
  obtain ⟨m, hm⟩ : ∃ m, Hid (stMay ra.N ra.R = m) := ⟨_, rfl⟩
  obtain ⟨z, hz⟩ : ∃ z, Hid (stEq ra.N ra.R 0 0 = z) := ⟨_, rfl⟩
  obtain ⟨e, he⟩ : ∃ e, ((n : Int) == 0) = e := ⟨_, rfl⟩
  have heq : ∀ W, (binOp .eql 30 (.agg #[.int .i64 ra.N, .int .i64 ra.R]) (.agg #[.int .i64 0, .int .i64 0])).run Tryz.prog W = .ok (.bool z) W := fun W => by rw [eql_stamp, hz.out]
  have Hr : Hid (rMay ra = (m && !(e && z) && fMay ra.N ra.R (-1) ra.f)) := Lib.hid (by
    have : ra.f.isEmpty = e := by rw [← he, ← hn]; cases ra.f <;> simp <;> omega
    unfold rMay recMay; rw [hm.out, hz.out, this])
  have Ha := Lib.hid ha; have Hva := Lib.hid hva; have Hn := Lib.hid hn
  clear ha hva hn
  have hcase : (m = false ∨ m = true ∧ e = true ∧ z = true) ∨ (m = true ∧ e = true ∧ z = false ∨ m = true ∧ e = false) := by cases m <;> cases e <;> cases z <;> simp
  rcases hcase with (rfl | ⟨rfl, rfl, rfl⟩) | hcase
  · go_enter Tryz.func55, Tryz.ntmps55
    go_wp2_with (first | go_skip | ((fail_if_success have := Ka); refine wpList_box_blk rfl 33 _ rfl _ rfl (rA ra sa) rfl ?_; intro w1 Ka b1 s1; clear s1; obtain ⟨ya, rfl⟩ := after_of b1; obtain ⟨sAa, sIa, sDa, sFa⟩ := rA_subs Ka Ha.out) | (refine wpList_load_sub rfl 30 _ rfl _ rfl w.heap.size 16 rfl #[.int .i64 (ra).N, .int .i64 (ra).R] _ (by repeat (first | exact sDa | refine Sub.after ?_ _ | refine Sub.alloc ?_ _)) Tryz.underlying30 rfl stamp_info ?_) | (refine wpList_load_one rfl 31 _ rfl _ rfl w.heap.size 18 rfl sa _ (by repeat (first | exact sFa | refine Sub.after ?_ _ | refine Sub.alloc ?_ _)) Tryz.underlying31 rfl ?_) | (go_at_call 93; (with_reducible refine (rsmay_v hm.out _).mono ?_); rintro e w' ⟨rfl, hb⟩; obtain ⟨z, rfl⟩ := after_of hb; clear hb))
    all_goals first | (rw [Exit.noGoto_ret]; go_ret) | go_ret
    all_goals exact ⟨by rw [Hr.out]; rfl, by (repeat (first | exact Below.refl _ _ | assumption | refine bel_alloc ?_ _ | refine bel_after _ ?_ | refine bel_drewN ?_ _ | refine bel_drew ?_ | refine bel_set ?_ (by first | omega | (simp only [zYA, zYD, zYC]; omega) | (simp; omega)) _))⟩
  · go_enter Tryz.func55, Tryz.ntmps55
    go_wp2_with (first | go_skip | ((fail_if_success have := Ka); refine wpList_box_blk rfl 33 _ rfl _ rfl (rA ra sa) rfl ?_; intro w1 Ka b1 s1; clear s1; obtain ⟨ya, rfl⟩ := after_of b1; obtain ⟨sAa, sIa, sDa, sFa⟩ := rA_subs Ka Ha.out) | (refine wpList_load_sub rfl 30 _ rfl _ rfl w.heap.size 16 rfl #[.int .i64 (ra).N, .int .i64 (ra).R] _ (by repeat (first | exact sDa | refine Sub.after ?_ _ | refine Sub.alloc ?_ _)) Tryz.underlying30 rfl stamp_info ?_) | (refine wpList_load_one rfl 31 _ rfl _ rfl w.heap.size 18 rfl sa _ (by repeat (first | exact sFa | refine Sub.after ?_ _ | refine Sub.alloc ?_ _)) Tryz.underlying31 rfl ?_) | (go_at_call 93; (with_reducible refine (rsmay_v hm.out _).mono ?_); rintro e w' ⟨rfl, hb⟩; obtain ⟨z, rfl⟩ := after_of hb; clear hb))
    all_goals first | (rw [Exit.noGoto_ret]; go_ret) | go_ret
    all_goals exact ⟨by rw [Hr.out]; rfl, by (repeat (first | exact Below.refl _ _ | assumption | refine bel_alloc ?_ _ | refine bel_after _ ?_ | refine bel_drewN ?_ _ | refine bel_drew ?_ | refine bel_set ?_ (by first | omega | (simp only [zYA, zYD, zYC]; omega) | (simp; omega)) _))⟩
  · have Hr2 : Hid (rMay ra = fMay ra.N ra.R (-1) ra.f) := Lib.hid (by rw [Hr.out]; rcases hcase with ⟨rfl, rfl, rfl⟩ | ⟨rfl, rfl⟩ <;> simp)
    have hS : Hid (∃ aa c, sa = .slice aa n c ∧ n ≤ maxLen) := by
      obtain ⟨_, aa, c, e, q1, hm1, _⟩ := id Hva.out
      rw [Hn.out] at e
      exact Lib.hid ⟨aa, c, e, by have h := Hn.out; have := fieldsL_length ra.f; omega⟩
    obtain ⟨aa, c, rfl, hm1⟩ := hS.out
    clear hS Hr
    unfold maxLen at hm1
    rcases hcase with ⟨rfl, rfl, rfl⟩ | ⟨rfl, rfl⟩
    all_goals
      go_enter Tryz.func55, Tryz.ntmps55
      go_wp2_with (first | go_skip | ((fail_if_success have := Ka); refine wpList_box_blk rfl 33 _ rfl _ rfl (rA ra (.slice aa n c)) rfl ?_; intro w1 Ka b1 s1; clear s1; obtain ⟨ya, rfl⟩ := after_of b1; obtain ⟨sAa, sIa, sDa, sFa⟩ := rA_subs Ka Ha.out) | (refine wpList_load_sub rfl 30 _ rfl _ rfl w.heap.size 16 rfl #[.int .i64 (ra).N, .int .i64 (ra).R] _ (by repeat (first | exact sDa | refine Sub.after ?_ _ | refine Sub.alloc ?_ _)) Tryz.underlying30 rfl stamp_info ?_) | (refine wpList_load_one rfl 31 _ rfl _ rfl w.heap.size 18 rfl (.slice aa n c) _ (by repeat (first | exact sFa | refine Sub.after ?_ _ | refine Sub.alloc ?_ _)) Tryz.underlying31 rfl ?_) | (go_at_call 93; (with_reducible refine (rsmay_v hm.out _).mono ?_); rintro e w' ⟨rfl, hb⟩; obtain ⟨z1, rfl⟩ := after_of hb; clear hb))
      have hp := trivial
      have Hwm : Hid (Below w.heap.size w z1.w) := Lib.hid (by (repeat (first | exact Below.refl _ _ | assumption | refine bel_alloc ?_ _ | refine bel_after _ ?_ | refine bel_drewN ?_ _ | refine bel_drew ?_ | refine bel_set ?_ (by first | omega | (simp only [zYA, zYD, zYC]; omega) | (simp; omega)) _)))
      go_loopw [5, 4] (fun i la wr => ∃ (j : Nat) (k : Int), j ≤ n ∧ i = .int .i64 j ∧ la = .int .i64 k ∧ Hid (rMay ra = fMay ra.N ra.R k (ra.f.drop j)) ∧ Hid (Below z1.w.heap.size z1.w wr)) (fun i _ _ => n - (intOf i).toNat)
      case atStart => exact ⟨0, -1, by omega, rfl, rfl, Hr2, Lib.hid (Below.refl _ _)⟩
      case round =>
        obtain ⟨j, k, hj, rfl, rfl, I, B⟩ := hrel
        obtain ⟨xr, rfl⟩ := after_of B.out
        have hwx : Below w.heap.size w xr.w := bel_after xr Hwm.out
        by_cases hlt : j < n
        · obtain ⟨⟨no, cN, cR, cS⟩, hf⟩ : ∃ f, ra.f[j]? = some f := ⟨_, List.getElem?_eq_getElem (by rw [Hn.out]; exact hlt)⟩
          obtain ⟨b, off, rfl, hbw, g0, g1, g2, g3⟩ := Hva.out.at hf
          have hst := fMay_at (N := ra.N) (R := ra.R) k hf
          dsimp only at hst
          have Hst := Lib.hid hst
          clear hf hst
          have g0 := cell_below (hwx) _ _ _ g0; have g1 := cell_below (hwx) _ _ _ g1; have g2 := cell_below (hwx) _ _ _ g2; have g3 := cell_below (hwx) _ _ _ g3
          dsimp only at g0 g1 g2 g3
          have hs1 := szf1 (a := b) (b := xr.w.heap.size) (by have := hwx.size; omega)
          have HWX := Lib.hid hwx; clear hwx
          obtain ⟨cc, hc⟩ : ∃ x, Hid (cMay cN cR cS = x) := ⟨_, rfl⟩
          obtain ⟨ss, hs⟩ : ∃ x, Hid (stLess ra.N ra.R cN cR = x) := ⟨_, rfl⟩
          obtain ⟨p, hp1⟩ : ∃ x, decide (no ≤ k) = x := ⟨_, rfl⟩
          obtain ⟨q, hq1⟩ : ∃ x, decide (8 ≤ no) = x := ⟨_, rfl⟩
          have hd1 : decide (k < no) = !p := by rw [← hp1]; by_cases h : no ≤ k <;> simp [h] <;> omega
          have hd2 : decide (no < 8) = !q := by rw [← hq1]; by_cases h : 8 ≤ no <;> simp [h] <;> omega
          have Hst2 : Hid (rMay ra = (!p && !q && cc && ss && fMay ra.N ra.R no (ra.f.drop (j + 1)))) := Lib.hid (by rw [I.out, Hst.out, hd1, hd2, hc.out, hs.out])
          clear hd1 hd2 Hst
          have hcase : (cc = false ∨ cc = true ∧ ss = false ∨ cc = true ∧ ss = true ∧ p = true ∨ cc = true ∧ ss = true ∧ p = false ∧ q = true) ∨ (cc = true ∧ ss = true ∧ p = false ∧ q = false) := by cases cc <;> cases ss <;> cases p <;> cases q <;> simp
          rcases hcase with hcase | ⟨rfl, rfl, rfl, rfl⟩
          · have Hend : Hid (rMay ra = false) := Lib.hid (by rw [Hst2.out]; rcases hcase with rfl | ⟨rfl, rfl⟩ | ⟨rfl, rfl, rfl⟩ | ⟨rfl, rfl, rfl, rfl⟩ <;> simp)
            clear Hst2 I
            rcases hcase with rfl | ⟨rfl, rfl⟩ | ⟨rfl, rfl, rfl⟩ | ⟨rfl, rfl, rfl, rfl⟩
            all_goals
              go_wp2_with (first | go_skip | (refine wpList_load_one rfl 31 _ rfl _ rfl w.heap.size 18 rfl (.slice (some ⟨b, off, none⟩) n c) _ (by repeat (first | exact sFa | refine Sub.after ?_ _ | refine Sub.alloc ?_ _)) Tryz.underlying31 rfl ?_) | ((fail_if_success have := KAf); have tg := hp; refine wpList_alloc_blk rfl 82 rfl _ rfl (.agg #[.int .i64 0, .int .i64 0, .int .i64 0, .string ⟨#[]⟩]) _ field_zero rfl ?_; clear tg; intro w4 KAf b4 s4; clear s4; obtain ⟨yaf, rfl⟩ := after_of b4) | ((fail_if_success have := Kf); have tg := KAf; refine wpList_store_blk rfl 82 _ _ rfl xr.w.heap.size #[.int .i64 no, .int .i64 cN, .int .i64 cR, .string cS] rfl rfl 82 _ KAf field_info rfl field_one ?_; clear tg; intro w5 Kf b5 s5; clear s5; obtain ⟨yf, rfl⟩ := after_of (yaf.h.trans (b5.below (Nat.le_refl _) yaf.h.size)); obtain ⟨f0, f1, f2, f3, f4⟩ := fld_subs Kf) | (refine wpList_load_sub rfl 30 _ rfl _ rfl w.heap.size 16 rfl #[.int .i64 ra.N, .int .i64 ra.R] _ (by repeat (first | exact sDa | refine Sub.after ?_ _ | refine Sub.alloc ?_ _)) Tryz.underlying30 rfl stamp_info ?_) | (have tg := Kf; refine wpList_load_one rfl 3 _ rfl _ rfl xr.w.heap.size 0 rfl (.int .i64 no) _ (by repeat (first | exact f1 | refine Sub.after ?_ _ | refine Sub.alloc ?_ _)) Tryz.underlying3 rfl ?_) | (have tg := Kf; refine wpList_load_sub rfl 68 _ rfl _ rfl xr.w.heap.size 1 rfl #[.int .i64 cN, .int .i64 cR, .string cS] _ (by repeat (first | exact f2 | refine Sub.after ?_ _ | refine Sub.alloc ?_ _)) Tryz.underlying68 rfl cell_info ?_) | (have tg := Kf; refine wpList_load_sub rfl 30 _ rfl _ rfl xr.w.heap.size 1 rfl #[.int .i64 cN, .int .i64 cR] _ (by repeat (first | exact f3 | refine Sub.after ?_ _ | refine Sub.alloc ?_ _)) Tryz.underlying30 rfl stamp_info ?_) | (go_at_call 94; (with_reducible refine (rcmay_v hc.out _).mono ?_); rintro e w' ⟨rfl, hb⟩; obtain ⟨z, rfl⟩ := after_of hb; clear hb) | (go_at_call 95; (with_reducible refine (rsless_v hs.out _).mono ?_); rintro e w' ⟨rfl, hb⟩; obtain ⟨z, rfl⟩ := after_of hb; clear hb))
              all_goals first | (rw [Exit.noGoto_ret]; go_ret) | go_ret
              all_goals (have hB := HWX.out; exact ⟨by rw [Hend.out]; rfl, by (repeat (first | exact Below.refl _ _ | assumption | refine bel_alloc ?_ _ | refine bel_after _ ?_ | refine bel_drewN ?_ _ | refine bel_drew ?_ | refine bel_set ?_ (by first | omega | (simp only [zYA, zYD, zYC]; omega) | (simp; omega)) _))⟩)
          · have Hend : Hid (rMay ra = fMay ra.N ra.R no (ra.f.drop (j + 1))) := Lib.hid (by rw [Hst2.out]; rfl)
            clear Hst2 I
            go_wp2_with (first | go_skip | (refine wpList_load_one rfl 31 _ rfl _ rfl w.heap.size 18 rfl (.slice (some ⟨b, off, none⟩) n c) _ (by repeat (first | exact sFa | refine Sub.after ?_ _ | refine Sub.alloc ?_ _)) Tryz.underlying31 rfl ?_) | ((fail_if_success have := KAf); have tg := hp; refine wpList_alloc_blk rfl 82 rfl _ rfl (.agg #[.int .i64 0, .int .i64 0, .int .i64 0, .string ⟨#[]⟩]) _ field_zero rfl ?_; clear tg; intro w4 KAf b4 s4; clear s4; obtain ⟨yaf, rfl⟩ := after_of b4) | ((fail_if_success have := Kf); have tg := KAf; refine wpList_store_blk rfl 82 _ _ rfl xr.w.heap.size #[.int .i64 no, .int .i64 cN, .int .i64 cR, .string cS] rfl rfl 82 _ KAf field_info rfl field_one ?_; clear tg; intro w5 Kf b5 s5; clear s5; obtain ⟨yf, rfl⟩ := after_of (yaf.h.trans (b5.below (Nat.le_refl _) yaf.h.size)); obtain ⟨f0, f1, f2, f3, f4⟩ := fld_subs Kf) | (refine wpList_load_sub rfl 30 _ rfl _ rfl w.heap.size 16 rfl #[.int .i64 ra.N, .int .i64 ra.R] _ (by repeat (first | exact sDa | refine Sub.after ?_ _ | refine Sub.alloc ?_ _)) Tryz.underlying30 rfl stamp_info ?_) | (have tg := Kf; refine wpList_load_one rfl 3 _ rfl _ rfl xr.w.heap.size 0 rfl (.int .i64 no) _ (by repeat (first | exact f1 | refine Sub.after ?_ _ | refine Sub.alloc ?_ _)) Tryz.underlying3 rfl ?_) | (have tg := Kf; refine wpList_load_sub rfl 68 _ rfl _ rfl xr.w.heap.size 1 rfl #[.int .i64 cN, .int .i64 cR, .string cS] _ (by repeat (first | exact f2 | refine Sub.after ?_ _ | refine Sub.alloc ?_ _)) Tryz.underlying68 rfl cell_info ?_) | (have tg := Kf; refine wpList_load_sub rfl 30 _ rfl _ rfl xr.w.heap.size 1 rfl #[.int .i64 cN, .int .i64 cR] _ (by repeat (first | exact f3 | refine Sub.after ?_ _ | refine Sub.alloc ?_ _)) Tryz.underlying30 rfl stamp_info ?_) | (go_at_call 94; (with_reducible refine (rcmay_v hc.out _).mono ?_); rintro e w' ⟨rfl, hb⟩; obtain ⟨z, rfl⟩ := after_of hb; clear hb) | (go_at_call 95; (with_reducible refine (rsless_v hs.out _).mono ?_); rintro e w' ⟨rfl, hb⟩; obtain ⟨z, rfl⟩ := after_of hb; clear hb))
            go_roundw
            case rel => exact ⟨j + 1, no, by omega, by go_num, rfl, Hend, Lib.hid (by have hB := B.out; (repeat (first | exact Below.refl _ _ | assumption | refine bel_alloc ?_ _ | refine bel_after _ ?_ | refine bel_drewN ?_ _ | refine bel_drew ?_ | refine bel_set ?_ (by first | omega | (simp only [zYA, zYD, zYC]; omega) | (simp; omega)) _)))⟩
            case measure => simp [intOf]; omega
        · have hjn : j = n := by omega
          subst hjn
          have HWX := Lib.hid hwx; clear hwx
          have Hend : Hid (rMay ra = true) := Lib.hid (by rw [I.out]; exact fMay_end (by rw [Hn.out]; exact Nat.le_refl _) _)
          go_wp2_with (first | go_skip | (refine wpList_load_one rfl 31 _ rfl _ rfl w.heap.size 18 rfl (.slice aa j c) _ (by repeat (first | exact sFa | refine Sub.after ?_ _ | refine Sub.alloc ?_ _)) Tryz.underlying31 rfl ?_))
          all_goals first | (rw [Exit.noGoto_ret]; go_ret) | go_ret
          all_goals (have hB := HWX.out; exact ⟨by rw [Hend.out]; rfl, by (repeat (first | exact Below.refl _ _ | assumption | refine bel_alloc ?_ _ | refine bel_after _ ?_ | refine bel_drewN ?_ _ | refine bel_drew ?_ | refine bel_set ?_ (by first | omega | (simp only [zYA, zYD, zYC]; omega) | (simp; omega)) _))⟩)
theorem rfmay_v {r : RD} {s : Value} {b : Bool} (hr : r.ok) (h : rMay r = b) (w : World) (hv : Flds w s r.f) : Calls Tryz.prog 55 #[.agg (rA r s)] w fun e w' => e = .returned (.bool b) ∧ Below w.heap.size w w' := by
  subst h; exact rfmay_c r s hr w hv
end Go.Proofs.YtolbmemogoojhaaGreat
/- What the document's join of two records gathers, number by number: the same fields. -/
namespace Go.Proofs.YtolbmemogoojhaaGreat
open Go Go.RowKit Go.Deep
set_option linter.unusedVariables false
set_option linter.unusedSimpArgs false
set_option maxRecDepth 100000
end Go.Proofs.YtolbmemogoojhaaGreat
