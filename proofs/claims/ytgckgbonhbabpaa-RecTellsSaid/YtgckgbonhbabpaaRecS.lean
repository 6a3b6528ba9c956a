/- rolodexref06.Same: the same pure function. -/
import Derived.Test.YtgckgbonhbabpaaRecO
import Derived.Test.YtgckgbonhbabpaaRefF
namespace Go.Proofs.Ytgckgbonhbabpaa
open Go Go.RowKit Go.Deep
set_option linter.unusedVariables false
set_option linter.unusedSimpArgs false
set_option maxRecDepth 100000
set_option maxHeartbeats 6400000 in
theorem rfsame_c (ra rb : RD) (sa sb : Value) (ha : ra.ok) (hb : rb.ok) (w : World) (hva : Flds w sa ra.f) (hvb : Flds w sb rb.f) : Calls Try.prog 39 #[.agg (rA ra sa), .agg (rA rb sb)] w fun e w' => e = .returned (.bool (rSame ra rb)) ∧ Below w.heap.size w w' := by
  have hAc := @after_cell
  have hAf := @after_frozen
  have hSz := sz_facts
  have hqf := neq_field
  have hlena := len_row (ti := 0) hva Try.underlying52
  have hlenb := len_row (ti := 0) hvb Try.underlying52
  obtain ⟨i, hi⟩ : ∃ i, (ra.id == rb.id) = i := ⟨_, rfl⟩
  obtain ⟨d, hd⟩ : ∃ d, stEq ra.N ra.R rb.N rb.R = d := ⟨_, rfl⟩
  have hq : ∀ W, (binOp .neq 51 (.agg (idA ra)) (.agg (idA rb))).run Try.prog W = .ok (.bool (!i)) W := fun W => by rw [← hi]; exact neq_id ra.id rb.id ha hb W
  have hq2 : ∀ W, (binOp .neq 23 (.agg #[.int .i64 ra.N, .int .i64 ra.R]) (.agg #[.int .i64 rb.N, .int .i64 rb.R])).run Try.prog W = .ok (.bool (!d)) W := fun W => by rw [neq_stamp, hd]
  have Hr : Hid (rSame ra rb = (i && d && fsEq ra.f rb.f)) := Lib.hid (by unfold rSame recSame; rw [hi, hd])
  clear hi hd
  obtain ⟨n, hn⟩ : ∃ n, ra.f.length = n := ⟨_, rfl⟩
  obtain ⟨n', hn'⟩ : ∃ n', rb.f.length = n' := ⟨_, rfl⟩
  rw [hn] at hlena; rw [hn'] at hlenb
  have Ha := Lib.hid ha; have Hb := Lib.hid hb; have Hva := Lib.hid hva; have Hvb := Lib.hid hvb; have Hn := Lib.hid hn; have Hn' := Lib.hid hn'
  clear ha hb hva hvb hn hn'
  have hcase : (i = false ∨ i = true ∧ d = false ∨ i = true ∧ d = true ∧ ((n : Int) == (n' : Int)) = false) ∨ (i = true ∧ d = true ∧ n = n') := by
    by_cases h : n = n'
    · cases i <;> cases d <;> simp [h]
    · have : ((n : Int) == (n' : Int)) = false := by simp; omega
      cases i <;> cases d <;> simp [h, this]
  rcases hcase with (rfl | ⟨rfl, rfl⟩ | ⟨rfl, rfl, hne⟩) | ⟨rfl, rfl, hnn⟩
  · go_enter Try.func39, Try.ntmps39
    go_wp2_with (first | go_skip | ((fail_if_success have := Ka); refine wpList_box_blk rfl 54 _ rfl _ rfl (rA ra sa) rfl ?_; intro w1 Ka b1 s1; clear s1; obtain ⟨ya, rfl⟩ := after_of b1; obtain ⟨sAa, sIa, sDa, sFa⟩ := rA_subs Ka Ha.out) | ((fail_if_success have := Kb); refine wpList_box_blk rfl 54 _ rfl _ rfl (rA rb sb) rfl ?_; intro w1 Kb b1 s1; clear s1; obtain ⟨yb, rfl⟩ := after_of b1; obtain ⟨sAb, sIb, sDb, sFb⟩ := rA_subs Kb Hb.out) | (refine wpList_load_sub rfl 54 _ rfl _ rfl w.heap.size 0 rfl (rA ra sa) _ (by repeat (first | exact sAa | refine Sub.after ?_ _ | refine Sub.alloc ?_ _)) Try.underlying54 rfl (rA_info Ha.out) ?_) | (refine wpList_load_sub rfl 51 _ rfl _ rfl w.heap.size 0 rfl (idA ra) _ (by repeat (first | exact sIa | refine Sub.after ?_ _ | refine Sub.alloc ?_ _)) Try.underlying51 rfl (idA_info Ha.out) ?_) | (refine wpList_load_sub rfl 23 _ rfl _ rfl w.heap.size 16 rfl #[.int .i64 (ra).N, .int .i64 (ra).R] _ (by repeat (first | exact sDa | refine Sub.after ?_ _ | refine Sub.alloc ?_ _)) Try.underlying23 rfl stamp_info ?_) | (refine wpList_load_one rfl 52 _ rfl _ rfl w.heap.size 18 rfl sa _ (by repeat (first | exact sFa | refine Sub.after ?_ _ | refine Sub.alloc ?_ _)) Try.underlying52 rfl ?_) | (refine wpList_load_sub rfl 54 _ rfl _ rfl ya.w.heap.size 0 rfl (rA rb sb) _ (by repeat (first | exact sAb | refine Sub.after ?_ _ | refine Sub.alloc ?_ _)) Try.underlying54 rfl (rA_info Hb.out) ?_) | (refine wpList_load_sub rfl 51 _ rfl _ rfl ya.w.heap.size 0 rfl (idA rb) _ (by repeat (first | exact sIb | refine Sub.after ?_ _ | refine Sub.alloc ?_ _)) Try.underlying51 rfl (idA_info Hb.out) ?_) | (refine wpList_load_sub rfl 23 _ rfl _ rfl ya.w.heap.size 16 rfl #[.int .i64 (rb).N, .int .i64 (rb).R] _ (by repeat (first | exact sDb | refine Sub.after ?_ _ | refine Sub.alloc ?_ _)) Try.underlying23 rfl stamp_info ?_) | (refine wpList_load_one rfl 52 _ rfl _ rfl ya.w.heap.size 18 rfl sb _ (by repeat (first | exact sFb | refine Sub.after ?_ _ | refine Sub.alloc ?_ _)) Try.underlying52 rfl ?_))
    all_goals first | (rw [Exit.noGoto_ret]; go_ret) | go_ret
    all_goals exact ⟨by rw [Hr.out]; rfl, by (repeat (first | exact Below.refl _ _ | assumption | refine bel_alloc ?_ _ | refine bel_after _ ?_ | refine bel_drewN ?_ _ | refine bel_drew ?_ | refine bel_set ?_ (by first | omega | (simp only [World.size_alloc, World.size_drew, World.size_setCell]; omega) | (simp; omega)) _))⟩
  · go_enter Try.func39, Try.ntmps39
    go_wp2_with (first | go_skip | ((fail_if_success have := Ka); refine wpList_box_blk rfl 54 _ rfl _ rfl (rA ra sa) rfl ?_; intro w1 Ka b1 s1; clear s1; obtain ⟨ya, rfl⟩ := after_of b1; obtain ⟨sAa, sIa, sDa, sFa⟩ := rA_subs Ka Ha.out) | ((fail_if_success have := Kb); refine wpList_box_blk rfl 54 _ rfl _ rfl (rA rb sb) rfl ?_; intro w1 Kb b1 s1; clear s1; obtain ⟨yb, rfl⟩ := after_of b1; obtain ⟨sAb, sIb, sDb, sFb⟩ := rA_subs Kb Hb.out) | (refine wpList_load_sub rfl 54 _ rfl _ rfl w.heap.size 0 rfl (rA ra sa) _ (by repeat (first | exact sAa | refine Sub.after ?_ _ | refine Sub.alloc ?_ _)) Try.underlying54 rfl (rA_info Ha.out) ?_) | (refine wpList_load_sub rfl 51 _ rfl _ rfl w.heap.size 0 rfl (idA ra) _ (by repeat (first | exact sIa | refine Sub.after ?_ _ | refine Sub.alloc ?_ _)) Try.underlying51 rfl (idA_info Ha.out) ?_) | (refine wpList_load_sub rfl 23 _ rfl _ rfl w.heap.size 16 rfl #[.int .i64 (ra).N, .int .i64 (ra).R] _ (by repeat (first | exact sDa | refine Sub.after ?_ _ | refine Sub.alloc ?_ _)) Try.underlying23 rfl stamp_info ?_) | (refine wpList_load_one rfl 52 _ rfl _ rfl w.heap.size 18 rfl sa _ (by repeat (first | exact sFa | refine Sub.after ?_ _ | refine Sub.alloc ?_ _)) Try.underlying52 rfl ?_) | (refine wpList_load_sub rfl 54 _ rfl _ rfl ya.w.heap.size 0 rfl (rA rb sb) _ (by repeat (first | exact sAb | refine Sub.after ?_ _ | refine Sub.alloc ?_ _)) Try.underlying54 rfl (rA_info Hb.out) ?_) | (refine wpList_load_sub rfl 51 _ rfl _ rfl ya.w.heap.size 0 rfl (idA rb) _ (by repeat (first | exact sIb | refine Sub.after ?_ _ | refine Sub.alloc ?_ _)) Try.underlying51 rfl (idA_info Hb.out) ?_) | (refine wpList_load_sub rfl 23 _ rfl _ rfl ya.w.heap.size 16 rfl #[.int .i64 (rb).N, .int .i64 (rb).R] _ (by repeat (first | exact sDb | refine Sub.after ?_ _ | refine Sub.alloc ?_ _)) Try.underlying23 rfl stamp_info ?_) | (refine wpList_load_one rfl 52 _ rfl _ rfl ya.w.heap.size 18 rfl sb _ (by repeat (first | exact sFb | refine Sub.after ?_ _ | refine Sub.alloc ?_ _)) Try.underlying52 rfl ?_))
    all_goals first | (rw [Exit.noGoto_ret]; go_ret) | go_ret
    all_goals exact ⟨by rw [Hr.out]; rfl, by (repeat (first | exact Below.refl _ _ | assumption | refine bel_alloc ?_ _ | refine bel_after _ ?_ | refine bel_drewN ?_ _ | refine bel_drew ?_ | refine bel_set ?_ (by first | omega | (simp only [World.size_alloc, World.size_drew, World.size_setCell]; omega) | (simp; omega)) _))⟩
  · have Hend : Hid (rSame ra rb = false) := Lib.hid (by
      have : fsEq ra.f rb.f = false := fsEq_len (by rw [Hn.out, Hn'.out]; intro h; rw [h] at hne; simp at hne)
      rw [Hr.out, this]; rfl)
    go_enter Try.func39, Try.ntmps39
    go_wp2_with (first | go_skip | ((fail_if_success have := Ka); refine wpList_box_blk rfl 54 _ rfl _ rfl (rA ra sa) rfl ?_; intro w1 Ka b1 s1; clear s1; obtain ⟨ya, rfl⟩ := after_of b1; obtain ⟨sAa, sIa, sDa, sFa⟩ := rA_subs Ka Ha.out) | ((fail_if_success have := Kb); refine wpList_box_blk rfl 54 _ rfl _ rfl (rA rb sb) rfl ?_; intro w1 Kb b1 s1; clear s1; obtain ⟨yb, rfl⟩ := after_of b1; obtain ⟨sAb, sIb, sDb, sFb⟩ := rA_subs Kb Hb.out) | (refine wpList_load_sub rfl 54 _ rfl _ rfl w.heap.size 0 rfl (rA ra sa) _ (by repeat (first | exact sAa | refine Sub.after ?_ _ | refine Sub.alloc ?_ _)) Try.underlying54 rfl (rA_info Ha.out) ?_) | (refine wpList_load_sub rfl 51 _ rfl _ rfl w.heap.size 0 rfl (idA ra) _ (by repeat (first | exact sIa | refine Sub.after ?_ _ | refine Sub.alloc ?_ _)) Try.underlying51 rfl (idA_info Ha.out) ?_) | (refine wpList_load_sub rfl 23 _ rfl _ rfl w.heap.size 16 rfl #[.int .i64 (ra).N, .int .i64 (ra).R] _ (by repeat (first | exact sDa | refine Sub.after ?_ _ | refine Sub.alloc ?_ _)) Try.underlying23 rfl stamp_info ?_) | (refine wpList_load_one rfl 52 _ rfl _ rfl w.heap.size 18 rfl sa _ (by repeat (first | exact sFa | refine Sub.after ?_ _ | refine Sub.alloc ?_ _)) Try.underlying52 rfl ?_) | (refine wpList_load_sub rfl 54 _ rfl _ rfl ya.w.heap.size 0 rfl (rA rb sb) _ (by repeat (first | exact sAb | refine Sub.after ?_ _ | refine Sub.alloc ?_ _)) Try.underlying54 rfl (rA_info Hb.out) ?_) | (refine wpList_load_sub rfl 51 _ rfl _ rfl ya.w.heap.size 0 rfl (idA rb) _ (by repeat (first | exact sIb | refine Sub.after ?_ _ | refine Sub.alloc ?_ _)) Try.underlying51 rfl (idA_info Hb.out) ?_) | (refine wpList_load_sub rfl 23 _ rfl _ rfl ya.w.heap.size 16 rfl #[.int .i64 (rb).N, .int .i64 (rb).R] _ (by repeat (first | exact sDb | refine Sub.after ?_ _ | refine Sub.alloc ?_ _)) Try.underlying23 rfl stamp_info ?_) | (refine wpList_load_one rfl 52 _ rfl _ rfl ya.w.heap.size 18 rfl sb _ (by repeat (first | exact sFb | refine Sub.after ?_ _ | refine Sub.alloc ?_ _)) Try.underlying52 rfl ?_))
    all_goals first | (rw [Exit.noGoto_ret]; go_ret) | go_ret
    all_goals exact ⟨by rw [Hend.out]; rfl, by (repeat (first | exact Below.refl _ _ | assumption | refine bel_alloc ?_ _ | refine bel_after _ ?_ | refine bel_drewN ?_ _ | refine bel_drew ?_ | refine bel_set ?_ (by first | omega | (simp only [World.size_alloc, World.size_drew, World.size_setCell]; omega) | (simp; omega)) _))⟩
  · subst hnn
    have hS : Hid (∃ aa c, sa = .slice aa n c ∧ n ≤ maxLen) := by
      obtain ⟨_, aa, c, e, q1, hm1, _⟩ := id Hva.out
      rw [Hn.out] at e
      exact Lib.hid ⟨aa, c, e, by have h := Hn.out; have := fieldsL_length ra.f; omega⟩
    have hS' : Hid (∃ aa c, sb = .slice aa n c) := by
      obtain ⟨_, aa, c, e, _⟩ := id Hvb.out
      rw [Hn'.out] at e
      exact Lib.hid ⟨aa, c, e⟩
    obtain ⟨aa, c, rfl, hm1⟩ := hS.out
    obtain ⟨ab, cb, rfl⟩ := hS'.out
    clear hS hS'
    unfold maxLen at hm1
    go_enter Try.func39, Try.ntmps39
    go_wp2_with (first | go_skip | ((fail_if_success have := Ka); refine wpList_box_blk rfl 54 _ rfl _ rfl (rA ra (.slice aa n c)) rfl ?_; intro w1 Ka b1 s1; clear s1; obtain ⟨ya, rfl⟩ := after_of b1; obtain ⟨sAa, sIa, sDa, sFa⟩ := rA_subs Ka Ha.out) | ((fail_if_success have := Kb); refine wpList_box_blk rfl 54 _ rfl _ rfl (rA rb (.slice ab n cb)) rfl ?_; intro w1 Kb b1 s1; clear s1; obtain ⟨yb, rfl⟩ := after_of b1; obtain ⟨sAb, sIb, sDb, sFb⟩ := rA_subs Kb Hb.out) | (refine wpList_load_sub rfl 54 _ rfl _ rfl w.heap.size 0 rfl (rA ra (.slice aa n c)) _ (by repeat (first | exact sAa | refine Sub.after ?_ _ | refine Sub.alloc ?_ _)) Try.underlying54 rfl (rA_info Ha.out) ?_) | (refine wpList_load_sub rfl 51 _ rfl _ rfl w.heap.size 0 rfl (idA ra) _ (by repeat (first | exact sIa | refine Sub.after ?_ _ | refine Sub.alloc ?_ _)) Try.underlying51 rfl (idA_info Ha.out) ?_) | (refine wpList_load_sub rfl 23 _ rfl _ rfl w.heap.size 16 rfl #[.int .i64 (ra).N, .int .i64 (ra).R] _ (by repeat (first | exact sDa | refine Sub.after ?_ _ | refine Sub.alloc ?_ _)) Try.underlying23 rfl stamp_info ?_) | (refine wpList_load_one rfl 52 _ rfl _ rfl w.heap.size 18 rfl (.slice aa n c) _ (by repeat (first | exact sFa | refine Sub.after ?_ _ | refine Sub.alloc ?_ _)) Try.underlying52 rfl ?_) | (refine wpList_load_sub rfl 54 _ rfl _ rfl ya.w.heap.size 0 rfl (rA rb (.slice ab n cb)) _ (by repeat (first | exact sAb | refine Sub.after ?_ _ | refine Sub.alloc ?_ _)) Try.underlying54 rfl (rA_info Hb.out) ?_) | (refine wpList_load_sub rfl 51 _ rfl _ rfl ya.w.heap.size 0 rfl (idA rb) _ (by repeat (first | exact sIb | refine Sub.after ?_ _ | refine Sub.alloc ?_ _)) Try.underlying51 rfl (idA_info Hb.out) ?_) | (refine wpList_load_sub rfl 23 _ rfl _ rfl ya.w.heap.size 16 rfl #[.int .i64 (rb).N, .int .i64 (rb).R] _ (by repeat (first | exact sDb | refine Sub.after ?_ _ | refine Sub.alloc ?_ _)) Try.underlying23 rfl stamp_info ?_) | (refine wpList_load_one rfl 52 _ rfl _ rfl ya.w.heap.size 18 rfl (.slice ab n cb) _ (by repeat (first | exact sFb | refine Sub.after ?_ _ | refine Sub.alloc ?_ _)) Try.underlying52 rfl ?_))
    have Hwm : Hid (Below w.heap.size w yb.w) := Lib.hid (by (repeat (first | exact Below.refl _ _ | assumption | refine bel_alloc ?_ _ | refine bel_after _ ?_ | refine bel_drewN ?_ _ | refine bel_drew ?_ | refine bel_set ?_ (by first | omega | (simp only [World.size_alloc, World.size_drew, World.size_setCell]; omega) | (simp; omega)) _)))
    go_loopw [5] (fun i wr => ∃ j : Nat, j ≤ n ∧ i = .int .i64 j ∧ Hid (fsEq ra.f rb.f = fsEq (ra.f.drop j) (rb.f.drop j)) ∧ Hid (Below yb.w.heap.size yb.w wr)) (fun i _ => n - (intOf i).toNat)
    case atStart => exact ⟨0, by omega, rfl, Lib.hid rfl, Lib.hid (Below.refl _ _)⟩
    case round =>
      obtain ⟨j, hj, rfl, I, B⟩ := hrel
      obtain ⟨xr, rfl⟩ := after_of B.out
      have hwx : Below w.heap.size w xr.w := bel_after xr Hwm.out
      by_cases hlt : j < n
      · obtain ⟨⟨no, cN, cR, cS⟩, hf⟩ : ∃ f, ra.f[j]? = some f := ⟨_, List.getElem?_eq_getElem (by rw [Hn.out]; exact hlt)⟩
        obtain ⟨⟨no', cN', cR', cS'⟩, hf'⟩ : ∃ f, rb.f[j]? = some f := ⟨_, List.getElem?_eq_getElem (by rw [Hn'.out]; exact hlt)⟩
        obtain ⟨b, off, rfl, hbw, g0, g1, g2, g3⟩ := Hva.out.at hf
        obtain ⟨b', off', rfl, hbw', k0, k1, k2, k3⟩ := Hvb.out.at hf'
        have Hst := Lib.hid (fsEq_step hf hf')
        clear hf hf'
        have g0 := cell_below (hwx) _ _ _ g0; have g1 := cell_below (hwx) _ _ _ g1; have g2 := cell_below (hwx) _ _ _ g2; have g3 := cell_below (hwx) _ _ _ g3
        have k0 := cell_below (hwx) _ _ _ k0; have k1 := cell_below (hwx) _ _ _ k1; have k2 := cell_below (hwx) _ _ _ k2; have k3 := cell_below (hwx) _ _ _ k3
        dsimp only at g0 g1 g2 g3 k0 k1 k2 k3
        have hs1 := szf1 (a := b) (b := xr.w.heap.size) (by have := hwx.size; omega)
        have hs2 := szf1 (a := b') (b := xr.w.heap.size) (by have := hwx.size; omega)
        have HWX := Lib.hid hwx; clear hwx
        obtain ⟨r, hr⟩ : ∃ r, Hid (fEq (no, cN, cR, cS) (no', cN', cR', cS') = r) := ⟨_, rfl⟩
        rw [hr.out] at Hst
        have hr' := hr.out
        cases r
        · have Hend : Hid (rSame ra rb = false) := Lib.hid (by rw [Hr.out, I.out, Hst.out]; rfl)
          go_wp2_with (first | go_skip | (refine wpList_load_one rfl 52 _ rfl _ rfl w.heap.size 18 rfl (.slice (some ⟨b, off, none⟩) n c) _ (by repeat (first | exact sFa | refine Sub.after ?_ _ | refine Sub.alloc ?_ _)) Try.underlying52 rfl ?_) | (refine wpList_load_one rfl 52 _ rfl _ rfl ya.w.heap.size 18 rfl (.slice (some ⟨b', off', none⟩) n cb) _ (by repeat (first | exact sFb | refine Sub.after ?_ _ | refine Sub.alloc ?_ _)) Try.underlying52 rfl ?_))
          refine wp_quiet_all (C := fun w' => ∃ x : After _, w' = x.w) (by kernel_rfl) (by kernel_rfl) (since_drew _) ?_
          repeat (first | go_big_quiet_skip | (go_big_quiet_want; (refine quiet_load_one 52 _ rfl _ rfl w.heap.size 18 rfl (.slice (some ⟨b, off, none⟩) n c) _ ?_ Try.underlying52 rfl ?_; rotate_left; (go_simp; go_big_quiet_on); rotate_left; (rintro _ ⟨x, rfl⟩; repeat (first | exact sFa | refine Sub.after ?_ _ | refine Sub.alloc ?_ _)))) | (go_big_quiet_want; (refine quiet_load_one 52 _ rfl _ rfl ya.w.heap.size 18 rfl (.slice (some ⟨b', off', none⟩) n cb) _ ?_ Try.underlying52 rfl ?_; rotate_left; (go_simp; go_big_quiet_on); rotate_left; (rintro _ ⟨x, rfl⟩; repeat (first | exact sFb | refine Sub.after ?_ _ | refine Sub.alloc ?_ _)))) | (go_big_quiet_step (fail)))
          refine wpQuiet_nil ?_
          rintro _ ⟨zq, rfl⟩
          go_wp2
          all_goals first | (rw [Exit.noGoto_ret]; go_ret) | go_ret
          all_goals (have hB := HWX.out; exact ⟨by rw [Hend.out]; rfl, by (repeat (first | exact Below.refl _ _ | assumption | refine bel_alloc ?_ _ | refine bel_after _ ?_ | refine bel_drewN ?_ _ | refine bel_drew ?_ | refine bel_set ?_ (by first | omega | (simp only [World.size_alloc, World.size_drew, World.size_setCell]; omega) | (simp; omega)) _))⟩)
        · have Hend : Hid (fsEq ra.f rb.f = fsEq (ra.f.drop (j + 1)) (rb.f.drop (j + 1))) := Lib.hid (by rw [I.out, Hst.out]; rfl)
          go_wp2_with (first | go_skip | (refine wpList_load_one rfl 52 _ rfl _ rfl w.heap.size 18 rfl (.slice (some ⟨b, off, none⟩) n c) _ (by repeat (first | exact sFa | refine Sub.after ?_ _ | refine Sub.alloc ?_ _)) Try.underlying52 rfl ?_) | (refine wpList_load_one rfl 52 _ rfl _ rfl ya.w.heap.size 18 rfl (.slice (some ⟨b', off', none⟩) n cb) _ (by repeat (first | exact sFb | refine Sub.after ?_ _ | refine Sub.alloc ?_ _)) Try.underlying52 rfl ?_))
          refine wp_quiet_all (C := fun w' => ∃ x : After _, w' = x.w) (by kernel_rfl) (by kernel_rfl) (since_drew _) ?_
          repeat (first | go_big_quiet_skip | (go_big_quiet_want; (refine quiet_load_one 52 _ rfl _ rfl w.heap.size 18 rfl (.slice (some ⟨b, off, none⟩) n c) _ ?_ Try.underlying52 rfl ?_; rotate_left; (go_simp; go_big_quiet_on); rotate_left; (rintro _ ⟨x, rfl⟩; repeat (first | exact sFa | refine Sub.after ?_ _ | refine Sub.alloc ?_ _)))) | (go_big_quiet_want; (refine quiet_load_one 52 _ rfl _ rfl ya.w.heap.size 18 rfl (.slice (some ⟨b', off', none⟩) n cb) _ ?_ Try.underlying52 rfl ?_; rotate_left; (go_simp; go_big_quiet_on); rotate_left; (rintro _ ⟨x, rfl⟩; repeat (first | exact sFb | refine Sub.after ?_ _ | refine Sub.alloc ?_ _)))) | (go_big_quiet_step (fail)))
          refine wpQuiet_nil ?_
          rintro _ ⟨zq, rfl⟩
          go_wp2
          go_roundw
          case rel => exact ⟨j + 1, by omega, by go_num, Hend, Lib.hid (xr.h.trans (zq.h.mono xr.h.size))⟩
          case measure => simp [intOf]; omega
      · have hjn : j = n := by omega
        subst hjn
        have HWX := Lib.hid hwx; clear hwx
        have Hend : Hid (rSame ra rb = true) := Lib.hid (by rw [Hr.out, I.out]; exact fsEq_end (by rw [Hn.out]; exact Nat.le_refl _) (by rw [Hn'.out]; exact Nat.le_refl _))
        go_wp2_with (first | go_skip | (refine wpList_load_one rfl 52 _ rfl _ rfl w.heap.size 18 rfl (.slice aa j c) _ (by repeat (first | exact sFa | refine Sub.after ?_ _ | refine Sub.alloc ?_ _)) Try.underlying52 rfl ?_) | (refine wpList_load_one rfl 52 _ rfl _ rfl ya.w.heap.size 18 rfl (.slice ab j cb) _ (by repeat (first | exact sFb | refine Sub.after ?_ _ | refine Sub.alloc ?_ _)) Try.underlying52 rfl ?_))
        all_goals first | (rw [Exit.noGoto_ret]; go_ret) | go_ret
        all_goals (have hB := HWX.out; exact ⟨by rw [Hend.out]; rfl, by (repeat (first | exact Below.refl _ _ | assumption | refine bel_alloc ?_ _ | refine bel_after _ ?_ | refine bel_drewN ?_ _ | refine bel_drew ?_ | refine bel_set ?_ (by first | omega | (simp only [World.size_alloc, World.size_drew, World.size_setCell]; omega) | (simp; omega)) _))⟩)
theorem rfsame_v {r r' : RD} {s s' : Value} {b : Bool} (hr : r.ok) (hr' : r'.ok) (h : rSame r r' = b) (w : World) (hv : Flds w s r.f) (hv' : Flds w s' r'.f) : Calls Try.prog 39 #[.agg (rA r s), .agg (rA r' s')] w fun e w' => e = .returned (.bool b) ∧ Below w.heap.size w w' := by
  subst h; exact rfsame_c r r' s s' hr hr' w hv hv'
end Go.Proofs.Ytgckgbonhbabpaa
