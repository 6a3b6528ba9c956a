/- Whether a book may be, whether two are the same. -/
import Derived.Test.YtolbmemogoojhaaBookA
namespace Go.Proofs.Ytolbmemogoojhaa
open Go Go.RowKit Go.Deep
set_option linter.unusedVariables false
set_option linter.unusedSimpArgs false
set_option maxRecDepth 100000
def prevAt (L : BK) : Nat → Option IDL
  | 0 => none
  | i + 1 => (L[i]?).map (·.id)
theorem bMayL_step {L : BK} {j : Nat} {r : RD} (hj : L[j]? = some r) : bMayL (prevAt L j) (L.drop j) = (rMay r && (match prevAt L j with | none => true | some q => decide (q < r.id)) && bMayL (prevAt L (j + 1)) (L.drop (j + 1))) := by
  have h1 := List.getElem?_eq_some_iff.1 hj
  rw [List.drop_eq_getElem_cons h1.1, h1.2]
  have : prevAt L (j + 1) = some r.id := by simp [prevAt, hj]
  rw [this]; rfl
theorem bMayL_end {L : BK} {j : Nat} (hj : L.length ≤ j) (p : Option IDL) : bMayL p (L.drop j) = true := by rw [List.drop_of_length_le hj]; rfl
theorem recs_id {r : RD} {L : BK} {w : World} {v : Value} {j : Nat} (h : Recs w v L) (hj : L[j]? = some r) : r.ok := h.ok r (List.mem_of_getElem? hj)
set_option maxHeartbeats 6400000 in
theorem bkmay_c (v : Value) (L : BK) (w : World) (hv : Recs w v L) : Calls Try.prog 22 #[.agg #[v]] w fun e w' => e = .returned (.bool (bMay L)) ∧ Below w.heap.size w w' := by
  obtain ⟨n, hn⟩ : ∃ n, L.length = n := ⟨_, rfl⟩
  obtain ⟨a, c, rfl, hm1, _⟩ := id hv.slice
  rw [hn] at hv hm1 ⊢
  unfold maxLen at hm1
  have Hv := Lib.hid hv; have Hn := Lib.hid hn; clear hv hn
  have H := St.init w
  go_enter Try.func22, Try.ntmps22
  go_wp2_with (first | go_skip | ((fail_if_success have := kB); (with_reducible apply arm_box H); rfl; clear H; intro wn kB H) | ((with_reducible apply ld_one (ty := 22) Try.underlying22 rfl); rfl; rfl; (focus (apply H.one; (repeat (first | with_reducible exact List.mem_cons_self | with_reducible apply List.mem_cons_of_mem)); done))))
  go_loopw [8] (fun i wr => ∃ j : Nat, j ≤ n ∧ i = .int .i64 j ∧ Hid (bMayL none L = bMayL (prevAt L j) (L.drop j)) ∧ St w wr [Res.blk kB 24 #[.slice a n c]]) (fun i _ => n - (intOf i).toNat)
  case atStart => exact ⟨0, by omega, rfl, Lib.hid rfl, H⟩
  case round =>
    clear H
    obtain ⟨j, hj, rfl, I, H⟩ := hrel
    by_cases hlt : j < n
    · obtain ⟨r, hr⟩ : ∃ r, L[j]? = some r := ⟨_, List.getElem?_eq_getElem (by rw [Hn.out]; exact hlt)⟩
      obtain ⟨b, off, s, rfl, hbw, G, hf⟩ := Hv.out.at hr
      have hok : Hid r.ok := Lib.hid G.2
      have Hf := Lib.hid hf
      have Hone : Hid (s.oneCell' = true) := Lib.hid (flds_one hf)
      have Hst := Lib.hid (bMayL_step hr)
      obtain ⟨m, hm⟩ : ∃ m, Hid (rMay r = m) := ⟨_, rfl⟩
      cases m with
      | false =>
        have Hres : Hid (bMay L = false) := Lib.hid (by unfold bMay; rw [I.out, Hst.out, hm.out]; simp)
        clear hf hr hbw
        go_wp2_with (first | go_skip | ((with_reducible apply ld_one (ty := 22) Try.underlying22 rfl); rfl; rfl; (focus (apply H.one; (repeat (first | with_reducible exact List.mem_cons_self | with_reducible apply List.mem_cons_of_mem)); done))) | ((with_reducible apply ld_rec); rfl; rfl; (first | (focus (apply H.rc; (repeat (first | with_reducible exact List.mem_cons_self | with_reducible apply List.mem_cons_of_mem)); done)) | (apply RecAt.bel (hb := H.bel); assumption))) | ((with_reducible apply ld_id); rfl; rfl; (first | (focus (apply H.rc; (repeat (first | with_reducible exact List.mem_cons_self | with_reducible apply List.mem_cons_of_mem)); done)) | (apply RecAt.bel (hb := H.bel); assumption))) | ((with_reducible apply al_rec H); clear H; intro wn b H) | ((with_reducible apply st_rec H); rfl; rfl; rfl; (repeat (first | with_reducible apply Upd.head | with_reducible apply Upd.tail)); (first | assumption | (refine Hid.out ?_; assumption)); (first | rfl | assumption | (refine Hid.out ?_; assumption)); clear H; intro wn H))
        (try simp only [Act.put, List.setIfInBounds_toArray, List.set_cons_zero, List.set_cons_succ])
        refine wp_quiet_all (C := fun w' => ∃ x : After _, w' = x.w) (by kernel_rfl) (by kernel_rfl) (since_drew _) ?_
        repeat (first | go_big_quiet_skip | (go_big_quiet_want; (with_reducible apply qd_rec); rfl; (rintro _ ⟨x, rfl⟩; have H := H.call x.h; (first | (focus (apply H.rc; (repeat (first | with_reducible exact List.mem_cons_self | with_reducible apply List.mem_cons_of_mem)); done)) | (apply RecAt.bel (hb := H.bel); assumption))); (first | assumption | (refine Hid.out ?_; assumption)); (go_simp; go_big_quiet_on)) | (go_big_quiet_want; (with_reducible apply qd_id); rfl; (rintro _ ⟨x, rfl⟩; have H := H.call x.h; (first | (focus (apply H.rc; (repeat (first | with_reducible exact List.mem_cons_self | with_reducible apply List.mem_cons_of_mem)); done)) | (apply RecAt.bel (hb := H.bel); assumption))); (first | assumption | (refine Hid.out ?_; assumption)); (go_simp; go_big_quiet_on)) | (go_big_quiet_want; (with_reducible apply qd_one (ty := 22) Try.underlying22 rfl); rfl; (rintro _ ⟨x, rfl⟩; have H := H.call x.h; (focus (apply H.one; (repeat (first | with_reducible exact List.mem_cons_self | with_reducible apply List.mem_cons_of_mem)); done))); (go_simp; go_big_quiet_on)) | (go_big_quiet_step ((first | (go_at_call 48; with_reducible exact after_call _ (rmayD hok.out hm.out _ (Hf.out.below (H.call (After.h _)).bel))) | (go_at_call 33; with_reducible exact after_call _ (bkless_r hl.out hokp.out hok.out _))))))
        refine wpQuiet_nil ?_
        rintro _ ⟨zq, rfl⟩; replace H := H.call zq.h
        go_wp2_with (first | go_skip | ((with_reducible apply ld_one (ty := 22) Try.underlying22 rfl); rfl; rfl; (focus (apply H.one; (repeat (first | with_reducible exact List.mem_cons_self | with_reducible apply List.mem_cons_of_mem)); done))) | ((with_reducible apply ld_rec); rfl; rfl; (first | (focus (apply H.rc; (repeat (first | with_reducible exact List.mem_cons_self | with_reducible apply List.mem_cons_of_mem)); done)) | (apply RecAt.bel (hb := H.bel); assumption))) | ((with_reducible apply ld_id); rfl; rfl; (first | (focus (apply H.rc; (repeat (first | with_reducible exact List.mem_cons_self | with_reducible apply List.mem_cons_of_mem)); done)) | (apply RecAt.bel (hb := H.bel); assumption))) | ((with_reducible apply al_rec H); clear H; intro wn b H) | ((with_reducible apply st_rec H); rfl; rfl; rfl; (repeat (first | with_reducible apply Upd.head | with_reducible apply Upd.tail)); (first | assumption | (refine Hid.out ?_; assumption)); (first | rfl | assumption | (refine Hid.out ?_; assumption)); clear H; intro wn H))
        all_goals first | (rw [Exit.noGoto_ret]; go_ret) | go_ret
        all_goals exact ⟨by rw [Hres.out]; rfl, H.bel⟩
      | true =>
        cases j with
        | zero =>
          have Hnext : Hid (bMayL none L = bMayL (prevAt L (0 + 1)) (L.drop (0 + 1))) := Lib.hid (by rw [I.out, Hst.out, hm.out]; simp [prevAt])
          clear hf hr hbw
          go_wp2_with (first | go_skip | ((with_reducible apply ld_one (ty := 22) Try.underlying22 rfl); rfl; rfl; (focus (apply H.one; (repeat (first | with_reducible exact List.mem_cons_self | with_reducible apply List.mem_cons_of_mem)); done))) | ((with_reducible apply ld_rec); rfl; rfl; (first | (focus (apply H.rc; (repeat (first | with_reducible exact List.mem_cons_self | with_reducible apply List.mem_cons_of_mem)); done)) | (apply RecAt.bel (hb := H.bel); assumption))) | ((with_reducible apply ld_id); rfl; rfl; (first | (focus (apply H.rc; (repeat (first | with_reducible exact List.mem_cons_self | with_reducible apply List.mem_cons_of_mem)); done)) | (apply RecAt.bel (hb := H.bel); assumption))) | ((with_reducible apply al_rec H); clear H; intro wn b H) | ((with_reducible apply st_rec H); rfl; rfl; rfl; (repeat (first | with_reducible apply Upd.head | with_reducible apply Upd.tail)); (first | assumption | (refine Hid.out ?_; assumption)); (first | rfl | assumption | (refine Hid.out ?_; assumption)); clear H; intro wn H))
          (try simp only [Act.put, List.setIfInBounds_toArray, List.set_cons_zero, List.set_cons_succ])
          refine wp_quiet_all (C := fun w' => ∃ x : After _, w' = x.w) (by kernel_rfl) (by kernel_rfl) (since_drew _) ?_
          repeat (first | go_big_quiet_skip | (go_big_quiet_want; (with_reducible apply qd_rec); rfl; (rintro _ ⟨x, rfl⟩; have H := H.call x.h; (first | (focus (apply H.rc; (repeat (first | with_reducible exact List.mem_cons_self | with_reducible apply List.mem_cons_of_mem)); done)) | (apply RecAt.bel (hb := H.bel); assumption))); (first | assumption | (refine Hid.out ?_; assumption)); (go_simp; go_big_quiet_on)) | (go_big_quiet_want; (with_reducible apply qd_id); rfl; (rintro _ ⟨x, rfl⟩; have H := H.call x.h; (first | (focus (apply H.rc; (repeat (first | with_reducible exact List.mem_cons_self | with_reducible apply List.mem_cons_of_mem)); done)) | (apply RecAt.bel (hb := H.bel); assumption))); (first | assumption | (refine Hid.out ?_; assumption)); (go_simp; go_big_quiet_on)) | (go_big_quiet_want; (with_reducible apply qd_one (ty := 22) Try.underlying22 rfl); rfl; (rintro _ ⟨x, rfl⟩; have H := H.call x.h; (focus (apply H.one; (repeat (first | with_reducible exact List.mem_cons_self | with_reducible apply List.mem_cons_of_mem)); done))); (go_simp; go_big_quiet_on)) | (go_big_quiet_step ((first | (go_at_call 48; with_reducible exact after_call _ (rmayD hok.out hm.out _ (Hf.out.below (H.call (After.h _)).bel))) | (go_at_call 33; with_reducible exact after_call _ (bkless_r hl.out hokp.out hok.out _))))))
          refine wpQuiet_nil ?_
          rintro _ ⟨zq, rfl⟩; replace H := H.call zq.h
          go_wp2_with (first | go_skip | ((with_reducible apply ld_one (ty := 22) Try.underlying22 rfl); rfl; rfl; (focus (apply H.one; (repeat (first | with_reducible exact List.mem_cons_self | with_reducible apply List.mem_cons_of_mem)); done))) | ((with_reducible apply ld_rec); rfl; rfl; (first | (focus (apply H.rc; (repeat (first | with_reducible exact List.mem_cons_self | with_reducible apply List.mem_cons_of_mem)); done)) | (apply RecAt.bel (hb := H.bel); assumption))) | ((with_reducible apply ld_id); rfl; rfl; (first | (focus (apply H.rc; (repeat (first | with_reducible exact List.mem_cons_self | with_reducible apply List.mem_cons_of_mem)); done)) | (apply RecAt.bel (hb := H.bel); assumption))) | ((with_reducible apply al_rec H); clear H; intro wn b H) | ((with_reducible apply st_rec H); rfl; rfl; rfl; (repeat (first | with_reducible apply Upd.head | with_reducible apply Upd.tail)); (first | assumption | (refine Hid.out ?_; assumption)); (first | rfl | assumption | (refine Hid.out ?_; assumption)); clear H; intro wn H))
          go_roundw
          case rel => exact ⟨0 + 1, by omega, by go_num, Hnext, H.sub (by (repeat (first | with_reducible exact List.Sublist.refl _ | with_reducible refine List.Sublist.cons_cons _ ?_ | refine List.Sublist.cons _ ?_)))⟩
          case measure => simp [intOf]; omega
        | succ i =>
          obtain ⟨rp, hrp⟩ : ∃ r, L[i]? = some r := ⟨_, List.getElem?_eq_getElem (by rw [Hn.out]; omega)⟩
          obtain ⟨b2, off2, sp, he, _, G2, _⟩ := Hv.out.at hrp
          simp only [Option.some.injEq, Addr.mk.injEq, and_true] at he
          obtain ⟨rfl, rfl⟩ := he
          have hokp : Hid rp.ok := Lib.hid G2.2
          obtain ⟨l, hl⟩ : ∃ l, Hid (idLt rp.id r.id = l) := ⟨_, rfl⟩
          have hp : prevAt L (i + 1) = some rp.id := by simp [prevAt, hrp]
          have Hst2 : Hid (bMayL none L = (l && bMayL (prevAt L (i + 1 + 1)) (L.drop (i + 1 + 1)))) := Lib.hid (by
            rw [I.out, Hst.out, hm.out, hp]; simp only [Bool.true_and]; rw [← hl.out]; rfl)
          have hp1 : decide (0 < (i : Int) + 1) = true := by simp <;> omega
          have hp2 : wrap64 ((i : Int) + 1 - 1) = i := by unfold wrap64; omega
          have Hp1 := Lib.hid hp1; have Hp2 := Lib.hid hp2
          clear hf hr hbw hrp hp hp1 hp2
          go_wp2_with (first | go_skip | ((with_reducible apply ld_one (ty := 22) Try.underlying22 rfl); rfl; rfl; (focus (apply H.one; (repeat (first | with_reducible exact List.mem_cons_self | with_reducible apply List.mem_cons_of_mem)); done))) | ((with_reducible apply ld_rec); rfl; rfl; (first | (focus (apply H.rc; (repeat (first | with_reducible exact List.mem_cons_self | with_reducible apply List.mem_cons_of_mem)); done)) | (apply RecAt.bel (hb := H.bel); assumption))) | ((with_reducible apply ld_id); rfl; rfl; (first | (focus (apply H.rc; (repeat (first | with_reducible exact List.mem_cons_self | with_reducible apply List.mem_cons_of_mem)); done)) | (apply RecAt.bel (hb := H.bel); assumption))) | ((with_reducible apply al_rec H); clear H; intro wn b H) | ((with_reducible apply st_rec H); rfl; rfl; rfl; (repeat (first | with_reducible apply Upd.head | with_reducible apply Upd.tail)); (first | assumption | (refine Hid.out ?_; assumption)); (first | rfl | assumption | (refine Hid.out ?_; assumption)); clear H; intro wn H))
          have hp1 := Hp1.out; have hp2 := Hp2.out
          cases l with
          | false =>
            have Hres : Hid (bMay L = false) := Lib.hid (by unfold bMay; rw [Hst2.out]; simp)
            (try simp only [Act.put, List.setIfInBounds_toArray, List.set_cons_zero, List.set_cons_succ])
            refine wp_quiet_all (C := fun w' => ∃ x : After _, w' = x.w) (by kernel_rfl) (by kernel_rfl) (since_drew _) ?_
            repeat (first | go_big_quiet_skip | (go_big_quiet_want; (with_reducible apply qd_rec); rfl; (rintro _ ⟨x, rfl⟩; have H := H.call x.h; (first | (focus (apply H.rc; (repeat (first | with_reducible exact List.mem_cons_self | with_reducible apply List.mem_cons_of_mem)); done)) | (apply RecAt.bel (hb := H.bel); assumption))); (first | assumption | (refine Hid.out ?_; assumption)); (go_simp; go_big_quiet_on)) | (go_big_quiet_want; (with_reducible apply qd_id); rfl; (rintro _ ⟨x, rfl⟩; have H := H.call x.h; (first | (focus (apply H.rc; (repeat (first | with_reducible exact List.mem_cons_self | with_reducible apply List.mem_cons_of_mem)); done)) | (apply RecAt.bel (hb := H.bel); assumption))); (first | assumption | (refine Hid.out ?_; assumption)); (go_simp; go_big_quiet_on)) | (go_big_quiet_want; (with_reducible apply qd_one (ty := 22) Try.underlying22 rfl); rfl; (rintro _ ⟨x, rfl⟩; have H := H.call x.h; (focus (apply H.one; (repeat (first | with_reducible exact List.mem_cons_self | with_reducible apply List.mem_cons_of_mem)); done))); (go_simp; go_big_quiet_on)) | (go_big_quiet_step ((first | (go_at_call 48; with_reducible exact after_call _ (rmayD hok.out hm.out _ (Hf.out.below (H.call (After.h _)).bel))) | (go_at_call 33; with_reducible exact after_call _ (bkless_r hl.out hokp.out hok.out _))))))
            refine wpQuiet_nil ?_
            rintro _ ⟨zq, rfl⟩; replace H := H.call zq.h
            clear hp1 hp2
            go_wp2_with (first | go_skip | ((with_reducible apply ld_one (ty := 22) Try.underlying22 rfl); rfl; rfl; (focus (apply H.one; (repeat (first | with_reducible exact List.mem_cons_self | with_reducible apply List.mem_cons_of_mem)); done))) | ((with_reducible apply ld_rec); rfl; rfl; (first | (focus (apply H.rc; (repeat (first | with_reducible exact List.mem_cons_self | with_reducible apply List.mem_cons_of_mem)); done)) | (apply RecAt.bel (hb := H.bel); assumption))) | ((with_reducible apply ld_id); rfl; rfl; (first | (focus (apply H.rc; (repeat (first | with_reducible exact List.mem_cons_self | with_reducible apply List.mem_cons_of_mem)); done)) | (apply RecAt.bel (hb := H.bel); assumption))) | ((with_reducible apply al_rec H); clear H; intro wn b H) | ((with_reducible apply st_rec H); rfl; rfl; rfl; (repeat (first | with_reducible apply Upd.head | with_reducible apply Upd.tail)); (first | assumption | (refine Hid.out ?_; assumption)); (first | rfl | assumption | (refine Hid.out ?_; assumption)); clear H; intro wn H))
            all_goals first | (rw [Exit.noGoto_ret]; go_ret) | go_ret
            all_goals exact ⟨by rw [Hres.out]; rfl, H.bel⟩
          | true =>
            have Hnext : Hid (bMayL none L = bMayL (prevAt L (i + 1 + 1)) (L.drop (i + 1 + 1))) := Lib.hid (by rw [Hst2.out]; simp)
            (try simp only [Act.put, List.setIfInBounds_toArray, List.set_cons_zero, List.set_cons_succ])
            refine wp_quiet_all (C := fun w' => ∃ x : After _, w' = x.w) (by kernel_rfl) (by kernel_rfl) (since_drew _) ?_
            repeat (first | go_big_quiet_skip | (go_big_quiet_want; (with_reducible apply qd_rec); rfl; (rintro _ ⟨x, rfl⟩; have H := H.call x.h; (first | (focus (apply H.rc; (repeat (first | with_reducible exact List.mem_cons_self | with_reducible apply List.mem_cons_of_mem)); done)) | (apply RecAt.bel (hb := H.bel); assumption))); (first | assumption | (refine Hid.out ?_; assumption)); (go_simp; go_big_quiet_on)) | (go_big_quiet_want; (with_reducible apply qd_id); rfl; (rintro _ ⟨x, rfl⟩; have H := H.call x.h; (first | (focus (apply H.rc; (repeat (first | with_reducible exact List.mem_cons_self | with_reducible apply List.mem_cons_of_mem)); done)) | (apply RecAt.bel (hb := H.bel); assumption))); (first | assumption | (refine Hid.out ?_; assumption)); (go_simp; go_big_quiet_on)) | (go_big_quiet_want; (with_reducible apply qd_one (ty := 22) Try.underlying22 rfl); rfl; (rintro _ ⟨x, rfl⟩; have H := H.call x.h; (focus (apply H.one; (repeat (first | with_reducible exact List.mem_cons_self | with_reducible apply List.mem_cons_of_mem)); done))); (go_simp; go_big_quiet_on)) | (go_big_quiet_step ((first | (go_at_call 48; with_reducible exact after_call _ (rmayD hok.out hm.out _ (Hf.out.below (H.call (After.h _)).bel))) | (go_at_call 33; with_reducible exact after_call _ (bkless_r hl.out hokp.out hok.out _))))))
            refine wpQuiet_nil ?_
            rintro _ ⟨zq, rfl⟩; replace H := H.call zq.h
            clear hp1 hp2
            go_wp2_with (first | go_skip | ((with_reducible apply ld_one (ty := 22) Try.underlying22 rfl); rfl; rfl; (focus (apply H.one; (repeat (first | with_reducible exact List.mem_cons_self | with_reducible apply List.mem_cons_of_mem)); done))) | ((with_reducible apply ld_rec); rfl; rfl; (first | (focus (apply H.rc; (repeat (first | with_reducible exact List.mem_cons_self | with_reducible apply List.mem_cons_of_mem)); done)) | (apply RecAt.bel (hb := H.bel); assumption))) | ((with_reducible apply ld_id); rfl; rfl; (first | (focus (apply H.rc; (repeat (first | with_reducible exact List.mem_cons_self | with_reducible apply List.mem_cons_of_mem)); done)) | (apply RecAt.bel (hb := H.bel); assumption))) | ((with_reducible apply al_rec H); clear H; intro wn b H) | ((with_reducible apply st_rec H); rfl; rfl; rfl; (repeat (first | with_reducible apply Upd.head | with_reducible apply Upd.tail)); (first | assumption | (refine Hid.out ?_; assumption)); (first | rfl | assumption | (refine Hid.out ?_; assumption)); clear H; intro wn H))
            go_roundw
            case rel => exact ⟨i + 1 + 1, by omega, by go_num, Hnext, H.sub (by (repeat (first | with_reducible exact List.Sublist.refl _ | with_reducible refine List.Sublist.cons_cons _ ?_ | refine List.Sublist.cons _ ?_)))⟩
            case measure => simp [intOf]; omega
    · have hjn : j = n := by omega
      subst hjn
      have Hres : Hid (bMay L = decide ((j : Int) ≤ 10)) := Lib.hid (by
        unfold bMay
        rw [I.out, bMayL_end (by rw [Hn.out]; exact Nat.le_refl _), Bool.true_and, Hn.out]
        exact decide_eq_decide.2 (by omega))
      go_wp2_with (first | go_skip | ((with_reducible apply ld_one (ty := 22) Try.underlying22 rfl); rfl; rfl; (focus (apply H.one; (repeat (first | with_reducible exact List.mem_cons_self | with_reducible apply List.mem_cons_of_mem)); done))) | ((with_reducible apply ld_rec); rfl; rfl; (first | (focus (apply H.rc; (repeat (first | with_reducible exact List.mem_cons_self | with_reducible apply List.mem_cons_of_mem)); done)) | (apply RecAt.bel (hb := H.bel); assumption))) | ((with_reducible apply ld_id); rfl; rfl; (first | (focus (apply H.rc; (repeat (first | with_reducible exact List.mem_cons_self | with_reducible apply List.mem_cons_of_mem)); done)) | (apply RecAt.bel (hb := H.bel); assumption))) | ((with_reducible apply al_rec H); clear H; intro wn b H) | ((with_reducible apply st_rec H); rfl; rfl; rfl; (repeat (first | with_reducible apply Upd.head | with_reducible apply Upd.tail)); (first | assumption | (refine Hid.out ?_; assumption)); (first | rfl | assumption | (refine Hid.out ?_; assumption)); clear H; intro wn H))
      all_goals first | (rw [Exit.noGoto_ret]; go_ret) | go_ret
      all_goals exact ⟨by rw [Hres.out]; simp, H.bel⟩
theorem bkmay_v {v : Value} {L : BK} {m : Bool} (h : bMay L = m) (w : World) (hv : Recs w v L) : Calls Try.prog 22 #[.agg #[v]] w fun e w' => e = .returned (.bool m) ∧ Below w.heap.size w w' := by subst h; exact bkmay_c v L w hv
end Go.Proofs.Ytolbmemogoojhaa
