/- The walk of BookNew. -/
import Derived.Test.YtolbmemogoojhaaBookY
namespace Go.Proofs.Ytolbmemogoojhaa
open Go Go.RowKit Go.Deep
set_option linter.unusedVariables false
set_option linter.unusedSimpArgs false
set_option maxRecDepth 100000
set_option maxHeartbeats 12800000 in
theorem bookNew_walk (va : Value) (A : BK) (key : IDK) (no rep : Int) (v : ByteArray) (w : World) (ha : Recs w va A) : Calls Try.prog 6 #[.agg #[va], .agg (encU key.1).toArray, .int .i64 no, .int .i64 rep, .string v] w fun e w' => e = .returned (.bool true) ∧ Below w.heap.size w w' := by
  obtain ⟨n, hn⟩ : ∃ n, A.length = n := ⟨_, rfl⟩
  obtain ⟨a, c, rfl, hm1, _⟩ := id ha.slice
  rw [hn] at ha hm1 ⊢
  unfold maxLen at hm1
  have Ha := Lib.hid ha; have Hn := Lib.hid hn; clear ha hn
  obtain ⟨p, hfa⟩ : ∃ p, Hid (bFew A = p) := ⟨_, rfl⟩
  have Hone0 : Hid (Value.oneCell' (.slice none 0 0) = true) := Lib.hid rfl
  have Hone1 : Hid (Value.oneCell' (.slice a n c) = true) := Lib.hid rfl
  have H := St.init w
  obtain ⟨s, hs⟩ : ∃ s, decide ((300 : Int) < (v.size : Int)) = s := ⟨_, rfl⟩
  have hcase : (p = false ∨ (p = true ∧ s = true)) ∨ (p = true ∧ s = false) := by cases p <;> cases s <;> simp
  rcases hcase with (rfl | ⟨rfl, rfl⟩) | ⟨rfl, rfl⟩
  iterate 2
    · go_enter Try.func6, Try.ntmps6
      go_wp2_with (first | go_skip | ((fail_if_success have := kA); (with_reducible apply arm_box H); rfl; clear H; intro wn kA H) | ((fail_if_success have := kI); (with_reducible apply arm_box H); rfl; clear H; intro wn kI H) | ((fail_if_success have := kC); (with_reducible apply al_bk H); clear H; intro wn kC H) | ((with_reducible apply ld_bk); rfl; rfl; (focus (apply H.one; (repeat (first | with_reducible exact List.mem_cons_self | with_reducible apply List.mem_cons_of_mem)); done))) | ((with_reducible apply ld_idS (k := key)); rfl; rfl; (focus (apply H.arr (t := 33); (repeat (first | with_reducible exact List.mem_cons_self | with_reducible apply List.mem_cons_of_mem)); done))) | ((with_reducible apply st_bk H); rfl; rfl; rfl; (repeat (first | with_reducible apply Upd.head | with_reducible apply Upd.tail)); (first | rfl | assumption | (refine Hid.out ?_; assumption)); clear H; intro wn H) | (go_at_call 20; (with_reducible refine (awake7_c _).mono ?_); rintro e wn ⟨rfl, hb⟩; replace H := H.call hb; clear hb) | (go_at_call 21; first | ((with_reducible refine (few7_v hfa.out _ (Ha.out.below H.bel)).mono ?_); rintro e wn ⟨rfl, hb⟩; replace H := H.call hb; clear hb)))
      all_goals first | (rw [Exit.noGoto_ret]; go_ret) | go_ret
      all_goals exact ⟨rfl, H.bel⟩
  · obtain ⟨⟨d, J⟩, hW⟩ : ∃ x, bWrite A key no rep v = x := ⟨_, rfl⟩
    by_cases h0 : d = 0
    · subst h0
      obtain ⟨z, N, h1, h2, h3, h4, h5⟩ := new_law hW
      have HW := Lib.hid hW
      have FZ := Lib.hid (bFindP_some h1)
      have FF : Hid (fFindP z.f no = (N, rep, v, true)) := Lib.hid (by unfold fFindP; rw [h2])
      have Oz : Hid z.ok := Lib.hid (by have := (bFind_mem h1).2; show z.id.length = 16; rw [this]; exact key.2)
      have SfJ := Lib.hid (bMay_f h4)
      have LQ := Lib.hid h3; have MJ := Lib.hid h4; have Ov := Lib.hid h5
      clear hW h1 h2 h3 h4 h5
      go_enter Try.func6, Try.ntmps6
      go_wp2_with (first | go_skip | ((fail_if_success have := kA); (with_reducible apply arm_box H); rfl; clear H; intro wn kA H) | ((fail_if_success have := kI); (with_reducible apply arm_box H); rfl; clear H; intro wn kI H) | ((fail_if_success have := kC); (with_reducible apply al_bk H); clear H; intro wn kC H) | ((with_reducible apply ld_bk); rfl; rfl; (focus (apply H.one; (repeat (first | with_reducible exact List.mem_cons_self | with_reducible apply List.mem_cons_of_mem)); done))) | ((with_reducible apply ld_idS (k := key)); rfl; rfl; (focus (apply H.arr (t := 33); (repeat (first | with_reducible exact List.mem_cons_self | with_reducible apply List.mem_cons_of_mem)); done))) | ((with_reducible apply st_bk H); rfl; rfl; rfl; (repeat (first | with_reducible apply Upd.head | with_reducible apply Upd.tail)); (first | rfl | assumption | (refine Hid.out ?_; assumption)); clear H; intro wn H) | (go_at_call 20; (with_reducible refine (awake7_c _).mono ?_); rintro e wn ⟨rfl, hb⟩; replace H := H.call hb; clear hb) | (go_at_call 21; first | ((with_reducible refine (few7_v hfa.out _ (Ha.out.below H.bel)).mono ?_); rintro e wn ⟨rfl, hb⟩; replace H := H.call hb; clear hb)) | (go_at_call 29; (fail_if_success have := Tj); (with_reducible refine (bkwrite_k HW.out _ (Ha.out.below H.bel)).mono ?_); rintro e wn ⟨vj, rj, rfl, hrj, hs⟩; replace H := H.comp hs; clear hs; simp only [List.cons_append, List.nil_append] at H; have Tj : Hid (vj.oneCell' = true) := Lib.hid (hrj _ (H.get (r := rj) (by (repeat (first | with_reducible exact List.mem_cons_self | with_reducible apply List.mem_cons_of_mem))))).one; have Jj := Lib.hid hrj; clear hrj) | (go_at_call 26; (fail_if_success have := Tz); (with_reducible refine (bkfind_k FZ.out SfJ.out _ (Jj.out _ (H.get (r := rj) (by (repeat (first | with_reducible exact List.mem_cons_self | with_reducible apply List.mem_cons_of_mem)))))).mono ?_); rintro e wn ⟨sz, rfl, hs⟩; replace H := H.comp hs; clear hs; simp only [List.cons_append, List.nil_append] at H; have Tz : Hid (sz.oneCell' = true) := Lib.hid (by obtain ⟨_, _, _, rfl⟩ := H.rowSlice List.mem_cons_self; rfl)) | ((fail_if_success have := kr); (with_reducible apply al_rec H); clear H; intro wn kr H) | ((with_reducible apply st_rec H); rfl; rfl; rfl; (repeat (first | with_reducible apply Upd.head | with_reducible apply Upd.tail)); (first | assumption | (refine Hid.out ?_; assumption)); (first | rfl | assumption | (refine Hid.out ?_; assumption)); clear H; intro wn H) | ((with_reducible apply ld_rec); rfl; rfl; (first | (focus (apply H.rc; (repeat (first | with_reducible exact List.mem_cons_self | with_reducible apply List.mem_cons_of_mem)); done)) | (apply RecAt.bel (hb := H.bel); assumption) | assumption)) | (go_at_call 30; (with_reducible refine (rfindD Oz.out FF.out _ (flds_row H (s := sz) (by (repeat (first | with_reducible exact List.mem_cons_self | with_reducible apply List.mem_cons_of_mem))))).mono ?_); rintro e wn ⟨rfl, hb⟩; replace H := H.call hb; clear hb) | ((fail_if_success have := kx); (with_reducible apply al_cel H); clear H; intro wn kx H) | ((with_reducible apply st_cel H); rfl; rfl; rfl; (repeat (first | with_reducible apply Upd.head | with_reducible apply Upd.tail)); clear H; intro wn H) | ((with_reducible apply ld_cstr); rfl; rfl; (first | (focus (apply H.cel; (repeat (first | with_reducible exact List.mem_cons_self | with_reducible apply List.mem_cons_of_mem)); done)) | (apply CelAt.bel (hb := H.bel); assumption))) | ((with_reducible apply ld_crep); rfl; rfl; (first | (focus (apply H.cel; (repeat (first | with_reducible exact List.mem_cons_self | with_reducible apply List.mem_cons_of_mem)); done)) | (apply CelAt.bel (hb := H.bel); assumption))) | (go_at_call 25; first | ((with_reducible refine (bkleq_v LQ.out _ (Ha.out.below H.bel) (Jj.out _ (H.get (r := rj) (by (repeat (first | with_reducible exact List.mem_cons_self | with_reducible apply List.mem_cons_of_mem)))))).mono ?_); rintro e wn ⟨rfl, hb⟩; replace H := H.call hb; clear hb)) | (go_at_call 22; first | ((with_reducible refine (bkmay_v MJ.out _ (Jj.out _ (H.get (r := rj) (by (repeat (first | with_reducible exact List.mem_cons_self | with_reducible apply List.mem_cons_of_mem)))))).mono ?_); rintro e wn ⟨rfl, hb⟩; replace H := H.call hb; clear hb)))
      go_loopw [19] (fun i wr => ∃ (j : Nat), j ≤ n ∧ i = .int .i64 j ∧ St w wr [Res.blk kx 46 #[.int .i64 N, .int .i64 rep, .string v], Res.blk kA 24 #[.slice a n c]]) (fun i _ => n - (intOf i).toNat)
      case atStart => exact ⟨0, by omega, rfl, H.sub (by (repeat (first | with_reducible exact List.Sublist.refl _ | with_reducible refine List.Sublist.cons_cons _ ?_ | refine List.Sublist.cons _ ?_)))⟩
      case round =>
        clear H
        obtain ⟨j, hj, rfl, H⟩ := hrel
        by_cases hlt : j < n
        · obtain ⟨r, hr⟩ : ∃ r, A[j]? = some r := ⟨_, List.getElem?_eq_getElem (by rw [Hn.out]; exact hlt)⟩
          obtain ⟨b, off, s, rfl, hbw, G, hf⟩ := Ha.out.at hr
          obtain ⟨o1, o2⟩ := Ov.out.2 r (List.mem_of_getElem? hr)
          have Ho1 := Lib.hid o1; have Ho2 := Lib.hid o2
          obtain ⟨nf, hnf⟩ : ∃ nf, r.f.length = nf := ⟨_, rfl⟩
          obtain ⟨_, fa, fc, rfl, hc1, hc2, _⟩ := id hf
          rw [hnf] at hf hc1 G
          unfold maxLen at hc2
          have Hf := Lib.hid hf; have Hnf := Lib.hid hnf
          clear hf hr hbw hnf o1 o2
          go_wp2_with (first | go_skip | ((with_reducible apply ld_one (ty := 22) Try.underlying22 rfl); rfl; rfl; (focus (apply H.one; (repeat (first | with_reducible exact List.mem_cons_self | with_reducible apply List.mem_cons_of_mem)); done))) | ((with_reducible apply ld_F); rfl; rfl; (first | (focus (apply H.rc; (repeat (first | with_reducible exact List.mem_cons_self | with_reducible apply List.mem_cons_of_mem)); done)) | (apply RecAt.bel (hb := H.bel); assumption))))
          (try simp only [Act.put, List.setIfInBounds_toArray, List.set_cons_zero, List.set_cons_succ])
          refine wp_quiet_all (C := fun w' => ∃ x : After _, w' = x.w) (by kernel_rfl) (by kernel_rfl) (since_drew _) ?_
          repeat (first | go_big_quiet_skip | (go_big_quiet_want; (with_reducible apply qd_dead); rfl; (rintro _ ⟨x, rfl⟩; have H := H.call x.h; (first | (focus (apply H.rc; (repeat (first | with_reducible exact List.mem_cons_self | with_reducible apply List.mem_cons_of_mem)); done)) | (apply RecAt.bel (hb := H.bel); assumption))); (go_simp; go_big_quiet_on)) | (go_big_quiet_want; (with_reducible apply qd_cstamp); rfl; (rintro _ ⟨x, rfl⟩; have H := H.call x.h; (first | (focus (apply H.cel; (repeat (first | with_reducible exact List.mem_cons_self | with_reducible apply List.mem_cons_of_mem)); done)) | (apply CelAt.bel (hb := H.bel); assumption))); (go_simp; go_big_quiet_on)) | (go_big_quiet_want; (with_reducible apply qd_one (ty := 22) Try.underlying22 rfl); rfl; (rintro _ ⟨x, rfl⟩; have H := H.call x.h; (focus (apply H.one; (repeat (first | with_reducible exact List.mem_cons_self | with_reducible apply List.mem_cons_of_mem)); done))); (go_simp; go_big_quiet_on)) | (go_big_quiet_step ((first | (go_at_call 31; with_reducible exact after_call _ (less_v Ho1.out _))))))
          refine wpQuiet_nil ?_
          rintro _ ⟨zq, rfl⟩; replace H := H.call zq.h
          go_wp2_with (first | go_skip | ((with_reducible apply ld_one (ty := 22) Try.underlying22 rfl); rfl; rfl; (focus (apply H.one; (repeat (first | with_reducible exact List.mem_cons_self | with_reducible apply List.mem_cons_of_mem)); done))) | ((with_reducible apply ld_F); rfl; rfl; (first | (focus (apply H.rc; (repeat (first | with_reducible exact List.mem_cons_self | with_reducible apply List.mem_cons_of_mem)); done)) | (apply RecAt.bel (hb := H.bel); assumption))))
          go_loopw [20] (fun i wr => ∃ (k : Nat), k ≤ nf ∧ i = .int .i64 k ∧ St w wr [Res.blk kx 46 #[.int .i64 N, .int .i64 rep, .string v], Res.blk kA 24 #[.slice (some ⟨b, off, none⟩) n c]]) (fun i _ => nf - (intOf i).toNat)
          case atStart => exact ⟨0, by omega, rfl, H.sub (by (repeat (first | with_reducible exact List.Sublist.refl _ | with_reducible refine List.Sublist.cons_cons _ ?_ | refine List.Sublist.cons _ ?_)))⟩
          case round =>
            clear H
            obtain ⟨k, hk, rfl, H⟩ := hrel
            by_cases hkl : k < nf
            · obtain ⟨f, hfk⟩ : ∃ f, r.f[k]? = some f := ⟨_, List.getElem?_eq_getElem (by rw [Hnf.out]; exact hkl)⟩
              obtain ⟨b2, off2, rfl, G2⟩ := fldat_of Hf.out hfk
              have Ho3 := Lib.hid (Ho2.out f (List.mem_of_getElem? hfk))
              clear hfk
              go_wp2_with (first | go_skip | ((with_reducible apply ld_one (ty := 22) Try.underlying22 rfl); rfl; rfl; (focus (apply H.one; (repeat (first | with_reducible exact List.mem_cons_self | with_reducible apply List.mem_cons_of_mem)); done))) | ((with_reducible apply ld_F); rfl; rfl; (first | (focus (apply H.rc; (repeat (first | with_reducible exact List.mem_cons_self | with_reducible apply List.mem_cons_of_mem)); done)) | (apply RecAt.bel (hb := H.bel); assumption))))
              (try simp only [Act.put, List.setIfInBounds_toArray, List.set_cons_zero, List.set_cons_succ])
              refine wp_quiet_all (C := fun w' => ∃ x : After _, w' = x.w) (by kernel_rfl) (by kernel_rfl) (since_drew _) ?_
              repeat (first | go_big_quiet_skip | (go_big_quiet_want; (with_reducible apply qd_F); rfl; (rintro _ ⟨x, rfl⟩; have H := H.call x.h; (first | (focus (apply H.rc; (repeat (first | with_reducible exact List.mem_cons_self | with_reducible apply List.mem_cons_of_mem)); done)) | (apply RecAt.bel (hb := H.bel); assumption))); (go_simp; go_big_quiet_on)) | (go_big_quiet_want; (with_reducible apply qd_cstamp); rfl; (rintro _ ⟨x, rfl⟩; have H := H.call x.h; (first | (focus (apply H.cel; (repeat (first | with_reducible exact List.mem_cons_self | with_reducible apply List.mem_cons_of_mem)); done)) | (apply CelAt.bel (hb := H.bel); assumption))); (go_simp; go_big_quiet_on)) | (go_big_quiet_want; (with_reducible apply qd_fstamp); rfl; (rintro _ ⟨x, rfl⟩; have H := H.call x.h; (first | (focus (apply H.fld; (repeat (first | with_reducible exact List.mem_cons_self | with_reducible apply List.mem_cons_of_mem)); done)) | (apply FldAt.bel (hb := H.bel); assumption))); (go_simp; go_big_quiet_on)) | (go_big_quiet_want; (with_reducible apply qd_one (ty := 22) Try.underlying22 rfl); rfl; (rintro _ ⟨x, rfl⟩; have H := H.call x.h; (focus (apply H.one; (repeat (first | with_reducible exact List.mem_cons_self | with_reducible apply List.mem_cons_of_mem)); done))); (go_simp; go_big_quiet_on)) | (go_big_quiet_step ((first | (go_at_call 31; with_reducible exact after_call _ (less_v Ho3.out _))))))
              refine wpQuiet_nil ?_
              rintro _ ⟨zq, rfl⟩; replace H := H.call zq.h
              go_wp2_with (first | go_skip | ((with_reducible apply ld_one (ty := 22) Try.underlying22 rfl); rfl; rfl; (focus (apply H.one; (repeat (first | with_reducible exact List.mem_cons_self | with_reducible apply List.mem_cons_of_mem)); done))) | ((with_reducible apply ld_F); rfl; rfl; (first | (focus (apply H.rc; (repeat (first | with_reducible exact List.mem_cons_self | with_reducible apply List.mem_cons_of_mem)); done)) | (apply RecAt.bel (hb := H.bel); assumption))))
              go_roundw
              case rel => exact ⟨k + 1, by omega, by go_num, H.sub (by (repeat (first | with_reducible exact List.Sublist.refl _ | with_reducible refine List.Sublist.cons_cons _ ?_ | refine List.Sublist.cons _ ?_)))⟩
              case measure => simp [intOf]; omega
            · have hkn : k = nf := by omega
              subst hkn
              go_wp2_with (first | go_skip | ((with_reducible apply ld_one (ty := 22) Try.underlying22 rfl); rfl; rfl; (focus (apply H.one; (repeat (first | with_reducible exact List.mem_cons_self | with_reducible apply List.mem_cons_of_mem)); done))) | ((with_reducible apply ld_F); rfl; rfl; (first | (focus (apply H.rc; (repeat (first | with_reducible exact List.mem_cons_self | with_reducible apply List.mem_cons_of_mem)); done)) | (apply RecAt.bel (hb := H.bel); assumption))))
              go_roundw
              case rel => exact ⟨j + 1, by omega, by go_num, H.sub (by (repeat (first | with_reducible exact List.Sublist.refl _ | with_reducible refine List.Sublist.cons_cons _ ?_ | refine List.Sublist.cons _ ?_)))⟩
              case measure => simp [intOf]; omega
        · have hjn : j = n := by omega
          subst hjn
          go_wp2_with (first | go_skip | ((with_reducible apply ld_one (ty := 22) Try.underlying22 rfl); rfl; rfl; (focus (apply H.one; (repeat (first | with_reducible exact List.mem_cons_self | with_reducible apply List.mem_cons_of_mem)); done))) | ((with_reducible apply ld_F); rfl; rfl; (first | (focus (apply H.rc; (repeat (first | with_reducible exact List.mem_cons_self | with_reducible apply List.mem_cons_of_mem)); done)) | (apply RecAt.bel (hb := H.bel); assumption))))
          all_goals first | (rw [Exit.noGoto_ret]; go_ret) | go_ret
          all_goals exact ⟨rfl, H.bel⟩
    · have hJ0 := bWrite_err hW h0
      subst hJ0
      have HW := Lib.hid hW; clear hW
      go_enter Try.func6, Try.ntmps6
      go_wp2_with (first | go_skip | ((fail_if_success have := kA); (with_reducible apply arm_box H); rfl; clear H; intro wn kA H) | ((fail_if_success have := kI); (with_reducible apply arm_box H); rfl; clear H; intro wn kI H) | ((fail_if_success have := kC); (with_reducible apply al_bk H); clear H; intro wn kC H) | ((with_reducible apply ld_bk); rfl; rfl; (focus (apply H.one; (repeat (first | with_reducible exact List.mem_cons_self | with_reducible apply List.mem_cons_of_mem)); done))) | ((with_reducible apply ld_idS (k := key)); rfl; rfl; (focus (apply H.arr (t := 33); (repeat (first | with_reducible exact List.mem_cons_self | with_reducible apply List.mem_cons_of_mem)); done))) | ((with_reducible apply st_bk H); rfl; rfl; rfl; (repeat (first | with_reducible apply Upd.head | with_reducible apply Upd.tail)); (first | rfl | assumption | (refine Hid.out ?_; assumption)); clear H; intro wn H) | (go_at_call 20; (with_reducible refine (awake7_c _).mono ?_); rintro e wn ⟨rfl, hb⟩; replace H := H.call hb; clear hb) | (go_at_call 21; first | ((with_reducible refine (few7_v hfa.out _ (Ha.out.below H.bel)).mono ?_); rintro e wn ⟨rfl, hb⟩; replace H := H.call hb; clear hb)) | (go_at_call 29; (fail_if_success have := Tj); (with_reducible refine (bkwrite_k HW.out _ (Ha.out.below H.bel)).mono ?_); rintro e wn ⟨vj, rj, rfl, hrj, hs⟩; replace H := H.comp hs; clear hs; simp only [List.cons_append, List.nil_append] at H; have hsl := (hrj _ (H.get (r := rj) (by (repeat (first | with_reducible exact List.mem_cons_self | with_reducible apply List.mem_cons_of_mem))))).slice; simp only [List.length_nil] at hsl; obtain ⟨pj, cj, rfl, -, -⟩ := hsl; have Tj : Hid ((Value.slice pj 0 cj).oneCell' = true) := Lib.hid (hrj _ (H.get (r := rj) (by (repeat (first | with_reducible exact List.mem_cons_self | with_reducible apply List.mem_cons_of_mem))))).one; have Jj := Lib.hid hrj; clear hrj) | ((with_reducible apply ld_one (ty := 22) Try.underlying22 rfl); rfl; rfl; (focus (apply H.one; (repeat (first | with_reducible exact List.mem_cons_self | with_reducible apply List.mem_cons_of_mem)); done))))
      all_goals first | (rw [Exit.noGoto_ret]; go_ret) | go_ret
      all_goals exact ⟨rfl, H.bel⟩
end Go.Proofs.Ytolbmemogoojhaa
