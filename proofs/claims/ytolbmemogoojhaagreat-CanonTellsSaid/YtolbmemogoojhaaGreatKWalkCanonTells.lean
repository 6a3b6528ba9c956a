/- The walk of CanonTells. -/
import Derived.Test.YtolbmemogoojhaaGreatKRcC
namespace Go.Proofs.YtolbmemogoojhaaGreat
open Go Go.RowKit Go.Deep
set_option linter.unusedVariables false
set_option linter.unusedSimpArgs false
set_option maxRecDepth 100000
set_option maxHeartbeats 12800000 in
theorem canonTells_walk (va : Value) (A : BK) (xv : Value) (bx : List UInt8) (w : World) (ha : Recs w va A) (hx : Byt w xv bx) : Calls Tryz.prog 6 #[.agg #[va], xv] w fun e w' => e = .returned (.bool true) ∧ Below w.heap.size w w' := by
  have Ha := Lib.hid ha
  obtain ⟨p, hfa⟩ : ∃ p, Hid (bFew A = p) := ⟨_, rfl⟩
  obtain ⟨m, hm⟩ : ∃ m, Hid (bMay A = m) := ⟨_, rfl⟩
  obtain ⟨bs, HP⟩ : ∃ bs, Hid (bPutP A = bs) := ⟨_, rfl⟩
  obtain ⟨D, hD⟩ : ∃ D, (encU (dig bs)).toArray = D := ⟨_, rfl⟩
  have heq : ∀ W, (binOp .eql 64 (.agg D) (.agg D)).run Tryz.prog W = .ok (.bool true) W := fun W => by rw [← hD]; exact dg_same _ (dig_len _) W
  have HD := Lib.hid hD; clear hD
  have HS0 : Hid (bSame [] [] = true) := Lib.hid rfl
  obtain ⟨fx, cx, rfl, _⟩ := byt_slice hx
  obtain ⟨nx, hnx⟩ : ∃ n, bx.length = n := ⟨_, rfl⟩
  rw [hnx] at hx ⊢
  have Hx := Lib.hid hx
  clear hx ha
  have hbt := bstr_toList
  obtain ⟨s, hs⟩ : ∃ s, decide ((3000 : Int) < (nx : Int)) = s := ⟨_, rfl⟩
  have H := St.init w
  have hcase : (p = false ∨ (p = true ∧ s = true)) ∨ (p = true ∧ s = false) := by cases p <;> cases s <;> simp
  rcases hcase with (rfl | ⟨rfl, rfl⟩) | ⟨rfl, rfl⟩
  iterate 2
    · clear hnx
      go_enter Tryz.func6, Tryz.ntmps6
      go_wp2_with (first | go_skip | ((fail_if_success have := kA); (with_reducible apply arm_box H); rfl; clear H; intro wn kA H) | ((fail_if_success have := kc); (with_reducible apply al_bk H); clear H; intro wn kc H) | ((fail_if_success have := kd); (with_reducible apply al_bk H); clear H; intro wn kd H) | ((with_reducible apply ld_bk); rfl; rfl; (focus (apply H.one; (repeat (first | with_reducible exact mH | with_reducible apply mT)); done))) | ((with_reducible apply st_bk H); rfl; rfl; rfl; (repeat (first | with_reducible apply Upd.head | with_reducible apply Upd.tail)); (first | rfl | assumption | (refine Hid.out ?_; assumption)); clear H; intro wn H) | (go_at_call 38; (with_reducible refine (awake8_c _).mono ?_); rintro e wn ⟨rfl, hb⟩; replace H := H.call hb; clear hb) | (go_at_call 8; first | ((with_reducible refine (few7_v hfa.out _ (Ha.out.below H.bel)).mono ?_); rintro e wn ⟨rfl, hb⟩; replace H := H.call hb; clear hb)) | (go_at_call 39; (fail_if_success have := Tvp); (with_reducible refine (cnput_v hm.out HP.out _ (Ha.out.below H.bel)).mono ?_); rintro e wn ⟨vp, rfl, hs⟩; have Tvp := Lib.hid True.intro; replace H := H.comp hs; clear hs; simp only [List.cons_append, List.nil_append] at H) | (go_at_call 40; (fail_if_success have := Tvq); (with_reducible refine (rcnput_v hm.out HP.out _ (Ha.out.below H.bel)).mono ?_); rintro e wn ⟨vq, rfl, hs⟩; have Tvq := Lib.hid True.intro; replace H := H.comp hs; clear hs; simp only [List.cons_append, List.nil_append] at H))
      all_goals first | (rw [Exit.noGoto_ret]; go_ret) | go_ret
      all_goals exact ⟨rfl, H.bel⟩
  · have HxL : Hid (bx.length ≤ 100000) := Lib.hid (by have := of_decide_eq_false hs; omega)
    clear hnx
    cases hg : gBook bx with
    | none =>
      have HG := Lib.hid hg; clear hg
      cases m
      all_goals
        go_enter Tryz.func6, Tryz.ntmps6
        go_wp2_with (first | go_skip | ((fail_if_success have := kA); (with_reducible apply arm_box H); rfl; clear H; intro wn kA H) | ((fail_if_success have := kc); (with_reducible apply al_bk H); clear H; intro wn kc H) | ((fail_if_success have := kd); (with_reducible apply al_bk H); clear H; intro wn kd H) | ((with_reducible apply ld_bk); rfl; rfl; (focus (apply H.one; (repeat (first | with_reducible exact mH | with_reducible apply mT)); done))) | ((with_reducible apply st_bk H); rfl; rfl; rfl; (repeat (first | with_reducible apply Upd.head | with_reducible apply Upd.tail)); (first | rfl | assumption | (refine Hid.out ?_; assumption)); clear H; intro wn H) | (go_at_call 38; (with_reducible refine (awake8_c _).mono ?_); rintro e wn ⟨rfl, hb⟩; replace H := H.call hb; clear hb) | (go_at_call 8; first | ((with_reducible refine (few7_v hfa.out _ (Ha.out.below H.bel)).mono ?_); rintro e wn ⟨rfl, hb⟩; replace H := H.call hb; clear hb)) | (go_at_call 39; (fail_if_success have := Tvp); (with_reducible refine (cnput_v hm.out HP.out _ (Ha.out.below H.bel)).mono ?_); rintro e wn ⟨vp, rfl, hs⟩; have Tvp := Lib.hid True.intro; replace H := H.comp hs; clear hs; simp only [List.cons_append, List.nil_append] at H) | (go_at_call 40; (fail_if_success have := Tvq); (with_reducible refine (rcnput_v hm.out HP.out _ (Ha.out.below H.bel)).mono ?_); rintro e wn ⟨vq, rfl, hs⟩; have Tvq := Lib.hid True.intro; replace H := H.comp hs; clear hs; simp only [List.cons_append, List.nil_append] at H) | (go_at_call 41; (with_reducible refine (cnget_n HG.out (Hx.out.below H.bel)).mono ?_); rintro e wn ⟨rfl, hb⟩; replace H := H.call hb; clear hb) | (go_at_call 42; (with_reducible refine (rcnget_n HG.out HxL.out (Hx.out.below H.bel)).mono ?_); rintro e wn ⟨rfl, hb⟩; replace H := H.call hb; clear hb) | (go_at_call 14; (with_reducible refine (rbsame_v HS0.out _ (Recs.nil _) (Recs.nil _)).mono ?_); rintro e wn ⟨rfl, hb⟩; replace H := H.call hb; clear hb))
        have hcA : ∀ x : After wn, (convert 58 9 vp).run Tryz.prog x.w = .ok (.string (bstr bs)) x.w := fun x => conv_bytes _ _ 5 Tryz.underlying58 Tryz.underlying5 Tryz.underlying9 ((H.call x.h).byt8 (by (repeat (first | with_reducible exact mH | with_reducible apply mT))))
        have hcB : ∀ x : After wn, (convert 58 9 vq).run Tryz.prog x.w = .ok (.string (bstr bs)) x.w := fun x => conv_bytes _ _ 5 Tryz.underlying58 Tryz.underlying5 Tryz.underlying9 ((H.call x.h).byt8 (by (repeat (first | with_reducible exact mH | with_reducible apply mT))))
        (try simp only [Act.put, List.setIfInBounds_toArray, List.set_cons_zero, List.set_cons_succ])
        refine wp_quiet_all (C := fun w' => ∃ x : After _, w' = x.w) (by kernel_rfl) (by kernel_rfl) (since_drew _) ?_
        repeat (first | go_big_quiet_skip | (go_big_quiet_want; (with_reducible apply qd_bk); rfl; (rintro _ ⟨x, rfl⟩; have H := H.call x.h; (focus (apply H.one; (repeat (first | with_reducible exact mH | with_reducible apply mT)); done))); (go_simp; go_big_quiet_on)) | (go_big_quiet_step ((first | (go_at_call 43; with_reducible exact after_call _ (cndigest_v HP.out HD.out _ (Ha.out.below (H.call (After.h _)).bel))) | (go_at_call 44; with_reducible exact after_call _ (rcndigest_v HP.out HD.out _ (Ha.out.below (H.call (After.h _)).bel)))))))
        refine wpQuiet_nil ?_
        rintro _ ⟨zq, rfl⟩; replace H := H.call zq.h
        go_wp2
        all_goals first | (rw [Exit.noGoto_ret]; go_ret) | go_ret
        all_goals exact ⟨by first | rfl | simp, H.bel⟩
    | some M =>
      have HSM : Hid (bSame M M = true) := Lib.hid ((bSame_iff _ _).2 rfl)
      have HG := Lib.hid hg; clear hg
      cases m
      all_goals
        go_enter Tryz.func6, Tryz.ntmps6
        go_wp2_with (first | go_skip | ((fail_if_success have := kA); (with_reducible apply arm_box H); rfl; clear H; intro wn kA H) | ((fail_if_success have := kc); (with_reducible apply al_bk H); clear H; intro wn kc H) | ((fail_if_success have := kd); (with_reducible apply al_bk H); clear H; intro wn kd H) | ((with_reducible apply ld_bk); rfl; rfl; (focus (apply H.one; (repeat (first | with_reducible exact mH | with_reducible apply mT)); done))) | ((with_reducible apply st_bk H); rfl; rfl; rfl; (repeat (first | with_reducible apply Upd.head | with_reducible apply Upd.tail)); (first | rfl | assumption | (refine Hid.out ?_; assumption)); clear H; intro wn H) | (go_at_call 38; (with_reducible refine (awake8_c _).mono ?_); rintro e wn ⟨rfl, hb⟩; replace H := H.call hb; clear hb) | (go_at_call 8; first | ((with_reducible refine (few7_v hfa.out _ (Ha.out.below H.bel)).mono ?_); rintro e wn ⟨rfl, hb⟩; replace H := H.call hb; clear hb)) | (go_at_call 39; (fail_if_success have := Tvp); (with_reducible refine (cnput_v hm.out HP.out _ (Ha.out.below H.bel)).mono ?_); rintro e wn ⟨vp, rfl, hs⟩; have Tvp := Lib.hid True.intro; replace H := H.comp hs; clear hs; simp only [List.cons_append, List.nil_append] at H) | (go_at_call 40; (fail_if_success have := Tvq); (with_reducible refine (rcnput_v hm.out HP.out _ (Ha.out.below H.bel)).mono ?_); rintro e wn ⟨vq, rfl, hs⟩; have Tvq := Lib.hid True.intro; replace H := H.comp hs; clear hs; simp only [List.cons_append, List.nil_append] at H) | (go_at_call 41; (fail_if_success have := Tc); (with_reducible refine (cnget_y HG.out (Hx.out.below H.bel)).mono ?_); rintro e wn ⟨vc, rc, rfl, hrj, hs⟩; replace H := H.comp hs; clear hs; simp only [List.cons_append, List.nil_append] at H; have Tc : Hid (vc.oneCell' = true) := Lib.hid (hrj _ (H.get (r := rc) (by (repeat (first | with_reducible exact mH | with_reducible apply mT))))).one; have Jc := Lib.hid hrj; clear hrj) | (go_at_call 42; (fail_if_success have := Td); (with_reducible refine (rcnget_y HG.out HxL.out (Hx.out.below H.bel)).mono ?_); rintro e wn ⟨vd, rd, rfl, hrj, hs⟩; replace H := H.comp hs; clear hs; simp only [List.cons_append, List.nil_append] at H; have Td : Hid (vd.oneCell' = true) := Lib.hid (hrj _ (H.get (r := rd) (by (repeat (first | with_reducible exact mH | with_reducible apply mT))))).one; have Jd := Lib.hid hrj; clear hrj) | (go_at_call 14; (with_reducible refine (rbsame_v HSM.out _ (Jc.out _ (H.get (r := rc) (by (repeat (first | with_reducible exact mH | with_reducible apply mT))))) (Jd.out _ (H.get (r := rd) (by (repeat (first | with_reducible exact mH | with_reducible apply mT)))))).mono ?_); rintro e wn ⟨rfl, hb⟩; replace H := H.call hb; clear hb))
        have hcA : ∀ x : After wn, (convert 58 9 vp).run Tryz.prog x.w = .ok (.string (bstr bs)) x.w := fun x => conv_bytes _ _ 5 Tryz.underlying58 Tryz.underlying5 Tryz.underlying9 ((H.call x.h).byt8 (by (repeat (first | with_reducible exact mH | with_reducible apply mT))))
        have hcB : ∀ x : After wn, (convert 58 9 vq).run Tryz.prog x.w = .ok (.string (bstr bs)) x.w := fun x => conv_bytes _ _ 5 Tryz.underlying58 Tryz.underlying5 Tryz.underlying9 ((H.call x.h).byt8 (by (repeat (first | with_reducible exact mH | with_reducible apply mT))))
        (try simp only [Act.put, List.setIfInBounds_toArray, List.set_cons_zero, List.set_cons_succ])
        refine wp_quiet_all (C := fun w' => ∃ x : After _, w' = x.w) (by kernel_rfl) (by kernel_rfl) (since_drew _) ?_
        repeat (first | go_big_quiet_skip | (go_big_quiet_want; (with_reducible apply qd_bk); rfl; (rintro _ ⟨x, rfl⟩; have H := H.call x.h; (focus (apply H.one; (repeat (first | with_reducible exact mH | with_reducible apply mT)); done))); (go_simp; go_big_quiet_on)) | (go_big_quiet_step ((first | (go_at_call 43; with_reducible exact after_call _ (cndigest_v HP.out HD.out _ (Ha.out.below (H.call (After.h _)).bel))) | (go_at_call 44; with_reducible exact after_call _ (rcndigest_v HP.out HD.out _ (Ha.out.below (H.call (After.h _)).bel)))))))
        refine wpQuiet_nil ?_
        rintro _ ⟨zq, rfl⟩; replace H := H.call zq.h
        go_wp2
        all_goals first | (rw [Exit.noGoto_ret]; go_ret) | go_ret
        all_goals exact ⟨by first | rfl | simp, H.bel⟩
end Go.Proofs.YtolbmemogoojhaaGreat
