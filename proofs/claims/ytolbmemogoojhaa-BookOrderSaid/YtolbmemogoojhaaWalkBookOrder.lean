/- The walk of BookOrder. -/
import Derived.Test.YtolbmemogoojhaaBookU
namespace Go.Proofs.Ytolbmemogoojhaa
open Go Go.RowKit Go.Deep
set_option linter.unusedVariables false
set_option linter.unusedSimpArgs false
set_option maxRecDepth 100000
set_option maxHeartbeats 6400000 in
theorem bookOrder_walk (va : Value) (A : BK) (vb : Value) (B : BK) (vc : Value) (C : BK) (w : World) (ha : Recs w va A) (hb : Recs w vb B) (hc : Recs w vc C) : Calls Try.prog 4 #[.agg #[va], .agg #[vb], .agg #[vc]] w fun e w' => e = .returned (.bool true) ∧ Below w.heap.size w w' := by
  have Ha := Lib.hid ha; have Hb := Lib.hid hb; have Hc := Lib.hid hc; clear ha hb hc
  obtain ⟨p, hfa⟩ : ∃ p, Hid (bFew A = p) := ⟨_, rfl⟩
  obtain ⟨q, hfb⟩ : ∃ q, Hid (bFew B = q) := ⟨_, rfl⟩
  obtain ⟨u, hfc⟩ : ∃ u, Hid (bFew C = u) := ⟨_, rfl⟩
  have H := St.init w
  have hcase : (p = false ∨ p = true ∧ q = false ∨ p = true ∧ q = true ∧ u = false) ∨ (p = true ∧ q = true ∧ u = true) := by cases p <;> cases q <;> cases u <;> simp
  rcases hcase with (rfl | ⟨rfl, rfl⟩ | ⟨rfl, rfl, rfl⟩) | ⟨rfl, rfl, rfl⟩
  iterate 3
    · go_enter Try.func4, Try.ntmps4
      go_wp2_with (first | go_skip | ((fail_if_success have := kA); (with_reducible apply arm_box H); rfl; clear H; intro wn kA H) | ((fail_if_success have := kB); (with_reducible apply arm_box H); rfl; clear H; intro wn kB H) | ((fail_if_success have := kC); (with_reducible apply arm_box H); rfl; clear H; intro wn kC H) | ((with_reducible apply ld_bk); rfl; rfl; (focus (apply H.one; (repeat (first | with_reducible exact List.mem_cons_self | with_reducible apply List.mem_cons_of_mem)); done))) | (go_at_call 20; (with_reducible refine (awake7_c _).mono ?_); rintro e wn ⟨rfl, hb⟩; replace H := H.call hb; clear hb) | (go_at_call 21; first | ((with_reducible refine (few7_v hfa.out _ (Ha.out.below H.bel)).mono ?_); rintro e wn ⟨rfl, hb⟩; replace H := H.call hb; clear hb) | ((with_reducible refine (few7_v hfb.out _ (Hb.out.below H.bel)).mono ?_); rintro e wn ⟨rfl, hb⟩; replace H := H.call hb; clear hb) | ((with_reducible refine (few7_v hfc.out _ (Hc.out.below H.bel)).mono ?_); rintro e wn ⟨rfl, hb⟩; replace H := H.call hb; clear hb)) | (go_at_call 25; first | ((with_reducible refine (bkleq_v hab.out _ (Ha.out.below H.bel) (Hb.out.below H.bel)).mono ?_); rintro e wn ⟨rfl, hb⟩; replace H := H.call hb; clear hb) | ((with_reducible refine (bkleq_v hba.out _ (Hb.out.below H.bel) (Ha.out.below H.bel)).mono ?_); rintro e wn ⟨rfl, hb⟩; replace H := H.call hb; clear hb) | ((with_reducible refine (bkleq_v hbc.out _ (Hb.out.below H.bel) (Hc.out.below H.bel)).mono ?_); rintro e wn ⟨rfl, hb⟩; replace H := H.call hb; clear hb)))
      all_goals first | (rw [Exit.noGoto_ret]; go_ret) | go_ret
      all_goals exact ⟨rfl, H.bel⟩
  · obtain ⟨m, hm⟩ : ∃ m, Hid (bMay A = m) := ⟨_, rfl⟩
    have hmm : Hid (bLeq A A = m) := Lib.hid (by rw [bLeq_self, hm.out])
    obtain ⟨ab, hab⟩ : ∃ x, Hid (bLeq A B = x) := ⟨_, rfl⟩
    obtain ⟨ba, hba⟩ : ∃ x, Hid (bLeq B A = x) := ⟨_, rfl⟩
    obtain ⟨bc, hbc⟩ : ∃ x, Hid (bLeq B C = x) := ⟨_, rfl⟩
    have hs : ab = true → ba = true → Hid (bSame A B = true) := by
      rintro rfl rfl; exact Lib.hid ((bSame_iff _ _).2 (bLeq_anti hab.out hba.out))
    have ht : ab = true → bc = true → Hid (bLeq A C = true) := by
      rintro rfl rfl; exact Lib.hid (bLeq_trans hab.out hbc.out)
    obtain ⟨sv, hsv⟩ : ∃ x, Hid (bSame A B = x) := ⟨_, rfl⟩
    obtain ⟨tv, htv⟩ : ∃ x, Hid (bLeq A C = x) := ⟨_, rfl⟩
    have hcase : ab = false ∨ (ab = true ∧ ba = false ∧ bc = false) ∨ (ab = true ∧ ba = false ∧ bc = true ∧ tv = true) ∨ (ab = true ∧ ba = true ∧ bc = false ∧ sv = true) ∨ (ab = true ∧ ba = true ∧ bc = true ∧ sv = true ∧ tv = true) := by
      cases ab
      · simp
      · have hs' : ba = true → sv = true := fun h => by rw [← hsv.out]; exact (hs rfl h).out
        have ht' : bc = true → tv = true := fun h => by rw [← htv.out]; exact (ht rfl h).out
        cases ba <;> cases bc <;> simp at hs' ht' <;> simp [hs', ht']
    clear hs ht
    rcases hcase with rfl | ⟨rfl, rfl, rfl⟩ | ⟨rfl, rfl, rfl, rfl⟩ | ⟨rfl, rfl, rfl, rfl⟩ | ⟨rfl, rfl, rfl, rfl, rfl⟩
    all_goals
      go_enter Try.func4, Try.ntmps4
      go_wp2_with (first | go_skip | ((fail_if_success have := kA); (with_reducible apply arm_box H); rfl; clear H; intro wn kA H) | ((fail_if_success have := kB); (with_reducible apply arm_box H); rfl; clear H; intro wn kB H) | ((fail_if_success have := kC); (with_reducible apply arm_box H); rfl; clear H; intro wn kC H) | ((with_reducible apply ld_bk); rfl; rfl; (focus (apply H.one; (repeat (first | with_reducible exact List.mem_cons_self | with_reducible apply List.mem_cons_of_mem)); done))) | (go_at_call 20; (with_reducible refine (awake7_c _).mono ?_); rintro e wn ⟨rfl, hb⟩; replace H := H.call hb; clear hb) | (go_at_call 21; first | ((with_reducible refine (few7_v hfa.out _ (Ha.out.below H.bel)).mono ?_); rintro e wn ⟨rfl, hb⟩; replace H := H.call hb; clear hb) | ((with_reducible refine (few7_v hfb.out _ (Hb.out.below H.bel)).mono ?_); rintro e wn ⟨rfl, hb⟩; replace H := H.call hb; clear hb) | ((with_reducible refine (few7_v hfc.out _ (Hc.out.below H.bel)).mono ?_); rintro e wn ⟨rfl, hb⟩; replace H := H.call hb; clear hb)) | (go_at_call 25; first | ((with_reducible refine (bkleq_v hab.out _ (Ha.out.below H.bel) (Hb.out.below H.bel)).mono ?_); rintro e wn ⟨rfl, hb⟩; replace H := H.call hb; clear hb) | ((with_reducible refine (bkleq_v hba.out _ (Hb.out.below H.bel) (Ha.out.below H.bel)).mono ?_); rintro e wn ⟨rfl, hb⟩; replace H := H.call hb; clear hb) | ((with_reducible refine (bkleq_v hbc.out _ (Hb.out.below H.bel) (Hc.out.below H.bel)).mono ?_); rintro e wn ⟨rfl, hb⟩; replace H := H.call hb; clear hb)))
      (try simp only [Act.put, List.setIfInBounds_toArray, List.set_cons_zero, List.set_cons_succ])
      refine wp_quiet_all (C := fun w' => ∃ x : After _, w' = x.w) (by kernel_rfl) (by kernel_rfl) (since_drew _) ?_
      repeat (first | go_big_quiet_skip | (go_big_quiet_want; (with_reducible apply qd_bk); rfl; (rintro _ ⟨x, rfl⟩; have H := H.call x.h; (focus (apply H.one; (repeat (first | with_reducible exact List.mem_cons_self | with_reducible apply List.mem_cons_of_mem)); done))); (go_simp; go_big_quiet_on)) | (go_big_quiet_step ((first | (go_at_call 25; with_reducible exact after_call _ (bkleq_v hmm.out _ (Ha.out.below (H.call (After.h _)).bel) (Ha.out.below (H.call (After.h _)).bel))) | (go_at_call 25; with_reducible exact after_call _ (bkleq_v htv.out _ (Ha.out.below (H.call (After.h _)).bel) (Hc.out.below (H.call (After.h _)).bel))) | (go_at_call 22; with_reducible exact after_call _ (bkmay_v hm.out _ (Ha.out.below (H.call (After.h _)).bel))) | (go_at_call 24; with_reducible exact after_call _ (bksame_v hsv.out _ (Ha.out.below (H.call (After.h _)).bel) (Hb.out.below (H.call (After.h _)).bel)))))))
      refine wpQuiet_nil ?_
      rintro _ ⟨zq, rfl⟩; replace H := H.call zq.h
      go_wp2
      all_goals first | (rw [Exit.noGoto_ret]; go_ret) | go_ret
      all_goals exact ⟨rfl, H.bel⟩
end Go.Proofs.Ytolbmemogoojhaa
