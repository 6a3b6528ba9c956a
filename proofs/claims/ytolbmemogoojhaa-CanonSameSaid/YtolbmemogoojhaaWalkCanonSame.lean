/- The walk of CanonSame. -/
import Derived.Test.YtolbmemogoojhaaCanH
namespace Go.Proofs.Ytolbmemogoojhaa
open Go Go.RowKit Go.Deep
set_option linter.unusedVariables false
set_option linter.unusedSimpArgs false
set_option maxRecDepth 100000
set_option maxHeartbeats 12800000 in
theorem canonSame_walk (va : Value) (A : BK) (vb : Value) (B : BK) (w : World) (ha : Recs w va A) (hb : Recs w vb B) : Calls Try.prog 17 #[.agg #[va], .agg #[vb]] w fun e w' => e = .returned (.bool true) ∧ Below w.heap.size w w' := by
  have Ha := Lib.hid ha; have Hb := Lib.hid hb
  obtain ⟨p, hfa⟩ : ∃ p, Hid (bFew A = p) := ⟨_, rfl⟩
  obtain ⟨q, hfb⟩ : ∃ p, Hid (bFew B = p) := ⟨_, rfl⟩
  obtain ⟨m, hma⟩ : ∃ m, Hid (bMay A = m) := ⟨_, rfl⟩
  obtain ⟨n, hmb⟩ : ∃ m, Hid (bMay B = m) := ⟨_, rfl⟩
  obtain ⟨bs, HPa⟩ : ∃ bs, Hid (bPutP A = bs) := ⟨_, rfl⟩
  obtain ⟨bt, HPb⟩ : ∃ bs, Hid (bPutP B = bs) := ⟨_, rfl⟩
  obtain ⟨sm, HS⟩ : ∃ s, Hid (bSame A B = s) := ⟨_, rfl⟩
  have hbt := bstr_toList
  have hok := ha.ok; have hok' := hb.ok
  clear ha hb
  have H := St.init w
  have hcase : (p = false ∨ (p = true ∧ q = false) ∨ (p = true ∧ q = true ∧ m = false) ∨ (p = true ∧ q = true ∧ m = true ∧ n = false)) ∨ (p = true ∧ q = true ∧ m = true ∧ n = true) := by cases p <;> cases q <;> cases m <;> cases n <;> simp
  rcases hcase with (rfl | ⟨rfl, rfl⟩ | ⟨rfl, rfl, rfl⟩ | ⟨rfl, rfl, rfl, rfl⟩) | ⟨rfl, rfl, rfl, rfl⟩
  iterate 4
    · clear hok hok'
      go_enter Try.func17, Try.ntmps17
      go_wp2_with (first | go_skip | ((fail_if_success have := kA); (with_reducible apply arm_box H); rfl; clear H; intro wn kA H) | ((fail_if_success have := kB); (with_reducible apply arm_box H); rfl; clear H; intro wn kB H) | ((with_reducible apply ld_bk); rfl; rfl; (focus (apply H.one; (repeat (first | with_reducible exact List.mem_cons_self | with_reducible apply List.mem_cons_of_mem)); done))) | (go_at_call 42; (with_reducible refine (awake8_c _).mono ?_); rintro e wn ⟨rfl, hb⟩; replace H := H.call hb; clear hb) | (go_at_call 21; first | ((with_reducible refine (few7_v hfa.out _ (Ha.out.below H.bel)).mono ?_); rintro e wn ⟨rfl, hb⟩; replace H := H.call hb; clear hb) | ((with_reducible refine (few7_v hfb.out _ (Hb.out.below H.bel)).mono ?_); rintro e wn ⟨rfl, hb⟩; replace H := H.call hb; clear hb)) | (go_at_call 43; (fail_if_success have := Tvp); (with_reducible refine (cnput_v hma.out HPa.out _ (Ha.out.below H.bel)).mono ?_); rintro e wn ⟨vp, rfl, hs⟩; have Tvp := Lib.hid True.intro; replace H := H.comp hs; clear hs; simp only [List.cons_append, List.nil_append] at H) | (go_at_call 43; (fail_if_success have := Tvq); (with_reducible refine (cnput_v hmb.out HPb.out _ (Hb.out.below H.bel)).mono ?_); rintro e wn ⟨vq, rfl, hs⟩; have Tvq := Lib.hid True.intro; replace H := H.comp hs; clear hs; simp only [List.cons_append, List.nil_append] at H) | (go_at_call 24; first | ((with_reducible refine (bksame_v HS.out _ (Ha.out.below H.bel) (Hb.out.below H.bel)).mono ?_); rintro e wn ⟨rfl, hb⟩; replace H := H.call hb; clear hb)))
      all_goals first | (rw [Exit.noGoto_ret]; go_ret) | go_ret
      all_goals exact ⟨rfl, H.bel⟩
  · have h1 := bOk_of hma.out hok
    have h2 := bOk_of hmb.out hok'
    cases sm with
    | false =>
      have hne : (bs == bt) = false := by
        rw [beq_eq_false_iff_ne]
        intro e
        have e1 : A = B := bBytes_inj h1 h2 (by rw [← bPutP_yes hma.out, ← bPutP_yes hmb.out, HPa.out, HPb.out, e])
        have := (bSame_iff A B).2 e1
        rw [HS.out] at this
        cases this
      clear hok hok' h1 h2
      go_enter Try.func17, Try.ntmps17
      go_wp2_with (first | go_skip | ((fail_if_success have := kA); (with_reducible apply arm_box H); rfl; clear H; intro wn kA H) | ((fail_if_success have := kB); (with_reducible apply arm_box H); rfl; clear H; intro wn kB H) | ((with_reducible apply ld_bk); rfl; rfl; (focus (apply H.one; (repeat (first | with_reducible exact List.mem_cons_self | with_reducible apply List.mem_cons_of_mem)); done))) | (go_at_call 42; (with_reducible refine (awake8_c _).mono ?_); rintro e wn ⟨rfl, hb⟩; replace H := H.call hb; clear hb) | (go_at_call 21; first | ((with_reducible refine (few7_v hfa.out _ (Ha.out.below H.bel)).mono ?_); rintro e wn ⟨rfl, hb⟩; replace H := H.call hb; clear hb) | ((with_reducible refine (few7_v hfb.out _ (Hb.out.below H.bel)).mono ?_); rintro e wn ⟨rfl, hb⟩; replace H := H.call hb; clear hb)) | (go_at_call 43; (fail_if_success have := Tvp); (with_reducible refine (cnput_v hma.out HPa.out _ (Ha.out.below H.bel)).mono ?_); rintro e wn ⟨vp, rfl, hs⟩; have Tvp := Lib.hid True.intro; replace H := H.comp hs; clear hs; simp only [List.cons_append, List.nil_append] at H) | (go_at_call 43; (fail_if_success have := Tvq); (with_reducible refine (cnput_v hmb.out HPb.out _ (Hb.out.below H.bel)).mono ?_); rintro e wn ⟨vq, rfl, hs⟩; have Tvq := Lib.hid True.intro; replace H := H.comp hs; clear hs; simp only [List.cons_append, List.nil_append] at H) | (go_at_call 24; first | ((with_reducible refine (bksame_v HS.out _ (Ha.out.below H.bel) (Hb.out.below H.bel)).mono ?_); rintro e wn ⟨rfl, hb⟩; replace H := H.call hb; clear hb)))
      have hcA : ∀ x : After wn, (convert 73 9 vp).run Try.prog x.w = .ok (.string (bstr bs)) x.w := fun x => conv_bytes _ _ 5 Try.underlying73 Try.underlying5 Try.underlying9 ((H.call x.h).byt8 (by (repeat (first | with_reducible exact List.mem_cons_self | with_reducible apply List.mem_cons_of_mem))))
      have hcB : ∀ x : After wn, (convert 73 9 vq).run Try.prog x.w = .ok (.string (bstr bt)) x.w := fun x => conv_bytes _ _ 5 Try.underlying73 Try.underlying5 Try.underlying9 ((H.call x.h).byt8 (by (repeat (first | with_reducible exact List.mem_cons_self | with_reducible apply List.mem_cons_of_mem))))
      (try simp only [Act.put, List.setIfInBounds_toArray, List.set_cons_zero, List.set_cons_succ])
      refine wp_quiet_all (C := fun w' => ∃ x : After _, w' = x.w) (by kernel_rfl) (by kernel_rfl) (since_drew _) ?_
      repeat (first | go_big_quiet_skip | (go_big_quiet_want; (with_reducible apply qd_bk); rfl; (rintro _ ⟨x, rfl⟩; have H := H.call x.h; (focus (apply H.one; (repeat (first | with_reducible exact List.mem_cons_self | with_reducible apply List.mem_cons_of_mem)); done))); (go_simp; go_big_quiet_on)) | (go_big_quiet_step (fail)))
      refine wpQuiet_nil ?_
      rintro _ ⟨zq, rfl⟩; replace H := H.call zq.h
      go_wp2
      all_goals first | (rw [Exit.noGoto_ret]; go_ret) | go_ret
      all_goals exact ⟨by first | rfl | simp, H.bel⟩
    | true =>
      have e1 : A = B := (bSame_iff A B).1 HS.out
      subst e1
      have e2 : bs = bt := by rw [← HPa.out, ← HPb.out]
      subst e2
      obtain ⟨D, hD⟩ : ∃ D, (encU (dig bs)).toArray = D := ⟨_, rfl⟩
      have heq : ∀ W, (binOp .eql 71 (.agg D) (.agg D)).run Try.prog W = .ok (.bool true) W := fun W => by rw [← hD]; exact dg_same _ (dig_len _) W
      have HD := Lib.hid hD; clear hD
      clear hok hok' h1 h2
      go_enter Try.func17, Try.ntmps17
      go_wp2_with (first | go_skip | ((fail_if_success have := kA); (with_reducible apply arm_box H); rfl; clear H; intro wn kA H) | ((fail_if_success have := kB); (with_reducible apply arm_box H); rfl; clear H; intro wn kB H) | ((with_reducible apply ld_bk); rfl; rfl; (focus (apply H.one; (repeat (first | with_reducible exact List.mem_cons_self | with_reducible apply List.mem_cons_of_mem)); done))) | (go_at_call 42; (with_reducible refine (awake8_c _).mono ?_); rintro e wn ⟨rfl, hb⟩; replace H := H.call hb; clear hb) | (go_at_call 21; first | ((with_reducible refine (few7_v hfa.out _ (Ha.out.below H.bel)).mono ?_); rintro e wn ⟨rfl, hb⟩; replace H := H.call hb; clear hb) | ((with_reducible refine (few7_v hfb.out _ (Hb.out.below H.bel)).mono ?_); rintro e wn ⟨rfl, hb⟩; replace H := H.call hb; clear hb)) | (go_at_call 43; (fail_if_success have := Tvp); (with_reducible refine (cnput_v hma.out HPa.out _ (Ha.out.below H.bel)).mono ?_); rintro e wn ⟨vp, rfl, hs⟩; have Tvp := Lib.hid True.intro; replace H := H.comp hs; clear hs; simp only [List.cons_append, List.nil_append] at H) | (go_at_call 43; (fail_if_success have := Tvq); (with_reducible refine (cnput_v hmb.out HPb.out _ (Hb.out.below H.bel)).mono ?_); rintro e wn ⟨vq, rfl, hs⟩; have Tvq := Lib.hid True.intro; replace H := H.comp hs; clear hs; simp only [List.cons_append, List.nil_append] at H) | (go_at_call 24; first | ((with_reducible refine (bksame_v HS.out _ (Ha.out.below H.bel) (Hb.out.below H.bel)).mono ?_); rintro e wn ⟨rfl, hb⟩; replace H := H.call hb; clear hb)))
      have hcA : ∀ x : After wn, (convert 73 9 vp).run Try.prog x.w = .ok (.string (bstr bs)) x.w := fun x => conv_bytes _ _ 5 Try.underlying73 Try.underlying5 Try.underlying9 ((H.call x.h).byt8 (by (repeat (first | with_reducible exact List.mem_cons_self | with_reducible apply List.mem_cons_of_mem))))
      have hcB : ∀ x : After wn, (convert 73 9 vq).run Try.prog x.w = .ok (.string (bstr bs)) x.w := fun x => conv_bytes _ _ 5 Try.underlying73 Try.underlying5 Try.underlying9 ((H.call x.h).byt8 (by (repeat (first | with_reducible exact List.mem_cons_self | with_reducible apply List.mem_cons_of_mem))))
      (try simp only [Act.put, List.setIfInBounds_toArray, List.set_cons_zero, List.set_cons_succ])
      refine wp_quiet_all (C := fun w' => ∃ x : After _, w' = x.w) (by kernel_rfl) (by kernel_rfl) (since_drew _) ?_
      repeat (first | go_big_quiet_skip | (go_big_quiet_want; (with_reducible apply qd_bk); rfl; (rintro _ ⟨x, rfl⟩; have H := H.call x.h; (focus (apply H.one; (repeat (first | with_reducible exact List.mem_cons_self | with_reducible apply List.mem_cons_of_mem)); done))); (go_simp; go_big_quiet_on)) | (go_big_quiet_step ((first | (go_at_call 45; with_reducible exact after_call _ (cndigest_v HPa.out HD.out _ (Ha.out.below (H.call (After.h _)).bel))) | (go_at_call 45; with_reducible exact after_call _ (cndigest_v HPb.out HD.out _ (Hb.out.below (H.call (After.h _)).bel)))))))
      refine wpQuiet_nil ?_
      rintro _ ⟨zq, rfl⟩; replace H := H.call zq.h
      go_wp2
      all_goals first | (rw [Exit.noGoto_ret]; go_ret) | go_ret
      all_goals exact ⟨by first | rfl | simp, H.bel⟩
end Go.Proofs.Ytolbmemogoojhaa
