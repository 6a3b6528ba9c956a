/- The walk of CanonDigest. -/
import Derived.Test.YtolbmemogoojhaaCanH
namespace Go.Proofs.Ytolbmemogoojhaa
open Go Go.RowKit Go.Deep
set_option linter.unusedVariables false
set_option linter.unusedSimpArgs false
set_option maxRecDepth 100000
theorem of_8 {s : ByteArray} {bs : List UInt8} {D : Array Value} (hs : s.data.toList = bs) (hl : s.size ≤ 80000) (hD : (encU (dig bs)).toArray = D) (w : World) : Calls Try.prog 41 #[.string s] w fun e w' => e = .returned (.agg D) ∧ Below w.heap.size w w' := by
  subst hs hD
  exact of_c s hl w
set_option maxHeartbeats 6400000 in
theorem canonDigest_walk (va : Value) (A : BK) (w : World) (ha : Recs w va A) : Calls Try.prog 19 #[.agg #[va]] w fun e w' => e = .returned (.bool true) ∧ Below w.heap.size w w' := by
  have Ha := Lib.hid ha
  obtain ⟨p, hfa⟩ : ∃ p, Hid (bFew A = p) := ⟨_, rfl⟩
  obtain ⟨m, hm⟩ : ∃ m, Hid (bMay A = m) := ⟨_, rfl⟩
  obtain ⟨bs, HP⟩ : ∃ bs, Hid (bPutP A = bs) := ⟨_, rfl⟩
  have HL80 : Hid (bs.length ≤ 80000) := Lib.hid (by rw [← HP.out]; exact bPutP_len ha.ok)
  obtain ⟨D, hD⟩ : ∃ D, (encU (dig bs)).toArray = D := ⟨_, rfl⟩
  have heq : ∀ W, (binOp .eql 71 (.agg D) (.agg D)).run Try.prog W = .ok (.bool true) W := fun W => by rw [← hD]; exact dg_same _ (dig_len _) W
  have HD := Lib.hid hD; clear hD ha
  have H := St.init w
  have hcase : p = false ∨ (p = true ∧ m = true) ∨ (p = true ∧ m = false) := by cases p <;> cases m <;> simp
  rcases hcase with rfl | ⟨rfl, rfl⟩ | ⟨rfl, rfl⟩
  iterate 2
    · go_enter Try.func19, Try.ntmps19
      go_wp2_with (first | go_skip | ((fail_if_success have := kA); (with_reducible apply arm_box H); rfl; clear H; intro wn kA H) | ((with_reducible apply ld_bk); rfl; rfl; (focus (apply H.one; (repeat (first | with_reducible exact List.mem_cons_self | with_reducible apply List.mem_cons_of_mem)); done))) | (go_at_call 42; (with_reducible refine (awake8_c _).mono ?_); rintro e wn ⟨rfl, hb⟩; replace H := H.call hb; clear hb) | (go_at_call 21; first | ((with_reducible refine (few7_v hfa.out _ (Ha.out.below H.bel)).mono ?_); rintro e wn ⟨rfl, hb⟩; replace H := H.call hb; clear hb)) | (go_at_call 43; (fail_if_success have := Tvp); (with_reducible refine (cnput_v hm.out HP.out _ (Ha.out.below H.bel)).mono ?_); rintro e wn ⟨vp, rfl, hs⟩; have Tvp := Lib.hid True.intro; replace H := H.comp hs; clear hs; simp only [List.cons_append, List.nil_append] at H) | (go_at_call 45; (with_reducible refine (cndigest_v HP.out HD.out _ (Ha.out.below H.bel)).mono ?_); rintro e wn ⟨rfl, hb⟩; replace H := H.call hb; clear hb) | (go_at_call 46; (with_reducible refine (sum_v HL80.out HD.out _ (H.byt8 (by (repeat (first | with_reducible exact List.mem_cons_self | with_reducible apply List.mem_cons_of_mem))))).mono ?_); rintro e wn ⟨rfl, hb⟩; replace H := H.call hb; clear hb))
      all_goals first | (rw [Exit.noGoto_ret]; go_ret) | go_ret
      all_goals exact ⟨rfl, H.bel⟩
  · have hb0 : bs = [] := by rw [← HP.out]; exact bPutP_no hm.out
    subst hb0
    go_enter Try.func19, Try.ntmps19
    go_wp2_with (first | go_skip | ((fail_if_success have := kA); (with_reducible apply arm_box H); rfl; clear H; intro wn kA H) | ((with_reducible apply ld_bk); rfl; rfl; (focus (apply H.one; (repeat (first | with_reducible exact List.mem_cons_self | with_reducible apply List.mem_cons_of_mem)); done))) | (go_at_call 42; (with_reducible refine (awake8_c _).mono ?_); rintro e wn ⟨rfl, hb⟩; replace H := H.call hb; clear hb) | (go_at_call 21; first | ((with_reducible refine (few7_v hfa.out _ (Ha.out.below H.bel)).mono ?_); rintro e wn ⟨rfl, hb⟩; replace H := H.call hb; clear hb)) | (go_at_call 43; (fail_if_success have := Tvp); (with_reducible refine (cnput_v hm.out HP.out _ (Ha.out.below H.bel)).mono ?_); rintro e wn ⟨vp, rfl, hs⟩; have Tvp := Lib.hid True.intro; replace H := H.comp hs; clear hs; simp only [List.cons_append, List.nil_append] at H) | (go_at_call 45; (with_reducible refine (cndigest_v HP.out HD.out _ (Ha.out.below H.bel)).mono ?_); rintro e wn ⟨rfl, hb⟩; replace H := H.call hb; clear hb) | (go_at_call 46; (with_reducible refine (sum_v HL80.out HD.out _ (H.byt8 (by (repeat (first | with_reducible exact List.mem_cons_self | with_reducible apply List.mem_cons_of_mem))))).mono ?_); rintro e wn ⟨rfl, hb⟩; replace H := H.call hb; clear hb) | (go_at_call 41; (with_reducible refine (of_8 (s := ⟨#[]⟩) rfl (by decide) HD.out _).mono ?_); rintro e wn ⟨rfl, hb⟩; replace H := H.call hb; clear hb))
    all_goals first | (rw [Exit.noGoto_ret]; go_ret) | go_ret
    all_goals exact ⟨rfl, H.bel⟩
end Go.Proofs.Ytolbmemogoojhaa
