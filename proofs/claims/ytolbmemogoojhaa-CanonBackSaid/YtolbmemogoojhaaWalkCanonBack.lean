/- The walk of CanonBack. -/
import Derived.Test.YtolbmemogoojhaaCanH
namespace Go.Proofs.Ytolbmemogoojhaa
open Go Go.RowKit Go.Deep
set_option linter.unusedVariables false
set_option linter.unusedSimpArgs false
set_option maxRecDepth 100000
section
variable {ops : Array Oper} {rest : List Oper} {a : Act} {w : World} {Q : Exit → Act → World → Prop} {dst : Option Tmp} {typ : TypeId} {x : Operand} {pos : String} {af : Array Edge} {gd : Option (Nat × Bool)} {v : Value} {bs : List UInt8}
/-- Bytes as a string. -/
theorem arm_cvs (hw : Region.wanted (⟨dst, .convert 73 9 x, typ, pos, af, gd⟩ : Oper) (yielded ops a.tmps) = true) (hx : a.eval x = v) (hb : Byt w v bs)
    (h : wpList Try.prog ops Q rest (a.put dst (.string (bstr bs))) w) : wpList Try.prog ops Q (⟨dst, .convert 73 9 x, typ, pos, af, gd⟩ :: rest) a w := by
  refine BigFrame.wpList_want hw fun K hK => ?_
  unfold Oper.wp execOp
  simp only [hx, Sem.run_bind, conv_bytes (P := Try.prog) 73 9 5 Try.underlying73 Try.underlying5 Try.underlying9 hb, Result.andThen_ok, Sem.run_pure]
  exact hK _ _ h
end
set_option maxHeartbeats 12800000 in
theorem canonBack_walk (va : Value) (A : BK) (xv : Value) (bx : List UInt8) (w : World) (ha : Recs w va A) (hx : Byt w xv bx) : Calls Try.prog 15 #[.agg #[va], xv] w fun e w' => e = .returned (.bool true) ∧ Below w.heap.size w w' := by
  have Ha := Lib.hid ha
  obtain ⟨p, hfa⟩ : ∃ p, Hid (bFew A = p) := ⟨_, rfl⟩
  obtain ⟨m, hm⟩ : ∃ m, Hid (bMay A = m) := ⟨_, rfl⟩
  obtain ⟨bs, HP⟩ : ∃ bs, Hid (bPutP A = bs) := ⟨_, rfl⟩
  have HS : Hid (bSame A A = true) := Lib.hid ((bSame_iff _ _).2 rfl)
  have hgp : m = true → Hid (gBook bs = some A) := fun h => Lib.hid (by rw [← HP.out, bPutP_yes (by rw [hm.out, h])]; exact gBook_back (by rw [hm.out, h]) ha.ok)
  obtain ⟨fx, cx, rfl, _⟩ := byt_slice hx
  obtain ⟨nx, hnx⟩ : ∃ n, bx.length = n := ⟨_, rfl⟩
  rw [hnx] at hx ⊢
  have Hx := Lib.hid hx
  clear hx hnx ha
  have hbt := bstr_toList
  obtain ⟨s, hs⟩ : ∃ s, decide ((3000 : Int) < (nx : Int)) = s := ⟨_, rfl⟩
  have H := St.init w
  have hcase : (p = false ∨ (p = true ∧ s = true)) ∨ (p = true ∧ s = false) := by cases p <;> cases s <;> simp
  rcases hcase with (rfl | ⟨rfl, rfl⟩) | ⟨rfl, rfl⟩
  iterate 2
    · clear hgp
      go_enter Try.func15, Try.ntmps15
      go_wp2_with (first | go_skip | ((fail_if_success have := kA); (with_reducible apply arm_box H); rfl; clear H; intro wn kA H) | ((fail_if_success have := kc); (with_reducible apply al_bk H); clear H; intro wn kc H) | ((fail_if_success have := kd); (with_reducible apply al_bk H); clear H; intro wn kd H) | ((with_reducible apply ld_bk); rfl; rfl; (focus (apply H.one; (repeat (first | with_reducible exact List.mem_cons_self | with_reducible apply List.mem_cons_of_mem)); done))) | ((with_reducible apply st_bk H); rfl; rfl; rfl; (repeat (first | with_reducible apply Upd.head | with_reducible apply Upd.tail)); (first | rfl | assumption | (refine Hid.out ?_; assumption)); clear H; intro wn H) | (go_at_call 42; (with_reducible refine (awake8_c _).mono ?_); rintro e wn ⟨rfl, hb⟩; replace H := H.call hb; clear hb) | (go_at_call 21; first | ((with_reducible refine (few7_v hfa.out _ (Ha.out.below H.bel)).mono ?_); rintro e wn ⟨rfl, hb⟩; replace H := H.call hb; clear hb)) | (go_at_call 43; (fail_if_success have := Tvp); (with_reducible refine (cnput_v hm.out HP.out _ (Ha.out.below H.bel)).mono ?_); rintro e wn ⟨vp, rfl, hs⟩; have Tvp := Lib.hid True.intro; replace H := H.comp hs; clear hs; simp only [List.cons_append, List.nil_append] at H) | (go_at_call 22; first | ((with_reducible refine (bkmay_v hm.out _ (Ha.out.below H.bel)).mono ?_); rintro e wn ⟨rfl, hb⟩; replace H := H.call hb; clear hb) | ((with_reducible refine (bkmay_v HMM.out _ (Jd.out _ (H.get (r := rd) (by (repeat (first | with_reducible exact List.mem_cons_self | with_reducible apply List.mem_cons_of_mem)))))).mono ?_); rintro e wn ⟨rfl, hb⟩; replace H := H.call hb; clear hb)) | (go_at_call 44; (fail_if_success have := Tc); (with_reducible refine (cnget_y HGp.out (H.byt8 (by (repeat (first | with_reducible exact List.mem_cons_self | with_reducible apply List.mem_cons_of_mem))))).mono ?_); rintro e wn ⟨vc, rc, rfl, hrj, hs⟩; replace H := H.comp hs; clear hs; simp only [List.cons_append, List.nil_append] at H; have Tc : Hid (vc.oneCell' = true) := Lib.hid (hrj _ (H.get (r := rc) (by (repeat (first | with_reducible exact List.mem_cons_self | with_reducible apply List.mem_cons_of_mem))))).one; have Jc := Lib.hid hrj; clear hrj) | (go_at_call 24; (with_reducible refine (bksame_v HS.out _ (Jc.out _ (H.get (r := rc) (by (repeat (first | with_reducible exact List.mem_cons_self | with_reducible apply List.mem_cons_of_mem))))) (Ha.out.below H.bel)).mono ?_); rintro e wn ⟨rfl, hb⟩; replace H := H.call hb; clear hb) | ((with_reducible apply ld_one (ty := 22) Try.underlying22 rfl); rfl; rfl; (focus (apply H.one; (repeat (first | with_reducible exact List.mem_cons_self | with_reducible apply List.mem_cons_of_mem)); done))))
      all_goals first | (rw [Exit.noGoto_ret]; go_ret) | go_ret
      all_goals exact ⟨rfl, H.bel⟩
  · cases hg : gBook bx with
    | none =>
      have HG := Lib.hid hg; clear hg
      cases m
      all_goals
        (try have HGp := hgp rfl)
        clear hgp
        go_enter Try.func15, Try.ntmps15
        go_wp2_with (first | go_skip | ((fail_if_success have := kA); (with_reducible apply arm_box H); rfl; clear H; intro wn kA H) | ((fail_if_success have := kc); (with_reducible apply al_bk H); clear H; intro wn kc H) | ((fail_if_success have := kd); (with_reducible apply al_bk H); clear H; intro wn kd H) | ((with_reducible apply ld_bk); rfl; rfl; (focus (apply H.one; (repeat (first | with_reducible exact List.mem_cons_self | with_reducible apply List.mem_cons_of_mem)); done))) | ((with_reducible apply st_bk H); rfl; rfl; rfl; (repeat (first | with_reducible apply Upd.head | with_reducible apply Upd.tail)); (first | rfl | assumption | (refine Hid.out ?_; assumption)); clear H; intro wn H) | (go_at_call 42; (with_reducible refine (awake8_c _).mono ?_); rintro e wn ⟨rfl, hb⟩; replace H := H.call hb; clear hb) | (go_at_call 21; first | ((with_reducible refine (few7_v hfa.out _ (Ha.out.below H.bel)).mono ?_); rintro e wn ⟨rfl, hb⟩; replace H := H.call hb; clear hb)) | (go_at_call 43; (fail_if_success have := Tvp); (with_reducible refine (cnput_v hm.out HP.out _ (Ha.out.below H.bel)).mono ?_); rintro e wn ⟨vp, rfl, hs⟩; have Tvp := Lib.hid True.intro; replace H := H.comp hs; clear hs; simp only [List.cons_append, List.nil_append] at H) | (go_at_call 22; first | ((with_reducible refine (bkmay_v hm.out _ (Ha.out.below H.bel)).mono ?_); rintro e wn ⟨rfl, hb⟩; replace H := H.call hb; clear hb) | ((with_reducible refine (bkmay_v HMM.out _ (Jd.out _ (H.get (r := rd) (by (repeat (first | with_reducible exact List.mem_cons_self | with_reducible apply List.mem_cons_of_mem)))))).mono ?_); rintro e wn ⟨rfl, hb⟩; replace H := H.call hb; clear hb)) | (go_at_call 44; (fail_if_success have := Tc); (with_reducible refine (cnget_y HGp.out (H.byt8 (by (repeat (first | with_reducible exact List.mem_cons_self | with_reducible apply List.mem_cons_of_mem))))).mono ?_); rintro e wn ⟨vc, rc, rfl, hrj, hs⟩; replace H := H.comp hs; clear hs; simp only [List.cons_append, List.nil_append] at H; have Tc : Hid (vc.oneCell' = true) := Lib.hid (hrj _ (H.get (r := rc) (by (repeat (first | with_reducible exact List.mem_cons_self | with_reducible apply List.mem_cons_of_mem))))).one; have Jc := Lib.hid hrj; clear hrj) | (go_at_call 24; (with_reducible refine (bksame_v HS.out _ (Jc.out _ (H.get (r := rc) (by (repeat (first | with_reducible exact List.mem_cons_self | with_reducible apply List.mem_cons_of_mem))))) (Ha.out.below H.bel)).mono ?_); rintro e wn ⟨rfl, hb⟩; replace H := H.call hb; clear hb) | ((with_reducible apply ld_one (ty := 22) Try.underlying22 rfl); rfl; rfl; (focus (apply H.one; (repeat (first | with_reducible exact List.mem_cons_self | with_reducible apply List.mem_cons_of_mem)); done))) | (go_at_call 44; (with_reducible refine (cnget_n HG.out (Hx.out.below H.bel)).mono ?_); rintro e wn ⟨rfl, hb⟩; replace H := H.call hb; clear hb))
        all_goals first | (rw [Exit.noGoto_ret]; go_ret) | go_ret
        all_goals exact ⟨rfl, H.bel⟩
    | some M =>
      obtain ⟨h1, h2, _⟩ := gBook_only hg
      have HMM := Lib.hid h1
      have HPM : Hid (bPutP M = bx) := Lib.hid (by rw [bPutP_yes h1, h2])
      have HG := Lib.hid hg; clear hg h1 h2
      cases m
      all_goals
        (try have HGp := hgp rfl)
        clear hgp
        go_enter Try.func15, Try.ntmps15
        go_wp2_with (first | go_skip | ((fail_if_success have := kA); (with_reducible apply arm_box H); rfl; clear H; intro wn kA H) | ((fail_if_success have := kc); (with_reducible apply al_bk H); clear H; intro wn kc H) | ((fail_if_success have := kd); (with_reducible apply al_bk H); clear H; intro wn kd H) | ((with_reducible apply ld_bk); rfl; rfl; (focus (apply H.one; (repeat (first | with_reducible exact List.mem_cons_self | with_reducible apply List.mem_cons_of_mem)); done))) | ((with_reducible apply st_bk H); rfl; rfl; rfl; (repeat (first | with_reducible apply Upd.head | with_reducible apply Upd.tail)); (first | rfl | assumption | (refine Hid.out ?_; assumption)); clear H; intro wn H) | (go_at_call 42; (with_reducible refine (awake8_c _).mono ?_); rintro e wn ⟨rfl, hb⟩; replace H := H.call hb; clear hb) | (go_at_call 21; first | ((with_reducible refine (few7_v hfa.out _ (Ha.out.below H.bel)).mono ?_); rintro e wn ⟨rfl, hb⟩; replace H := H.call hb; clear hb)) | (go_at_call 43; (fail_if_success have := Tvp); (with_reducible refine (cnput_v hm.out HP.out _ (Ha.out.below H.bel)).mono ?_); rintro e wn ⟨vp, rfl, hs⟩; have Tvp := Lib.hid True.intro; replace H := H.comp hs; clear hs; simp only [List.cons_append, List.nil_append] at H) | (go_at_call 22; first | ((with_reducible refine (bkmay_v hm.out _ (Ha.out.below H.bel)).mono ?_); rintro e wn ⟨rfl, hb⟩; replace H := H.call hb; clear hb) | ((with_reducible refine (bkmay_v HMM.out _ (Jd.out _ (H.get (r := rd) (by (repeat (first | with_reducible exact List.mem_cons_self | with_reducible apply List.mem_cons_of_mem)))))).mono ?_); rintro e wn ⟨rfl, hb⟩; replace H := H.call hb; clear hb)) | (go_at_call 44; (fail_if_success have := Tc); (with_reducible refine (cnget_y HGp.out (H.byt8 (by (repeat (first | with_reducible exact List.mem_cons_self | with_reducible apply List.mem_cons_of_mem))))).mono ?_); rintro e wn ⟨vc, rc, rfl, hrj, hs⟩; replace H := H.comp hs; clear hs; simp only [List.cons_append, List.nil_append] at H; have Tc : Hid (vc.oneCell' = true) := Lib.hid (hrj _ (H.get (r := rc) (by (repeat (first | with_reducible exact List.mem_cons_self | with_reducible apply List.mem_cons_of_mem))))).one; have Jc := Lib.hid hrj; clear hrj) | (go_at_call 24; (with_reducible refine (bksame_v HS.out _ (Jc.out _ (H.get (r := rc) (by (repeat (first | with_reducible exact List.mem_cons_self | with_reducible apply List.mem_cons_of_mem))))) (Ha.out.below H.bel)).mono ?_); rintro e wn ⟨rfl, hb⟩; replace H := H.call hb; clear hb) | ((with_reducible apply ld_one (ty := 22) Try.underlying22 rfl); rfl; rfl; (focus (apply H.one; (repeat (first | with_reducible exact List.mem_cons_self | with_reducible apply List.mem_cons_of_mem)); done))) | (go_at_call 44; (fail_if_success have := Td); (with_reducible refine (cnget_y HG.out (Hx.out.below H.bel)).mono ?_); rintro e wn ⟨vd, rd, rfl, hrj, hs⟩; replace H := H.comp hs; clear hs; simp only [List.cons_append, List.nil_append] at H; have Td : Hid (vd.oneCell' = true) := Lib.hid (hrj _ (H.get (r := rd) (by (repeat (first | with_reducible exact List.mem_cons_self | with_reducible apply List.mem_cons_of_mem))))).one; have Jd := Lib.hid hrj; clear hrj) | (go_at_call 43; (fail_if_success have := Tvq); (with_reducible refine (cnput_v HMM.out HPM.out _ (Jd.out _ (H.get (r := rd) (by (repeat (first | with_reducible exact List.mem_cons_self | with_reducible apply List.mem_cons_of_mem)))))).mono ?_); rintro e wn ⟨vq, rfl, hs⟩; have Tvq := Lib.hid True.intro; replace H := H.comp hs; clear hs; simp only [List.cons_append, List.nil_append] at H) | ((with_reducible refine arm_cvs ?_ ?_ (bs := bx) (H.byt8 (v := vq) (by (repeat (first | with_reducible exact List.mem_cons_self | with_reducible apply List.mem_cons_of_mem)))) ?_); rfl; rfl) | ((with_reducible refine arm_cvs ?_ ?_ (bs := bx) (Hx.out.below H.bel) ?_); rfl; rfl))
        all_goals first | (rw [Exit.noGoto_ret]; go_ret) | go_ret
        all_goals exact ⟨by first | rfl | simp, H.bel⟩
end Go.Proofs.Ytolbmemogoojhaa
