/- Two books joined; one adds nothing to another one. -/
import Derived.Test.YtolbmemogoojhaaBookK
namespace Go.Proofs.Ytolbmemogoojhaa
open Go Go.RowKit Go.Deep
set_option linter.unusedVariables false
set_option linter.unusedSimpArgs false
set_option maxRecDepth 100000
def JoinP (w : World) (d : Int) (J : BK) (e : Ending) (w' : World) : Prop := ∃ v r, e = .returned (.tuple #[.agg #[v], .int .i64 d]) ∧ (∀ W, r.holds W → Recs W v J) ∧ St w w' [r]
theorem bkjoin_c {va vb : Value} {A B J : BK} {d : Int} (hc : bCan A B = d) (hj : bJ A B = J) (w : World) (ha : Recs w va A) (hb : Recs w vb B) : Calls Try.prog 23 #[.agg #[va], .agg #[vb]] w (JoinP w d J) := by
  subst hc hj
  cases hm : (bMay A && bMay B) with
  | false =>
    have h1 : bCan A B = 1 := by unfold bCan; rw [if_neg (by rw [hm]; simp)]
    have h2 : bJ A B = [] := by unfold bJ; rw [if_neg (by rw [h1]; decide)]
    rw [h1, h2]
    exact (bkjoin_arg va vb A B hm w ha hb).mono fun e w' ⟨h, hb⟩ => ⟨_, Res.none, h, fun W _ => Recs.nil W, ((St.init w).call hb).addNone⟩
  | true =>
    obtain ⟨LA, rfl, ra⟩ := ha
    obtain ⟨LB, rfl, rb⟩ := hb
    simp only [Bool.and_eq_true] at hm
    exact bkjoin_yes va vb LA LB hm.1 hm.2 w ra rb
set_option maxHeartbeats 1600000 in
theorem bkleq_c (va vb : Value) (A B : BK) (w : World) (ha : Recs w va A) (hb : Recs w vb B) : Calls Try.prog 25 #[.agg #[va], .agg #[vb]] w fun e w' => e = .returned (.bool (bLeq A B)) ∧ Below w.heap.size w w' := by
  have Ha := Lib.hid ha; have Hb := Lib.hid hb; clear ha hb
  obtain ⟨d, hd⟩ : ∃ d, bCan A B = d := ⟨_, rfl⟩
  obtain ⟨J, hj⟩ : ∃ J, bJ A B = J := ⟨_, rfl⟩
  obtain ⟨q, hq⟩ : ∃ q, bSame J B = q := ⟨_, rfl⟩
  have Hc := Lib.hid hd; have Hj := Lib.hid hj; have Hq := Lib.hid hq
  have H := St.init w
  by_cases h0 : d = 0
  · subst h0
    have Hres : Hid (bLeq A B = q) := Lib.hid (by unfold bLeq; rw [hd, hj, hq]; rfl)
    clear hd hj hq
    go_enter Try.func25, Try.ntmps25
    go_wp2_with (first | go_skip | ((fail_if_success have := kA); (with_reducible apply arm_box H); rfl; clear H; intro wn kA H) | ((fail_if_success have := kB); (with_reducible apply arm_box H); rfl; clear H; intro wn kB H) | ((fail_if_success have := kJ); (with_reducible apply al_bk H); clear H; intro wn kJ H) | ((with_reducible apply ld_bk); rfl; rfl; (focus (apply H.one; (repeat (first | with_reducible exact List.mem_cons_self | with_reducible apply List.mem_cons_of_mem)); done))) | ((with_reducible apply st_bk H); rfl; rfl; rfl; (repeat (first | with_reducible apply Upd.head | with_reducible apply Upd.tail)); (first | rfl | assumption | (refine Hid.out ?_; assumption)); clear H; intro wn H) | (go_at_call 23; (with_reducible refine (bkjoin_c Hc.out Hj.out _ (Ha.out.below H.bel) (Hb.out.below H.bel)).mono ?_); rintro e wn ⟨vj, rj, rfl, hrj, hs⟩; replace H := H.comp hs; clear hs; simp only [List.cons_append, List.nil_append] at H; have HJ := Lib.hid hrj; clear hrj; have T1 : Hid (vj.oneCell' = true) := Lib.hid (HJ.out _ (H.get (r := rj) (by (repeat (first | with_reducible exact List.mem_cons_self | with_reducible apply List.mem_cons_of_mem))))).one) | (go_at_call 24; (with_reducible refine (bksame_v Hq.out _ (HJ.out _ (H.get (r := rj) (by (repeat (first | with_reducible exact List.mem_cons_self | with_reducible apply List.mem_cons_of_mem))))) (Hb.out.below H.bel)).mono ?_); rintro e wn ⟨rfl, hb⟩; replace H := H.call hb; clear hb))
    all_goals first | (rw [Exit.noGoto_ret]; go_ret) | go_ret
    all_goals exact ⟨by rw [Hres.out]; rfl, H.bel⟩
  · have Hres : Hid (bLeq A B = false) := Lib.hid (by unfold bLeq; rw [hd, decide_eq_false h0]; rfl)
    clear hd hj hq
    go_enter Try.func25, Try.ntmps25
    go_wp2_with (first | go_skip | ((fail_if_success have := kA); (with_reducible apply arm_box H); rfl; clear H; intro wn kA H) | ((fail_if_success have := kB); (with_reducible apply arm_box H); rfl; clear H; intro wn kB H) | ((fail_if_success have := kJ); (with_reducible apply al_bk H); clear H; intro wn kJ H) | ((with_reducible apply ld_bk); rfl; rfl; (focus (apply H.one; (repeat (first | with_reducible exact List.mem_cons_self | with_reducible apply List.mem_cons_of_mem)); done))) | ((with_reducible apply st_bk H); rfl; rfl; rfl; (repeat (first | with_reducible apply Upd.head | with_reducible apply Upd.tail)); (first | rfl | assumption | (refine Hid.out ?_; assumption)); clear H; intro wn H) | (go_at_call 23; (with_reducible refine (bkjoin_c Hc.out Hj.out _ (Ha.out.below H.bel) (Hb.out.below H.bel)).mono ?_); rintro e wn ⟨vj, rj, rfl, hrj, hs⟩; replace H := H.comp hs; clear hs; simp only [List.cons_append, List.nil_append] at H; have HJ := Lib.hid hrj; clear hrj; have T1 : Hid (vj.oneCell' = true) := Lib.hid (HJ.out _ (H.get (r := rj) (by (repeat (first | with_reducible exact List.mem_cons_self | with_reducible apply List.mem_cons_of_mem))))).one) | (go_at_call 24; (with_reducible refine (bksame_v Hq.out _ (HJ.out _ (H.get (r := rj) (by (repeat (first | with_reducible exact List.mem_cons_self | with_reducible apply List.mem_cons_of_mem))))) (Hb.out.below H.bel)).mono ?_); rintro e wn ⟨rfl, hb⟩; replace H := H.call hb; clear hb))
    all_goals first | (rw [Exit.noGoto_ret]; go_ret) | go_ret
    all_goals exact ⟨by rw [Hres.out]; rfl, H.bel⟩
theorem bkleq_v {va vb : Value} {A B : BK} {q : Bool} (h : bLeq A B = q) (w : World) (ha : Recs w va A) (hb : Recs w vb B) : Calls Try.prog 25 #[.agg #[va], .agg #[vb]] w fun e w' => e = .returned (.bool q) ∧ Below w.heap.size w w' := by subst h; exact bkleq_c va vb A B w ha hb
end Go.Proofs.Ytolbmemogoojhaa
