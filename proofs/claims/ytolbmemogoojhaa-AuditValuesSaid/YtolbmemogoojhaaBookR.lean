/- At most 14 records; the chapter's example. -/
import Derived.Test.YtolbmemogoojhaaBookQ
namespace Go.Proofs.Ytolbmemogoojhaa
open Go Go.RowKit Go.Deep
set_option linter.unusedVariables false
set_option linter.unusedSimpArgs false
set_option maxRecDepth 100000
def bFewL : BK → Bool
  | [] => true
  | r :: l => rFew r && bFewL l
def bFew (L : BK) : Bool := decide (L.length ≤ 14) && bFewL L
set_option maxHeartbeats 1600000 in
theorem few7_c (v : Value) (L : BK) (w : World) (hv : Recs w v L) : Calls Try.prog 21 #[.agg #[v]] w fun e w' => e = .returned (.bool (bFew L)) ∧ Below w.heap.size w w' := by
  obtain ⟨n, hn⟩ : ∃ n, L.length = n := ⟨_, rfl⟩
  obtain ⟨a, c, rfl, hm1, _⟩ := id hv.slice
  rw [hn] at hv hm1 ⊢
  unfold maxLen at hm1
  have Hv := Lib.hid hv; have Hn := Lib.hid hn; clear hv hn
  have H := St.init w
  by_cases h14 : 14 < n
  · have Hres : Hid (bFew L = false) := Lib.hid (by unfold bFew; rw [Hn.out, decide_eq_false (by omega)]; rfl)
    go_enter Try.func21, Try.ntmps21
    go_wp2_with (first | go_skip | ((fail_if_success have := kB); (with_reducible apply arm_box H); rfl; clear H; intro wn kB H) | ((with_reducible apply ld_one (ty := 22) Try.underlying22 rfl); rfl; rfl; (focus (apply H.one; (repeat (first | with_reducible exact List.mem_cons_self | with_reducible apply List.mem_cons_of_mem)); done))) | ((with_reducible apply ld_rec); rfl; rfl; (first | (focus (apply H.rc; (repeat (first | with_reducible exact List.mem_cons_self | with_reducible apply List.mem_cons_of_mem)); done)) | (apply RecAt.bel (hb := H.bel); assumption) | assumption)) | (go_at_call 47; (with_reducible refine (few6_v Hok.out hq.out _ (Hf.out.below H.bel)).mono ?_); rintro e wn ⟨rfl, hb⟩; replace H := H.call hb; clear hb))
    all_goals first | (rw [Exit.noGoto_ret]; go_ret) | go_ret
    all_goals exact ⟨by rw [Hres.out]; rfl, H.bel⟩
  go_enter Try.func21, Try.ntmps21
  go_wp2_with (first | go_skip | ((fail_if_success have := kB); (with_reducible apply arm_box H); rfl; clear H; intro wn kB H) | ((with_reducible apply ld_one (ty := 22) Try.underlying22 rfl); rfl; rfl; (focus (apply H.one; (repeat (first | with_reducible exact List.mem_cons_self | with_reducible apply List.mem_cons_of_mem)); done))) | ((with_reducible apply ld_rec); rfl; rfl; (first | (focus (apply H.rc; (repeat (first | with_reducible exact List.mem_cons_self | with_reducible apply List.mem_cons_of_mem)); done)) | (apply RecAt.bel (hb := H.bel); assumption) | assumption)) | (go_at_call 47; (with_reducible refine (few6_v Hok.out hq.out _ (Hf.out.below H.bel)).mono ?_); rintro e wn ⟨rfl, hb⟩; replace H := H.call hb; clear hb))
  go_loopw [3] (fun i wr => ∃ (j : Nat), j ≤ n ∧ i = .int .i64 j ∧ Hid (bFewL L = bFewL (L.drop j)) ∧ St w wr [Res.blk kB 24 #[.slice a n c]]) (fun i _ => n - (intOf i).toNat)
  case atStart => exact ⟨0, by omega, rfl, Lib.hid rfl, H⟩
  case round =>
    clear H
    obtain ⟨j, hj, rfl, I, H⟩ := hrel
    by_cases hlt : j < n
    · obtain ⟨r, hr⟩ : ∃ r, L[j]? = some r := ⟨_, List.getElem?_eq_getElem (by rw [Hn.out]; exact hlt)⟩
      obtain ⟨b, off, s, rfl, hbw, G, hf⟩ := Hv.out.at hr
      have Hst := Lib.hid (drop_at hr)
      have Hok : Hid r.ok := Lib.hid G.2
      have Hf := Lib.hid hf
      obtain ⟨q, hq⟩ : ∃ q, Hid (rFew r = q) := ⟨_, rfl⟩
      clear hf hr hbw
      cases q with
      | true =>
        go_wp2_with (first | go_skip | ((fail_if_success have := kB); (with_reducible apply arm_box H); rfl; clear H; intro wn kB H) | ((with_reducible apply ld_one (ty := 22) Try.underlying22 rfl); rfl; rfl; (focus (apply H.one; (repeat (first | with_reducible exact List.mem_cons_self | with_reducible apply List.mem_cons_of_mem)); done))) | ((with_reducible apply ld_rec); rfl; rfl; (first | (focus (apply H.rc; (repeat (first | with_reducible exact List.mem_cons_self | with_reducible apply List.mem_cons_of_mem)); done)) | (apply RecAt.bel (hb := H.bel); assumption) | assumption)) | (go_at_call 47; (with_reducible refine (few6_v Hok.out hq.out _ (Hf.out.below H.bel)).mono ?_); rintro e wn ⟨rfl, hb⟩; replace H := H.call hb; clear hb))
        go_roundw
        case rel => exact ⟨j + 1, by omega, by go_num, Lib.hid (by rw [I.out, Hst.out, bFewL, hq.out]; rfl), H.sub (by (repeat (first | with_reducible exact List.Sublist.refl _ | with_reducible refine List.Sublist.cons_cons _ ?_ | refine List.Sublist.cons _ ?_)))⟩
        case measure => simp [intOf]; omega
      | false =>
        have Hres : Hid (bFew L = false) := Lib.hid (by unfold bFew; rw [I.out, Hst.out, bFewL, hq.out]; simp)
        go_wp2_with (first | go_skip | ((fail_if_success have := kB); (with_reducible apply arm_box H); rfl; clear H; intro wn kB H) | ((with_reducible apply ld_one (ty := 22) Try.underlying22 rfl); rfl; rfl; (focus (apply H.one; (repeat (first | with_reducible exact List.mem_cons_self | with_reducible apply List.mem_cons_of_mem)); done))) | ((with_reducible apply ld_rec); rfl; rfl; (first | (focus (apply H.rc; (repeat (first | with_reducible exact List.mem_cons_self | with_reducible apply List.mem_cons_of_mem)); done)) | (apply RecAt.bel (hb := H.bel); assumption) | assumption)) | (go_at_call 47; (with_reducible refine (few6_v Hok.out hq.out _ (Hf.out.below H.bel)).mono ?_); rintro e wn ⟨rfl, hb⟩; replace H := H.call hb; clear hb))
        all_goals first | (rw [Exit.noGoto_ret]; go_ret) | go_ret
        all_goals exact ⟨by rw [Hres.out]; rfl, H.bel⟩
    · have hjn : j = n := by omega
      subst hjn
      have Hres : Hid (bFew L = true) := Lib.hid (by unfold bFew; rw [I.out, Hn.out, ← Hn.out, List.drop_length, Hn.out, decide_eq_true (by omega)]; rfl)
      go_wp2_with (first | go_skip | ((fail_if_success have := kB); (with_reducible apply arm_box H); rfl; clear H; intro wn kB H) | ((with_reducible apply ld_one (ty := 22) Try.underlying22 rfl); rfl; rfl; (focus (apply H.one; (repeat (first | with_reducible exact List.mem_cons_self | with_reducible apply List.mem_cons_of_mem)); done))) | ((with_reducible apply ld_rec); rfl; rfl; (first | (focus (apply H.rc; (repeat (first | with_reducible exact List.mem_cons_self | with_reducible apply List.mem_cons_of_mem)); done)) | (apply RecAt.bel (hb := H.bel); assumption) | assumption)) | (go_at_call 47; (with_reducible refine (few6_v Hok.out hq.out _ (Hf.out.below H.bel)).mono ?_); rintro e wn ⟨rfl, hb⟩; replace H := H.call hb; clear hb))
      all_goals first | (rw [Exit.noGoto_ret]; go_ret) | go_ret
      all_goals exact ⟨by rw [Hres.out]; rfl, H.bel⟩
theorem few7_v {v : Value} {L : BK} {q : Bool} (h : bFew L = q) (w : World) (hv : Recs w v L) : Calls Try.prog 21 #[.agg #[v]] w fun e w' => e = .returned (.bool q) ∧ Below w.heap.size w w' := by subst h; exact few7_c v L w hv
end Go.Proofs.Ytolbmemogoojhaa
