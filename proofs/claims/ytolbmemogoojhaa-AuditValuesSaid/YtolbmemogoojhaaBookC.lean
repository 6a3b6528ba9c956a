/- Books compared; a record found. -/
import Derived.Test.YtolbmemogoojhaaBookB
namespace Go.Proofs.Ytolbmemogoojhaa
open Go Go.RowKit Go.Deep
set_option linter.unusedVariables false
set_option linter.unusedSimpArgs false
set_option maxRecDepth 100000
theorem bSame_step {L M : BK} {j : Nat} {r r' : RD} (h : L[j]? = some r) (k : M[j]? = some r') : bSame (L.drop j) (M.drop j) = (rSame r r' && bSame (L.drop (j + 1)) (M.drop (j + 1))) := by
  have h1 := List.getElem?_eq_some_iff.1 h
  have k1 := List.getElem?_eq_some_iff.1 k
  rw [List.drop_eq_getElem_cons h1.1, h1.2, List.drop_eq_getElem_cons k1.1, k1.2]; rfl
theorem bSame_len {L M : BK} (h : L.length ≠ M.length) : bSame L M = false := by
  cases hb : bSame L M with
  | false => rfl
  | true => exact absurd (congrArg List.length ((bSame_iff L M).1 hb)) h
theorem bSame_end {L M : BK} {j : Nat} (h : L.length ≤ j) (k : M.length ≤ j) : bSame (L.drop j) (M.drop j) = true := by rw [List.drop_of_length_le h, List.drop_of_length_le k]; rfl
set_option maxHeartbeats 6400000 in
theorem bkeq_c (v v' : Value) (L M : BK) (w : World) (hv : Recs w v L) (hv' : Recs w v' M) : Calls Try.prog 53 #[v, v', .func (.func 28) #[] #[]] w fun e w' => e = .returned (.bool (bSame L M)) ∧ Below w.heap.size w w' := by
  obtain ⟨n, hn⟩ : ∃ n, L.length = n := ⟨_, rfl⟩
  obtain ⟨n', hn'⟩ : ∃ n, M.length = n := ⟨_, rfl⟩
  obtain ⟨a, c, rfl, hm1, _⟩ := id hv.slice
  obtain ⟨a', c', rfl, hm2, _⟩ := id hv'.slice
  rw [hn] at hv hm1 ⊢; rw [hn'] at hv' hm2 ⊢
  unfold maxLen at hm1 hm2
  have Hv := Lib.hid hv; have Hn := Lib.hid hn; have Hv' := Lib.hid hv'; have Hn' := Lib.hid hn'; clear hv hn hv' hn'
  have H := St.init w
  by_cases hne : n = n'
  · subst hne
    go_enter Try.func53, Try.ntmps53
    go_wp2_with (first | go_skip | fail)
    go_loopw [17] (fun i wr => ∃ j : Nat, j ≤ n ∧ i = .int .i64 j ∧ Hid (bSame L M = bSame (L.drop j) (M.drop j)) ∧ St w wr []) (fun i _ => n - (intOf i).toNat)
    case atStart => exact ⟨0, by omega, rfl, Lib.hid rfl, H⟩
    case round =>
      clear H
      obtain ⟨j, hj, rfl, I, H⟩ := hrel
      by_cases hlt : j < n
      · obtain ⟨r, hr⟩ : ∃ r, L[j]? = some r := ⟨_, List.getElem?_eq_getElem (by rw [Hn.out]; exact hlt)⟩
        obtain ⟨r', hr'⟩ : ∃ r, M[j]? = some r := ⟨_, List.getElem?_eq_getElem (by rw [Hn'.out]; exact hlt)⟩
        obtain ⟨b, off, s, rfl, hbw, G, hf⟩ := Hv.out.at hr
        obtain ⟨b', off', s', rfl, hbw', G', hf'⟩ := Hv'.out.at hr'
        have hok : Hid r.ok := Lib.hid G.2; have hok' : Hid r'.ok := Lib.hid G'.2
        have Hf := Lib.hid hf; have Hf' := Lib.hid hf'
        have Hone : Hid (s.oneCell' = true) := Lib.hid (flds_one hf); have Hone' : Hid (s'.oneCell' = true) := Lib.hid (flds_one hf')
        obtain ⟨q, hq⟩ : ∃ q, Hid (rSame r r' = q) := ⟨_, rfl⟩
        have Hst : Hid (bSame L M = (q && bSame (L.drop (j + 1)) (M.drop (j + 1)))) := Lib.hid (by rw [I.out, bSame_step hr hr', hq.out])
        clear hf hf' hr hr' hbw hbw'
        cases q with
        | false =>
          have Hres : Hid (bSame L M = false) := Lib.hid (by rw [Hst.out]; rfl)
          go_wp2_with (first | go_skip | ((with_reducible apply ld_rec); rfl; rfl; (first | (focus (apply H.rc; (repeat (first | with_reducible exact List.mem_cons_self | with_reducible apply List.mem_cons_of_mem)); done)) | (apply RecAt.bel (hb := H.bel); assumption))) | ((with_reducible apply al_rec H); clear H; intro wn b H) | ((with_reducible apply st_rec H); rfl; rfl; rfl; (repeat (first | with_reducible apply Upd.head | with_reducible apply Upd.tail)); (first | assumption | (refine Hid.out ?_; assumption)); (first | rfl | assumption | (refine Hid.out ?_; assumption)); clear H; intro wn H) | (go_at_call 28; (with_reducible refine (rsameD hok.out hok'.out hq.out _ (Hf.out.below H.bel) (Hf'.out.below H.bel)).mono ?_); rintro e wn ⟨rfl, hb⟩; replace H := H.call hb; clear hb))
          all_goals first | (rw [Exit.noGoto_ret]; go_ret) | go_ret
          all_goals exact ⟨by rw [Hres.out]; rfl, H.bel⟩
        | true =>
          have Hnext : Hid (bSame L M = bSame (L.drop (j + 1)) (M.drop (j + 1))) := Lib.hid (by rw [Hst.out]; rfl)
          go_wp2_with (first | go_skip | ((with_reducible apply ld_rec); rfl; rfl; (first | (focus (apply H.rc; (repeat (first | with_reducible exact List.mem_cons_self | with_reducible apply List.mem_cons_of_mem)); done)) | (apply RecAt.bel (hb := H.bel); assumption))) | ((with_reducible apply al_rec H); clear H; intro wn b H) | ((with_reducible apply st_rec H); rfl; rfl; rfl; (repeat (first | with_reducible apply Upd.head | with_reducible apply Upd.tail)); (first | assumption | (refine Hid.out ?_; assumption)); (first | rfl | assumption | (refine Hid.out ?_; assumption)); clear H; intro wn H) | (go_at_call 28; (with_reducible refine (rsameD hok.out hok'.out hq.out _ (Hf.out.below H.bel) (Hf'.out.below H.bel)).mono ?_); rintro e wn ⟨rfl, hb⟩; replace H := H.call hb; clear hb))
          go_roundw
          case rel => exact ⟨j + 1, by omega, by go_num, Hnext, H.sub (by (repeat (first | with_reducible exact List.Sublist.refl _ | with_reducible refine List.Sublist.cons_cons _ ?_ | refine List.Sublist.cons _ ?_)))⟩
          case measure => simp [intOf]; omega
      · have hjn : j = n := by omega
        subst hjn
        have Hres : Hid (bSame L M = true) := Lib.hid (by rw [I.out]; exact bSame_end (by rw [Hn.out]; exact Nat.le_refl _) (by rw [Hn'.out]; exact Nat.le_refl _))
        go_wp2_with (first | go_skip | ((with_reducible apply ld_rec); rfl; rfl; (first | (focus (apply H.rc; (repeat (first | with_reducible exact List.mem_cons_self | with_reducible apply List.mem_cons_of_mem)); done)) | (apply RecAt.bel (hb := H.bel); assumption))) | ((with_reducible apply al_rec H); clear H; intro wn b H) | ((with_reducible apply st_rec H); rfl; rfl; rfl; (repeat (first | with_reducible apply Upd.head | with_reducible apply Upd.tail)); (first | assumption | (refine Hid.out ?_; assumption)); (first | rfl | assumption | (refine Hid.out ?_; assumption)); clear H; intro wn H) | (go_at_call 28; (with_reducible refine (rsameD hok.out hok'.out hq.out _ (Hf.out.below H.bel) (Hf'.out.below H.bel)).mono ?_); rintro e wn ⟨rfl, hb⟩; replace H := H.call hb; clear hb))
        all_goals first | (rw [Exit.noGoto_ret]; go_ret) | go_ret
        all_goals exact ⟨by rw [Hres.out]; rfl, H.bel⟩
  · have Hres : Hid (bSame L M = false) := Lib.hid (bSame_len (by rw [Hn.out, Hn'.out]; exact hne))
    have hne2 : ((n : Int) == (n' : Int)) = false := by simp; omega
    go_enter Try.func53, Try.ntmps53
    go_wp2_with (first | go_skip | fail)
    all_goals first | (rw [Exit.noGoto_ret]; go_ret) | go_ret
    all_goals exact ⟨by rw [Hres.out]; rfl, H.bel⟩
theorem bkeq_v {v v' : Value} {L M : BK} {q : Bool} (h : bSame L M = q) (w : World) (hv : Recs w v L) (hv' : Recs w v' M) : Calls Try.prog 53 #[v, v', .func (.func 28) #[] #[]] w fun e w' => e = .returned (.bool q) ∧ Below w.heap.size w w' := by subst h; exact bkeq_c v v' L M w hv hv'
set_option maxHeartbeats 1600000 in
theorem bksame_v {v v' : Value} {L M : BK} {q : Bool} (h : bSame L M = q) (w : World) (hv : Recs w v L) (hv' : Recs w v' M) : Calls Try.prog 24 #[.agg #[v], .agg #[v']] w fun e w' => e = .returned (.bool q) ∧ Below w.heap.size w w' := by
  have Hq := Lib.hid h; have Hv := Lib.hid hv; have Hv' := Lib.hid hv'; clear h hv hv'
  have H := St.init w
  go_enter Try.func24, Try.ntmps24
  go_wp2_with (first | go_skip | ((fail_if_success have := kA); (with_reducible apply arm_box H); rfl; clear H; intro wn kA H) | ((fail_if_success have := kB); (with_reducible apply arm_box H); rfl; clear H; intro wn kB H) | ((with_reducible apply ld_one (ty := 22) Try.underlying22 rfl); rfl; rfl; (focus (apply H.one; (repeat (first | with_reducible exact List.mem_cons_self | with_reducible apply List.mem_cons_of_mem)); done))) | (go_at_call 53; (with_reducible refine (bkeq_v Hq.out _ (Hv.out.below H.bel) (Hv'.out.below H.bel)).mono ?_); rintro e wn ⟨rfl, hb⟩; replace H := H.call hb; clear hb))
  all_goals first | (rw [Exit.noGoto_ret]; go_ret) | go_ret
  exact ⟨rfl, H.bel⟩
end Go.Proofs.Ytolbmemogoojhaa
