/- The document's books: joined. -/
import Derived.Test.YtolbmemogoojhaaGreatVRbD
namespace Go.Proofs.YtolbmemogoojhaaGreat
open Go Go.RowKit Go.Deep
set_option linter.unusedVariables false
set_option linter.unusedSimpArgs false
set_option maxRecDepth 100000
theorem bPut_len1 : ∀ (l : BK) (r : RD), (bPut l r).length ≤ l.length + 1
  | [], r => Nat.le_refl _
  | x :: l, r => by
    unfold bPut
    split
    · exact Nat.le_refl _
    · split
      · exact Nat.le_succ _
      · have := bPut_len1 l r
        simp only [List.length_cons]; omega
theorem bPuts_len1 : ∀ (l m : BK), (bPuts m l).length ≤ m.length + l.length
  | [], m => Nat.le_refl _
  | r :: l, m => by
    have h1 := bPuts_len1 l (bPut m r)
    have h2 := bPut_len1 m r
    show (bPuts (bPut m r) l).length ≤ _
    simp only [List.length_cons]; omega
set_option maxHeartbeats 12800000 in
theorem rbjoin_c {va vb : Value} {A B J : BK} {d : Int} (hc : bCan A B = d) (hj : bJ A B = J) (w : World) (ha : Recs w va A) (hb : Recs w vb B) : Calls Tryz.prog 12 #[.agg #[va], .agg #[vb]] w (JoinP w d J) := by
  obtain ⟨n, hn⟩ : ∃ n, A.length = n := ⟨_, rfl⟩
  obtain ⟨a, c, rfl, hm1, _⟩ := id ha.slice
  rw [hn] at ha hm1 ⊢
  unfold maxLen at hm1
  have Ha := Lib.hid ha; have Hn := Lib.hid hn; clear ha hn
  obtain ⟨n', hn'⟩ : ∃ n, B.length = n := ⟨_, rfl⟩
  obtain ⟨a', c', rfl, hm1', _⟩ := id hb.slice
  rw [hn'] at hb hm1' ⊢
  unfold maxLen at hm1'
  have Hb := Lib.hid hb; have Hn' := Lib.hid hn'; clear hb hn'
  have HoneN : Hid (Value.oneCell' (.slice none 0 0) = true) := Lib.hid rfl
  obtain ⟨p, hp⟩ : ∃ p, Hid (bMay A = p) := ⟨_, rfl⟩
  obtain ⟨q, hq⟩ : ∃ p, Hid (bMay B = p) := ⟨_, rfl⟩
  have H := St.init w
  by_cases hpq : p = true ∧ q = true
  · obtain ⟨rfl, rfl⟩ := hpq
    obtain ⟨ga, la⟩ := bMay_iff.1 hp.out
    obtain ⟨gb, lb⟩ := bMay_iff.1 hq.out
    rw [Hn.out] at la; rw [Hn'.out] at lb
    have Ga := Lib.hid ga; have Gb := Lib.hid gb
    have Hd := Lib.hid hc; have Hj := Lib.hid hj
    clear ga gb hc hj
    go_enter Tryz.func12, Tryz.ntmps12
    go_wp2_with (first | go_skip | ((fail_if_success have := kA); (with_reducible apply arm_box H); rfl; clear H; intro wn kA H) | ((fail_if_success have := kB); (with_reducible apply arm_box H); rfl; clear H; intro wn kB H) | ((fail_if_success have := kX); (with_reducible apply al_bk H); clear H; intro wn kX H) | ((fail_if_success have := kO); (with_reducible apply al_bk H); clear H; intro wn kO H) | ((with_reducible apply ld_bk); rfl; rfl; (focus (apply H.one; (repeat (first | with_reducible exact mH | with_reducible apply mT)); done))) | (with_reducible apply bd_bk0) | ((with_reducible apply st_bk H); rfl; rfl; rfl; (repeat (first | with_reducible apply Upd.head | with_reducible apply Upd.tail)); (first | rfl | assumption | (refine Hid.out ?_; assumption)); clear H; intro wn H) | (go_at_call 15; first | ((with_reducible refine (rbmay_v hp.out _ (Ha.out.below H.bel)).mono ?_); rintro e wn ⟨rfl, hb⟩; replace H := H.call hb; clear hb) | ((with_reducible refine (rbmay_v hq.out _ (Hb.out.below H.bel)).mono ?_); rintro e wn ⟨rfl, hb⟩; replace H := H.call hb; clear hb)))
    go_loopw [9] (fun i wr => ∃ (k : Nat) (vo : Value) (ro : Res), k ≤ n ∧ i = .int .i64 k ∧ Hid (∀ W, ro.holds W → Recs W vo (bPuts [] (A.take k))) ∧ Hid (vo.oneCell' = true) ∧ St w wr [ro, Res.blk kO 24 #[vo], Res.blk kX 24 #[.slice none 0 0], Res.blk kB 24 #[.slice a' n' c'], Res.blk kA 24 #[.slice a n c]]) (fun i _ => n - (intOf i).toNat)
    case atStart => exact ⟨0, .slice none 0 0, Res.none, by omega, rfl, Lib.hid (fun W _ => Recs.nil W), HoneN, H.addNone⟩
    case round =>
      clear H
      obtain ⟨k, vo, ro, hk, rfl, Jo, To, H⟩ := hrel
      by_cases hlt : k < n
      · obtain ⟨r, hr⟩ : ∃ r, A[k]? = some r := ⟨_, List.getElem?_eq_getElem (by rw [Hn.out]; exact hlt)⟩
        obtain ⟨b, off, s, rfl, hbw, G, hf⟩ := Ha.out.at hr
        have Hok : Hid r.ok := Lib.hid G.2
        have Hf := Lib.hid hf
        have Hmy := Lib.hid (Ga.out.2 r (List.mem_of_getElem? hr))
        have Hgd : Hid (Good (bPuts [] (A.take k))) := Lib.hid (bPuts_good good_nil fun x hx => Ga.out.2 x (List.mem_of_mem_take hx))
        have Hln : Hid ((bPuts [] (A.take k)).length ≤ 30) := Lib.hid (by have := bPuts_len1 (A.take k) []; simp only [List.length_take, List.length_nil] at this; omega)
        obtain ⟨J2, hJ2⟩ : ∃ J, bPuts [] (A.take (k + 1)) = J := ⟨_, rfl⟩
        have HJe : Hid (bPut (bPuts [] (A.take k)) r = J2) := Lib.hid (by rw [← hJ2, bPuts_take hr])
        have HJ3 := Lib.hid hJ2
        clear hr hbw hf hJ2
        go_wp2_with (first | go_skip | ((with_reducible apply ld_bk); rfl; rfl; (focus (apply H.one; (repeat (first | with_reducible exact mH | with_reducible apply mT)); done))) | (with_reducible apply bd_bk0) | ((with_reducible apply st_bk H); rfl; rfl; rfl; (repeat (first | with_reducible apply Upd.head | with_reducible apply Upd.tail)); (first | rfl | assumption | (refine Hid.out ?_; assumption)); clear H; intro wn H) | ((with_reducible apply ld_one (ty := 22) Tryz.underlying22 rfl); rfl; rfl; (focus (apply H.one; (repeat (first | with_reducible exact mH | with_reducible apply mT)); done))))
        (try simp only [Act.put, List.setIfInBounds_toArray, List.set_cons_zero, List.set_cons_succ])
        refine wp_slotsM [⟨some 30, [], fun _ v => v = .agg #[vo]⟩, ⟨some 31, [], fun _ v => v = .pointer (some ⟨kA, 0, none⟩)⟩, ⟨some 32, [(1, 31)], fun _ v => v = .slice (some ⟨b, off, none⟩) n c⟩, ⟨some 33, [], fun _ v => v = .int .i64 (k : Int)⟩, ⟨some 34, [(2, 32), (3, 33)], fun _ v => v = .pointer (some ⟨b, off + k * 19, none⟩)⟩, ⟨some 35, [(4, 34)], fun _ v => v = .agg (rA r s)⟩, ⟨some 36, [(0, 30), (5, 35)], MadeR wr (fun s => .agg #[s]) J2⟩] [30, 31, 32, 33, 34, 35, 36] (false :: false :: false :: false :: false :: false :: false :: false :: false :: false :: false :: false :: false :: false :: false :: false :: false :: false :: false :: false :: false :: false :: false :: false :: false :: false :: false :: false :: false :: false :: true :: true :: true :: true :: true :: true :: true :: []) [(some 30, []), (some 31, []), (some 32, [(1, 31)]), (some 33, []), (some 34, [(2, 32), (3, 33)]), (some 35, [(4, 34)]), (some 36, [(0, 30), (5, 35)])] rfl (by kernel_rfl) (by kernel_rfl) (by rfl) (by rfl) ?_ ?_ ?_
        · exact stable_cons (fun _ _ _ _ h => h) (stable_cons (fun _ _ _ _ h => h) (stable_cons (fun _ _ _ _ h => h) (stable_cons (fun _ _ _ _ h => h) (stable_cons (fun _ _ _ _ h => h) (stable_cons (fun _ _ _ _ h => h) (stable_cons MadeR.keep (stable_nil)))))))
        · refine hops_cons ?_ (hops_cons ?_ (hops_cons ?_ (hops_cons ?_ (hops_cons ?_ (hops_cons ?_ (hops_cons ?_ (trivial)))))))
          · unfold HopM; intro u wn hb hk; have H0 := H; replace H := H.call hb
            simp only [fillM]
            go_wp2_with (first | go_skip | ((with_reducible apply ld_bk); rfl; rfl; (focus (apply H.one; (repeat (first | with_reducible exact mH | with_reducible apply mT)); done))) | ((with_reducible apply ld_one (ty := 22) Tryz.underlying22 rfl); rfl; rfl; (focus (apply H.one; (repeat (first | with_reducible exact mH | with_reducible apply mT)); done))) | ((with_reducible apply ld_rec); rfl; rfl; (first | (focus (apply H.rc; (repeat (first | with_reducible exact mH | with_reducible apply mT)); done)) | (apply RecAt.bel (hb := H.bel); assumption) | assumption)))
            exact ⟨rfl, Below.refl _ _, .agg #[vo], rfl, rfl⟩
          · unfold HopM; intro u wn hb hk; have H0 := H; replace H := H.call hb
            simp only [fillM]
            go_wp2_with (first | go_skip | ((with_reducible apply ld_bk); rfl; rfl; (focus (apply H.one; (repeat (first | with_reducible exact mH | with_reducible apply mT)); done))) | ((with_reducible apply ld_one (ty := 22) Tryz.underlying22 rfl); rfl; rfl; (focus (apply H.one; (repeat (first | with_reducible exact mH | with_reducible apply mT)); done))) | ((with_reducible apply ld_rec); rfl; rfl; (first | (focus (apply H.rc; (repeat (first | with_reducible exact mH | with_reducible apply mT)); done)) | (apply RecAt.bel (hb := H.bel); assumption) | assumption)))
            exact ⟨rfl, Below.refl _ _, .pointer (some ⟨kA, 0, none⟩), rfl, rfl⟩
          · unfold HopM; intro u wn hb hk; have H0 := H; replace H := H.call hb
            obtain ⟨hq1, -⟩ := hk
            replace hq1 := hq1 _ rfl; dsimp only at hq1
            simp only [fillM, hq1]
            clear hq1
            go_wp2_with (first | go_skip | ((with_reducible apply ld_bk); rfl; rfl; (focus (apply H.one; (repeat (first | with_reducible exact mH | with_reducible apply mT)); done))) | ((with_reducible apply ld_one (ty := 22) Tryz.underlying22 rfl); rfl; rfl; (focus (apply H.one; (repeat (first | with_reducible exact mH | with_reducible apply mT)); done))) | ((with_reducible apply ld_rec); rfl; rfl; (first | (focus (apply H.rc; (repeat (first | with_reducible exact mH | with_reducible apply mT)); done)) | (apply RecAt.bel (hb := H.bel); assumption) | assumption)))
            exact ⟨rfl, Below.refl _ _, .slice (some ⟨b, off, none⟩) n c, rfl, rfl⟩
          · unfold HopM; intro u wn hb hk; have H0 := H; replace H := H.call hb
            simp only [fillM]
            go_wp2_with (first | go_skip | ((with_reducible apply ld_bk); rfl; rfl; (focus (apply H.one; (repeat (first | with_reducible exact mH | with_reducible apply mT)); done))) | ((with_reducible apply ld_one (ty := 22) Tryz.underlying22 rfl); rfl; rfl; (focus (apply H.one; (repeat (first | with_reducible exact mH | with_reducible apply mT)); done))) | ((with_reducible apply ld_rec); rfl; rfl; (first | (focus (apply H.rc; (repeat (first | with_reducible exact mH | with_reducible apply mT)); done)) | (apply RecAt.bel (hb := H.bel); assumption) | assumption)))
            exact ⟨rfl, Below.refl _ _, .int .i64 (k : Int), rfl, rfl⟩
          · unfold HopM; intro u wn hb hk; have H0 := H; replace H := H.call hb
            obtain ⟨hq2, hq3, -⟩ := hk
            replace hq2 := hq2 _ rfl; dsimp only at hq2
            replace hq3 := hq3 _ rfl; dsimp only at hq3
            simp only [fillM, hq2, hq3]
            clear hq2 hq3
            go_wp2_with (first | go_skip | ((with_reducible apply ld_bk); rfl; rfl; (focus (apply H.one; (repeat (first | with_reducible exact mH | with_reducible apply mT)); done))) | ((with_reducible apply ld_one (ty := 22) Tryz.underlying22 rfl); rfl; rfl; (focus (apply H.one; (repeat (first | with_reducible exact mH | with_reducible apply mT)); done))) | ((with_reducible apply ld_rec); rfl; rfl; (first | (focus (apply H.rc; (repeat (first | with_reducible exact mH | with_reducible apply mT)); done)) | (apply RecAt.bel (hb := H.bel); assumption) | assumption)))
            exact ⟨rfl, Below.refl _ _, .pointer (some ⟨b, off + k * 19, none⟩), rfl, rfl⟩
          · unfold HopM; intro u wn hb hk; have H0 := H; replace H := H.call hb
            obtain ⟨hq4, -⟩ := hk
            replace hq4 := hq4 _ rfl; dsimp only at hq4
            simp only [fillM, hq4]
            clear hq4
            go_wp2_with (first | go_skip | ((with_reducible apply ld_bk); rfl; rfl; (focus (apply H.one; (repeat (first | with_reducible exact mH | with_reducible apply mT)); done))) | ((with_reducible apply ld_one (ty := 22) Tryz.underlying22 rfl); rfl; rfl; (focus (apply H.one; (repeat (first | with_reducible exact mH | with_reducible apply mT)); done))) | ((with_reducible apply ld_rec); rfl; rfl; (first | (focus (apply H.rc; (repeat (first | with_reducible exact mH | with_reducible apply mT)); done)) | (apply RecAt.bel (hb := H.bel); assumption) | assumption)))
            exact ⟨rfl, Below.refl _ _, .agg (rA r s), rfl, rfl⟩
          · unfold HopM; intro u wn hb hk; have H0 := H; replace H := H.call hb
            obtain ⟨hq0, hq5, -⟩ := hk
            replace hq0 := hq0 _ rfl; dsimp only at hq0
            replace hq5 := hq5 _ rfl; dsimp only at hq5
            simp only [fillM, hq0, hq5]
            clear hq0 hq5
            go_wp2_with (first | go_skip | (go_at_call 54; (with_reducible refine (rbput_c Hgd.out Hln.out Hmy.out Hok.out _ (Jo.out _ (H.get (r := ro) (by (repeat (first | with_reducible exact mH | with_reducible apply mT))))) (Hf.out.below H.bel)).mono ?_); rintro e wm ⟨vj, rj, rfl, hrj, hs⟩))
            exact ⟨rfl, hs.bel, _, rfl, vj, rj, rfl, (by rw [← HJe.out]; exact hrj), hs.get mH, fun b hf => Nat.le_trans hb.size (hs.base _ mH b hf)⟩
        intro u wn hb hk; have H0 := H; replace H := H.call hb
        obtain ⟨hq0, hq1, hq2, hq3, hq4, hq5, hq6, -⟩ := hk
        replace hq0 := hq0 _ rfl; dsimp only at hq0
        replace hq1 := hq1 _ rfl; dsimp only at hq1
        replace hq2 := hq2 _ rfl; dsimp only at hq2
        replace hq3 := hq3 _ rfl; dsimp only at hq3
        replace hq4 := hq4 _ rfl; dsimp only at hq4
        replace hq5 := hq5 _ rfl; dsimp only at hq5
        replace hq6 := hq6 _ rfl; dsimp only at hq6; obtain ⟨vj, rj, hq6, g1, g2, g3⟩ := hq6; dsimp only at hq6; have T1 : Hid (vj.oneCell' = true) := Lib.hid (g1 _ g2).one; have HJ2 := Lib.hid g1; replace H := H0.new hb g2 g3; clear g1 g2 g3
        simp only [fillM, List.length_cons, List.length_nil, Nat.reduceAdd, List.drop_succ_cons, List.drop_zero, hq0, hq1, hq2, hq3, hq4, hq5, hq6]
        clear hb H0 hq0 hq1 hq2 hq3 hq4 hq5 hq6
        go_wp2_with (first | go_skip | ((with_reducible apply st_bk H); rfl; rfl; rfl; (repeat (first | with_reducible apply Upd.head | with_reducible apply Upd.tail)); (first | rfl | assumption | (refine Hid.out ?_; assumption)); clear H; intro wn H))
        go_roundw
        case rel => exact ⟨k + 1, vj, rj, by omega, by go_num, by rw [HJ3.out]; exact HJ2, T1, H.sub (by (repeat (first | with_reducible exact List.Sublist.refl _ | with_reducible refine List.Sublist.cons_cons _ ?_ | refine List.Sublist.cons _ ?_)))⟩
        case measure => simp [intOf]; omega
      · have hkn : n = k := by omega
        subst hkn
        have Jo1 : Hid (∀ W, ro.holds W → Recs W vo (bPuts [] A)) := Lib.hid (by have := Jo.out; rwa [← Hn.out, List.take_length] at this)
        clear Jo
        go_wp2_with (first | go_skip | ((with_reducible apply ld_bk); rfl; rfl; (focus (apply H.one; (repeat (first | with_reducible exact mH | with_reducible apply mT)); done))) | (with_reducible apply bd_bk0) | ((with_reducible apply st_bk H); rfl; rfl; rfl; (repeat (first | with_reducible apply Upd.head | with_reducible apply Upd.tail)); (first | rfl | assumption | (refine Hid.out ?_; assumption)); clear H; intro wn H) | ((with_reducible apply ld_one (ty := 22) Tryz.underlying22 rfl); rfl; rfl; (focus (apply H.one; (repeat (first | with_reducible exact mH | with_reducible apply mT)); done))))
        go_loopw [10] (fun i wr => ∃ (k : Nat) (vo : Value) (ro : Res), k ≤ n' ∧ i = .int .i64 k ∧ Hid (∀ W, ro.holds W → Recs W vo (bPuts (bPuts [] A) (B.take k))) ∧ Hid (vo.oneCell' = true) ∧ St w wr [ro, Res.blk kO 24 #[vo], Res.blk kX 24 #[.slice none 0 0], Res.blk kB 24 #[.slice a' n' c'], Res.blk kA 24 #[.slice a n c]]) (fun i _ => n' - (intOf i).toNat)
        case atStart => exact ⟨0, vo, ro, by omega, rfl, Jo1, To, H⟩
        case round =>
          clear H Jo1 To vo ro
          obtain ⟨k, vo, ro, hk, rfl, Jo, To, H⟩ := hrel
          by_cases hlt : k < n'
          · obtain ⟨r, hr⟩ : ∃ r, B[k]? = some r := ⟨_, List.getElem?_eq_getElem (by rw [Hn'.out]; exact hlt)⟩
            obtain ⟨b, off, s, rfl, hbw, G, hf⟩ := Hb.out.at hr
            have Hok : Hid r.ok := Lib.hid G.2
            have Hf := Lib.hid hf
            have Hmy := Lib.hid (Gb.out.2 r (List.mem_of_getElem? hr))
            have Hgd : Hid (Good (bPuts (bPuts [] A) (B.take k))) := Lib.hid (bPuts_good (bPuts_good good_nil Ga.out.2) fun x hx => Gb.out.2 x (List.mem_of_mem_take hx))
            have Hln : Hid ((bPuts (bPuts [] A) (B.take k)).length ≤ 30) := Lib.hid (by have h1 := bPuts_len1 (B.take k) (bPuts [] A); have h2 := bPuts_len1 A []; have h3 := Hn.out; simp only [List.length_take, List.length_nil] at h1 h2; omega)
            obtain ⟨J2, hJ2⟩ : ∃ J, bPuts (bPuts [] A) (B.take (k + 1)) = J := ⟨_, rfl⟩
            have HJe : Hid (bPut (bPuts (bPuts [] A) (B.take k)) r = J2) := Lib.hid (by rw [← hJ2, bPuts_take hr])
            have HJ3 := Lib.hid hJ2
            clear hr hbw hf hJ2
            go_wp2_with (first | go_skip | ((with_reducible apply ld_bk); rfl; rfl; (focus (apply H.one; (repeat (first | with_reducible exact mH | with_reducible apply mT)); done))) | (with_reducible apply bd_bk0) | ((with_reducible apply st_bk H); rfl; rfl; rfl; (repeat (first | with_reducible apply Upd.head | with_reducible apply Upd.tail)); (first | rfl | assumption | (refine Hid.out ?_; assumption)); clear H; intro wn H) | ((with_reducible apply ld_one (ty := 22) Tryz.underlying22 rfl); rfl; rfl; (focus (apply H.one; (repeat (first | with_reducible exact mH | with_reducible apply mT)); done))))
            (try simp only [Act.put, List.setIfInBounds_toArray, List.set_cons_zero, List.set_cons_succ])
            refine wp_slotsM [⟨some 44, [], fun _ v => v = .agg #[vo]⟩, ⟨some 45, [], fun _ v => v = .pointer (some ⟨kB, 0, none⟩)⟩, ⟨some 46, [(1, 45)], fun _ v => v = .slice (some ⟨b, off, none⟩) n' c'⟩, ⟨some 47, [], fun _ v => v = .int .i64 (k : Int)⟩, ⟨some 48, [(2, 46), (3, 47)], fun _ v => v = .pointer (some ⟨b, off + k * 19, none⟩)⟩, ⟨some 49, [(4, 48)], fun _ v => v = .agg (rA r s)⟩, ⟨some 50, [(0, 44), (5, 49)], MadeR wr (fun s => .agg #[s]) J2⟩] [44, 45, 46, 47, 48, 49, 50] (false :: false :: false :: false :: false :: false :: false :: false :: false :: false :: false :: false :: false :: false :: false :: false :: false :: false :: false :: false :: false :: false :: false :: false :: false :: false :: false :: false :: false :: false :: false :: false :: false :: false :: false :: false :: false :: false :: false :: false :: false :: false :: false :: false :: true :: true :: true :: true :: true :: true :: true :: []) [(some 44, []), (some 45, []), (some 46, [(1, 45)]), (some 47, []), (some 48, [(2, 46), (3, 47)]), (some 49, [(4, 48)]), (some 50, [(0, 44), (5, 49)])] rfl (by kernel_rfl) (by kernel_rfl) (by rfl) (by rfl) ?_ ?_ ?_
            · exact stable_cons (fun _ _ _ _ h => h) (stable_cons (fun _ _ _ _ h => h) (stable_cons (fun _ _ _ _ h => h) (stable_cons (fun _ _ _ _ h => h) (stable_cons (fun _ _ _ _ h => h) (stable_cons (fun _ _ _ _ h => h) (stable_cons MadeR.keep (stable_nil)))))))
            · refine hops_cons ?_ (hops_cons ?_ (hops_cons ?_ (hops_cons ?_ (hops_cons ?_ (hops_cons ?_ (hops_cons ?_ (trivial)))))))
              · unfold HopM; intro u wn hb hk; have H0 := H; replace H := H.call hb
                simp only [fillM]
                go_wp2_with (first | go_skip | ((with_reducible apply ld_bk); rfl; rfl; (focus (apply H.one; (repeat (first | with_reducible exact mH | with_reducible apply mT)); done))) | ((with_reducible apply ld_one (ty := 22) Tryz.underlying22 rfl); rfl; rfl; (focus (apply H.one; (repeat (first | with_reducible exact mH | with_reducible apply mT)); done))) | ((with_reducible apply ld_rec); rfl; rfl; (first | (focus (apply H.rc; (repeat (first | with_reducible exact mH | with_reducible apply mT)); done)) | (apply RecAt.bel (hb := H.bel); assumption) | assumption)))
                exact ⟨rfl, Below.refl _ _, .agg #[vo], rfl, rfl⟩
              · unfold HopM; intro u wn hb hk; have H0 := H; replace H := H.call hb
                simp only [fillM]
                go_wp2_with (first | go_skip | ((with_reducible apply ld_bk); rfl; rfl; (focus (apply H.one; (repeat (first | with_reducible exact mH | with_reducible apply mT)); done))) | ((with_reducible apply ld_one (ty := 22) Tryz.underlying22 rfl); rfl; rfl; (focus (apply H.one; (repeat (first | with_reducible exact mH | with_reducible apply mT)); done))) | ((with_reducible apply ld_rec); rfl; rfl; (first | (focus (apply H.rc; (repeat (first | with_reducible exact mH | with_reducible apply mT)); done)) | (apply RecAt.bel (hb := H.bel); assumption) | assumption)))
                exact ⟨rfl, Below.refl _ _, .pointer (some ⟨kB, 0, none⟩), rfl, rfl⟩
              · unfold HopM; intro u wn hb hk; have H0 := H; replace H := H.call hb
                obtain ⟨hq1, -⟩ := hk
                replace hq1 := hq1 _ rfl; dsimp only at hq1
                simp only [fillM, hq1]
                clear hq1
                go_wp2_with (first | go_skip | ((with_reducible apply ld_bk); rfl; rfl; (focus (apply H.one; (repeat (first | with_reducible exact mH | with_reducible apply mT)); done))) | ((with_reducible apply ld_one (ty := 22) Tryz.underlying22 rfl); rfl; rfl; (focus (apply H.one; (repeat (first | with_reducible exact mH | with_reducible apply mT)); done))) | ((with_reducible apply ld_rec); rfl; rfl; (first | (focus (apply H.rc; (repeat (first | with_reducible exact mH | with_reducible apply mT)); done)) | (apply RecAt.bel (hb := H.bel); assumption) | assumption)))
                exact ⟨rfl, Below.refl _ _, .slice (some ⟨b, off, none⟩) n' c', rfl, rfl⟩
              · unfold HopM; intro u wn hb hk; have H0 := H; replace H := H.call hb
                simp only [fillM]
                go_wp2_with (first | go_skip | ((with_reducible apply ld_bk); rfl; rfl; (focus (apply H.one; (repeat (first | with_reducible exact mH | with_reducible apply mT)); done))) | ((with_reducible apply ld_one (ty := 22) Tryz.underlying22 rfl); rfl; rfl; (focus (apply H.one; (repeat (first | with_reducible exact mH | with_reducible apply mT)); done))) | ((with_reducible apply ld_rec); rfl; rfl; (first | (focus (apply H.rc; (repeat (first | with_reducible exact mH | with_reducible apply mT)); done)) | (apply RecAt.bel (hb := H.bel); assumption) | assumption)))
                exact ⟨rfl, Below.refl _ _, .int .i64 (k : Int), rfl, rfl⟩
              · unfold HopM; intro u wn hb hk; have H0 := H; replace H := H.call hb
                obtain ⟨hq2, hq3, -⟩ := hk
                replace hq2 := hq2 _ rfl; dsimp only at hq2
                replace hq3 := hq3 _ rfl; dsimp only at hq3
                simp only [fillM, hq2, hq3]
                clear hq2 hq3
                go_wp2_with (first | go_skip | ((with_reducible apply ld_bk); rfl; rfl; (focus (apply H.one; (repeat (first | with_reducible exact mH | with_reducible apply mT)); done))) | ((with_reducible apply ld_one (ty := 22) Tryz.underlying22 rfl); rfl; rfl; (focus (apply H.one; (repeat (first | with_reducible exact mH | with_reducible apply mT)); done))) | ((with_reducible apply ld_rec); rfl; rfl; (first | (focus (apply H.rc; (repeat (first | with_reducible exact mH | with_reducible apply mT)); done)) | (apply RecAt.bel (hb := H.bel); assumption) | assumption)))
                exact ⟨rfl, Below.refl _ _, .pointer (some ⟨b, off + k * 19, none⟩), rfl, rfl⟩
              · unfold HopM; intro u wn hb hk; have H0 := H; replace H := H.call hb
                obtain ⟨hq4, -⟩ := hk
                replace hq4 := hq4 _ rfl; dsimp only at hq4
                simp only [fillM, hq4]
                clear hq4
                go_wp2_with (first | go_skip | ((with_reducible apply ld_bk); rfl; rfl; (focus (apply H.one; (repeat (first | with_reducible exact mH | with_reducible apply mT)); done))) | ((with_reducible apply ld_one (ty := 22) Tryz.underlying22 rfl); rfl; rfl; (focus (apply H.one; (repeat (first | with_reducible exact mH | with_reducible apply mT)); done))) | ((with_reducible apply ld_rec); rfl; rfl; (first | (focus (apply H.rc; (repeat (first | with_reducible exact mH | with_reducible apply mT)); done)) | (apply RecAt.bel (hb := H.bel); assumption) | assumption)))
                exact ⟨rfl, Below.refl _ _, .agg (rA r s), rfl, rfl⟩
              · unfold HopM; intro u wn hb hk; have H0 := H; replace H := H.call hb
                obtain ⟨hq0, hq5, -⟩ := hk
                replace hq0 := hq0 _ rfl; dsimp only at hq0
                replace hq5 := hq5 _ rfl; dsimp only at hq5
                simp only [fillM, hq0, hq5]
                clear hq0 hq5
                go_wp2_with (first | go_skip | (go_at_call 54; (with_reducible refine (rbput_c Hgd.out Hln.out Hmy.out Hok.out _ (Jo.out _ (H.get (r := ro) (by (repeat (first | with_reducible exact mH | with_reducible apply mT))))) (Hf.out.below H.bel)).mono ?_); rintro e wm ⟨vj, rj, rfl, hrj, hs⟩))
                exact ⟨rfl, hs.bel, _, rfl, vj, rj, rfl, (by rw [← HJe.out]; exact hrj), hs.get mH, fun b hf => Nat.le_trans hb.size (hs.base _ mH b hf)⟩
            intro u wn hb hk; have H0 := H; replace H := H.call hb
            obtain ⟨hq0, hq1, hq2, hq3, hq4, hq5, hq6, -⟩ := hk
            replace hq0 := hq0 _ rfl; dsimp only at hq0
            replace hq1 := hq1 _ rfl; dsimp only at hq1
            replace hq2 := hq2 _ rfl; dsimp only at hq2
            replace hq3 := hq3 _ rfl; dsimp only at hq3
            replace hq4 := hq4 _ rfl; dsimp only at hq4
            replace hq5 := hq5 _ rfl; dsimp only at hq5
            replace hq6 := hq6 _ rfl; dsimp only at hq6; obtain ⟨vj, rj, hq6, g1, g2, g3⟩ := hq6; dsimp only at hq6; have T1 : Hid (vj.oneCell' = true) := Lib.hid (g1 _ g2).one; have HJ2 := Lib.hid g1; replace H := H0.new hb g2 g3; clear g1 g2 g3
            simp only [fillM, List.length_cons, List.length_nil, Nat.reduceAdd, List.drop_succ_cons, List.drop_zero, hq0, hq1, hq2, hq3, hq4, hq5, hq6]
            clear hb H0 hq0 hq1 hq2 hq3 hq4 hq5 hq6
            go_wp2_with (first | go_skip | ((with_reducible apply st_bk H); rfl; rfl; rfl; (repeat (first | with_reducible apply Upd.head | with_reducible apply Upd.tail)); (first | rfl | assumption | (refine Hid.out ?_; assumption)); clear H; intro wn H))
            go_roundw
            case rel => exact ⟨k + 1, vj, rj, by omega, by go_num, by rw [HJ3.out]; exact HJ2, T1, H.sub (by (repeat (first | with_reducible exact List.Sublist.refl _ | with_reducible refine List.Sublist.cons_cons _ ?_ | refine List.Sublist.cons _ ?_)))⟩
            case measure => simp [intOf]; omega
          · have hkn : n' = k := by omega
            subst hkn
            have Jo2 : Hid (∀ W, ro.holds W → Recs W vo (bBoth A B)) := Lib.hid (by have := Jo.out; rwa [← Hn'.out, List.take_length] at this)
            obtain ⟨z, hz⟩ : ∃ z, (bBoth A B).length = z := ⟨_, rfl⟩
            obtain ⟨ao, co, hvo, _, _⟩ := (Jo2.out _ (H.get (r := ro) (by (repeat (first | with_reducible exact mH | with_reducible apply mT))))).slice
            rw [hz] at hvo
            subst hvo
            have Hz := Lib.hid hz
            clear hz
            by_cases hz10 : z ≤ 10
            · have e1 : d = 0 := by rw [← Hd.out]; exact bCan_ok.2 ⟨hp.out, hq.out, by rw [Hz.out]; exact hz10⟩
              have e2 : J = bBoth A B := by rw [← Hj.out, bBoth_eq (by rw [Hd.out, e1])]
              subst e1 e2
              have hc10 : decide ((10 : Int) < (z : Int)) = false := decide_eq_false (by omega)
              go_wp2_with (first | go_skip | ((with_reducible apply ld_bk); rfl; rfl; (focus (apply H.one; (repeat (first | with_reducible exact mH | with_reducible apply mT)); done))) | (with_reducible apply bd_bk0) | ((with_reducible apply st_bk H); rfl; rfl; rfl; (repeat (first | with_reducible apply Upd.head | with_reducible apply Upd.tail)); (first | rfl | assumption | (refine Hid.out ?_; assumption)); clear H; intro wn H) | ((with_reducible apply ld_one (ty := 22) Tryz.underlying22 rfl); rfl; rfl; (focus (apply H.one; (repeat (first | with_reducible exact mH | with_reducible apply mT)); done))))
              all_goals first | (rw [Exit.noGoto_ret]) | skip
              have hR := H.arr (b := kX) (t := 24) (cs := #[.slice ao z co]) (by (repeat (first | with_reducible exact mH | with_reducible apply mT)))
              exact bodyPost_ret (results_cell_tmp Tryz.results12 _ _ kX #[.slice ao z co] _ _ rfl rfl hR Tryz.underlying24 rfl bk_info) rfl ⟨.slice ao z co, ro, rfl, Jo2.out, H.sub (by (repeat (first | with_reducible exact List.Sublist.refl _ | with_reducible refine List.Sublist.cons_cons _ ?_ | refine List.Sublist.cons _ ?_)))⟩
            · have e1 : d = 4 := by
                rw [← Hd.out]; unfold bCan
                rw [hp.out, hq.out, if_pos (by rfl), if_neg (by rw [Hz.out]; exact hz10)]
              have e2 : J = [] := by rw [← Hj.out]; unfold bJ; rw [if_neg (by rw [Hd.out, e1]; decide)]
              subst e1 e2
              have hc10 : decide ((10 : Int) < (z : Int)) = true := decide_eq_true (by omega)
              go_wp2_with (first | go_skip | ((with_reducible apply ld_bk); rfl; rfl; (focus (apply H.one; (repeat (first | with_reducible exact mH | with_reducible apply mT)); done))) | (with_reducible apply bd_bk0) | ((with_reducible apply st_bk H); rfl; rfl; rfl; (repeat (first | with_reducible apply Upd.head | with_reducible apply Upd.tail)); (first | rfl | assumption | (refine Hid.out ?_; assumption)); clear H; intro wn H) | ((with_reducible apply ld_one (ty := 22) Tryz.underlying22 rfl); rfl; rfl; (focus (apply H.one; (repeat (first | with_reducible exact mH | with_reducible apply mT)); done))))
              all_goals first | (rw [Exit.noGoto_ret]) | skip
              have hR := H.arr (b := kX) (t := 24) (cs := #[.slice none 0 0]) (by (repeat (first | with_reducible exact mH | with_reducible apply mT)))
              exact bodyPost_ret (results_cell_tmp Tryz.results12 _ _ kX #[.slice none 0 0] _ _ rfl rfl hR Tryz.underlying24 rfl bk_info) rfl ⟨.slice none 0 0, Res.none, rfl, fun W _ => Recs.nil W, H.addNone.sub (by (repeat (first | with_reducible exact List.Sublist.refl _ | with_reducible refine List.Sublist.cons_cons _ ?_ | refine List.Sublist.cons _ ?_)))⟩
  · have e1 : d = 1 := by
      rw [← hc]; unfold bCan
      rw [if_neg]
      rw [Bool.and_eq_true, hp.out, hq.out]; exact hpq
    have e2 : J = [] := by rw [← hj]; unfold bJ; rw [if_neg (by rw [hc, e1]; decide)]
    clear hc hj
    subst e1 e2
    have hcase : p = false ∨ (p = true ∧ q = false) := by cases p <;> cases q <;> simp at hpq ⊢
    clear hpq
    rcases hcase with rfl | ⟨rfl, rfl⟩
    all_goals
      go_enter Tryz.func12, Tryz.ntmps12
      go_wp2_with (first | go_skip | ((fail_if_success have := kA); (with_reducible apply arm_box H); rfl; clear H; intro wn kA H) | ((fail_if_success have := kB); (with_reducible apply arm_box H); rfl; clear H; intro wn kB H) | ((fail_if_success have := kX); (with_reducible apply al_bk H); clear H; intro wn kX H) | ((fail_if_success have := kO); (with_reducible apply al_bk H); clear H; intro wn kO H) | ((with_reducible apply ld_bk); rfl; rfl; (focus (apply H.one; (repeat (first | with_reducible exact mH | with_reducible apply mT)); done))) | (with_reducible apply bd_bk0) | ((with_reducible apply st_bk H); rfl; rfl; rfl; (repeat (first | with_reducible apply Upd.head | with_reducible apply Upd.tail)); (first | rfl | assumption | (refine Hid.out ?_; assumption)); clear H; intro wn H) | (go_at_call 15; first | ((with_reducible refine (rbmay_v hp.out _ (Ha.out.below H.bel)).mono ?_); rintro e wn ⟨rfl, hb⟩; replace H := H.call hb; clear hb) | ((with_reducible refine (rbmay_v hq.out _ (Hb.out.below H.bel)).mono ?_); rintro e wn ⟨rfl, hb⟩; replace H := H.call hb; clear hb)))
      all_goals first | (rw [Exit.noGoto_ret]) | skip
      have hR := H.arr (b := kX) (t := 24) (cs := #[.slice none 0 0]) (by (repeat (first | with_reducible exact mH | with_reducible apply mT)))
      exact bodyPost_ret (results_cell_tmp Tryz.results12 _ _ kX #[.slice none 0 0] _ _ rfl rfl hR Tryz.underlying24 rfl bk_info) rfl ⟨.slice none 0 0, Res.none, rfl, fun W _ => Recs.nil W, H.addNone.sub (by (repeat (first | with_reducible exact List.Sublist.refl _ | with_reducible refine List.Sublist.cons_cons _ ?_ | refine List.Sublist.cons _ ?_)))⟩
end Go.Proofs.YtolbmemogoojhaaGreat
