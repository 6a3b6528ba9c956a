/- Books together, of numbers. -/
import Derived.Test.YtolbmemogoojhaaGreatVN8
import Derived.Test.YtolbmemogoojhaaGreatVN7
namespace Go.Proofs.YtolbmemogoojhaaGreat
open Go Go.RowKit Go.Deep
set_option linter.unusedVariables false
set_option linter.unusedSimpArgs false
set_option maxRecDepth 100000
theorem encZ_get {l : List Int} {j : Nat} {i : Int} (h : l[j]? = some i) : (encZ l)[j]? = some (.int .i64 i) := by simp [encZ, h]
theorem auJ_step {LL : List BK} {J : BK} {of : List Int} {j : Nat} {i : Int} (h : of[j]? = some i) : auJ LL J (of.drop j) = if 0 ≤ i ∧ i < (LL.length : Int) then (if bCan J (bAt LL i) = 0 then auJ LL (bJ J (bAt LL i)) (of.drop (j + 1)) else (bCan J (bAt LL i), [])) else (6, []) := by
  rw [drop_at h, auJ]
theorem bAt_get {LL : List BK} {i : Nat} {L : BK} (h : LL[i]? = some L) : bAt LL (i : Int) = L := by
  unfold bAt
  rw [Int.toNat_natCast, List.getD_eq_getElem?_getD, h]; rfl
set_option maxHeartbeats 6400000 in
theorem ajoin_c {v zv : Value} {LL : List BK} {of : List Int} {dd : Int} {JJ : BK} (h : auJ LL [] of = (dd, JJ)) (w : World) (hv : Bks w v LL) (hz : Row w 1 zv of.length (encZ of)) : Calls Tryz.prog 31 #[v, zv] w (JoinP w dd JJ) := by
  obtain ⟨n, hn⟩ : ∃ n, LL.length = n := ⟨_, rfl⟩
  obtain ⟨a, c, rfl, hm1, _⟩ := id hv.slice
  rw [hn] at hv hm1 ⊢
  unfold maxLen at hm1
  obtain ⟨nz, hnz⟩ : ∃ n, of.length = n := ⟨_, rfl⟩
  rw [hnz] at hz
  obtain ⟨_, az, cz, rfl, hm2, hm3, _⟩ := id hz
  unfold maxLen at hm3
  have Hv := Lib.hid hv; have Hn := Lib.hid hn; have Hz := Lib.hid hz; have Hnz := Lib.hid hnz; have HA := Lib.hid h; clear hv hn hz hnz h
  have Hone0 : Hid (Value.oneCell' (.slice none 0 0) = true) := Lib.hid rfl
  have H := St.init w
  go_enter Tryz.func31, Tryz.ntmps31
  go_wp2_with (first | go_skip | ((fail_if_success have := kR); (with_reducible apply al_bk H); clear H; intro wn kR H) | ((fail_if_success have := kO); (with_reducible apply al_bk H); clear H; intro wn kO H) | ((with_reducible apply ld_bk); rfl; rfl; (focus (apply H.one; (repeat (first | with_reducible exact mH | with_reducible apply mT)); done))) | (with_reducible apply bd_bk0) | ((with_reducible apply st_bk H); rfl; rfl; rfl; (repeat (first | with_reducible apply Upd.head | with_reducible apply Upd.tail)); (first | rfl | assumption | (refine Hid.out ?_; assumption)); clear H; intro wn H))
  go_loopw [13] (fun i wr => ∃ (j : Nat) (J : BK) (vo : Value) (ro : Res), j ≤ nz ∧ i = .int .i64 j ∧ Hid (auJ LL J (of.drop j) = (dd, JJ)) ∧ Hid (∀ W, ro.holds W → Recs W vo J) ∧ Hid (vo.oneCell' = true) ∧ St w wr [ro, Res.blk kO 24 #[vo], Res.blk kR 24 #[.slice none 0 0]]) (fun i _ => nz - (intOf i).toNat)
  case atStart => exact ⟨0, [], .slice none 0 0, Res.none, by omega, rfl, HA, Lib.hid (fun W _ => Recs.nil W), Hone0, H.addNone⟩
  case round =>
    clear H
    obtain ⟨j, J, vo, ro, hj, rfl, I, Jo, To, H⟩ := hrel
    by_cases hlt : j < nz
    · obtain ⟨i, hi⟩ : ∃ i, of[j]? = some i := ⟨_, List.getElem?_eq_getElem (by rw [Hnz.out]; exact hlt)⟩
      obtain ⟨bz, offz, c', he, hS⟩ := row1_at Hz.out (encZ_get hi)
      injection he with e1 e2 e3
      subst e1 e3
      have HI := Lib.hid hS
      have hstep := auJ_step (LL := LL) (J := J) hi
      rw [I.out, Hn.out] at hstep
      clear hS hi e2
      by_cases h0 : i < 0
      · rw [if_neg (by omega)] at hstep
        cases hstep
        have hc0 : decide (i < 0) = true := decide_eq_true h0
        go_wp2_with (first | go_skip | ((with_reducible refine ld_one (ty := 3) Tryz.underlying3 rfl ?_ ?_ (HI.out.keep H.bel) ?_); rfl; rfl) | ((with_reducible apply ld_bk); rfl; rfl; (focus (apply H.one; (repeat (first | with_reducible exact mH | with_reducible apply mT)); done))) | (with_reducible apply bd_bk0) | ((with_reducible apply st_bk H); rfl; rfl; rfl; (repeat (first | with_reducible apply Upd.head | with_reducible apply Upd.tail)); (first | rfl | assumption | (refine Hid.out ?_; assumption)); clear H; intro wn H))
        all_goals first | (rw [Exit.noGoto_ret]) | skip
        have hR := H.arr (b := kR) (t := 24) (cs := #[.slice none 0 0]) (by (repeat (first | with_reducible exact mH | with_reducible apply mT)))
        exact bodyPost_ret (results_cell_tmp Tryz.results31 _ _ kR #[.slice none 0 0] _ _ rfl rfl hR Tryz.underlying24 rfl bk_info) rfl ⟨.slice none 0 0, Res.none, rfl, fun W _ => Recs.nil W, H.addNone.sub (by (repeat (first | with_reducible exact List.Sublist.refl _ | with_reducible refine List.Sublist.cons_cons _ ?_ | refine List.Sublist.cons _ ?_)))⟩
      · by_cases h1 : i < (n : Int)
        · obtain ⟨i, rfl⟩ : ∃ k : Nat, i = (k : Int) := ⟨i.toNat, by omega⟩
          rw [if_pos (by omega)] at hstep
          obtain ⟨L, hL⟩ : ∃ L, LL[i]? = some L := ⟨_, List.getElem?_eq_getElem (by rw [Hn.out]; omega)⟩
          obtain ⟨b, off, s, rfl, hs, hR⟩ := Hv.out.at hL
          have HS := Lib.hid hs; have HR := Lib.hid hR
          rw [bAt_get hL] at hstep
          obtain ⟨d, hd⟩ : ∃ d, bCan J L = d := ⟨_, rfl⟩
          obtain ⟨J2, hJ⟩ : ∃ x, bJ J L = x := ⟨_, rfl⟩
          rw [hd, hJ] at hstep
          have Hd := Lib.hid hd; have HJ := Lib.hid hJ
          have hin : i < n := by omega
          have hc0 : decide ((i : Int) < 0) = false := decide_eq_false (by omega)
          have hc2 : decide (n ≤ i) = false := decide_eq_false (by omega)
          clear hs hR hL hd hJ h0 h1
          by_cases hd0 : d = 0
          · subst hd0
            rw [if_pos rfl] at hstep
            have I2 := Lib.hid hstep.symm
            clear hstep
            go_wp2_with (first | go_skip | ((with_reducible refine ld_one (ty := 3) Tryz.underlying3 rfl ?_ ?_ (HI.out.keep H.bel) ?_); rfl; rfl) | ((with_reducible apply ld_bk); rfl; rfl; (focus (apply H.one; (repeat (first | with_reducible exact mH | with_reducible apply mT)); done))) | (with_reducible apply bd_bk0) | ((with_reducible apply st_bk H); rfl; rfl; rfl; (repeat (first | with_reducible apply Upd.head | with_reducible apply Upd.tail)); (first | rfl | assumption | (refine Hid.out ?_; assumption)); clear H; intro wn H))
            (try simp only [Act.put, List.setIfInBounds_toArray, List.set_cons_zero, List.set_cons_succ])
            refine wp_slotsMQ [⟨some 27, [], fun _ v => v = .agg #[vo]⟩, ⟨some 28, [], fun _ v => v = .slice (some ⟨b, off, none⟩) n c⟩, ⟨some 29, [], fun _ v => v = .int .i64 (i : Int)⟩, ⟨some 30, [(1, 28), (2, 29)], fun _ v => v = .pointer (some ⟨b, off + i, none⟩)⟩, ⟨some 31, [(3, 30)], fun _ v => v = .agg #[s]⟩, ⟨some 32, [(0, 27), (4, 31)], MadeS wr (fun s => .tuple #[.agg #[s], .int .i64 0]) J2⟩, ⟨some 26, [(5, 32)], MadeS wr (fun s => .tuple #[.agg #[s], .int .i64 0]) J2⟩, ⟨some 33, [(6, 26)], MadeS wr (fun s => .agg #[s]) J2⟩, ⟨some 34, [(6, 26)], fun _ v => v = .int .i64 0⟩, ⟨some 9, [], NewB wr⟩] [27, 28, 29, 30, 31, 32, 26, 33, 34, 9] (false :: false :: false :: false :: false :: false :: false :: false :: false :: true :: false :: false :: false :: false :: false :: false :: false :: false :: false :: false :: false :: false :: false :: false :: false :: false :: true :: true :: true :: true :: true :: true :: true :: true :: true :: []) [(some 27, []), (some 28, []), (some 29, []), (some 30, [(1, 28), (2, 29)]), (some 31, [(3, 30)]), (some 32, [(0, 27), (4, 31)]), (some 26, [(5, 32)]), (some 33, [(6, 26)]), (some 34, [(6, 26)]), (some 9, [])] 8 rfl (by kernel_rfl) (by kernel_rfl) (by rfl) (by rfl) ?_ (by rfl) (by rfl) ?_ ?_ ?_
            · exact stable_cons (fun _ _ _ _ h => h) (stable_cons (fun _ _ _ _ h => h) (stable_cons (fun _ _ _ _ h => h) (stable_cons (fun _ _ _ _ h => h) (stable_cons (fun _ _ _ _ h => h) (stable_cons MadeS.keep (stable_cons MadeS.keep (stable_cons MadeS.keep (stable_cons (fun _ _ _ _ h => h) (stable_cons NewB.keep (stable_nil))))))))))
            · refine hops_cons ?_ (hops_cons ?_ (hops_cons ?_ (hops_cons ?_ (hops_cons ?_ (hops_cons ?_ (hops_cons ?_ (hops_cons ?_ (hops_cons ?_ (hops_cons ?_ (trivial))))))))))
              · unfold HopM; intro u wn hb hk; have H0 := H; replace H := H.call hb
                simp only [fillM]
                go_wp2_with (first | go_skip | ((with_reducible apply ld_bk); rfl; rfl; (focus (apply H.one; (repeat (first | with_reducible exact mH | with_reducible apply mT)); done))) | ((with_reducible refine ld_bk ?_ ?_ (HS.out.keep H.bel) ?_); rfl; rfl))
                exact ⟨rfl, Below.refl _ _, .agg #[vo], rfl, rfl⟩
              · unfold HopM; intro u wn hb hk; have H0 := H; replace H := H.call hb
                simp only [fillM]
                go_wp2_with (first | go_skip | ((with_reducible apply ld_bk); rfl; rfl; (focus (apply H.one; (repeat (first | with_reducible exact mH | with_reducible apply mT)); done))) | ((with_reducible refine ld_bk ?_ ?_ (HS.out.keep H.bel) ?_); rfl; rfl))
                exact ⟨rfl, Below.refl _ _, .slice (some ⟨b, off, none⟩) n c, rfl, rfl⟩
              · unfold HopM; intro u wn hb hk; have H0 := H; replace H := H.call hb
                simp only [fillM]
                go_wp2_with (first | go_skip | ((with_reducible apply ld_bk); rfl; rfl; (focus (apply H.one; (repeat (first | with_reducible exact mH | with_reducible apply mT)); done))) | ((with_reducible refine ld_bk ?_ ?_ (HS.out.keep H.bel) ?_); rfl; rfl))
                exact ⟨rfl, Below.refl _ _, .int .i64 (i : Int), rfl, rfl⟩
              · unfold HopM; intro u wn hb hk; have H0 := H; replace H := H.call hb
                obtain ⟨hq1, hq2, -⟩ := hk
                replace hq1 := hq1 _ rfl; dsimp only at hq1
                replace hq2 := hq2 _ rfl; dsimp only at hq2
                simp only [fillM, hq1, hq2]
                clear hq1 hq2
                go_wp2_with (first | go_skip | ((with_reducible apply ld_bk); rfl; rfl; (focus (apply H.one; (repeat (first | with_reducible exact mH | with_reducible apply mT)); done))) | ((with_reducible refine ld_bk ?_ ?_ (HS.out.keep H.bel) ?_); rfl; rfl))
                exact ⟨rfl, Below.refl _ _, .pointer (some ⟨b, off + i, none⟩), rfl, rfl⟩
              · unfold HopM; intro u wn hb hk; have H0 := H; replace H := H.call hb
                obtain ⟨hq3, -⟩ := hk
                replace hq3 := hq3 _ rfl; dsimp only at hq3
                simp only [fillM, hq3]
                clear hq3
                go_wp2_with (first | go_skip | ((with_reducible apply ld_bk); rfl; rfl; (focus (apply H.one; (repeat (first | with_reducible exact mH | with_reducible apply mT)); done))) | ((with_reducible refine ld_bk ?_ ?_ (HS.out.keep H.bel) ?_); rfl; rfl))
                exact ⟨rfl, Below.refl _ _, .agg #[s], rfl, rfl⟩
              · unfold HopM; intro u wn hb hk; have H0 := H; replace H := H.call hb
                obtain ⟨hq0, hq4, -⟩ := hk
                replace hq0 := hq0 _ rfl; dsimp only at hq0
                replace hq4 := hq4 _ rfl; dsimp only at hq4
                simp only [fillM, hq0, hq4]
                clear hq0 hq4
                go_wp2_with (first | go_skip | (go_at_call 11; (with_reducible refine (bkjoin_c Hd.out HJ.out _ (Jo.out _ (H.get (r := ro) (by (repeat (first | with_reducible exact mH | with_reducible apply mT))))) (HR.out.below H.bel)).mono ?_); rintro e wm ⟨vj, rj, rfl, hrj, hs⟩))
                exact ⟨rfl, hs.bel, _, rfl, MadeS.of (f := fun s => .tuple #[.agg #[s], .int .i64 0]) hrj hs hb.size⟩
              · unfold HopM; intro u wn hb hk; have H0 := H; replace H := H.call hb
                obtain ⟨hq5, -⟩ := hk
                replace hq5 := hq5 _ rfl; dsimp only at hq5; obtain ⟨sj, lj, hq5, g0, g1, g2⟩ := hq5; dsimp only at hq5
                simp only [fillM, hq5]
                clear hq5
                go_wp2_with (first | go_skip)
                exact ⟨rfl, Below.refl _ _, _, rfl, sj, lj, rfl, g0, g1, g2⟩
              · unfold HopM; intro u wn hb hk; have H0 := H; replace H := H.call hb
                obtain ⟨hq6, -⟩ := hk
                replace hq6 := hq6 _ rfl; dsimp only at hq6; obtain ⟨sj, lj, hq6, g0, g1, g2⟩ := hq6; dsimp only at hq6
                simp only [fillM, hq6]
                clear hq6
                go_wp2_with (first | go_skip)
                exact ⟨rfl, Below.refl _ _, _, rfl, sj, lj, rfl, g0, g1, g2⟩
              · unfold HopM; intro u wn hb hk; have H0 := H; replace H := H.call hb
                obtain ⟨hq6, -⟩ := hk
                replace hq6 := hq6 _ rfl; dsimp only at hq6; obtain ⟨sj, lj, hq6, g0, g1, g2⟩ := hq6; dsimp only at hq6
                simp only [fillM, hq6]
                clear hq6
                go_wp2_with (first | go_skip | ((with_reducible apply ld_bk); rfl; rfl; (focus (apply H.one; (repeat (first | with_reducible exact mH | with_reducible apply mT)); done))) | ((with_reducible refine ld_bk ?_ ?_ (HS.out.keep H.bel) ?_); rfl; rfl))
                exact ⟨rfl, Below.refl _ _, .int .i64 0, rfl, rfl⟩
              · unfold HopM; intro u wn hb hk; have H0 := H; replace H := H.call hb
                simp only [fillM]
                go_wp2_with (first | go_skip | ((with_reducible apply al_bk (St.init _)); intro wm kJ HM))
                exact ⟨rfl, HM.bel, _, rfl, kJ, rfl, HM.get mH, Nat.le_trans hb.size (HM.base _ mH kJ rfl)⟩
            · intro u wn hb hk
              obtain ⟨hq6, -⟩ := hk
              replace hq6 := hq6 _ rfl; dsimp only at hq6; obtain ⟨sj, lj, hq6, g0, g1, g2⟩ := hq6; dsimp only at hq6
              simp only [fillM, hq6]
              exact ⟨.int .i64 0, .inl ⟨rfl, fun W => rfl⟩, rfl⟩
            intro u wn hb hk; have H0 := H; replace H := H.call hb
            obtain ⟨hq0, hq1, hq2, hq3, hq4, hq5, hq6, hq7, hq8, hq9, -⟩ := hk
            replace hq0 := hq0 _ rfl; dsimp only at hq0
            replace hq1 := hq1 _ rfl; dsimp only at hq1
            replace hq2 := hq2 _ rfl; dsimp only at hq2
            replace hq3 := hq3 _ rfl; dsimp only at hq3
            replace hq4 := hq4 _ rfl; dsimp only at hq4
            replace hq5 := hq5 _ rfl; dsimp only at hq5; obtain ⟨sj, lj, hq5, g0, g1, g2⟩ := hq5; dsimp only at hq5
            replace hq6 := hq6 _ rfl; dsimp only at hq6; obtain ⟨sj, lj, hq6, g0, g1, g2⟩ := hq6; dsimp only at hq6
            replace hq7 := hq7 _ rfl; dsimp only at hq7; obtain ⟨sj, lj, hq7, g0, g1, g2⟩ := hq7; dsimp only at hq7
            replace hq8 := hq8 _ rfl; dsimp only at hq8
            replace hq9 := hq9 _ rfl; dsimp only at hq9; obtain ⟨kJ, hq9, hK, hB⟩ := hq9; replace H := H0.both hb g1 g2 hK hB; have HJ2 := Lib.hid (fun W h => by have := rs_reads sj lj W h; rwa [g0] at this); have T1 : Hid (sj.oneCell' = true) := Lib.hid (HJ2.out _ g1).one; clear g0 g1 g2 hK hB
            simp only [fillM, List.length_cons, List.length_nil, Nat.reduceAdd, List.drop_succ_cons, List.drop_zero, hq0, hq1, hq2, hq3, hq4, hq5, hq6, hq7, hq8, hq9]
            clear hb H0 hq0 hq1 hq2 hq3 hq4 hq5 hq6 hq7 hq8 hq9
            go_wp2_with (first | go_skip | ((with_reducible apply ld_bk); rfl; rfl; (focus (apply H.one; (repeat (first | with_reducible exact mH | with_reducible apply mT)); done))) | (with_reducible apply bd_bk0) | ((with_reducible apply st_bk H); rfl; rfl; rfl; (repeat (first | with_reducible apply Upd.head | with_reducible apply Upd.tail)); (first | rfl | assumption | (refine Hid.out ?_; assumption)); clear H; intro wn H))
            go_roundw
            case rel => exact ⟨j + 1, J2, sj, Res.rs sj lj, by omega, by go_num, I2, HJ2, T1, H.sub (by (repeat (first | with_reducible exact List.Sublist.refl _ | with_reducible refine List.Sublist.cons_cons _ ?_ | refine List.Sublist.cons _ ?_)))⟩
            case measure => simp [intOf]; omega
          · rw [if_neg hd0] at hstep
            have e1 : d = dd := (congrArg Prod.fst hstep).symm
            have e2 : JJ = [] := congrArg Prod.snd hstep
            clear hstep
            subst e1 e2
            go_wp2_with (first | go_skip | ((with_reducible refine ld_one (ty := 3) Tryz.underlying3 rfl ?_ ?_ (HI.out.keep H.bel) ?_); rfl; rfl) | ((with_reducible apply ld_bk); rfl; rfl; (focus (apply H.one; (repeat (first | with_reducible exact mH | with_reducible apply mT)); done))) | (with_reducible apply bd_bk0) | ((with_reducible apply st_bk H); rfl; rfl; rfl; (repeat (first | with_reducible apply Upd.head | with_reducible apply Upd.tail)); (first | rfl | assumption | (refine Hid.out ?_; assumption)); clear H; intro wn H))
            (try simp only [Act.put, List.setIfInBounds_toArray, List.set_cons_zero, List.set_cons_succ])
            refine wp_slotsMQ [⟨some 27, [], fun _ v => v = .agg #[vo]⟩, ⟨some 28, [], fun _ v => v = .slice (some ⟨b, off, none⟩) n c⟩, ⟨some 29, [], fun _ v => v = .int .i64 (i : Int)⟩, ⟨some 30, [(1, 28), (2, 29)], fun _ v => v = .pointer (some ⟨b, off + i, none⟩)⟩, ⟨some 31, [(3, 30)], fun _ v => v = .agg #[s]⟩, ⟨some 32, [(0, 27), (4, 31)], MadeS wr (fun s => .tuple #[.agg #[s], .int .i64 d]) J2⟩, ⟨some 26, [(5, 32)], MadeS wr (fun s => .tuple #[.agg #[s], .int .i64 d]) J2⟩, ⟨some 33, [(6, 26)], MadeS wr (fun s => .agg #[s]) J2⟩, ⟨some 34, [(6, 26)], fun _ v => v = .int .i64 d⟩, ⟨some 9, [], NewB wr⟩] [27, 28, 29, 30, 31, 32, 26, 33, 34, 9] (false :: false :: false :: false :: false :: false :: false :: false :: false :: true :: false :: false :: false :: false :: false :: false :: false :: false :: false :: false :: false :: false :: false :: false :: false :: false :: true :: true :: true :: true :: true :: true :: true :: true :: true :: []) [(some 27, []), (some 28, []), (some 29, []), (some 30, [(1, 28), (2, 29)]), (some 31, [(3, 30)]), (some 32, [(0, 27), (4, 31)]), (some 26, [(5, 32)]), (some 33, [(6, 26)]), (some 34, [(6, 26)]), (some 9, [])] 8 rfl (by kernel_rfl) (by kernel_rfl) (by rfl) (by rfl) ?_ (by rfl) (by rfl) ?_ ?_ ?_
            · exact stable_cons (fun _ _ _ _ h => h) (stable_cons (fun _ _ _ _ h => h) (stable_cons (fun _ _ _ _ h => h) (stable_cons (fun _ _ _ _ h => h) (stable_cons (fun _ _ _ _ h => h) (stable_cons MadeS.keep (stable_cons MadeS.keep (stable_cons MadeS.keep (stable_cons (fun _ _ _ _ h => h) (stable_cons NewB.keep (stable_nil))))))))))
            · refine hops_cons ?_ (hops_cons ?_ (hops_cons ?_ (hops_cons ?_ (hops_cons ?_ (hops_cons ?_ (hops_cons ?_ (hops_cons ?_ (hops_cons ?_ (hops_cons ?_ (trivial))))))))))
              · unfold HopM; intro u wn hb hk; have H0 := H; replace H := H.call hb
                simp only [fillM]
                go_wp2_with (first | go_skip | ((with_reducible apply ld_bk); rfl; rfl; (focus (apply H.one; (repeat (first | with_reducible exact mH | with_reducible apply mT)); done))) | ((with_reducible refine ld_bk ?_ ?_ (HS.out.keep H.bel) ?_); rfl; rfl))
                exact ⟨rfl, Below.refl _ _, .agg #[vo], rfl, rfl⟩
              · unfold HopM; intro u wn hb hk; have H0 := H; replace H := H.call hb
                simp only [fillM]
                go_wp2_with (first | go_skip | ((with_reducible apply ld_bk); rfl; rfl; (focus (apply H.one; (repeat (first | with_reducible exact mH | with_reducible apply mT)); done))) | ((with_reducible refine ld_bk ?_ ?_ (HS.out.keep H.bel) ?_); rfl; rfl))
                exact ⟨rfl, Below.refl _ _, .slice (some ⟨b, off, none⟩) n c, rfl, rfl⟩
              · unfold HopM; intro u wn hb hk; have H0 := H; replace H := H.call hb
                simp only [fillM]
                go_wp2_with (first | go_skip | ((with_reducible apply ld_bk); rfl; rfl; (focus (apply H.one; (repeat (first | with_reducible exact mH | with_reducible apply mT)); done))) | ((with_reducible refine ld_bk ?_ ?_ (HS.out.keep H.bel) ?_); rfl; rfl))
                exact ⟨rfl, Below.refl _ _, .int .i64 (i : Int), rfl, rfl⟩
              · unfold HopM; intro u wn hb hk; have H0 := H; replace H := H.call hb
                obtain ⟨hq1, hq2, -⟩ := hk
                replace hq1 := hq1 _ rfl; dsimp only at hq1
                replace hq2 := hq2 _ rfl; dsimp only at hq2
                simp only [fillM, hq1, hq2]
                clear hq1 hq2
                go_wp2_with (first | go_skip | ((with_reducible apply ld_bk); rfl; rfl; (focus (apply H.one; (repeat (first | with_reducible exact mH | with_reducible apply mT)); done))) | ((with_reducible refine ld_bk ?_ ?_ (HS.out.keep H.bel) ?_); rfl; rfl))
                exact ⟨rfl, Below.refl _ _, .pointer (some ⟨b, off + i, none⟩), rfl, rfl⟩
              · unfold HopM; intro u wn hb hk; have H0 := H; replace H := H.call hb
                obtain ⟨hq3, -⟩ := hk
                replace hq3 := hq3 _ rfl; dsimp only at hq3
                simp only [fillM, hq3]
                clear hq3
                go_wp2_with (first | go_skip | ((with_reducible apply ld_bk); rfl; rfl; (focus (apply H.one; (repeat (first | with_reducible exact mH | with_reducible apply mT)); done))) | ((with_reducible refine ld_bk ?_ ?_ (HS.out.keep H.bel) ?_); rfl; rfl))
                exact ⟨rfl, Below.refl _ _, .agg #[s], rfl, rfl⟩
              · unfold HopM; intro u wn hb hk; have H0 := H; replace H := H.call hb
                obtain ⟨hq0, hq4, -⟩ := hk
                replace hq0 := hq0 _ rfl; dsimp only at hq0
                replace hq4 := hq4 _ rfl; dsimp only at hq4
                simp only [fillM, hq0, hq4]
                clear hq0 hq4
                go_wp2_with (first | go_skip | (go_at_call 11; (with_reducible refine (bkjoin_c Hd.out HJ.out _ (Jo.out _ (H.get (r := ro) (by (repeat (first | with_reducible exact mH | with_reducible apply mT))))) (HR.out.below H.bel)).mono ?_); rintro e wm ⟨vj, rj, rfl, hrj, hs⟩))
                exact ⟨rfl, hs.bel, _, rfl, MadeS.of (f := fun s => .tuple #[.agg #[s], .int .i64 d]) hrj hs hb.size⟩
              · unfold HopM; intro u wn hb hk; have H0 := H; replace H := H.call hb
                obtain ⟨hq5, -⟩ := hk
                replace hq5 := hq5 _ rfl; dsimp only at hq5; obtain ⟨sj, lj, hq5, g0, g1, g2⟩ := hq5; dsimp only at hq5
                simp only [fillM, hq5]
                clear hq5
                go_wp2_with (first | go_skip)
                exact ⟨rfl, Below.refl _ _, _, rfl, sj, lj, rfl, g0, g1, g2⟩
              · unfold HopM; intro u wn hb hk; have H0 := H; replace H := H.call hb
                obtain ⟨hq6, -⟩ := hk
                replace hq6 := hq6 _ rfl; dsimp only at hq6; obtain ⟨sj, lj, hq6, g0, g1, g2⟩ := hq6; dsimp only at hq6
                simp only [fillM, hq6]
                clear hq6
                go_wp2_with (first | go_skip)
                exact ⟨rfl, Below.refl _ _, _, rfl, sj, lj, rfl, g0, g1, g2⟩
              · unfold HopM; intro u wn hb hk; have H0 := H; replace H := H.call hb
                obtain ⟨hq6, -⟩ := hk
                replace hq6 := hq6 _ rfl; dsimp only at hq6; obtain ⟨sj, lj, hq6, g0, g1, g2⟩ := hq6; dsimp only at hq6
                simp only [fillM, hq6]
                clear hq6
                go_wp2_with (first | go_skip | ((with_reducible apply ld_bk); rfl; rfl; (focus (apply H.one; (repeat (first | with_reducible exact mH | with_reducible apply mT)); done))) | ((with_reducible refine ld_bk ?_ ?_ (HS.out.keep H.bel) ?_); rfl; rfl))
                exact ⟨rfl, Below.refl _ _, .int .i64 d, rfl, rfl⟩
              · unfold HopM; intro u wn hb hk; have H0 := H; replace H := H.call hb
                simp only [fillM]
                go_wp2_with (first | go_skip | ((with_reducible apply al_bk (St.init _)); intro wm kJ HM))
                exact ⟨rfl, HM.bel, _, rfl, kJ, rfl, HM.get mH, Nat.le_trans hb.size (HM.base _ mH kJ rfl)⟩
            · intro u wn hb hk
              obtain ⟨hq6, -⟩ := hk
              replace hq6 := hq6 _ rfl; dsimp only at hq6; obtain ⟨sj, lj, hq6, g0, g1, g2⟩ := hq6; dsimp only at hq6
              simp only [fillM, hq6]
              exact ⟨.int .i64 d, .inl ⟨rfl, fun W => rfl⟩, rfl⟩
            intro u wn hb hk; have H0 := H; replace H := H.call hb
            obtain ⟨hq0, hq1, hq2, hq3, hq4, hq5, hq6, hq7, hq8, hq9, -⟩ := hk
            replace hq0 := hq0 _ rfl; dsimp only at hq0
            replace hq1 := hq1 _ rfl; dsimp only at hq1
            replace hq2 := hq2 _ rfl; dsimp only at hq2
            replace hq3 := hq3 _ rfl; dsimp only at hq3
            replace hq4 := hq4 _ rfl; dsimp only at hq4
            replace hq5 := hq5 _ rfl; dsimp only at hq5; obtain ⟨sj, lj, hq5, g0, g1, g2⟩ := hq5; dsimp only at hq5
            replace hq6 := hq6 _ rfl; dsimp only at hq6; obtain ⟨sj, lj, hq6, g0, g1, g2⟩ := hq6; dsimp only at hq6
            replace hq7 := hq7 _ rfl; dsimp only at hq7; obtain ⟨sj, lj, hq7, g0, g1, g2⟩ := hq7; dsimp only at hq7
            replace hq8 := hq8 _ rfl; dsimp only at hq8
            replace hq9 := hq9 _ rfl; dsimp only at hq9; obtain ⟨kJ, hq9, hK, hB⟩ := hq9; replace H := H0.both hb g1 g2 hK hB; have HJ2 := Lib.hid (fun W h => by have := rs_reads sj lj W h; rwa [g0] at this); have T1 : Hid (sj.oneCell' = true) := Lib.hid (HJ2.out _ g1).one; clear g0 g1 g2 hK hB
            simp only [fillM, List.length_cons, List.length_nil, Nat.reduceAdd, List.drop_succ_cons, List.drop_zero, hq0, hq1, hq2, hq3, hq4, hq5, hq6, hq7, hq8, hq9]
            clear hb H0 hq0 hq1 hq2 hq3 hq4 hq5 hq6 hq7 hq8 hq9
            go_wp2_with (first | go_skip | ((with_reducible apply ld_bk); rfl; rfl; (focus (apply H.one; (repeat (first | with_reducible exact mH | with_reducible apply mT)); done))) | (with_reducible apply bd_bk0) | ((with_reducible apply st_bk H); rfl; rfl; rfl; (repeat (first | with_reducible apply Upd.head | with_reducible apply Upd.tail)); (first | rfl | assumption | (refine Hid.out ?_; assumption)); clear H; intro wn H))
            all_goals first | (rw [Exit.noGoto_ret]) | skip
            have hR := H.arr (b := kR) (t := 24) (cs := #[.slice none 0 0]) (by (repeat (first | with_reducible exact mH | with_reducible apply mT)))
            exact bodyPost_ret (results_cell_tmp Tryz.results31 _ _ kR #[.slice none 0 0] _ _ rfl rfl hR Tryz.underlying24 rfl bk_info) rfl ⟨.slice none 0 0, Res.none, rfl, fun W _ => Recs.nil W, H.addNone.sub (by (repeat (first | with_reducible exact List.Sublist.refl _ | with_reducible refine List.Sublist.cons_cons _ ?_ | refine List.Sublist.cons _ ?_)))⟩
        · rw [if_neg (by omega)] at hstep
          have hc1 : decide ((n : Int) ≤ i) = true := decide_eq_true (by omega)
          have hc0 : decide (i < 0) = false := decide_eq_false (by omega)
          cases hstep
          go_wp2_with (first | go_skip | ((with_reducible refine ld_one (ty := 3) Tryz.underlying3 rfl ?_ ?_ (HI.out.keep H.bel) ?_); rfl; rfl) | ((with_reducible apply ld_bk); rfl; rfl; (focus (apply H.one; (repeat (first | with_reducible exact mH | with_reducible apply mT)); done))) | (with_reducible apply bd_bk0) | ((with_reducible apply st_bk H); rfl; rfl; rfl; (repeat (first | with_reducible apply Upd.head | with_reducible apply Upd.tail)); (first | rfl | assumption | (refine Hid.out ?_; assumption)); clear H; intro wn H))
          all_goals first | (rw [Exit.noGoto_ret]) | skip
          have hR := H.arr (b := kR) (t := 24) (cs := #[.slice none 0 0]) (by (repeat (first | with_reducible exact mH | with_reducible apply mT)))
          exact bodyPost_ret (results_cell_tmp Tryz.results31 _ _ kR #[.slice none 0 0] _ _ rfl rfl hR Tryz.underlying24 rfl bk_info) rfl ⟨.slice none 0 0, Res.none, rfl, fun W _ => Recs.nil W, H.addNone.sub (by (repeat (first | with_reducible exact List.Sublist.refl _ | with_reducible refine List.Sublist.cons_cons _ ?_ | refine List.Sublist.cons _ ?_)))⟩
    · have hjn : j = nz := by omega
      subst hjn
      have hI := I.out
      rw [← Hnz.out, List.drop_length, auJ] at hI
      cases hI
      go_wp2_with (first | go_skip | ((fail_if_success have := kR); (with_reducible apply al_bk H); clear H; intro wn kR H) | ((fail_if_success have := kO); (with_reducible apply al_bk H); clear H; intro wn kO H) | ((with_reducible apply ld_bk); rfl; rfl; (focus (apply H.one; (repeat (first | with_reducible exact mH | with_reducible apply mT)); done))) | (with_reducible apply bd_bk0) | ((with_reducible apply st_bk H); rfl; rfl; rfl; (repeat (first | with_reducible apply Upd.head | with_reducible apply Upd.tail)); (first | rfl | assumption | (refine Hid.out ?_; assumption)); clear H; intro wn H))
      all_goals first | (rw [Exit.noGoto_ret]) | skip
      have hR := H.arr (b := kR) (t := 24) (cs := #[vo]) (by (repeat (first | with_reducible exact mH | with_reducible apply mT)))
      exact bodyPost_ret (results_cell_tmp Tryz.results31 _ _ kR #[vo] _ _ rfl rfl hR Tryz.underlying24 rfl bk_info) rfl ⟨vo, ro, rfl, Jo.out, H.sub (by (repeat (first | with_reducible exact List.Sublist.refl _ | with_reducible refine List.Sublist.cons_cons _ ?_ | refine List.Sublist.cons _ ?_)))⟩
end Go.Proofs.YtolbmemogoojhaaGreat
/- At most 8 books; at most 40 texts. -/
namespace Go.Proofs.YtolbmemogoojhaaGreat
open Go Go.RowKit Go.Deep
set_option linter.unusedVariables false
set_option linter.unusedSimpArgs false
set_option maxRecDepth 100000
def bksFewL : List BK → Bool
  | [] => true
  | L :: l => bFew L && bksFewL l
def bksFew (LL : List BK) : Bool := decide (LL.length ≤ 8) && bksFewL LL
def txFewL : List ByteArray → Bool
  | [] => true
  | s :: l => decide (s.size ≤ 300) && txFewL l
def txFew (l : List ByteArray) : Bool := decide (l.length ≤ 40) && txFewL l
theorem bFew_vals {L : BK} (h : bFew L = true) : (valsB L).length ≤ 168 := by
  unfold bFew at h
  rw [Bool.and_eq_true, decide_eq_true_eq] at h
  have key : ∀ l : BK, bFewL l = true → (l.flatMap valsR).length ≤ 12 * l.length := by
    intro l
    induction l with
    | nil => intro _; simp
    | cons r l ih =>
      intro hl
      rw [bFewL, Bool.and_eq_true] at hl
      have h1 := hl.1
      unfold rFew at h1
      rw [Bool.and_eq_true, decide_eq_true_eq] at h1
      have h2 := ih hl.2
      have h3 : (valsR r).length = r.f.length := by unfold valsR; simp
      rw [List.flatMap_cons, List.length_append, List.length_cons, h3]; omega
  have := key L h.2
  unfold valsB; omega
theorem bksFew_vals {LL : List BK} (h : bksFew LL = true) : (LL.flatMap valsB).length ≤ 90000 := by
  unfold bksFew at h
  rw [Bool.and_eq_true, decide_eq_true_eq] at h
  have key : ∀ l : List BK, bksFewL l = true → (l.flatMap valsB).length ≤ 168 * l.length := by
    intro l
    induction l with
    | nil => intro _; simp
    | cons r l ih =>
      intro hl
      rw [bksFewL, Bool.and_eq_true] at hl
      have h1 := bFew_vals hl.1
      have h2 := ih hl.2
      rw [List.flatMap_cons, List.length_append, List.length_cons]; omega
  have := key LL h.2
  omega
theorem txFew_most {l : List ByteArray} (h : txFew l = true) : mostL l ≤ 12000 := by
  unfold txFew at h
  rw [Bool.and_eq_true, decide_eq_true_eq] at h
  have key : ∀ l : List ByteArray, txFewL l = true → mostL l ≤ 300 * l.length := by
    intro l
    induction l with
    | nil => intro _; simp [mostL]
    | cons s l ih =>
      intro hl
      rw [txFewL, Bool.and_eq_true, decide_eq_true_eq] at hl
      have h2 := ih hl.2
      rw [mostL, List.length_cons]; omega
  have := key l h.2
  omega
theorem txFew_size : ∀ {l : List ByteArray}, txFewL l = true → ∀ s ∈ l, s.size ≤ 300
  | s :: l, h, x, hx => by
    rw [txFewL, Bool.and_eq_true, decide_eq_true_eq] at h
    rcases List.mem_cons.1 hx with rfl | hx
    · exact h.1
    · exact txFew_size h.2 x hx
set_option maxHeartbeats 1600000 in
theorem books_c (v : Value) (LL : List BK) (w : World) (hv : Bks w v LL) : Calls Tryz.prog 27 #[v] w fun e w' => e = .returned (.bool (bksFew LL)) ∧ Below w.heap.size w w' := by
  obtain ⟨n, hn⟩ : ∃ n, LL.length = n := ⟨_, rfl⟩
  obtain ⟨a, c, rfl, hm1, _⟩ := id hv.slice
  rw [hn] at hv hm1 ⊢
  unfold maxLen at hm1
  have Hv := Lib.hid hv; have Hn := Lib.hid hn; clear hv hn
  have H := St.init w
  by_cases h8 : 8 < n
  · have Hres : Hid (bksFew LL = false) := Lib.hid (by unfold bksFew; rw [Hn.out, decide_eq_false (by omega)]; rfl)
    go_enter Tryz.func27, Tryz.ntmps27
    go_wp2
    all_goals first | (rw [Exit.noGoto_ret]; go_ret) | go_ret
    all_goals exact ⟨by rw [Hres.out]; rfl, H.bel⟩
  go_enter Tryz.func27, Tryz.ntmps27
  go_wp2
  go_loopw [3] (fun i wr => ∃ (j : Nat), j ≤ n ∧ i = .int .i64 j ∧ Hid (bksFewL LL = bksFewL (LL.drop j)) ∧ St w wr []) (fun i _ => n - (intOf i).toNat)
  case atStart => exact ⟨0, by omega, rfl, Lib.hid rfl, H⟩
  case round =>
    clear H
    obtain ⟨j, hj, rfl, I, H⟩ := hrel
    by_cases hlt : j < n
    · obtain ⟨L, hL⟩ : ∃ L, LL[j]? = some L := ⟨_, List.getElem?_eq_getElem (by rw [Hn.out]; exact hlt)⟩
      obtain ⟨b, off, s, rfl, hs, hR⟩ := Hv.out.at hL
      have HS := Lib.hid hs; have HR := Lib.hid hR
      have Hst := Lib.hid (drop_at hL)
      obtain ⟨q, hq⟩ : ∃ q, Hid (bFew L = q) := ⟨_, rfl⟩
      clear hs hR hL
      cases q with
      | true =>
        go_wp2_with (first | go_skip | ((with_reducible refine ld_bk ?_ ?_ (HS.out.keep H.bel) ?_); rfl; rfl) | (go_at_call 8; (with_reducible refine (few7_v hq.out _ (HR.out.below H.bel)).mono ?_); rintro e wn ⟨rfl, hb⟩; replace H := H.call hb; clear hb))
        go_roundw
        case rel => exact ⟨j + 1, by omega, by go_num, Lib.hid (by rw [I.out, Hst.out, bksFewL, hq.out]; rfl), H⟩
        case measure => simp [intOf]; omega
      | false =>
        have Hres : Hid (bksFew LL = false) := Lib.hid (by unfold bksFew; rw [I.out, Hst.out, bksFewL, hq.out]; simp)
        go_wp2_with (first | go_skip | ((with_reducible refine ld_bk ?_ ?_ (HS.out.keep H.bel) ?_); rfl; rfl) | (go_at_call 8; (with_reducible refine (few7_v hq.out _ (HR.out.below H.bel)).mono ?_); rintro e wn ⟨rfl, hb⟩; replace H := H.call hb; clear hb))
        all_goals first | (rw [Exit.noGoto_ret]; go_ret) | go_ret
        all_goals exact ⟨by rw [Hres.out]; rfl, H.bel⟩
    · have hjn : j = n := by omega
      subst hjn
      have Hres : Hid (bksFew LL = true) := Lib.hid (by unfold bksFew; rw [I.out, ← Hn.out, List.drop_length, Hn.out, decide_eq_true (by omega)]; rfl)
      go_wp2
      all_goals first | (rw [Exit.noGoto_ret]; go_ret) | go_ret
      all_goals exact ⟨by rw [Hres.out]; rfl, H.bel⟩
theorem books_v {v : Value} {LL : List BK} {q : Bool} (h : bksFew LL = q) (w : World) (hv : Bks w v LL) : Calls Tryz.prog 27 #[v] w fun e w' => e = .returned (.bool q) ∧ Below w.heap.size w w' := by subst h; exact books_c v LL w hv
set_option maxHeartbeats 1600000 in
theorem texts_c (v : Value) (LL : List ByteArray) (w : World) (hv : Row w 1 v LL.length (strL LL)) : Calls Tryz.prog 28 #[v] w fun e w' => e = .returned (.bool (txFew LL)) ∧ Below w.heap.size w w' := by
  obtain ⟨n, hn⟩ : ∃ n, LL.length = n := ⟨_, rfl⟩
  rw [hn] at hv
  obtain ⟨_, a, c, rfl, hm1, hm2, _⟩ := id hv
  unfold maxLen at hm2
  have Hv := Lib.hid hv; have Hn := Lib.hid hn; clear hv hn
  have H := St.init w
  by_cases h8 : 40 < n
  · have Hres : Hid (txFew LL = false) := Lib.hid (by unfold txFew; rw [Hn.out, decide_eq_false (by omega)]; rfl)
    go_enter Tryz.func28, Tryz.ntmps28
    go_wp2
    all_goals first | (rw [Exit.noGoto_ret]; go_ret) | go_ret
    all_goals exact ⟨by rw [Hres.out]; rfl, H.bel⟩
  go_enter Tryz.func28, Tryz.ntmps28
  go_wp2
  go_loopw [3] (fun i wr => ∃ (j : Nat), j ≤ n ∧ i = .int .i64 j ∧ Hid (txFewL LL = txFewL (LL.drop j)) ∧ St w wr []) (fun i _ => n - (intOf i).toNat)
  case atStart => exact ⟨0, by omega, rfl, Lib.hid rfl, H⟩
  case round =>
    clear H
    obtain ⟨j, hj, rfl, I, H⟩ := hrel
    by_cases hlt : j < n
    · obtain ⟨s, hs⟩ : ∃ s, LL[j]? = some s := ⟨_, List.getElem?_eq_getElem (by rw [Hn.out]; exact hlt)⟩
      obtain ⟨b, off, c', he, hS⟩ := row1_at Hv.out (strL_get hs)
      injection he with e1 e2 e3
      subst e1 e3
      have HS := Lib.hid hS
      have Hst := Lib.hid (drop_at hs)
      obtain ⟨z, hz⟩ : ∃ z, s.size = z := ⟨_, rfl⟩
      have Hz := Lib.hid hz
      clear hs hS e2
      by_cases h3 : z ≤ 300
      · have hc : decide ((300 : Int) < (z : Int)) = false := decide_eq_false (by omega)
        go_wp2_with (first | go_skip | ((with_reducible refine ld_one (ty := 9) Tryz.underlying9 rfl ?_ ?_ (HS.out.keep H.bel) ?_); rfl; rfl))
        go_roundw
        case rel => exact ⟨j + 1, by omega, by go_num, Lib.hid (by rw [I.out, Hst.out, txFewL, Hz.out, decide_eq_true h3]; rfl), H⟩
        case measure => simp [intOf]; omega
      · have hc : decide ((300 : Int) < (z : Int)) = true := decide_eq_true (by omega)
        have Hres : Hid (txFew LL = false) := Lib.hid (by unfold txFew; rw [I.out, Hst.out, txFewL, Hz.out, decide_eq_false h3]; simp)
        go_wp2_with (first | go_skip | ((with_reducible refine ld_one (ty := 9) Tryz.underlying9 rfl ?_ ?_ (HS.out.keep H.bel) ?_); rfl; rfl))
        all_goals first | (rw [Exit.noGoto_ret]; go_ret) | go_ret
        all_goals exact ⟨by rw [Hres.out]; rfl, H.bel⟩
    · have hjn : j = n := by omega
      subst hjn
      have Hres : Hid (txFew LL = true) := Lib.hid (by unfold txFew; rw [I.out, ← Hn.out, List.drop_length, Hn.out, decide_eq_true (by omega)]; rfl)
      go_wp2
      all_goals first | (rw [Exit.noGoto_ret]; go_ret) | go_ret
      all_goals exact ⟨by rw [Hres.out]; rfl, H.bel⟩
theorem texts_v {v : Value} {LL : List ByteArray} {q : Bool} (h : txFew LL = q) (w : World) (hv : Row w 1 v LL.length (strL LL)) : Calls Tryz.prog 28 #[v] w fun e w' => e = .returned (.bool q) ∧ Below w.heap.size w w' := by subst h; exact texts_c v LL w hv
end Go.Proofs.YtolbmemogoojhaaGreat
/- What is looked through: the chapter's example. -/
namespace Go.Proofs.YtolbmemogoojhaaGreat
open Go Go.RowKit Go.Deep
set_option linter.unusedVariables false
set_option linter.unusedSimpArgs false
set_option maxRecDepth 100000
section
variable {P : Program} {ops : Array Oper} {rest : List Oper} {a : Act} {w0 w : World} {Q : Exit → Act → World → Prop} {Γ : List Res} {dst : Option Tmp} {typ : TypeId} {x y : Operand} {pos : String} {af : Array Edge} {s1 s2 : Value} {n1 n2 : Int}
/-- A slice of two elements that is written out. -/
theorem arm_bsl2 (H : St w0 w Γ) {t e : TypeId} {v1 v2 u1 u2 z : Value} {bytes : Nat} (hx : a.eval x = v1) (hy : a.eval y = v2) (h1 : v1.cells = #[u1]) (h2 : v2.cells = #[u2]) (hu : P.underlying t = some (.slice e)) (hinfo : (P.info? e).map (fun i => (i.zero, i.size, i.bytes)) = some (some z, 1, bytes)) (hzs : z.cells.size = 1)
    (h : ∀ w' b, St w0 w' (Res.row e 1 (.slice (some ⟨b, 0, none⟩) 2 2) 2 [u1, u2] :: Γ) → wpList P ops Q rest (a.put dst (.slice (some ⟨b, 0, none⟩) 2 2)) w') : wpList P ops Q (⟨dst, .buildSlice t 2 #[(0, x), (1, y)], typ, pos, af, none⟩ :: rest) a w := by
  obtain ⟨i, hi, hzz⟩ := Option.map_eq_some_iff.1 hinfo
  simp only [Prod.mk.injEq] at hzz
  obtain ⟨hz, hsi, hby⟩ := hzz
  refine wpList_buildSlice rfl t e 2 #[(0, x), (1, y)] rfl #[u1, u2] i z hu hi hz (by rw [hsi]; omega) (by rw [hsi]; omega) ?_ (h _ _ (H.rowIn (bel_alloc (Below.refl _ _) _) ⟨rfl, .inr ⟨w.heap.size, 2, #[u1, u2], rfl, Nat.le_refl _, World.alloc_heap_new w _, Nat.le_refl _, by decide, rfl, rfl⟩⟩))
  have hf := Go.Great.fill_whole (s := 1) (by omega) [v1, v2] ((Array.range (2 * i.size)).map (z.cells[· % z.cells.size]!)) (fun u hu => by simp only [List.mem_cons, List.not_mem_nil, or_false] at hu; rcases hu with rfl | rfl; rw [h1]; rfl; rw [h2]; rfl) (by simp [hsi])
  rw [hsi] at hf ⊢
  simp only [List.map_toArray, List.map_cons, List.map_nil, hx, hy]
  simpa [h1, h2] using hf
end
section
variable {ops : Array Oper} {rest : List Oper} {a : Act} {w0 w : World} {Q : Exit → Act → World → Prop} {Γ : List Res} {dst : Option Tmp} {typ : TypeId} {x y : Operand} {pos : String} {af : Array Edge} {s1 s2 : Value} {n1 n2 : Int}
theorem info_bk3 : (Tryz.prog.info? 24).map (fun i => (i.zero, i.size, i.bytes)) = some (some (.agg #[.slice none 0 0]), 1, 24) := by kernel_rfl
theorem info_int3 : (Tryz.prog.info? 3).map (fun i => (i.zero, i.size, i.bytes)) = some (some (.int .i64 0), 1, 8) := by kernel_rfl
theorem bs_bk2 (H : St w0 w Γ) (hx : a.eval x = .agg #[s1]) (hy : a.eval y = .agg #[s2]) (h : ∀ w' b, St w0 w' (Res.row 24 1 (.slice (some ⟨b, 0, none⟩) 2 2) 2 [s1, s2] :: Γ) → wpList Tryz.prog ops Q rest (a.put dst (.slice (some ⟨b, 0, none⟩) 2 2)) w') : wpList Tryz.prog ops Q (⟨dst, .buildSlice 46 2 #[(0, x), (1, y)], typ, pos, af, none⟩ :: rest) a w :=
  arm_bsl2 H hx hy rfl rfl Tryz.underlying46 info_bk3 rfl h
theorem bs_in2 (H : St w0 w Γ) (hx : a.eval x = .int .i64 n1) (hy : a.eval y = .int .i64 n2) (h : ∀ w' b, St w0 w' (Res.row 3 1 (.slice (some ⟨b, 0, none⟩) 2 2) [n1, n2].length (encZ [n1, n2]) :: Γ) → wpList Tryz.prog ops Q rest (a.put dst (.slice (some ⟨b, 0, none⟩) 2 2)) w') : wpList Tryz.prog ops Q (⟨dst, .buildSlice 48 2 #[(0, x), (1, y)], typ, pos, af, none⟩ :: rest) a w :=
  arm_bsl2 H hx hy rfl rfl Tryz.underlying48 info_int3 rfl h
theorem bs_bk1 (H : St w0 w Γ) (hx : a.eval x = .agg #[s1]) (h : ∀ w' b, St w0 w' (Res.row 24 1 (.slice (some ⟨b, 0, none⟩) 1 1) 1 [s1] :: Γ) → wpList Tryz.prog ops Q rest (a.put dst (.slice (some ⟨b, 0, none⟩) 1 1)) w') : wpList Tryz.prog ops Q (⟨dst, .buildSlice 46 1 #[(0, x)], typ, pos, af, none⟩ :: rest) a w :=
  arm_bslice1 H hx (cs := [s1]) rfl Tryz.underlying46 info_bk3 rfl rfl (by decide) (by decide) h
theorem bs_in1 (H : St w0 w Γ) (hx : a.eval x = .int .i64 n1) (h : ∀ w' b, St w0 w' (Res.row 3 1 (.slice (some ⟨b, 0, none⟩) 1 1) [n1].length (encZ [n1]) :: Γ) → wpList Tryz.prog ops Q rest (a.put dst (.slice (some ⟨b, 0, none⟩) 1 1)) w') : wpList Tryz.prog ops Q (⟨dst, .buildSlice 48 1 #[(0, x)], typ, pos, af, none⟩ :: rest) a w :=
  arm_bslice1 H hx (cs := encZ [n1]) rfl Tryz.underlying48 info_int3 rfl rfl (by decide) (by decide) h
end
def s22 : ByteArray := ⟨#[97, 98, 99, 100, 101, 102, 103, 104, 105]⟩
def p22a : ByteArray := ⟨#[97, 98, 99, 100, 101, 102, 103, 104]⟩
def p22b : ByteArray := ⟨#[98, 99, 100, 101, 102, 103, 104, 105]⟩
def aw22B : RD := ⟨k7.1, 0, 0, [(2, 1, 1, s22)]⟩
abbrev aw22 : BK := [aw22B]
theorem aw22M : rMay aw22B = true := by decide +kernel
theorem aw22Mb : bMay aw22 = true := by unfold bMay bMayL bMayL; rw [aw22M]; rfl
theorem aw22W : bWrite [] k7 2 1 s22 = (0, aw22) := by
  have h1 : bLast [] = (0, 0) := rfl
  have h2 : stNext 0 0 1 = (1, 1, 0) := by decide +kernel
  have h3 : rW k7 2 s22 1 1 = aw22B := rfl
  have h4 : bBoth [] aw22 = aw22 := rfl
  have h5 : bCan [] aw22 = 0 := bCan_ok.2 ⟨rfl, aw22Mb, by rw [h4]; decide⟩
  have h6 : bJ [] aw22 = aw22 := by unfold bJ; rw [if_pos h5, h4]
  unfold bWrite
  rw [if_pos ⟨rfl, by decide, by decide, by decide⟩]
  unfold bWithP
  rw [h1]
  dsimp only
  rw [h2]
  dsimp only
  rw [h3, if_pos rfl, if_pos rfl, h5, h6]
theorem aw22V : auValues [aw22, aw22] = [s22] := by decide +kernel
theorem aw22V1 : ([aw22, aw22].flatMap valsB).length ≤ 90000 := by decide +kernel
theorem aw22P : auParts [s22] = [p22a, p22b] := by decide +kernel
theorem aw22P1 : mostL [s22] ≤ 90000 := by decide +kernel
theorem aw22J : auJ [aw22, []] [] [1, 0] = (0, aw22) := by
  have h1 : bCan [] [] = 0 := bCan_ok.2 ⟨rfl, rfl, by decide⟩
  have h2 : bJ [] [] = [] := by unfold bJ; rw [if_pos h1]; rfl
  have h4 : bBoth [] aw22 = aw22 := rfl
  have h5 : bCan [] aw22 = 0 := bCan_ok.2 ⟨rfl, aw22Mb, by rw [h4]; decide⟩
  have h6 : bJ [] aw22 = aw22 := by unfold bJ; rw [if_pos h5, h4]
  unfold auJ
  rw [if_pos (by decide), show bAt [aw22, []] 1 = [] from rfl, if_pos h1, h2]
  unfold auJ
  rw [if_pos (by decide), show bAt [aw22, []] 0 = aw22 from rfl, if_pos h5, h6]
  rfl
theorem aw22N : auJ [aw22] [] [1] = (6, []) := by
  unfold auJ
  rw [if_neg (by decide)]
theorem aw22S : bSame aw22 aw22 = true := (bSame_iff _ _).2 rfl
end Go.Proofs.YtolbmemogoojhaaGreat
/- What is looked through: the example's walk. -/
namespace Go.Proofs.YtolbmemogoojhaaGreat
open Go Go.RowKit Go.Deep
set_option linter.unusedVariables false
set_option linter.unusedSimpArgs false
set_option maxRecDepth 100000
theorem bks_of2 {w0 w : World} {Γ : List Res} (H : St w0 w Γ) {s s1 s2 : Value} {e : TypeId} {A B : BK} (hm : Res.row e 1 s 2 [s1, s2] ∈ Γ) (h1 : Recs w s1 A) (h2 : Recs w s2 B) : Bks w s [A, B] :=
  ⟨[(A, s1), (B, s2)], rfl, H.rowRead hm, fun p hp => by
    simp only [List.mem_cons, List.not_mem_nil, or_false] at hp
    rcases hp with rfl | rfl
    · exact h1
    · exact h2⟩
theorem bks_of1 {w0 w : World} {Γ : List Res} (H : St w0 w Γ) {s s1 : Value} {e : TypeId} {A : BK} (hm : Res.row e 1 s 1 [s1] ∈ Γ) (h1 : Recs w s1 A) : Bks w s [A] :=
  ⟨[(A, s1)], rfl, H.rowRead hm, fun p hp => by rw [List.mem_singleton.1 hp]; exact h1⟩
theorem St.rowAt {w0 w : World} {Γ : List Res} (H : St w0 w Γ) {e : TypeId} {b off n c m : Nat} {cs : List Value} {j : Nat} {u : Value} (hm : Res.row e 1 (.slice (some ⟨b, off, none⟩) n c) m cs ∈ Γ) (hj : cs[j]? = some u) : Sub w b (off + j) #[u] := by
  obtain ⟨b', off', c', he, hs⟩ := row1_at (H.rowRead hm) hj
  injection he with e1 e2 e3
  simp only [Option.some.injEq, Addr.mk.injEq, and_true] at e1
  obtain ⟨rfl, rfl⟩ := e1
  exact hs
set_option maxHeartbeats 6400000 in
theorem awake22_c (w : World) : Calls Tryz.prog 26 #[] w fun e w' => e = .returned (.bool true) ∧ Below w.heap.size w w' := by
  have HW : Hid (bWrite [] k7 2 1 ⟨#[97, 98, 99, 100, 101, 102, 103, 104, 105]⟩ = (0, aw22)) := Lib.hid aw22W
  have HA1 := Lib.hid aw22J; have HA2 := Lib.hid aw22N; have HS := Lib.hid aw22S
  have Hone : Hid (Value.oneCell' (.slice none 0 0) = true) := Lib.hid rfl
  have H := St.init w
  go_enter Tryz.func26, Tryz.ntmps26
  go_wp2_with (first | go_skip | ((fail_if_success have := kb); (with_reducible apply al_bk H); clear H; intro wn kb H) | ((fail_if_success have := kj); (with_reducible apply al_bk H); clear H; intro wn kj H) | ((fail_if_success have := kf); (with_reducible apply al_bk H); clear H; intro wn kf H) | ((with_reducible apply ld_bk); rfl; rfl; (focus (apply H.one; (repeat (first | with_reducible exact mH | with_reducible apply mT)); done))) | (with_reducible apply bd_bk0) | ((with_reducible apply st_bk H); rfl; rfl; rfl; (repeat (first | with_reducible apply Upd.head | with_reducible apply Upd.tail)); (first | rfl | assumption | (refine Hid.out ?_; assumption)); clear H; intro wn H) | ((with_reducible apply bd_id7); rfl) | (go_at_call 22; (fail_if_success have := Tj); (with_reducible refine (bkwrite_k HW.out _ (Recs.nil _)).mono ?_); rintro e wn ⟨vj, rj, rfl, hrj, hs⟩; replace H := H.comp hs; clear hs; simp only [List.cons_append, List.nil_append] at H; have Tj : Hid (vj.oneCell' = true) := Lib.hid (hrj _ (H.get (r := rj) (by (repeat (first | with_reducible exact mH | with_reducible apply mT))))).one; have Jj := Lib.hid hrj; clear hrj) | ((fail_if_success have := kL1); (with_reducible apply bs_bk2 H); rfl; rfl; clear H; intro wn kL1 H) | (go_at_call 34; (with_reducible refine (values_c _ [aw22, aw22] _ (bks_of2 H (e := 24) (by (repeat (first | with_reducible exact mH | with_reducible apply mT))) (Jj.out _ (H.get (r := rj) (by (repeat (first | with_reducible exact mH | with_reducible apply mT))))) (Jj.out _ (H.get (r := rj) (by (repeat (first | with_reducible exact mH | with_reducible apply mT)))))) aw22V1).mono ?_); rintro e wn ⟨vv, rfl, hs⟩; replace H := H.comp hs; clear hs; simp only [List.cons_append, List.nil_append] at H; rw [aw22V] at H; obtain ⟨-, av, cv, ev, -⟩ := H.rowRead mH; replace ev : vv = .slice av 1 cv := ev; subst ev) | (go_at_call 36; (with_reducible refine (parts_c _ [s22] _ (H.rowRead (by (repeat (first | with_reducible exact mH | with_reducible apply mT)))) aw22P1).mono ?_); rintro e wn ⟨vp, rfl, hs⟩; replace H := H.comp hs; clear hs; simp only [List.cons_append, List.nil_append] at H; rw [aw22P] at H; obtain ⟨bp, op, cp, ep, -⟩ := row1_at (j := 0) (u := .string p22a) (H.rowRead mH) rfl; replace ep : vp = .slice (some ⟨bp, op, none⟩) 2 cp := ep; subst ep) | ((fail_if_success have := kL2); (with_reducible apply bs_bk2 H); rfl; rfl; clear H; intro wn kL2 H) | ((fail_if_success have := kI2); (with_reducible apply bs_in2 H); rfl; rfl; clear H; intro wn kI2 H) | (go_at_call 31; (fail_if_success have := Tx); (with_reducible refine (ajoin_c HA1.out _ (bks_of2 H (e := 24) (s := .slice (some ⟨kL2, 0, none⟩) 2 2) (by (repeat (first | with_reducible exact mH | with_reducible apply mT))) (Jj.out _ (H.get (r := rj) (by (repeat (first | with_reducible exact mH | with_reducible apply mT))))) (Recs.nil _)) (H.rowRead (e := 3) (by (repeat (first | with_reducible exact mH | with_reducible apply mT))))).mono ?_); rintro e wn ⟨vx, rx, rfl, hrj, hs⟩; replace H := H.comp hs; clear hs; simp only [List.cons_append, List.nil_append] at H; have Tx : Hid (vx.oneCell' = true) := Lib.hid (hrj _ (H.get (r := rx) (by (repeat (first | with_reducible exact mH | with_reducible apply mT))))).one; have Jx := Lib.hid hrj; clear hrj) | ((fail_if_success have := kL3); (with_reducible apply bs_bk1 H); rfl; clear H; intro wn kL3 H) | ((fail_if_success have := kI3); (with_reducible apply bs_in1 H); rfl; clear H; intro wn kI3 H) | (go_at_call 31; (fail_if_success have := Ty); (with_reducible refine (ajoin_c HA2.out _ (bks_of1 H (e := 24) (s := .slice (some ⟨kL3, 0, none⟩) 1 1) (by (repeat (first | with_reducible exact mH | with_reducible apply mT))) (Jj.out _ (H.get (r := rj) (by (repeat (first | with_reducible exact mH | with_reducible apply mT)))))) (H.rowRead (e := 3) (by (repeat (first | with_reducible exact mH | with_reducible apply mT))))).mono ?_); rintro e wn ⟨vy, ry, rfl, hrj, hs⟩; replace H := H.comp hs; clear hs; simp only [List.cons_append, List.nil_append] at H; have Ty : Hid (vy.oneCell' = true) := Lib.hid (hrj _ (H.get (r := ry) (by (repeat (first | with_reducible exact mH | with_reducible apply mT))))).one; have Jy := Lib.hid hrj; clear hrj) | ((with_reducible refine ld_one (ty := 9) Tryz.underlying9 rfl ?_ ?_ (H.rowAt (e := 9) (n := 2) (c := cp) (m := [p22a, p22b].length) (cs := strL [p22a, p22b]) (j := 0) (u := .string ⟨#[97, 98, 99, 100, 101, 102, 103, 104]⟩) (by (repeat (first | with_reducible exact mH | with_reducible apply mT))) rfl) ?_); rfl; rfl) | ((with_reducible refine ld_one (ty := 9) Tryz.underlying9 rfl ?_ ?_ (H.rowAt (e := 9) (n := 2) (c := cp) (m := [p22a, p22b].length) (cs := strL [p22a, p22b]) (j := 1) (u := .string ⟨#[98, 99, 100, 101, 102, 103, 104, 105]⟩) (by (repeat (first | with_reducible exact mH | with_reducible apply mT))) rfl) ?_); rfl; rfl) | (go_at_call 19; first | ((with_reducible refine (bksame_v HS.out _ (Jx.out _ (H.get (r := rx) (by (repeat (first | with_reducible exact mH | with_reducible apply mT))))) (Jj.out _ (H.get (r := rj) (by (repeat (first | with_reducible exact mH | with_reducible apply mT)))))).mono ?_); rintro e wn ⟨rfl, hb⟩; replace H := H.call hb; clear hb)))
  all_goals first | (rw [Exit.noGoto_ret]; go_ret) | go_ret
  all_goals exact ⟨rfl, H.bel⟩
end Go.Proofs.YtolbmemogoojhaaGreat
/- Arms of the Audit laws' walks. -/
namespace Go.Proofs.YtolbmemogoojhaaGreat
open Go Go.RowKit Go.Deep
set_option linter.unusedVariables false
set_option linter.unusedSimpArgs false
set_option maxRecDepth 100000
section
variable {a : Act} {b o : Nat} {dst : Option Tmp} {ty typ : TypeId} {x : Operand} {pos : String} {af : Array Edge} {gd : Option (Nat × Bool)} {C : World → Prop} {K : Act → Prop} {v : Value} {d : TypeDesc}
theorem qd_oneS (hu : Tryz.prog.underlying ty = some d) (hd : (match (generalizing := false) d with | .struct _ | .array _ _ => true | _ => false) = false) (hx : a.eval x = .pointer (some ⟨b, o, none⟩)) (h : ∀ w', C w' → Sub w' b o #[v]) (k : K (a.put dst v)) : (⟨dst, .load ty x, typ, pos, af, gd⟩ : Oper).quiet Tryz.prog a C K :=
  quiet_load_one (P := Tryz.prog) (C := C) (K := K) ty x rfl dst rfl b o hx v d h hu (by cases d <;> first | rfl | (exact absurd hd (by simp))) k
end
theorem str_beq (x y : ByteArray) : (x.toList == y.toList) = decide (x = y) := by
  rw [Bool.eq_iff_iff, decide_eq_true_eq, beq_iff_eq]
  refine ⟨fun h => ?_, fun h => by rw [h]⟩
  rw [ByteArray.toList_eq, ByteArray.toList_eq] at h
  cases x; cases y
  exact congrArg ByteArray.mk (Array.ext' h)
end Go.Proofs.YtolbmemogoojhaaGreat
