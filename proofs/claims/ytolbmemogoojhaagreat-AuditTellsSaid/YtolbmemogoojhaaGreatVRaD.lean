/- The document's books together, of numbers. -/
import Derived.Test.YtolbmemogoojhaaGreatVRaC
import Derived.Test.YtolbmemogoojhaaGreatVRbE
import Derived.Test.YtolbmemogoojhaaGreatVN7
namespace Go.Proofs.YtolbmemogoojhaaGreat
open Go Go.RowKit Go.Deep
set_option linter.unusedVariables false
set_option linter.unusedSimpArgs false
set_option maxRecDepth 100000
set_option maxHeartbeats 6400000 in
theorem rajoin_c {v zv : Value} {LL : List BK} {of : List Int} {dd : Int} {JJ : BK} (h : auJ LL [] of = (dd, JJ)) (w : World) (hv : Bks w v LL) (hz : Row w 1 zv of.length (encZ of)) : Calls Tryz.prog 32 #[v, zv] w (JoinP w dd JJ) := by
  obtain ⟨n, hn⟩ : ∃ n, LL.length = n := ⟨_, rfl⟩
  obtain ⟨a, c, rfl, hm1, _⟩ := id hv.slice
  rw [hn] at hv hm1 ⊢
  unfold maxLen at hm1
  obtain ⟨nz, hnz⟩ : ∃ n, of.length = n := ⟨_, rfl⟩
  rw [hnz] at hz
  obtain ⟨_, az, cz, rfl, hm2, hm3, _⟩ := id hz
  unfold maxLen at hm3
  have Hv := Lib.hid hv; have Hn := Lib.hid hn; have Hz := Lib.hid hz; have Hnz := Lib.hid hnz; have HA := Lib.hid h; clear hv hn hz hnz h
  have Hone0 : Hid (Value.oneCell' (.slice none 0 0) = true) := Lib.hid rfl
  have H := St.init w
  go_enter Tryz.func32, Tryz.ntmps32
  go_wp2_with (first | go_skip | ((fail_if_success have := kR); (with_reducible apply al_bk H); clear H; intro wn kR H) | ((fail_if_success have := kO); (with_reducible apply al_bk H); clear H; intro wn kO H) | ((with_reducible apply ld_bk); rfl; rfl; (focus (apply H.one; (repeat (first | with_reducible exact mH | with_reducible apply mT)); done))) | (with_reducible apply bd_bk0) | ((with_reducible apply st_bk H); rfl; rfl; rfl; (repeat (first | with_reducible apply Upd.head | with_reducible apply Upd.tail)); (first | rfl | assumption | (refine Hid.out ?_; assumption)); clear H; intro wn H))
  go_loopw [7] (fun i wr => ∃ (j : Nat) (J : BK) (vo : Value) (ro : Res), j ≤ nz ∧ i = .int .i64 j ∧ Hid (auJ LL J (of.drop j) = (dd, JJ)) ∧ Hid (∀ W, ro.holds W → Recs W vo J) ∧ Hid (vo.oneCell' = true) ∧ St w wr [ro, Res.blk kO 24 #[vo], Res.blk kR 24 #[.slice none 0 0]]) (fun i _ => nz - (intOf i).toNat)
  case atStart => exact ⟨0, [], .slice none 0 0, Res.none, by omega, rfl, HA, Lib.hid (fun W _ => Recs.nil W), Hone0, H.addNone⟩
  case round =>
    clear H
    obtain ⟨j, J, vo, ro, hj, rfl, I, Jo, To, H⟩ := hrel
    by_cases hlt : j < nz
    · obtain ⟨i, hi⟩ : ∃ i, of[j]? = some i := ⟨_, List.getElem?_eq_getElem (by rw [Hnz.out]; exact hlt)⟩
      obtain ⟨bz, offz, c', he, hS⟩ := row1_at Hz.out (encZ_get hi)
      injection he with e1 e2 e3
      subst e1 e3
      have HI := Lib.hid hS
      have hstep := auJ_step (LL := LL) (J := J) hi
      rw [I.out, Hn.out] at hstep
      clear hS hi e2
      by_cases h0 : i < 0
      · rw [if_neg (by omega)] at hstep
        cases hstep
        have hc0 : decide (i < 0) = true := decide_eq_true h0
        go_wp2_with (first | go_skip | ((with_reducible refine ld_one (ty := 3) Tryz.underlying3 rfl ?_ ?_ (HI.out.keep H.bel) ?_); rfl; rfl) | ((with_reducible apply ld_bk); rfl; rfl; (focus (apply H.one; (repeat (first | with_reducible exact mH | with_reducible apply mT)); done))) | (with_reducible apply bd_bk0) | ((with_reducible apply st_bk H); rfl; rfl; rfl; (repeat (first | with_reducible apply Upd.head | with_reducible apply Upd.tail)); (first | rfl | assumption | (refine Hid.out ?_; assumption)); clear H; intro wn H))
        all_goals first | (rw [Exit.noGoto_ret]) | skip
        have hR := H.arr (b := kR) (t := 24) (cs := #[.slice none 0 0]) (by (repeat (first | with_reducible exact mH | with_reducible apply mT)))
        exact bodyPost_ret (results_cell_tmp Tryz.results32 _ _ kR #[.slice none 0 0] _ _ rfl rfl hR Tryz.underlying24 rfl bk_info) rfl ⟨.slice none 0 0, Res.none, rfl, fun W _ => Recs.nil W, H.addNone.sub (by (repeat (first | with_reducible exact List.Sublist.refl _ | with_reducible refine List.Sublist.cons_cons _ ?_ | refine List.Sublist.cons _ ?_)))⟩
      · by_cases h1 : i < (n : Int)
        · obtain ⟨i, rfl⟩ : ∃ k : Nat, i = (k : Int) := ⟨i.toNat, by omega⟩
          rw [if_pos (by omega)] at hstep
          obtain ⟨L, hL⟩ : ∃ L, LL[i]? = some L := ⟨_, List.getElem?_eq_getElem (by rw [Hn.out]; omega)⟩
          obtain ⟨b, off, s, rfl, hs, hR⟩ := Hv.out.at hL
          have HS := Lib.hid hs; have HR := Lib.hid hR
          rw [bAt_get hL] at hstep
          obtain ⟨d, hd⟩ : ∃ d, bCan J L = d := ⟨_, rfl⟩
          obtain ⟨J2, hJ⟩ : ∃ x, bJ J L = x := ⟨_, rfl⟩
          rw [hd, hJ] at hstep
          have Hd := Lib.hid hd; have HJ := Lib.hid hJ
          have hin : i < n := by omega
          have hc0 : decide ((i : Int) < 0) = false := decide_eq_false (by omega)
          have hc2 : decide (n ≤ i) = false := decide_eq_false (by omega)
          clear hs hR hL hd hJ h0 h1
          by_cases hd0 : d = 0
          · subst hd0
            rw [if_pos rfl] at hstep
            have I2 := Lib.hid hstep.symm
            clear hstep
            go_wp2_with (first | go_skip | ((with_reducible refine ld_one (ty := 3) Tryz.underlying3 rfl ?_ ?_ (HI.out.keep H.bel) ?_); rfl; rfl) | ((with_reducible apply ld_bk); rfl; rfl; (focus (apply H.one; (repeat (first | with_reducible exact mH | with_reducible apply mT)); done))) | (with_reducible apply bd_bk0) | ((with_reducible apply st_bk H); rfl; rfl; rfl; (repeat (first | with_reducible apply Upd.head | with_reducible apply Upd.tail)); (first | rfl | assumption | (refine Hid.out ?_; assumption)); clear H; intro wn H))
            (try simp only [Act.put, List.setIfInBounds_toArray, List.set_cons_zero, List.set_cons_succ])
            refine wp_slotsMQ [⟨some 33, [], fun _ v => v = .agg #[vo]⟩, ⟨some 34, [], fun _ v => v = .slice (some ⟨b, off, none⟩) n c⟩, ⟨some 35, [], fun _ v => v = .slice (some ⟨bz, offz, none⟩) nz cz⟩, ⟨some 36, [], fun _ v => v = .int .i64 (j : Int)⟩, ⟨some 37, [(2, 35), (3, 36)], fun _ v => v = .pointer (some ⟨bz, offz + j, none⟩)⟩, ⟨some 38, [(4, 37)], fun _ v => v = .int .i64 (i : Int)⟩, ⟨some 39, [(1, 34), (5, 38)], fun _ v => v = .pointer (some ⟨b, off + i, none⟩)⟩, ⟨some 40, [(6, 39)], fun _ v => v = .agg #[s]⟩, ⟨some 41, [(0, 33), (7, 40)], MadeS wr (fun s => .tuple #[.agg #[s], .int .i64 0]) J2⟩, ⟨some 32, [(8, 41)], MadeS wr (fun s => .tuple #[.agg #[s], .int .i64 0]) J2⟩, ⟨some 42, [(9, 32)], MadeS wr (fun s => .agg #[s]) J2⟩, ⟨some 43, [(9, 32)], fun _ v => v = .int .i64 0⟩, ⟨some 8, [], NewB wr⟩] [33, 34, 35, 36, 37, 38, 39, 40, 41, 32, 42, 43, 8] (false :: false :: false :: false :: false :: false :: false :: false :: true :: false :: false :: false :: false :: false :: false :: false :: false :: false :: false :: false :: false :: false :: false :: false :: false :: false :: false :: false :: false :: false :: false :: false :: true :: true :: true :: true :: true :: true :: true :: true :: true :: true :: true :: true :: []) [(some 33, []), (some 34, []), (some 35, []), (some 36, []), (some 37, [(2, 35), (3, 36)]), (some 38, [(4, 37)]), (some 39, [(1, 34), (5, 38)]), (some 40, [(6, 39)]), (some 41, [(0, 33), (7, 40)]), (some 32, [(8, 41)]), (some 42, [(9, 32)]), (some 43, [(9, 32)]), (some 8, [])] 11 rfl (by kernel_rfl) (by kernel_rfl) (by rfl) (by rfl) ?_ (by rfl) (by rfl) ?_ ?_ ?_
            · exact stable_cons (fun _ _ _ _ h => h) (stable_cons (fun _ _ _ _ h => h) (stable_cons (fun _ _ _ _ h => h) (stable_cons (fun _ _ _ _ h => h) (stable_cons (fun _ _ _ _ h => h) (stable_cons (fun _ _ _ _ h => h) (stable_cons (fun _ _ _ _ h => h) (stable_cons (fun _ _ _ _ h => h) (stable_cons MadeS.keep (stable_cons MadeS.keep (stable_cons MadeS.keep (stable_cons (fun _ _ _ _ h => h) (stable_cons NewB.keep (stable_nil)))))))))))))
            · refine hops_cons ?_ (hops_cons ?_ (hops_cons ?_ (hops_cons ?_ (hops_cons ?_ (hops_cons ?_ (hops_cons ?_ (hops_cons ?_ (hops_cons ?_ (hops_cons ?_ (hops_cons ?_ (hops_cons ?_ (hops_cons ?_ (trivial)))))))))))))
              · unfold HopM; intro u wn hb hk; have H0 := H; replace H := H.call hb
                simp only [fillM]
                go_wp2_with (first | go_skip | ((with_reducible apply ld_bk); rfl; rfl; (focus (apply H.one; (repeat (first | with_reducible exact mH | with_reducible apply mT)); done))) | ((with_reducible refine ld_bk ?_ ?_ (HS.out.keep H.bel) ?_); rfl; rfl) | ((with_reducible refine ld_one (ty := 3) Tryz.underlying3 rfl ?_ ?_ (HI.out.keep H.bel) ?_); rfl; rfl))
                exact ⟨rfl, Below.refl _ _, .agg #[vo], rfl, rfl⟩
              · unfold HopM; intro u wn hb hk; have H0 := H; replace H := H.call hb
                simp only [fillM]
                go_wp2_with (first | go_skip | ((with_reducible apply ld_bk); rfl; rfl; (focus (apply H.one; (repeat (first | with_reducible exact mH | with_reducible apply mT)); done))) | ((with_reducible refine ld_bk ?_ ?_ (HS.out.keep H.bel) ?_); rfl; rfl) | ((with_reducible refine ld_one (ty := 3) Tryz.underlying3 rfl ?_ ?_ (HI.out.keep H.bel) ?_); rfl; rfl))
                exact ⟨rfl, Below.refl _ _, .slice (some ⟨b, off, none⟩) n c, rfl, rfl⟩
              · unfold HopM; intro u wn hb hk; have H0 := H; replace H := H.call hb
                simp only [fillM]
                go_wp2_with (first | go_skip | ((with_reducible apply ld_bk); rfl; rfl; (focus (apply H.one; (repeat (first | with_reducible exact mH | with_reducible apply mT)); done))) | ((with_reducible refine ld_bk ?_ ?_ (HS.out.keep H.bel) ?_); rfl; rfl) | ((with_reducible refine ld_one (ty := 3) Tryz.underlying3 rfl ?_ ?_ (HI.out.keep H.bel) ?_); rfl; rfl))
                exact ⟨rfl, Below.refl _ _, .slice (some ⟨bz, offz, none⟩) nz cz, rfl, rfl⟩
              · unfold HopM; intro u wn hb hk; have H0 := H; replace H := H.call hb
                simp only [fillM]
                go_wp2_with (first | go_skip | ((with_reducible apply ld_bk); rfl; rfl; (focus (apply H.one; (repeat (first | with_reducible exact mH | with_reducible apply mT)); done))) | ((with_reducible refine ld_bk ?_ ?_ (HS.out.keep H.bel) ?_); rfl; rfl) | ((with_reducible refine ld_one (ty := 3) Tryz.underlying3 rfl ?_ ?_ (HI.out.keep H.bel) ?_); rfl; rfl))
                exact ⟨rfl, Below.refl _ _, .int .i64 (j : Int), rfl, rfl⟩
              · unfold HopM; intro u wn hb hk; have H0 := H; replace H := H.call hb
                obtain ⟨hq2, hq3, -⟩ := hk
                replace hq2 := hq2 _ rfl; dsimp only at hq2
                replace hq3 := hq3 _ rfl; dsimp only at hq3
                simp only [fillM, hq2, hq3]
                clear hq2 hq3
                go_wp2_with (first | go_skip | ((with_reducible apply ld_bk); rfl; rfl; (focus (apply H.one; (repeat (first | with_reducible exact mH | with_reducible apply mT)); done))) | ((with_reducible refine ld_bk ?_ ?_ (HS.out.keep H.bel) ?_); rfl; rfl) | ((with_reducible refine ld_one (ty := 3) Tryz.underlying3 rfl ?_ ?_ (HI.out.keep H.bel) ?_); rfl; rfl))
                exact ⟨rfl, Below.refl _ _, .pointer (some ⟨bz, offz + j, none⟩), rfl, rfl⟩
              · unfold HopM; intro u wn hb hk; have H0 := H; replace H := H.call hb
                obtain ⟨hq4, -⟩ := hk
                replace hq4 := hq4 _ rfl; dsimp only at hq4
                simp only [fillM, hq4]
                clear hq4
                go_wp2_with (first | go_skip | ((with_reducible apply ld_bk); rfl; rfl; (focus (apply H.one; (repeat (first | with_reducible exact mH | with_reducible apply mT)); done))) | ((with_reducible refine ld_bk ?_ ?_ (HS.out.keep H.bel) ?_); rfl; rfl) | ((with_reducible refine ld_one (ty := 3) Tryz.underlying3 rfl ?_ ?_ (HI.out.keep H.bel) ?_); rfl; rfl))
                exact ⟨rfl, Below.refl _ _, .int .i64 (i : Int), rfl, rfl⟩
              · unfold HopM; intro u wn hb hk; have H0 := H; replace H := H.call hb
                obtain ⟨hq1, hq5, -⟩ := hk
                replace hq1 := hq1 _ rfl; dsimp only at hq1
                replace hq5 := hq5 _ rfl; dsimp only at hq5
                simp only [fillM, hq1, hq5]
                clear hq1 hq5
                go_wp2_with (first | go_skip | ((with_reducible apply ld_bk); rfl; rfl; (focus (apply H.one; (repeat (first | with_reducible exact mH | with_reducible apply mT)); done))) | ((with_reducible refine ld_bk ?_ ?_ (HS.out.keep H.bel) ?_); rfl; rfl) | ((with_reducible refine ld_one (ty := 3) Tryz.underlying3 rfl ?_ ?_ (HI.out.keep H.bel) ?_); rfl; rfl))
                exact ⟨rfl, Below.refl _ _, .pointer (some ⟨b, off + i, none⟩), rfl, rfl⟩
              · unfold HopM; intro u wn hb hk; have H0 := H; replace H := H.call hb
                obtain ⟨hq6, -⟩ := hk
                replace hq6 := hq6 _ rfl; dsimp only at hq6
                simp only [fillM, hq6]
                clear hq6
                go_wp2_with (first | go_skip | ((with_reducible apply ld_bk); rfl; rfl; (focus (apply H.one; (repeat (first | with_reducible exact mH | with_reducible apply mT)); done))) | ((with_reducible refine ld_bk ?_ ?_ (HS.out.keep H.bel) ?_); rfl; rfl) | ((with_reducible refine ld_one (ty := 3) Tryz.underlying3 rfl ?_ ?_ (HI.out.keep H.bel) ?_); rfl; rfl))
                exact ⟨rfl, Below.refl _ _, .agg #[s], rfl, rfl⟩
              · unfold HopM; intro u wn hb hk; have H0 := H; replace H := H.call hb
                obtain ⟨hq0, hq7, -⟩ := hk
                replace hq0 := hq0 _ rfl; dsimp only at hq0
                replace hq7 := hq7 _ rfl; dsimp only at hq7
                simp only [fillM, hq0, hq7]
                clear hq0 hq7
                go_wp2_with (first | go_skip | (go_at_call 12; (with_reducible refine (rbjoin_c Hd.out HJ.out _ (Jo.out _ (H.get (r := ro) (by (repeat (first | with_reducible exact mH | with_reducible apply mT))))) (HR.out.below H.bel)).mono ?_); rintro e wm ⟨vj, rj, rfl, hrj, hs⟩))
                exact ⟨rfl, hs.bel, _, rfl, MadeS.of (f := fun s => .tuple #[.agg #[s], .int .i64 0]) hrj hs hb.size⟩
              · unfold HopM; intro u wn hb hk; have H0 := H; replace H := H.call hb
                obtain ⟨hq8, -⟩ := hk
                replace hq8 := hq8 _ rfl; dsimp only at hq8; obtain ⟨sj, lj, hq8, g0, g1, g2⟩ := hq8; dsimp only at hq8
                simp only [fillM, hq8]
                clear hq8
                go_wp2_with (first | go_skip)
                exact ⟨rfl, Below.refl _ _, _, rfl, sj, lj, rfl, g0, g1, g2⟩
              · unfold HopM; intro u wn hb hk; have H0 := H; replace H := H.call hb
                obtain ⟨hq9, -⟩ := hk
                replace hq9 := hq9 _ rfl; dsimp only at hq9; obtain ⟨sj, lj, hq9, g0, g1, g2⟩ := hq9; dsimp only at hq9
                simp only [fillM, hq9]
                clear hq9
                go_wp2_with (first | go_skip)
                exact ⟨rfl, Below.refl _ _, _, rfl, sj, lj, rfl, g0, g1, g2⟩
              · unfold HopM; intro u wn hb hk; have H0 := H; replace H := H.call hb
                obtain ⟨hq9, -⟩ := hk
                replace hq9 := hq9 _ rfl; dsimp only at hq9; obtain ⟨sj, lj, hq9, g0, g1, g2⟩ := hq9; dsimp only at hq9
                simp only [fillM, hq9]
                clear hq9
                go_wp2_with (first | go_skip | ((with_reducible apply ld_bk); rfl; rfl; (focus (apply H.one; (repeat (first | with_reducible exact mH | with_reducible apply mT)); done))) | ((with_reducible refine ld_bk ?_ ?_ (HS.out.keep H.bel) ?_); rfl; rfl) | ((with_reducible refine ld_one (ty := 3) Tryz.underlying3 rfl ?_ ?_ (HI.out.keep H.bel) ?_); rfl; rfl))
                exact ⟨rfl, Below.refl _ _, .int .i64 0, rfl, rfl⟩
              · unfold HopM; intro u wn hb hk; have H0 := H; replace H := H.call hb
                simp only [fillM]
                go_wp2_with (first | go_skip | ((with_reducible apply al_bk (St.init _)); intro wm kJ HM))
                exact ⟨rfl, HM.bel, _, rfl, kJ, rfl, HM.get mH, Nat.le_trans hb.size (HM.base _ mH kJ rfl)⟩
            · intro u wn hb hk
              obtain ⟨hq9, -⟩ := hk
              replace hq9 := hq9 _ rfl; dsimp only at hq9; obtain ⟨sj, lj, hq9, g0, g1, g2⟩ := hq9; dsimp only at hq9
              simp only [fillM, hq9]
              exact ⟨.int .i64 0, .inl ⟨rfl, fun W => rfl⟩, rfl⟩
            intro u wn hb hk; have H0 := H; replace H := H.call hb
            obtain ⟨hq0, hq1, hq2, hq3, hq4, hq5, hq6, hq7, hq8, hq9, hq10, hq11, hq12, -⟩ := hk
            replace hq0 := hq0 _ rfl; dsimp only at hq0
            replace hq1 := hq1 _ rfl; dsimp only at hq1
            replace hq2 := hq2 _ rfl; dsimp only at hq2
            replace hq3 := hq3 _ rfl; dsimp only at hq3
            replace hq4 := hq4 _ rfl; dsimp only at hq4
            replace hq5 := hq5 _ rfl; dsimp only at hq5
            replace hq6 := hq6 _ rfl; dsimp only at hq6
            replace hq7 := hq7 _ rfl; dsimp only at hq7
            replace hq8 := hq8 _ rfl; dsimp only at hq8; obtain ⟨sj, lj, hq8, g0, g1, g2⟩ := hq8; dsimp only at hq8
            replace hq9 := hq9 _ rfl; dsimp only at hq9; obtain ⟨sj, lj, hq9, g0, g1, g2⟩ := hq9; dsimp only at hq9
            replace hq10 := hq10 _ rfl; dsimp only at hq10; obtain ⟨sj, lj, hq10, g0, g1, g2⟩ := hq10; dsimp only at hq10
            replace hq11 := hq11 _ rfl; dsimp only at hq11
            replace hq12 := hq12 _ rfl; dsimp only at hq12; obtain ⟨kJ, hq12, hK, hB⟩ := hq12; replace H := H0.both hb g1 g2 hK hB; have HJ2 := Lib.hid (fun W h => by have := rs_reads sj lj W h; rwa [g0] at this); have T1 : Hid (sj.oneCell' = true) := Lib.hid (HJ2.out _ g1).one; clear g0 g1 g2 hK hB
            simp only [fillM, List.length_cons, List.length_nil, Nat.reduceAdd, List.drop_succ_cons, List.drop_zero, hq0, hq1, hq2, hq3, hq4, hq5, hq6, hq7, hq8, hq9, hq10, hq11, hq12]
            clear hb H0 hq0 hq1 hq2 hq3 hq4 hq5 hq6 hq7 hq8 hq9 hq10 hq11 hq12
            go_wp2_with (first | go_skip | ((with_reducible apply ld_bk); rfl; rfl; (focus (apply H.one; (repeat (first | with_reducible exact mH | with_reducible apply mT)); done))) | (with_reducible apply bd_bk0) | ((with_reducible apply st_bk H); rfl; rfl; rfl; (repeat (first | with_reducible apply Upd.head | with_reducible apply Upd.tail)); (first | rfl | assumption | (refine Hid.out ?_; assumption)); clear H; intro wn H))
            go_roundw
            case rel => exact ⟨j + 1, J2, sj, Res.rs sj lj, by omega, by go_num, I2, HJ2, T1, H.sub (by (repeat (first | with_reducible exact List.Sublist.refl _ | with_reducible refine List.Sublist.cons_cons _ ?_ | refine List.Sublist.cons _ ?_)))⟩
            case measure => simp [intOf]; omega
          · rw [if_neg hd0] at hstep
            have e1 : d = dd := (congrArg Prod.fst hstep).symm
            have e2 : JJ = [] := congrArg Prod.snd hstep
            clear hstep
            subst e1 e2
            go_wp2_with (first | go_skip | ((with_reducible refine ld_one (ty := 3) Tryz.underlying3 rfl ?_ ?_ (HI.out.keep H.bel) ?_); rfl; rfl) | ((with_reducible apply ld_bk); rfl; rfl; (focus (apply H.one; (repeat (first | with_reducible exact mH | with_reducible apply mT)); done))) | (with_reducible apply bd_bk0) | ((with_reducible apply st_bk H); rfl; rfl; rfl; (repeat (first | with_reducible apply Upd.head | with_reducible apply Upd.tail)); (first | rfl | assumption | (refine Hid.out ?_; assumption)); clear H; intro wn H))
            (try simp only [Act.put, List.setIfInBounds_toArray, List.set_cons_zero, List.set_cons_succ])
            refine wp_slotsMQ [⟨some 33, [], fun _ v => v = .agg #[vo]⟩, ⟨some 34, [], fun _ v => v = .slice (some ⟨b, off, none⟩) n c⟩, ⟨some 35, [], fun _ v => v = .slice (some ⟨bz, offz, none⟩) nz cz⟩, ⟨some 36, [], fun _ v => v = .int .i64 (j : Int)⟩, ⟨some 37, [(2, 35), (3, 36)], fun _ v => v = .pointer (some ⟨bz, offz + j, none⟩)⟩, ⟨some 38, [(4, 37)], fun _ v => v = .int .i64 (i : Int)⟩, ⟨some 39, [(1, 34), (5, 38)], fun _ v => v = .pointer (some ⟨b, off + i, none⟩)⟩, ⟨some 40, [(6, 39)], fun _ v => v = .agg #[s]⟩, ⟨some 41, [(0, 33), (7, 40)], MadeS wr (fun s => .tuple #[.agg #[s], .int .i64 d]) J2⟩, ⟨some 32, [(8, 41)], MadeS wr (fun s => .tuple #[.agg #[s], .int .i64 d]) J2⟩, ⟨some 42, [(9, 32)], MadeS wr (fun s => .agg #[s]) J2⟩, ⟨some 43, [(9, 32)], fun _ v => v = .int .i64 d⟩, ⟨some 8, [], NewB wr⟩] [33, 34, 35, 36, 37, 38, 39, 40, 41, 32, 42, 43, 8] (false :: false :: false :: false :: false :: false :: false :: false :: true :: false :: false :: false :: false :: false :: false :: false :: false :: false :: false :: false :: false :: false :: false :: false :: false :: false :: false :: false :: false :: false :: false :: false :: true :: true :: true :: true :: true :: true :: true :: true :: true :: true :: true :: true :: []) [(some 33, []), (some 34, []), (some 35, []), (some 36, []), (some 37, [(2, 35), (3, 36)]), (some 38, [(4, 37)]), (some 39, [(1, 34), (5, 38)]), (some 40, [(6, 39)]), (some 41, [(0, 33), (7, 40)]), (some 32, [(8, 41)]), (some 42, [(9, 32)]), (some 43, [(9, 32)]), (some 8, [])] 11 rfl (by kernel_rfl) (by kernel_rfl) (by rfl) (by rfl) ?_ (by rfl) (by rfl) ?_ ?_ ?_
            · exact stable_cons (fun _ _ _ _ h => h) (stable_cons (fun _ _ _ _ h => h) (stable_cons (fun _ _ _ _ h => h) (stable_cons (fun _ _ _ _ h => h) (stable_cons (fun _ _ _ _ h => h) (stable_cons (fun _ _ _ _ h => h) (stable_cons (fun _ _ _ _ h => h) (stable_cons (fun _ _ _ _ h => h) (stable_cons MadeS.keep (stable_cons MadeS.keep (stable_cons MadeS.keep (stable_cons (fun _ _ _ _ h => h) (stable_cons NewB.keep (stable_nil)))))))))))))
            · refine hops_cons ?_ (hops_cons ?_ (hops_cons ?_ (hops_cons ?_ (hops_cons ?_ (hops_cons ?_ (hops_cons ?_ (hops_cons ?_ (hops_cons ?_ (hops_cons ?_ (hops_cons ?_ (hops_cons ?_ (hops_cons ?_ (trivial)))))))))))))
              · unfold HopM; intro u wn hb hk; have H0 := H; replace H := H.call hb
                simp only [fillM]
                go_wp2_with (first | go_skip | ((with_reducible apply ld_bk); rfl; rfl; (focus (apply H.one; (repeat (first | with_reducible exact mH | with_reducible apply mT)); done))) | ((with_reducible refine ld_bk ?_ ?_ (HS.out.keep H.bel) ?_); rfl; rfl) | ((with_reducible refine ld_one (ty := 3) Tryz.underlying3 rfl ?_ ?_ (HI.out.keep H.bel) ?_); rfl; rfl))
                exact ⟨rfl, Below.refl _ _, .agg #[vo], rfl, rfl⟩
              · unfold HopM; intro u wn hb hk; have H0 := H; replace H := H.call hb
                simp only [fillM]
                go_wp2_with (first | go_skip | ((with_reducible apply ld_bk); rfl; rfl; (focus (apply H.one; (repeat (first | with_reducible exact mH | with_reducible apply mT)); done))) | ((with_reducible refine ld_bk ?_ ?_ (HS.out.keep H.bel) ?_); rfl; rfl) | ((with_reducible refine ld_one (ty := 3) Tryz.underlying3 rfl ?_ ?_ (HI.out.keep H.bel) ?_); rfl; rfl))
                exact ⟨rfl, Below.refl _ _, .slice (some ⟨b, off, none⟩) n c, rfl, rfl⟩
              · unfold HopM; intro u wn hb hk; have H0 := H; replace H := H.call hb
                simp only [fillM]
                go_wp2_with (first | go_skip | ((with_reducible apply ld_bk); rfl; rfl; (focus (apply H.one; (repeat (first | with_reducible exact mH | with_reducible apply mT)); done))) | ((with_reducible refine ld_bk ?_ ?_ (HS.out.keep H.bel) ?_); rfl; rfl) | ((with_reducible refine ld_one (ty := 3) Tryz.underlying3 rfl ?_ ?_ (HI.out.keep H.bel) ?_); rfl; rfl))
                exact ⟨rfl, Below.refl _ _, .slice (some ⟨bz, offz, none⟩) nz cz, rfl, rfl⟩
              · unfold HopM; intro u wn hb hk; have H0 := H; replace H := H.call hb
                simp only [fillM]
                go_wp2_with (first | go_skip | ((with_reducible apply ld_bk); rfl; rfl; (focus (apply H.one; (repeat (first | with_reducible exact mH | with_reducible apply mT)); done))) | ((with_reducible refine ld_bk ?_ ?_ (HS.out.keep H.bel) ?_); rfl; rfl) | ((with_reducible refine ld_one (ty := 3) Tryz.underlying3 rfl ?_ ?_ (HI.out.keep H.bel) ?_); rfl; rfl))
                exact ⟨rfl, Below.refl _ _, .int .i64 (j : Int), rfl, rfl⟩
              · unfold HopM; intro u wn hb hk; have H0 := H; replace H := H.call hb
                obtain ⟨hq2, hq3, -⟩ := hk
                replace hq2 := hq2 _ rfl; dsimp only at hq2
                replace hq3 := hq3 _ rfl; dsimp only at hq3
                simp only [fillM, hq2, hq3]
                clear hq2 hq3
                go_wp2_with (first | go_skip | ((with_reducible apply ld_bk); rfl; rfl; (focus (apply H.one; (repeat (first | with_reducible exact mH | with_reducible apply mT)); done))) | ((with_reducible refine ld_bk ?_ ?_ (HS.out.keep H.bel) ?_); rfl; rfl) | ((with_reducible refine ld_one (ty := 3) Tryz.underlying3 rfl ?_ ?_ (HI.out.keep H.bel) ?_); rfl; rfl))
                exact ⟨rfl, Below.refl _ _, .pointer (some ⟨bz, offz + j, none⟩), rfl, rfl⟩
              · unfold HopM; intro u wn hb hk; have H0 := H; replace H := H.call hb
                obtain ⟨hq4, -⟩ := hk
                replace hq4 := hq4 _ rfl; dsimp only at hq4
                simp only [fillM, hq4]
                clear hq4
                go_wp2_with (first | go_skip | ((with_reducible apply ld_bk); rfl; rfl; (focus (apply H.one; (repeat (first | with_reducible exact mH | with_reducible apply mT)); done))) | ((with_reducible refine ld_bk ?_ ?_ (HS.out.keep H.bel) ?_); rfl; rfl) | ((with_reducible refine ld_one (ty := 3) Tryz.underlying3 rfl ?_ ?_ (HI.out.keep H.bel) ?_); rfl; rfl))
                exact ⟨rfl, Below.refl _ _, .int .i64 (i : Int), rfl, rfl⟩
              · unfold HopM; intro u wn hb hk; have H0 := H; replace H := H.call hb
                obtain ⟨hq1, hq5, -⟩ := hk
                replace hq1 := hq1 _ rfl; dsimp only at hq1
                replace hq5 := hq5 _ rfl; dsimp only at hq5
                simp only [fillM, hq1, hq5]
                clear hq1 hq5
                go_wp2_with (first | go_skip | ((with_reducible apply ld_bk); rfl; rfl; (focus (apply H.one; (repeat (first | with_reducible exact mH | with_reducible apply mT)); done))) | ((with_reducible refine ld_bk ?_ ?_ (HS.out.keep H.bel) ?_); rfl; rfl) | ((with_reducible refine ld_one (ty := 3) Tryz.underlying3 rfl ?_ ?_ (HI.out.keep H.bel) ?_); rfl; rfl))
                exact ⟨rfl, Below.refl _ _, .pointer (some ⟨b, off + i, none⟩), rfl, rfl⟩
              · unfold HopM; intro u wn hb hk; have H0 := H; replace H := H.call hb
                obtain ⟨hq6, -⟩ := hk
                replace hq6 := hq6 _ rfl; dsimp only at hq6
                simp only [fillM, hq6]
                clear hq6
                go_wp2_with (first | go_skip | ((with_reducible apply ld_bk); rfl; rfl; (focus (apply H.one; (repeat (first | with_reducible exact mH | with_reducible apply mT)); done))) | ((with_reducible refine ld_bk ?_ ?_ (HS.out.keep H.bel) ?_); rfl; rfl) | ((with_reducible refine ld_one (ty := 3) Tryz.underlying3 rfl ?_ ?_ (HI.out.keep H.bel) ?_); rfl; rfl))
                exact ⟨rfl, Below.refl _ _, .agg #[s], rfl, rfl⟩
              · unfold HopM; intro u wn hb hk; have H0 := H; replace H := H.call hb
                obtain ⟨hq0, hq7, -⟩ := hk
                replace hq0 := hq0 _ rfl; dsimp only at hq0
                replace hq7 := hq7 _ rfl; dsimp only at hq7
                simp only [fillM, hq0, hq7]
                clear hq0 hq7
                go_wp2_with (first | go_skip | (go_at_call 12; (with_reducible refine (rbjoin_c Hd.out HJ.out _ (Jo.out _ (H.get (r := ro) (by (repeat (first | with_reducible exact mH | with_reducible apply mT))))) (HR.out.below H.bel)).mono ?_); rintro e wm ⟨vj, rj, rfl, hrj, hs⟩))
                exact ⟨rfl, hs.bel, _, rfl, MadeS.of (f := fun s => .tuple #[.agg #[s], .int .i64 d]) hrj hs hb.size⟩
              · unfold HopM; intro u wn hb hk; have H0 := H; replace H := H.call hb
                obtain ⟨hq8, -⟩ := hk
                replace hq8 := hq8 _ rfl; dsimp only at hq8; obtain ⟨sj, lj, hq8, g0, g1, g2⟩ := hq8; dsimp only at hq8
                simp only [fillM, hq8]
                clear hq8
                go_wp2_with (first | go_skip)
                exact ⟨rfl, Below.refl _ _, _, rfl, sj, lj, rfl, g0, g1, g2⟩
              · unfold HopM; intro u wn hb hk; have H0 := H; replace H := H.call hb
                obtain ⟨hq9, -⟩ := hk
                replace hq9 := hq9 _ rfl; dsimp only at hq9; obtain ⟨sj, lj, hq9, g0, g1, g2⟩ := hq9; dsimp only at hq9
                simp only [fillM, hq9]
                clear hq9
                go_wp2_with (first | go_skip)
                exact ⟨rfl, Below.refl _ _, _, rfl, sj, lj, rfl, g0, g1, g2⟩
              · unfold HopM; intro u wn hb hk; have H0 := H; replace H := H.call hb
                obtain ⟨hq9, -⟩ := hk
                replace hq9 := hq9 _ rfl; dsimp only at hq9; obtain ⟨sj, lj, hq9, g0, g1, g2⟩ := hq9; dsimp only at hq9
                simp only [fillM, hq9]
                clear hq9
                go_wp2_with (first | go_skip | ((with_reducible apply ld_bk); rfl; rfl; (focus (apply H.one; (repeat (first | with_reducible exact mH | with_reducible apply mT)); done))) | ((with_reducible refine ld_bk ?_ ?_ (HS.out.keep H.bel) ?_); rfl; rfl) | ((with_reducible refine ld_one (ty := 3) Tryz.underlying3 rfl ?_ ?_ (HI.out.keep H.bel) ?_); rfl; rfl))
                exact ⟨rfl, Below.refl _ _, .int .i64 d, rfl, rfl⟩
              · unfold HopM; intro u wn hb hk; have H0 := H; replace H := H.call hb
                simp only [fillM]
                go_wp2_with (first | go_skip | ((with_reducible apply al_bk (St.init _)); intro wm kJ HM))
                exact ⟨rfl, HM.bel, _, rfl, kJ, rfl, HM.get mH, Nat.le_trans hb.size (HM.base _ mH kJ rfl)⟩
            · intro u wn hb hk
              obtain ⟨hq9, -⟩ := hk
              replace hq9 := hq9 _ rfl; dsimp only at hq9; obtain ⟨sj, lj, hq9, g0, g1, g2⟩ := hq9; dsimp only at hq9
              simp only [fillM, hq9]
              exact ⟨.int .i64 d, .inl ⟨rfl, fun W => rfl⟩, rfl⟩
            intro u wn hb hk; have H0 := H; replace H := H.call hb
            obtain ⟨hq0, hq1, hq2, hq3, hq4, hq5, hq6, hq7, hq8, hq9, hq10, hq11, hq12, -⟩ := hk
            replace hq0 := hq0 _ rfl; dsimp only at hq0
            replace hq1 := hq1 _ rfl; dsimp only at hq1
            replace hq2 := hq2 _ rfl; dsimp only at hq2
            replace hq3 := hq3 _ rfl; dsimp only at hq3
            replace hq4 := hq4 _ rfl; dsimp only at hq4
            replace hq5 := hq5 _ rfl; dsimp only at hq5
            replace hq6 := hq6 _ rfl; dsimp only at hq6
            replace hq7 := hq7 _ rfl; dsimp only at hq7
            replace hq8 := hq8 _ rfl; dsimp only at hq8; obtain ⟨sj, lj, hq8, g0, g1, g2⟩ := hq8; dsimp only at hq8
            replace hq9 := hq9 _ rfl; dsimp only at hq9; obtain ⟨sj, lj, hq9, g0, g1, g2⟩ := hq9; dsimp only at hq9
            replace hq10 := hq10 _ rfl; dsimp only at hq10; obtain ⟨sj, lj, hq10, g0, g1, g2⟩ := hq10; dsimp only at hq10
            replace hq11 := hq11 _ rfl; dsimp only at hq11
            replace hq12 := hq12 _ rfl; dsimp only at hq12; obtain ⟨kJ, hq12, hK, hB⟩ := hq12; replace H := H0.both hb g1 g2 hK hB; have HJ2 := Lib.hid (fun W h => by have := rs_reads sj lj W h; rwa [g0] at this); have T1 : Hid (sj.oneCell' = true) := Lib.hid (HJ2.out _ g1).one; clear g0 g1 g2 hK hB
            simp only [fillM, List.length_cons, List.length_nil, Nat.reduceAdd, List.drop_succ_cons, List.drop_zero, hq0, hq1, hq2, hq3, hq4, hq5, hq6, hq7, hq8, hq9, hq10, hq11, hq12]
            clear hb H0 hq0 hq1 hq2 hq3 hq4 hq5 hq6 hq7 hq8 hq9 hq10 hq11 hq12
            go_wp2_with (first | go_skip | ((with_reducible apply ld_bk); rfl; rfl; (focus (apply H.one; (repeat (first | with_reducible exact mH | with_reducible apply mT)); done))) | (with_reducible apply bd_bk0) | ((with_reducible apply st_bk H); rfl; rfl; rfl; (repeat (first | with_reducible apply Upd.head | with_reducible apply Upd.tail)); (first | rfl | assumption | (refine Hid.out ?_; assumption)); clear H; intro wn H))
            all_goals first | (rw [Exit.noGoto_ret]) | skip
            have hR := H.arr (b := kR) (t := 24) (cs := #[.slice none 0 0]) (by (repeat (first | with_reducible exact mH | with_reducible apply mT)))
            exact bodyPost_ret (results_cell_tmp Tryz.results32 _ _ kR #[.slice none 0 0] _ _ rfl rfl hR Tryz.underlying24 rfl bk_info) rfl ⟨.slice none 0 0, Res.none, rfl, fun W _ => Recs.nil W, H.addNone.sub (by (repeat (first | with_reducible exact List.Sublist.refl _ | with_reducible refine List.Sublist.cons_cons _ ?_ | refine List.Sublist.cons _ ?_)))⟩
        · rw [if_neg (by omega)] at hstep
          have hc1 : decide ((n : Int) ≤ i) = true := decide_eq_true (by omega)
          have hc0 : decide (i < 0) = false := decide_eq_false (by omega)
          cases hstep
          go_wp2_with (first | go_skip | ((with_reducible refine ld_one (ty := 3) Tryz.underlying3 rfl ?_ ?_ (HI.out.keep H.bel) ?_); rfl; rfl) | ((with_reducible apply ld_bk); rfl; rfl; (focus (apply H.one; (repeat (first | with_reducible exact mH | with_reducible apply mT)); done))) | (with_reducible apply bd_bk0) | ((with_reducible apply st_bk H); rfl; rfl; rfl; (repeat (first | with_reducible apply Upd.head | with_reducible apply Upd.tail)); (first | rfl | assumption | (refine Hid.out ?_; assumption)); clear H; intro wn H))
          all_goals first | (rw [Exit.noGoto_ret]) | skip
          have hR := H.arr (b := kR) (t := 24) (cs := #[.slice none 0 0]) (by (repeat (first | with_reducible exact mH | with_reducible apply mT)))
          exact bodyPost_ret (results_cell_tmp Tryz.results32 _ _ kR #[.slice none 0 0] _ _ rfl rfl hR Tryz.underlying24 rfl bk_info) rfl ⟨.slice none 0 0, Res.none, rfl, fun W _ => Recs.nil W, H.addNone.sub (by (repeat (first | with_reducible exact List.Sublist.refl _ | with_reducible refine List.Sublist.cons_cons _ ?_ | refine List.Sublist.cons _ ?_)))⟩
    · have hjn : j = nz := by omega
      subst hjn
      have hI := I.out
      rw [← Hnz.out, List.drop_length, auJ] at hI
      cases hI
      go_wp2_with (first | go_skip | ((fail_if_success have := kR); (with_reducible apply al_bk H); clear H; intro wn kR H) | ((fail_if_success have := kO); (with_reducible apply al_bk H); clear H; intro wn kO H) | ((with_reducible apply ld_bk); rfl; rfl; (focus (apply H.one; (repeat (first | with_reducible exact mH | with_reducible apply mT)); done))) | (with_reducible apply bd_bk0) | ((with_reducible apply st_bk H); rfl; rfl; rfl; (repeat (first | with_reducible apply Upd.head | with_reducible apply Upd.tail)); (first | rfl | assumption | (refine Hid.out ?_; assumption)); clear H; intro wn H))
      all_goals first | (rw [Exit.noGoto_ret]) | skip
      have hR := H.arr (b := kR) (t := 24) (cs := #[vo]) (by (repeat (first | with_reducible exact mH | with_reducible apply mT)))
      exact bodyPost_ret (results_cell_tmp Tryz.results32 _ _ kR #[vo] _ _ rfl rfl hR Tryz.underlying24 rfl bk_info) rfl ⟨vo, ro, rfl, Jo.out, H.sub (by (repeat (first | with_reducible exact List.Sublist.refl _ | with_reducible refine List.Sublist.cons_cons _ ?_ | refine List.Sublist.cons _ ?_)))⟩
end Go.Proofs.YtolbmemogoojhaaGreat
