/- Books together, of numbers. -/
import Derived.Test.YtolbmemogoojhaaAudC
import Derived.Test.YtolbmemogoojhaaRsP
namespace Go.Proofs.Ytolbmemogoojhaa
open Go Go.RowKit Go.Deep
set_option linter.unusedVariables false
set_option linter.unusedSimpArgs false
set_option maxRecDepth 100000
theorem encZ_get {l : List Int} {j : Nat} {i : Int} (h : l[j]? = some i) : (encZ l)[j]? = some (.int .i64 i) := by simp [encZ, h]
theorem auJ_step {LL : List BK} {J : BK} {of : List Int} {j : Nat} {i : Int} (h : of[j]? = some i) : auJ LL J (of.drop j) = if 0 ≤ i ∧ i < (LL.length : Int) then (if bCan J (bAt LL i) = 0 then auJ LL (bJ J (bAt LL i)) (of.drop (j + 1)) else (bCan J (bAt LL i), [])) else (6, []) := by
  rw [drop_at h, auJ]
theorem bAt_get {LL : List BK} {i : Nat} {L : BK} (h : LL[i]? = some L) : bAt LL (i : Int) = L := by
  unfold bAt
  rw [Int.toNat_natCast, List.getD_eq_getElem?_getD, h]; rfl
set_option maxHeartbeats 6400000 in
theorem ajoin_c {v zv : Value} {LL : List BK} {of : List Int} {dd : Int} {JJ : BK} (h : auJ LL [] of = (dd, JJ)) (w : World) (hv : Bks w v LL) (hz : Row w 1 zv of.length (encZ of)) : Calls Try.prog 39 #[v, zv] w (JoinP w dd JJ) := by
  obtain ⟨n, hn⟩ : ∃ n, LL.length = n := ⟨_, rfl⟩
  obtain ⟨a, c, rfl, hm1, _⟩ := id hv.slice
  rw [hn] at hv hm1 ⊢
  unfold maxLen at hm1
  obtain ⟨nz, hnz⟩ : ∃ n, of.length = n := ⟨_, rfl⟩
  rw [hnz] at hz
  obtain ⟨_, az, cz, rfl, hm2, hm3, _⟩ := id hz
  unfold maxLen at hm3
  have Hv := Lib.hid hv; have Hn := Lib.hid hn; have Hz := Lib.hid hz; have Hnz := Lib.hid hnz; have HA := Lib.hid h; clear hv hn hz hnz h
  have Hone0 : Hid (Value.oneCell' (.slice none 0 0) = true) := Lib.hid rfl
  have H := St.init w
  go_enter Try.func39, Try.ntmps39
  go_wp2_with (first | go_skip | ((fail_if_success have := kR); (with_reducible apply al_bk H); clear H; intro wn kR H) | ((fail_if_success have := kO); (with_reducible apply al_bk H); clear H; intro wn kO H) | ((with_reducible apply ld_bk); rfl; rfl; (focus (apply H.one; (repeat (first | with_reducible exact List.mem_cons_self | with_reducible apply List.mem_cons_of_mem)); done))) | (with_reducible apply bd_bk0) | ((with_reducible apply st_bk H); rfl; rfl; rfl; (repeat (first | with_reducible apply Upd.head | with_reducible apply Upd.tail)); (first | rfl | assumption | (refine Hid.out ?_; assumption)); clear H; intro wn H))
  go_loopw [13] (fun i wr => ∃ (j : Nat) (J : BK) (vo : Value) (ro : Res), j ≤ nz ∧ i = .int .i64 j ∧ Hid (auJ LL J (of.drop j) = (dd, JJ)) ∧ Hid (∀ W, ro.holds W → Recs W vo J) ∧ Hid (vo.oneCell' = true) ∧ St w wr [ro, Res.blk kO 24 #[vo], Res.blk kR 24 #[.slice none 0 0]]) (fun i _ => nz - (intOf i).toNat)
  case atStart => exact ⟨0, [], .slice none 0 0, Res.none, by omega, rfl, HA, Lib.hid (fun W _ => Recs.nil W), Hone0, H.addNone⟩
  case round =>
    clear H
    obtain ⟨j, J, vo, ro, hj, rfl, I, Jo, To, H⟩ := hrel
    by_cases hlt : j < nz
    · obtain ⟨i, hi⟩ : ∃ i, of[j]? = some i := ⟨_, List.getElem?_eq_getElem (by rw [Hnz.out]; exact hlt)⟩
      obtain ⟨bz, offz, c', he, hS⟩ := row1_at Hz.out (encZ_get hi)
      injection he with e1 e2 e3
      subst e1 e3
      have HI := Lib.hid hS
      have hstep := auJ_step (LL := LL) (J := J) hi
      rw [I.out, Hn.out] at hstep
      clear hS hi e2
      by_cases h0 : i < 0
      · rw [if_neg (by omega)] at hstep
        cases hstep
        have hc0 : decide (i < 0) = true := decide_eq_true h0
        go_wp2_with (first | go_skip | ((with_reducible refine ld_one (ty := 3) Try.underlying3 rfl ?_ ?_ (HI.out.keep H.bel) ?_); rfl; rfl) | ((with_reducible apply ld_bk); rfl; rfl; (focus (apply H.one; (repeat (first | with_reducible exact List.mem_cons_self | with_reducible apply List.mem_cons_of_mem)); done))) | (with_reducible apply bd_bk0) | ((with_reducible apply st_bk H); rfl; rfl; rfl; (repeat (first | with_reducible apply Upd.head | with_reducible apply Upd.tail)); (first | rfl | assumption | (refine Hid.out ?_; assumption)); clear H; intro wn H))
        all_goals first | (rw [Exit.noGoto_ret]) | skip
        have hR := H.arr (b := kR) (t := 24) (cs := #[.slice none 0 0]) (by (repeat (first | with_reducible exact List.mem_cons_self | with_reducible apply List.mem_cons_of_mem)))
        exact bodyPost_ret (results_cell_tmp Try.results39 _ _ kR #[.slice none 0 0] _ _ rfl rfl hR Try.underlying24 rfl bk_info) rfl ⟨.slice none 0 0, Res.none, rfl, fun W _ => Recs.nil W, H.addNone.sub (by (repeat (first | with_reducible exact List.Sublist.refl _ | with_reducible refine List.Sublist.cons_cons _ ?_ | refine List.Sublist.cons _ ?_)))⟩
      · by_cases h1 : i < (n : Int)
        · obtain ⟨i, rfl⟩ : ∃ k : Nat, i = (k : Int) := ⟨i.toNat, by omega⟩
          rw [if_pos (by omega)] at hstep
          obtain ⟨L, hL⟩ : ∃ L, LL[i]? = some L := ⟨_, List.getElem?_eq_getElem (by rw [Hn.out]; omega)⟩
          obtain ⟨b, off, s, rfl, hs, hR⟩ := Hv.out.at hL
          have HS := Lib.hid hs; have HR := Lib.hid hR
          rw [bAt_get hL] at hstep
          obtain ⟨d, hd⟩ : ∃ d, bCan J L = d := ⟨_, rfl⟩
          obtain ⟨J2, hJ⟩ : ∃ x, bJ J L = x := ⟨_, rfl⟩
          rw [hd, hJ] at hstep
          have Hd := Lib.hid hd; have HJ := Lib.hid hJ
          have hin : i < n := by omega
          have hc0 : decide ((i : Int) < 0) = false := decide_eq_false (by omega)
          have hc2 : decide (n ≤ i) = false := decide_eq_false (by omega)
          clear hs hR hL hd hJ h0 h1
          by_cases hd0 : d = 0
          · subst hd0
            rw [if_pos rfl] at hstep
            have I2 := Lib.hid hstep.symm
            clear hstep
            go_wp2_with (first | go_skip | ((with_reducible refine ld_one (ty := 3) Try.underlying3 rfl ?_ ?_ (HI.out.keep H.bel) ?_); rfl; rfl) | ((with_reducible apply ld_bk); rfl; rfl; (focus (apply H.one; (repeat (first | with_reducible exact List.mem_cons_self | with_reducible apply List.mem_cons_of_mem)); done))) | (with_reducible apply bd_bk0) | ((with_reducible apply st_bk H); rfl; rfl; rfl; (repeat (first | with_reducible apply Upd.head | with_reducible apply Upd.tail)); (first | rfl | assumption | (refine Hid.out ?_; assumption)); clear H; intro wn H))
            (try simp only [Act.put, List.setIfInBounds_toArray, List.set_cons_zero, List.set_cons_succ])
            refine wp_slotsMQ [⟨some 27, [], fun _ v => v = .agg #[vo]⟩, ⟨some 28, [], fun _ v => v = .slice (some ⟨b, off, none⟩) n c⟩, ⟨some 29, [], fun _ v => v = .int .i64 (i : Int)⟩, ⟨some 30, [(1, 28), (2, 29)], fun _ v => v = .pointer (some ⟨b, off + i, none⟩)⟩, ⟨some 31, [(3, 30)], fun _ v => v = .agg #[s]⟩, ⟨some 32, [(0, 27), (4, 31)], MadeS wr (fun s => .tuple #[.agg #[s], .int .i64 0]) J2⟩, ⟨some 26, [(5, 32)], MadeS wr (fun s => .tuple #[.agg #[s], .int .i64 0]) J2⟩, ⟨some 33, [(6, 26)], MadeS wr (fun s => .agg #[s]) J2⟩, ⟨some 34, [(6, 26)], fun _ v => v = .int .i64 0⟩, ⟨some 9, [], NewB wr⟩] [27, 28, 29, 30, 31, 32, 26, 33, 34, 9] (false :: false :: false :: false :: false :: false :: false :: false :: false :: true :: false :: false :: false :: false :: false :: false :: false :: false :: false :: false :: false :: false :: false :: false :: false :: false :: true :: true :: true :: true :: true :: true :: true :: true :: true :: []) [(some 27, []), (some 28, []), (some 29, []), (some 30, [(1, 28), (2, 29)]), (some 31, [(3, 30)]), (some 32, [(0, 27), (4, 31)]), (some 26, [(5, 32)]), (some 33, [(6, 26)]), (some 34, [(6, 26)]), (some 9, [])] 8 rfl (by kernel_rfl) (by kernel_rfl) (by rfl) (by rfl) ?_ (by rfl) (by rfl) ?_ ?_ ?_
            · exact stable_cons (fun _ _ _ _ h => h) (stable_cons (fun _ _ _ _ h => h) (stable_cons (fun _ _ _ _ h => h) (stable_cons (fun _ _ _ _ h => h) (stable_cons (fun _ _ _ _ h => h) (stable_cons MadeS.keep (stable_cons MadeS.keep (stable_cons MadeS.keep (stable_cons (fun _ _ _ _ h => h) (stable_cons NewB.keep (stable_nil))))))))))
            · refine hops_cons ?_ (hops_cons ?_ (hops_cons ?_ (hops_cons ?_ (hops_cons ?_ (hops_cons ?_ (hops_cons ?_ (hops_cons ?_ (hops_cons ?_ (hops_cons ?_ (trivial))))))))))
              · unfold HopM; intro u wn hb hk; have H0 := H; replace H := H.call hb
                simp only [fillM]
                go_wp2_with (first | go_skip | ((with_reducible apply ld_bk); rfl; rfl; (focus (apply H.one; (repeat (first | with_reducible exact List.mem_cons_self | with_reducible apply List.mem_cons_of_mem)); done))) | ((with_reducible refine ld_bk ?_ ?_ (HS.out.keep H.bel) ?_); rfl; rfl))
                exact ⟨rfl, Below.refl _ _, .agg #[vo], rfl, rfl⟩
              · unfold HopM; intro u wn hb hk; have H0 := H; replace H := H.call hb
                simp only [fillM]
                go_wp2_with (first | go_skip | ((with_reducible apply ld_bk); rfl; rfl; (focus (apply H.one; (repeat (first | with_reducible exact List.mem_cons_self | with_reducible apply List.mem_cons_of_mem)); done))) | ((with_reducible refine ld_bk ?_ ?_ (HS.out.keep H.bel) ?_); rfl; rfl))
                exact ⟨rfl, Below.refl _ _, .slice (some ⟨b, off, none⟩) n c, rfl, rfl⟩
              · unfold HopM; intro u wn hb hk; have H0 := H; replace H := H.call hb
                simp only [fillM]
                go_wp2_with (first | go_skip | ((with_reducible apply ld_bk); rfl; rfl; (focus (apply H.one; (repeat (first | with_reducible exact List.mem_cons_self | with_reducible apply List.mem_cons_of_mem)); done))) | ((with_reducible refine ld_bk ?_ ?_ (HS.out.keep H.bel) ?_); rfl; rfl))
                exact ⟨rfl, Below.refl _ _, .int .i64 (i : Int), rfl, rfl⟩
              · unfold HopM; intro u wn hb hk; have H0 := H; replace H := H.call hb
                obtain ⟨hq1, hq2, -⟩ := hk
                replace hq1 := hq1 _ rfl; dsimp only at hq1
                replace hq2 := hq2 _ rfl; dsimp only at hq2
                simp only [fillM, hq1, hq2]
                clear hq1 hq2
                go_wp2_with (first | go_skip | ((with_reducible apply ld_bk); rfl; rfl; (focus (apply H.one; (repeat (first | with_reducible exact List.mem_cons_self | with_reducible apply List.mem_cons_of_mem)); done))) | ((with_reducible refine ld_bk ?_ ?_ (HS.out.keep H.bel) ?_); rfl; rfl))
                exact ⟨rfl, Below.refl _ _, .pointer (some ⟨b, off + i, none⟩), rfl, rfl⟩
              · unfold HopM; intro u wn hb hk; have H0 := H; replace H := H.call hb
                obtain ⟨hq3, -⟩ := hk
                replace hq3 := hq3 _ rfl; dsimp only at hq3
                simp only [fillM, hq3]
                clear hq3
                go_wp2_with (first | go_skip | ((with_reducible apply ld_bk); rfl; rfl; (focus (apply H.one; (repeat (first | with_reducible exact List.mem_cons_self | with_reducible apply List.mem_cons_of_mem)); done))) | ((with_reducible refine ld_bk ?_ ?_ (HS.out.keep H.bel) ?_); rfl; rfl))
                exact ⟨rfl, Below.refl _ _, .agg #[s], rfl, rfl⟩
              · unfold HopM; intro u wn hb hk; have H0 := H; replace H := H.call hb
                obtain ⟨hq0, hq4, -⟩ := hk
                replace hq0 := hq0 _ rfl; dsimp only at hq0
                replace hq4 := hq4 _ rfl; dsimp only at hq4
                simp only [fillM, hq0, hq4]
                clear hq0 hq4
                go_wp2_with (first | go_skip | (go_at_call 23; (with_reducible refine (bkjoin_c Hd.out HJ.out _ (Jo.out _ (H.get (r := ro) (by (repeat (first | with_reducible exact List.mem_cons_self | with_reducible apply List.mem_cons_of_mem))))) (HR.out.below H.bel)).mono ?_); rintro e wm ⟨vj, rj, rfl, hrj, hs⟩))
                exact ⟨rfl, hs.bel, _, rfl, MadeS.of (f := fun s => .tuple #[.agg #[s], .int .i64 0]) hrj hs hb.size⟩
              · unfold HopM; intro u wn hb hk; have H0 := H; replace H := H.call hb
                obtain ⟨hq5, -⟩ := hk
                replace hq5 := hq5 _ rfl; dsimp only at hq5; obtain ⟨sj, lj, hq5, g0, g1, g2⟩ := hq5; dsimp only at hq5
                simp only [fillM, hq5]
                clear hq5
                go_wp2_with (first | go_skip)
                exact ⟨rfl, Below.refl _ _, _, rfl, sj, lj, rfl, g0, g1, g2⟩
              · unfold HopM; intro u wn hb hk; have H0 := H; replace H := H.call hb
                obtain ⟨hq6, -⟩ := hk
                replace hq6 := hq6 _ rfl; dsimp only at hq6; obtain ⟨sj, lj, hq6, g0, g1, g2⟩ := hq6; dsimp only at hq6
                simp only [fillM, hq6]
                clear hq6
                go_wp2_with (first | go_skip)
                exact ⟨rfl, Below.refl _ _, _, rfl, sj, lj, rfl, g0, g1, g2⟩
              · unfold HopM; intro u wn hb hk; have H0 := H; replace H := H.call hb
                obtain ⟨hq6, -⟩ := hk
                replace hq6 := hq6 _ rfl; dsimp only at hq6; obtain ⟨sj, lj, hq6, g0, g1, g2⟩ := hq6; dsimp only at hq6
                simp only [fillM, hq6]
                clear hq6
                go_wp2_with (first | go_skip | ((with_reducible apply ld_bk); rfl; rfl; (focus (apply H.one; (repeat (first | with_reducible exact List.mem_cons_self | with_reducible apply List.mem_cons_of_mem)); done))) | ((with_reducible refine ld_bk ?_ ?_ (HS.out.keep H.bel) ?_); rfl; rfl))
                exact ⟨rfl, Below.refl _ _, .int .i64 0, rfl, rfl⟩
              · unfold HopM; intro u wn hb hk; have H0 := H; replace H := H.call hb
                simp only [fillM]
                go_wp2_with (first | go_skip | ((with_reducible apply al_bk (St.init _)); intro wm kJ HM))
                exact ⟨rfl, HM.bel, _, rfl, kJ, rfl, HM.get List.mem_cons_self, Nat.le_trans hb.size (HM.base _ List.mem_cons_self kJ rfl)⟩
            · intro u wn hb hk
              obtain ⟨hq6, -⟩ := hk
              replace hq6 := hq6 _ rfl; dsimp only at hq6; obtain ⟨sj, lj, hq6, g0, g1, g2⟩ := hq6; dsimp only at hq6
              simp only [fillM, hq6]
              exact ⟨.int .i64 0, .inl ⟨rfl, fun W => rfl⟩, rfl⟩
            intro u wn hb hk; have H0 := H; replace H := H.call hb
            obtain ⟨hq0, hq1, hq2, hq3, hq4, hq5, hq6, hq7, hq8, hq9, -⟩ := hk
            replace hq0 := hq0 _ rfl; dsimp only at hq0
            replace hq1 := hq1 _ rfl; dsimp only at hq1
            replace hq2 := hq2 _ rfl; dsimp only at hq2
            replace hq3 := hq3 _ rfl; dsimp only at hq3
            replace hq4 := hq4 _ rfl; dsimp only at hq4
            replace hq5 := hq5 _ rfl; dsimp only at hq5; obtain ⟨sj, lj, hq5, g0, g1, g2⟩ := hq5; dsimp only at hq5
            replace hq6 := hq6 _ rfl; dsimp only at hq6; obtain ⟨sj, lj, hq6, g0, g1, g2⟩ := hq6; dsimp only at hq6
            replace hq7 := hq7 _ rfl; dsimp only at hq7; obtain ⟨sj, lj, hq7, g0, g1, g2⟩ := hq7; dsimp only at hq7
            replace hq8 := hq8 _ rfl; dsimp only at hq8
            replace hq9 := hq9 _ rfl; dsimp only at hq9; obtain ⟨kJ, hq9, hK, hB⟩ := hq9; replace H := H0.both hb g1 g2 hK hB; have HJ2 := Lib.hid (fun W h => by have := rs_reads sj lj W h; rwa [g0] at this); have T1 : Hid (sj.oneCell' = true) := Lib.hid (HJ2.out _ g1).one; clear g0 g1 g2 hK hB
            simp only [fillM, List.length_cons, List.length_nil, Nat.reduceAdd, List.drop_succ_cons, List.drop_zero, hq0, hq1, hq2, hq3, hq4, hq5, hq6, hq7, hq8, hq9]
            clear hb H0 hq0 hq1 hq2 hq3 hq4 hq5 hq6 hq7 hq8 hq9
            go_wp2_with (first | go_skip | ((with_reducible apply ld_bk); rfl; rfl; (focus (apply H.one; (repeat (first | with_reducible exact List.mem_cons_self | with_reducible apply List.mem_cons_of_mem)); done))) | (with_reducible apply bd_bk0) | ((with_reducible apply st_bk H); rfl; rfl; rfl; (repeat (first | with_reducible apply Upd.head | with_reducible apply Upd.tail)); (first | rfl | assumption | (refine Hid.out ?_; assumption)); clear H; intro wn H))
            go_roundw
            case rel => exact ⟨j + 1, J2, sj, Res.rs sj lj, by omega, by go_num, I2, HJ2, T1, H.sub (by (repeat (first | with_reducible exact List.Sublist.refl _ | with_reducible refine List.Sublist.cons_cons _ ?_ | refine List.Sublist.cons _ ?_)))⟩
            case measure => simp [intOf]; omega
          · rw [if_neg hd0] at hstep
            have e1 : d = dd := (congrArg Prod.fst hstep).symm
            have e2 : JJ = [] := congrArg Prod.snd hstep
            clear hstep
            subst e1 e2
            go_wp2_with (first | go_skip | ((with_reducible refine ld_one (ty := 3) Try.underlying3 rfl ?_ ?_ (HI.out.keep H.bel) ?_); rfl; rfl) | ((with_reducible apply ld_bk); rfl; rfl; (focus (apply H.one; (repeat (first | with_reducible exact List.mem_cons_self | with_reducible apply List.mem_cons_of_mem)); done))) | (with_reducible apply bd_bk0) | ((with_reducible apply st_bk H); rfl; rfl; rfl; (repeat (first | with_reducible apply Upd.head | with_reducible apply Upd.tail)); (first | rfl | assumption | (refine Hid.out ?_; assumption)); clear H; intro wn H))
            (try simp only [Act.put, List.setIfInBounds_toArray, List.set_cons_zero, List.set_cons_succ])
            refine wp_slotsMQ [⟨some 27, [], fun _ v => v = .agg #[vo]⟩, ⟨some 28, [], fun _ v => v = .slice (some ⟨b, off, none⟩) n c⟩, ⟨some 29, [], fun _ v => v = .int .i64 (i : Int)⟩, ⟨some 30, [(1, 28), (2, 29)], fun _ v => v = .pointer (some ⟨b, off + i, none⟩)⟩, ⟨some 31, [(3, 30)], fun _ v => v = .agg #[s]⟩, ⟨some 32, [(0, 27), (4, 31)], MadeS wr (fun s => .tuple #[.agg #[s], .int .i64 d]) J2⟩, ⟨some 26, [(5, 32)], MadeS wr (fun s => .tuple #[.agg #[s], .int .i64 d]) J2⟩, ⟨some 33, [(6, 26)], MadeS wr (fun s => .agg #[s]) J2⟩, ⟨some 34, [(6, 26)], fun _ v => v = .int .i64 d⟩, ⟨some 9, [], NewB wr⟩] [27, 28, 29, 30, 31, 32, 26, 33, 34, 9] (false :: false :: false :: false :: false :: false :: false :: false :: false :: true :: false :: false :: false :: false :: false :: false :: false :: false :: false :: false :: false :: false :: false :: false :: false :: false :: true :: true :: true :: true :: true :: true :: true :: true :: true :: []) [(some 27, []), (some 28, []), (some 29, []), (some 30, [(1, 28), (2, 29)]), (some 31, [(3, 30)]), (some 32, [(0, 27), (4, 31)]), (some 26, [(5, 32)]), (some 33, [(6, 26)]), (some 34, [(6, 26)]), (some 9, [])] 8 rfl (by kernel_rfl) (by kernel_rfl) (by rfl) (by rfl) ?_ (by rfl) (by rfl) ?_ ?_ ?_
            · exact stable_cons (fun _ _ _ _ h => h) (stable_cons (fun _ _ _ _ h => h) (stable_cons (fun _ _ _ _ h => h) (stable_cons (fun _ _ _ _ h => h) (stable_cons (fun _ _ _ _ h => h) (stable_cons MadeS.keep (stable_cons MadeS.keep (stable_cons MadeS.keep (stable_cons (fun _ _ _ _ h => h) (stable_cons NewB.keep (stable_nil))))))))))
            · refine hops_cons ?_ (hops_cons ?_ (hops_cons ?_ (hops_cons ?_ (hops_cons ?_ (hops_cons ?_ (hops_cons ?_ (hops_cons ?_ (hops_cons ?_ (hops_cons ?_ (trivial))))))))))
              · unfold HopM; intro u wn hb hk; have H0 := H; replace H := H.call hb
                simp only [fillM]
                go_wp2_with (first | go_skip | ((with_reducible apply ld_bk); rfl; rfl; (focus (apply H.one; (repeat (first | with_reducible exact List.mem_cons_self | with_reducible apply List.mem_cons_of_mem)); done))) | ((with_reducible refine ld_bk ?_ ?_ (HS.out.keep H.bel) ?_); rfl; rfl))
                exact ⟨rfl, Below.refl _ _, .agg #[vo], rfl, rfl⟩
              · unfold HopM; intro u wn hb hk; have H0 := H; replace H := H.call hb
                simp only [fillM]
                go_wp2_with (first | go_skip | ((with_reducible apply ld_bk); rfl; rfl; (focus (apply H.one; (repeat (first | with_reducible exact List.mem_cons_self | with_reducible apply List.mem_cons_of_mem)); done))) | ((with_reducible refine ld_bk ?_ ?_ (HS.out.keep H.bel) ?_); rfl; rfl))
                exact ⟨rfl, Below.refl _ _, .slice (some ⟨b, off, none⟩) n c, rfl, rfl⟩
              · unfold HopM; intro u wn hb hk; have H0 := H; replace H := H.call hb
                simp only [fillM]
                go_wp2_with (first | go_skip | ((with_reducible apply ld_bk); rfl; rfl; (focus (apply H.one; (repeat (first | with_reducible exact List.mem_cons_self | with_reducible apply List.mem_cons_of_mem)); done))) | ((with_reducible refine ld_bk ?_ ?_ (HS.out.keep H.bel) ?_); rfl; rfl))
                exact ⟨rfl, Below.refl _ _, .int .i64 (i : Int), rfl, rfl⟩
              · unfold HopM; intro u wn hb hk; have H0 := H; replace H := H.call hb
                obtain ⟨hq1, hq2, -⟩ := hk
                replace hq1 := hq1 _ rfl; dsimp only at hq1
                replace hq2 := hq2 _ rfl; dsimp only at hq2
                simp only [fillM, hq1, hq2]
                clear hq1 hq2
                go_wp2_with (first | go_skip | ((with_reducible apply ld_bk); rfl; rfl; (focus (apply H.one; (repeat (first | with_reducible exact List.mem_cons_self | with_reducible apply List.mem_cons_of_mem)); done))) | ((with_reducible refine ld_bk ?_ ?_ (HS.out.keep H.bel) ?_); rfl; rfl))
                exact ⟨rfl, Below.refl _ _, .pointer (some ⟨b, off + i, none⟩), rfl, rfl⟩
              · unfold HopM; intro u wn hb hk; have H0 := H; replace H := H.call hb
                obtain ⟨hq3, -⟩ := hk
                replace hq3 := hq3 _ rfl; dsimp only at hq3
                simp only [fillM, hq3]
                clear hq3
                go_wp2_with (first | go_skip | ((with_reducible apply ld_bk); rfl; rfl; (focus (apply H.one; (repeat (first | with_reducible exact List.mem_cons_self | with_reducible apply List.mem_cons_of_mem)); done))) | ((with_reducible refine ld_bk ?_ ?_ (HS.out.keep H.bel) ?_); rfl; rfl))
                exact ⟨rfl, Below.refl _ _, .agg #[s], rfl, rfl⟩
              · unfold HopM; intro u wn hb hk; have H0 := H; replace H := H.call hb
                obtain ⟨hq0, hq4, -⟩ := hk
                replace hq0 := hq0 _ rfl; dsimp only at hq0
                replace hq4 := hq4 _ rfl; dsimp only at hq4
                simp only [fillM, hq0, hq4]
                clear hq0 hq4
                go_wp2_with (first | go_skip | (go_at_call 23; (with_reducible refine (bkjoin_c Hd.out HJ.out _ (Jo.out _ (H.get (r := ro) (by (repeat (first | with_reducible exact List.mem_cons_self | with_reducible apply List.mem_cons_of_mem))))) (HR.out.below H.bel)).mono ?_); rintro e wm ⟨vj, rj, rfl, hrj, hs⟩))
                exact ⟨rfl, hs.bel, _, rfl, MadeS.of (f := fun s => .tuple #[.agg #[s], .int .i64 d]) hrj hs hb.size⟩
              · unfold HopM; intro u wn hb hk; have H0 := H; replace H := H.call hb
                obtain ⟨hq5, -⟩ := hk
                replace hq5 := hq5 _ rfl; dsimp only at hq5; obtain ⟨sj, lj, hq5, g0, g1, g2⟩ := hq5; dsimp only at hq5
                simp only [fillM, hq5]
                clear hq5
                go_wp2_with (first | go_skip)
                exact ⟨rfl, Below.refl _ _, _, rfl, sj, lj, rfl, g0, g1, g2⟩
              · unfold HopM; intro u wn hb hk; have H0 := H; replace H := H.call hb
                obtain ⟨hq6, -⟩ := hk
                replace hq6 := hq6 _ rfl; dsimp only at hq6; obtain ⟨sj, lj, hq6, g0, g1, g2⟩ := hq6; dsimp only at hq6
                simp only [fillM, hq6]
                clear hq6
                go_wp2_with (first | go_skip)
                exact ⟨rfl, Below.refl _ _, _, rfl, sj, lj, rfl, g0, g1, g2⟩
              · unfold HopM; intro u wn hb hk; have H0 := H; replace H := H.call hb
                obtain ⟨hq6, -⟩ := hk
                replace hq6 := hq6 _ rfl; dsimp only at hq6; obtain ⟨sj, lj, hq6, g0, g1, g2⟩ := hq6; dsimp only at hq6
                simp only [fillM, hq6]
                clear hq6
                go_wp2_with (first | go_skip | ((with_reducible apply ld_bk); rfl; rfl; (focus (apply H.one; (repeat (first | with_reducible exact List.mem_cons_self | with_reducible apply List.mem_cons_of_mem)); done))) | ((with_reducible refine ld_bk ?_ ?_ (HS.out.keep H.bel) ?_); rfl; rfl))
                exact ⟨rfl, Below.refl _ _, .int .i64 d, rfl, rfl⟩
              · unfold HopM; intro u wn hb hk; have H0 := H; replace H := H.call hb
                simp only [fillM]
                go_wp2_with (first | go_skip | ((with_reducible apply al_bk (St.init _)); intro wm kJ HM))
                exact ⟨rfl, HM.bel, _, rfl, kJ, rfl, HM.get List.mem_cons_self, Nat.le_trans hb.size (HM.base _ List.mem_cons_self kJ rfl)⟩
            · intro u wn hb hk
              obtain ⟨hq6, -⟩ := hk
              replace hq6 := hq6 _ rfl; dsimp only at hq6; obtain ⟨sj, lj, hq6, g0, g1, g2⟩ := hq6; dsimp only at hq6
              simp only [fillM, hq6]
              exact ⟨.int .i64 d, .inl ⟨rfl, fun W => rfl⟩, rfl⟩
            intro u wn hb hk; have H0 := H; replace H := H.call hb
            obtain ⟨hq0, hq1, hq2, hq3, hq4, hq5, hq6, hq7, hq8, hq9, -⟩ := hk
            replace hq0 := hq0 _ rfl; dsimp only at hq0
            replace hq1 := hq1 _ rfl; dsimp only at hq1
            replace hq2 := hq2 _ rfl; dsimp only at hq2
            replace hq3 := hq3 _ rfl; dsimp only at hq3
            replace hq4 := hq4 _ rfl; dsimp only at hq4
            replace hq5 := hq5 _ rfl; dsimp only at hq5; obtain ⟨sj, lj, hq5, g0, g1, g2⟩ := hq5; dsimp only at hq5
            replace hq6 := hq6 _ rfl; dsimp only at hq6; obtain ⟨sj, lj, hq6, g0, g1, g2⟩ := hq6; dsimp only at hq6
            replace hq7 := hq7 _ rfl; dsimp only at hq7; obtain ⟨sj, lj, hq7, g0, g1, g2⟩ := hq7; dsimp only at hq7
            replace hq8 := hq8 _ rfl; dsimp only at hq8
            replace hq9 := hq9 _ rfl; dsimp only at hq9; obtain ⟨kJ, hq9, hK, hB⟩ := hq9; replace H := H0.both hb g1 g2 hK hB; have HJ2 := Lib.hid (fun W h => by have := rs_reads sj lj W h; rwa [g0] at this); have T1 : Hid (sj.oneCell' = true) := Lib.hid (HJ2.out _ g1).one; clear g0 g1 g2 hK hB
            simp only [fillM, List.length_cons, List.length_nil, Nat.reduceAdd, List.drop_succ_cons, List.drop_zero, hq0, hq1, hq2, hq3, hq4, hq5, hq6, hq7, hq8, hq9]
            clear hb H0 hq0 hq1 hq2 hq3 hq4 hq5 hq6 hq7 hq8 hq9
            go_wp2_with (first | go_skip | ((with_reducible apply ld_bk); rfl; rfl; (focus (apply H.one; (repeat (first | with_reducible exact List.mem_cons_self | with_reducible apply List.mem_cons_of_mem)); done))) | (with_reducible apply bd_bk0) | ((with_reducible apply st_bk H); rfl; rfl; rfl; (repeat (first | with_reducible apply Upd.head | with_reducible apply Upd.tail)); (first | rfl | assumption | (refine Hid.out ?_; assumption)); clear H; intro wn H))
            all_goals first | (rw [Exit.noGoto_ret]) | skip
            have hR := H.arr (b := kR) (t := 24) (cs := #[.slice none 0 0]) (by (repeat (first | with_reducible exact List.mem_cons_self | with_reducible apply List.mem_cons_of_mem)))
            exact bodyPost_ret (results_cell_tmp Try.results39 _ _ kR #[.slice none 0 0] _ _ rfl rfl hR Try.underlying24 rfl bk_info) rfl ⟨.slice none 0 0, Res.none, rfl, fun W _ => Recs.nil W, H.addNone.sub (by (repeat (first | with_reducible exact List.Sublist.refl _ | with_reducible refine List.Sublist.cons_cons _ ?_ | refine List.Sublist.cons _ ?_)))⟩
        · rw [if_neg (by omega)] at hstep
          have hc1 : decide ((n : Int) ≤ i) = true := decide_eq_true (by omega)
          have hc0 : decide (i < 0) = false := decide_eq_false (by omega)
          cases hstep
          go_wp2_with (first | go_skip | ((with_reducible refine ld_one (ty := 3) Try.underlying3 rfl ?_ ?_ (HI.out.keep H.bel) ?_); rfl; rfl) | ((with_reducible apply ld_bk); rfl; rfl; (focus (apply H.one; (repeat (first | with_reducible exact List.mem_cons_self | with_reducible apply List.mem_cons_of_mem)); done))) | (with_reducible apply bd_bk0) | ((with_reducible apply st_bk H); rfl; rfl; rfl; (repeat (first | with_reducible apply Upd.head | with_reducible apply Upd.tail)); (first | rfl | assumption | (refine Hid.out ?_; assumption)); clear H; intro wn H))
          all_goals first | (rw [Exit.noGoto_ret]) | skip
          have hR := H.arr (b := kR) (t := 24) (cs := #[.slice none 0 0]) (by (repeat (first | with_reducible exact List.mem_cons_self | with_reducible apply List.mem_cons_of_mem)))
          exact bodyPost_ret (results_cell_tmp Try.results39 _ _ kR #[.slice none 0 0] _ _ rfl rfl hR Try.underlying24 rfl bk_info) rfl ⟨.slice none 0 0, Res.none, rfl, fun W _ => Recs.nil W, H.addNone.sub (by (repeat (first | with_reducible exact List.Sublist.refl _ | with_reducible refine List.Sublist.cons_cons _ ?_ | refine List.Sublist.cons _ ?_)))⟩
    · have hjn : j = nz := by omega
      subst hjn
      have hI := I.out
      rw [← Hnz.out, List.drop_length, auJ] at hI
      cases hI
      go_wp2_with (first | go_skip | ((fail_if_success have := kR); (with_reducible apply al_bk H); clear H; intro wn kR H) | ((fail_if_success have := kO); (with_reducible apply al_bk H); clear H; intro wn kO H) | ((with_reducible apply ld_bk); rfl; rfl; (focus (apply H.one; (repeat (first | with_reducible exact List.mem_cons_self | with_reducible apply List.mem_cons_of_mem)); done))) | (with_reducible apply bd_bk0) | ((with_reducible apply st_bk H); rfl; rfl; rfl; (repeat (first | with_reducible apply Upd.head | with_reducible apply Upd.tail)); (first | rfl | assumption | (refine Hid.out ?_; assumption)); clear H; intro wn H))
      all_goals first | (rw [Exit.noGoto_ret]) | skip
      have hR := H.arr (b := kR) (t := 24) (cs := #[vo]) (by (repeat (first | with_reducible exact List.mem_cons_self | with_reducible apply List.mem_cons_of_mem)))
      exact bodyPost_ret (results_cell_tmp Try.results39 _ _ kR #[vo] _ _ rfl rfl hR Try.underlying24 rfl bk_info) rfl ⟨vo, ro, rfl, Jo.out, H.sub (by (repeat (first | with_reducible exact List.Sublist.refl _ | with_reducible refine List.Sublist.cons_cons _ ?_ | refine List.Sublist.cons _ ?_)))⟩
end Go.Proofs.Ytolbmemogoojhaa
