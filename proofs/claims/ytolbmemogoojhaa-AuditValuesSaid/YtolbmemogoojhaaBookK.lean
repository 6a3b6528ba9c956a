/- Two books joined, where they may be: the walk. -/
import Derived.Test.YtolbmemogoojhaaBookH
namespace Go.Proofs.Ytolbmemogoojhaa
open Go Go.RowKit Go.Deep
set_option linter.unusedVariables false
set_option linter.unusedSimpArgs false
set_option maxRecDepth 100000
set_option maxHeartbeats 12800000 in
theorem bkjoin_yes (va vb : Value) (LA LB : RS) (hcA : bMay (LA.map (·.1)) = true) (hcB : bMay (LB.map (·.1)) = true) (w : World) (ha : RecsS w va LA) (hb : RecsS w vb LB) : Calls Try.prog 23 #[.agg #[va], .agg #[vb]] w fun e w' =>
    ∃ v r, e = .returned (.tuple #[.agg #[v], .int .i64 (bCan (LA.map (·.1)) (LB.map (·.1)))]) ∧ (∀ W, r.holds W → Recs W v (bJ (LA.map (·.1)) (LB.map (·.1)))) ∧ St w w' [r] := by
  have hp := Lib.hid hcA; have hq := Lib.hid hcB
  have gA := bMay_iff.1 hcA; have gB := bMay_iff.1 hcB
  have Ha : Hid (Recs w va (LA.map (·.1))) := Lib.hid ⟨LA, rfl, ha⟩
  have Hb : Hid (Recs w vb (LB.map (·.1))) := Lib.hid ⟨LB, rfl, hb⟩
  have hsl : ∀ (v : Value) (l : RS), RecsS w v l → v.cells = #[v] ∧ v.oneCell' = true ∧ ∀ p ∈ l, p.2.oneCell' = true := fun v l h => by
    obtain ⟨⟨_, a, c, rfl, _⟩, h2⟩ := h
    exact ⟨rfl, rfl, fun p hp => flds_one (h2 p hp).2⟩
  have HvA := Lib.hid (hsl va LA ha).1; have HvB := Lib.hid (hsl vb LB hb).1
  have OA := Lib.hid (hsl va LA ha).2.2; have OB := Lib.hid (hsl vb LB hb).2.2
  have RA := Lib.hid ha.1; have RB := Lib.hid hb.1
  have lA : LA.length ≤ 10 := by simpa using gA.2
  have lB : LB.length ≤ 10 := by simpa using gB.2
  obtain ⟨L, hL⟩ : ∃ L, LA ++ LB = L := ⟨_, rfl⟩
  obtain ⟨n, hn⟩ : ∃ n, L.length = n := ⟨_, rfl⟩
  have hn20 : n ≤ 20 := by rw [← hn, ← hL]; simp; omega
  have hAll : ∀ p ∈ L, p.1.ok ∧ Flds w p.2 p.1.f ∧ rMay p.1 = true := fun p hp => by
    rw [← hL] at hp
    rcases List.mem_append.1 hp with hp | hp
    · exact ⟨(ha.2 p hp).1, (ha.2 p hp).2, gA.1.2 _ (List.mem_map_of_mem hp)⟩
    · exact ⟨(hb.2 p hp).1, (hb.2 p hp).2, gB.1.2 _ (List.mem_map_of_mem hp)⟩
  have Hall := Lib.hid hAll; have Hn := Lib.hid hn; have HL := Lib.hid hL
  have HP : Hid (Pj L n = bBoth (LA.map (·.1)) (LB.map (·.1))) := Lib.hid (by unfold Pj; rw [bBoth_app, ← hn, List.take_length, ← hL, List.map_append])
  have Hcan : Hid ((bMay (LA.map (·.1)) && bMay (LB.map (·.1))) = true) := Lib.hid (by rw [hcA, hcB]; rfl)
  have Hno : Hid noRD.ok := Lib.hid noRD_ok
  have Hone : Hid (Value.oneCell' (.slice none 0 0) = true) := Lib.hid rfl
  clear ha hb hsl gA gB hAll hn hL hcA hcB
  have H := St.init w
  go_enter Try.func23, Try.ntmps23
  go_wp2_with (first | go_skip | ((fail_if_success have := kA); (with_reducible apply arm_box H); rfl; clear H; intro wn kA H) | ((fail_if_success have := kB); (with_reducible apply arm_box H); rfl; clear H; intro wn kB H) | ((fail_if_success have := kR); (with_reducible apply al_bk H); clear H; intro wn kR H) | ((with_reducible apply ld_bk); rfl; rfl; (focus (apply H.one; (repeat (first | with_reducible exact List.mem_cons_self | with_reducible apply List.mem_cons_of_mem)); done))) | (with_reducible apply bd_bk0) | ((with_reducible apply st_bk H); rfl; rfl; rfl; (repeat (first | with_reducible apply Upd.head | with_reducible apply Upd.tail)); (first | rfl | assumption | (refine Hid.out ?_; assumption)); clear H; intro wn H) | (go_at_call 22; first | ((with_reducible refine (bkmay_v hp.out _ (Ha.out.below H.bel)).mono ?_); rintro e wn ⟨rfl, hb⟩; replace H := H.call hb; clear hb) | ((with_reducible refine (bkmay_v hq.out _ (Hb.out.below H.bel)).mono ?_); rintro e wn ⟨rfl, hb⟩; replace H := H.call hb; clear hb)) | ((fail_if_success have := kM); (with_reducible apply arm_makeMap H encK); clear H; intro wn kM H) | ((with_reducible apply ld_one (ty := 22) Try.underlying22 rfl); rfl; rfl; (focus (apply H.one; (repeat (first | with_reducible exact List.mem_cons_self | with_reducible apply List.mem_cons_of_mem)); done))) | ((fail_if_success have := kC); (with_reducible apply arm_bslice2 H Try.underlying134 info_rs3); (conv => lhs; whnf); (conv => lhs; whnf); (exact HvA.out); (exact HvB.out); clear H; intro wn kC H) | (go_at_call 49; (with_reducible refine (concat_c va vb LA LB kC (by omega) (by omega) _ (H.two (by (repeat (first | with_reducible exact List.mem_cons_self | with_reducible apply List.mem_cons_of_mem)))).1 (H.two (by (repeat (first | with_reducible exact List.mem_cons_self | with_reducible apply List.mem_cons_of_mem)))).2 (RA.out.below H.bel) (RB.out.below H.bel) OA.out OB.out).mono ?_); rintro e wn ⟨vc, rfl, hs⟩; replace H := H.comp hs; clear hs; rw [HL.out, Hn.out] at H; simp only [List.cons_append, List.nil_append] at H; obtain ⟨ac, cc, rfl⟩ := H.rowSl List.mem_cons_self))
  go_loopw [32, 7] (fun i q wr => ∃ (j : Nat) (m : AL) (names : List IDK) (R : Res), j ≤ n ∧ i = .int .i64 j ∧ Hid (JInv (Pj L j) m names) ∧ Hid (Reads R m) ∧ St w wr [Res.row 33 16 q names.length (idsL names), Res.row 38 19 (.slice ac n cc) n (recsL L), Res.map kM encK (alV m), Res.blk kR 24 #[.slice none 0 0], R]) (fun i _ _ => n - (intOf i).toNat)
  case atStart => exact ⟨0, [], [], Res.none, by omega, rfl, Lib.hid jinv_nil, Lib.hid (fun _ _ p hp => (List.not_mem_nil hp).elim), St.begin H⟩
  case round =>
    clear H
    obtain ⟨j, m, names, R, hj, rfl, J, Rd, H⟩ := hrel
    have hnl : names.length ≤ 20 := by
      have h1 : names.length = m.length := by rw [J.out.keys]; simp
      have h2 := J.out.len
      have h3 := bPuts_le ((L.take j).map (·.1)) []
      have h4 : (Pj L j).length ≤ j := by
        unfold Pj
        refine Nat.le_trans h3 ?_
        simp; omega
      omega
    by_cases hlt : j < n
    · obtain ⟨p, hpj⟩ : ∃ p, L[j]? = some p := ⟨_, List.getElem?_eq_getElem (by rw [Hn.out]; exact hlt)⟩
      obtain ⟨r, s⟩ := p
      have hmem := List.mem_of_getElem? hpj
      have hstep := Pj_step hpj
      obtain ⟨b0, off0, rfl, G⟩ := recs_row_at (H.rowRead (by (repeat (first | with_reducible exact List.mem_cons_self | with_reducible apply List.mem_cons_of_mem)))) (fun p hp => (Hall.out p hp).1) hpj
      dsimp only at G hstep
      have ok : r.ok := (Hall.out _ hmem).1
      have Hok : Hid r.ok := Lib.hid ok
      have Hf : Hid (Flds w s r.f) := Lib.hid (Hall.out _ hmem).2.1
      have Hm : Hid (rMay r = true) := Lib.hid (Hall.out _ hmem).2.2
      have Hs1 : Hid (s.oneCell' = true) := Lib.hid (flds_one Hf.out)
      have Hfew : Hid (r.f.length ≤ 1000) := Lib.hid (Nat.le_trans (rMay_few Hm.out) (by decide))
      have Hst := Lib.hid hstep
      clear hmem hstep hpj
      rcases gIx_alV (r.key ok) m with ⟨e1, e2⟩ | ⟨jj, x, e1, e2⟩
      · have E1 := Lib.hid e1; have E2 := Lib.hid e2; clear e1 e2
        go_wp2_with (first | go_skip | ((with_reducible apply ld_rec); rfl; rfl; (first | (focus (apply H.rc; (repeat (first | with_reducible exact List.mem_cons_self | with_reducible apply List.mem_cons_of_mem)); done)) | (apply RecAt.bel (hb := H.bel); assumption) | assumption)) | ((with_reducible apply ld_id); rfl; rfl; (first | (focus (apply H.rc; (repeat (first | with_reducible exact List.mem_cons_self | with_reducible apply List.mem_cons_of_mem)); done)) | (apply RecAt.bel (hb := H.bel); assumption))) | ((fail_if_success have := k9); (with_reducible apply al_rec H); clear H; intro wn k9 H) | ((fail_if_success have := k10); (with_reducible apply al_rec H); clear H; intro wn k10 H) | ((with_reducible apply st_rec H); rfl; rfl; rfl; (repeat (first | with_reducible apply Upd.head | with_reducible apply Upd.tail)); (first | assumption | (refine Hid.out ?_; assumption)); (first | rfl | assumption | (refine Hid.out ?_; assumption)); clear H; intro wn H) | ((with_reducible apply arm_lookup2 H (k := r.key ok) (ok := keyID) (ht := Try.underlying83) (hz := zero_recW)); rfl; rfl; (repeat (first | with_reducible exact List.mem_cons_self | with_reducible apply List.mem_cons_of_mem)); rw [E1.out]; dsimp only) | ((fail_if_success have := kI); (with_reducible apply bs_id ok H); rfl; clear H; intro wn kI H) | ((with_reducible apply arm_app H (ht := Try.underlying84) (hinfo := info_id3) (hzs := size_id0) (hsz := by decide)); (conv => lhs; whnf); (conv => lhs; whnf); (intro v; (repeat (first | with_reducible apply Upd.head | with_reducible apply Upd.tail))); (focus (apply H.rowRead; (repeat (first | with_reducible exact List.mem_cons_self | with_reducible apply List.mem_cons_of_mem)); done)); (focus (exact idsL_one _; done)); (focus (unfold maxLen; omega; done)); (focus (omega; done)); clear H; intro wn vn H))
        (try simp only [Act.put, List.setIfInBounds_toArray, List.set_cons_zero, List.set_cons_succ])
        refine wp_slotsM [⟨some 50, [], fun _ v => v = .map (some kM)⟩, ⟨some 51, [], fun _ v => v = .pointer (some ⟨k9, 0, none⟩)⟩, ⟨some 52, [(1, 51)], fun _ v => v = .agg (idA r)⟩, ⟨some 53, [], fun _ v => v = .agg (rA r s)⟩, ⟨some 54, [(3, 53)], Made wn (fun s' => .agg (rA r s')) (fun s' => Res.row 51 4 s' r.f.length (fieldsL r.f))⟩] [50, 51, 52, 53, 54] (false :: false :: false :: false :: false :: false :: false :: false :: false :: false :: false :: false :: false :: false :: false :: false :: false :: false :: false :: false :: false :: false :: false :: false :: false :: false :: false :: false :: false :: false :: false :: false :: false :: false :: false :: false :: false :: false :: false :: false :: false :: false :: false :: false :: false :: false :: false :: false :: false :: false :: true :: true :: true :: true :: true :: []) [(some 50, []), (some 51, []), (some 52, [(1, 51)]), (some 53, []), (some 54, [(3, 53)])] rfl (by kernel_rfl) (by kernel_rfl) (by rfl) (by rfl) ?_ ?_ ?_
        · exact stable_cons (fun _ _ _ _ h => h) (stable_cons (fun _ _ _ _ h => h) (stable_cons (fun _ _ _ _ h => h) (stable_cons (fun _ _ _ _ h => h) (stable_cons Made.keep (stable_nil)))))
        · refine hops_cons ?_ (hops_cons ?_ (hops_cons ?_ (hops_cons ?_ (hops_cons ?_ (trivial)))))
          · unfold HopM; intro u wn hb hk; have H0 := H; replace H := H.call hb
            simp only [fillM]
            go_wp2_with (first | go_skip | ((with_reducible apply ld_rec); rfl; rfl; (first | (focus (apply H.rc; (repeat (first | with_reducible exact List.mem_cons_self | with_reducible apply List.mem_cons_of_mem)); done)) | (apply RecAt.bel (hb := H.bel); assumption) | assumption)) | ((with_reducible apply ld_id); rfl; rfl; (first | (focus (apply H.rc; (repeat (first | with_reducible exact List.mem_cons_self | with_reducible apply List.mem_cons_of_mem)); done)) | (apply RecAt.bel (hb := H.bel); assumption))))
            exact ⟨rfl, Below.refl _ _, .map (some kM), rfl, rfl⟩
          · unfold HopM; intro u wn hb hk; have H0 := H; replace H := H.call hb
            simp only [fillM]
            go_wp2_with (first | go_skip | ((with_reducible apply ld_rec); rfl; rfl; (first | (focus (apply H.rc; (repeat (first | with_reducible exact List.mem_cons_self | with_reducible apply List.mem_cons_of_mem)); done)) | (apply RecAt.bel (hb := H.bel); assumption) | assumption)) | ((with_reducible apply ld_id); rfl; rfl; (first | (focus (apply H.rc; (repeat (first | with_reducible exact List.mem_cons_self | with_reducible apply List.mem_cons_of_mem)); done)) | (apply RecAt.bel (hb := H.bel); assumption))))
            exact ⟨rfl, Below.refl _ _, .pointer (some ⟨k9, 0, none⟩), rfl, rfl⟩
          · unfold HopM; intro u wn hb hk; have H0 := H; replace H := H.call hb
            obtain ⟨hq1, -⟩ := hk
            replace hq1 := hq1 _ rfl; dsimp only at hq1
            simp only [fillM, hq1]
            clear hq1
            go_wp2_with (first | go_skip | ((with_reducible apply ld_rec); rfl; rfl; (first | (focus (apply H.rc; (repeat (first | with_reducible exact List.mem_cons_self | with_reducible apply List.mem_cons_of_mem)); done)) | (apply RecAt.bel (hb := H.bel); assumption) | assumption)) | ((with_reducible apply ld_id); rfl; rfl; (first | (focus (apply H.rc; (repeat (first | with_reducible exact List.mem_cons_self | with_reducible apply List.mem_cons_of_mem)); done)) | (apply RecAt.bel (hb := H.bel); assumption))))
            exact ⟨rfl, Below.refl _ _, .agg (idA r), rfl, rfl⟩
          · unfold HopM; intro u wn hb hk; have H0 := H; replace H := H.call hb
            simp only [fillM]
            go_wp2_with (first | go_skip | ((with_reducible apply ld_rec); rfl; rfl; (first | (focus (apply H.rc; (repeat (first | with_reducible exact List.mem_cons_self | with_reducible apply List.mem_cons_of_mem)); done)) | (apply RecAt.bel (hb := H.bel); assumption) | assumption)) | ((with_reducible apply ld_id); rfl; rfl; (first | (focus (apply H.rc; (repeat (first | with_reducible exact List.mem_cons_self | with_reducible apply List.mem_cons_of_mem)); done)) | (apply RecAt.bel (hb := H.bel); assumption))))
            exact ⟨rfl, Below.refl _ _, .agg (rA r s), rfl, rfl⟩
          · unfold HopM; intro u wn hb hk; have H0 := H; replace H := H.call hb
            obtain ⟨hq3, -⟩ := hk
            replace hq3 := hq3 _ rfl; dsimp only at hq3
            simp only [fillM, hq3]
            clear hq3
            go_wp2_with (first | go_skip | (go_at_call 50; (with_reducible refine (own_c r s ok Hfew.out _ (Hf.out.below H.bel)).mono ?_); rintro e wm ⟨sj, rfl, hs⟩))
            exact ⟨rfl, hs.bel, _, rfl, sj, rfl, hs.get List.mem_cons_self, fun b hf => Nat.le_trans hb.size (hs.base _ List.mem_cons_self b hf)⟩
        intro u wn hb hk; have H0 := H; replace H := H.call hb
        obtain ⟨hq0, hq1, hq2, hq3, hq4, -⟩ := hk
        replace hq0 := hq0 _ rfl; dsimp only at hq0
        replace hq1 := hq1 _ rfl; dsimp only at hq1
        replace hq2 := hq2 _ rfl; dsimp only at hq2
        replace hq3 := hq3 _ rfl; dsimp only at hq3
        replace hq4 := hq4 _ rfl; dsimp only at hq4; obtain ⟨sj, hq4, hRow, hBase⟩ := hq4; dsimp only at hq4; replace H := H0.new hb hRow hBase; clear hRow hBase
        simp only [fillM, List.length_cons, List.length_nil, Nat.reduceAdd, List.drop_succ_cons, List.drop_zero, hq0, hq1, hq2, hq3, hq4]
        clear hb H0 hq0 hq1 hq2 hq3 hq4
        go_wp2_with (first | go_skip | ((with_reducible apply ms_rec (r.key ok) H); rfl; rfl; (conv => lhs; whnf); (repeat (first | with_reducible apply Upd.head | with_reducible apply Upd.tail)); clear H; intro wn H))
        go_roundw
        case rel =>
          refine ⟨j + 1, alPut m (r.key ok) (r, sj), names ++ [r.key ok], (Res.row 51 4 sj r.f.length (fieldsL r.f)).and R, by omega, by go_num, Lib.hid (by rw [Hst.out]; exact jinv_new J.out sj Hm.out rfl E2.out), Lib.hid Rd.out.put, ?_⟩
          have hg := gPut_alV (r.key ok) (r, sj) m
          dsimp only at hg
          rw [hg] at H
          try dsimp only at H
          rw [show idsL (names ++ [r.key ok]) = idsL names ++ idsL [r.key ok] from List.flatMap_append, List.length_append, List.length_singleton]
          exact (H.sub (by (repeat (first | with_reducible exact List.Sublist.refl _ | with_reducible refine List.Sublist.cons_cons _ ?_ | refine List.Sublist.cons _ ?_)))).absorb
        case measure => simp [intOf]; omega
      · obtain ⟨q, sq⟩ := x
        have hjo := jinv_old J.out (r := r) (q := q) (sq := sq) sq Hm.out rfl e2
        have hokq : q.ok := by show q.id.length = 16; rw [hjo.2.2]; exact ok
        have Hokq : Hid q.ok := Lib.hid hokq
        obtain ⟨d, hd⟩ : ∃ d, rCan q r = d := ⟨_, rfl⟩
        obtain ⟨jr, hjr⟩ : ∃ jr, rJoin q r = jr := ⟨_, rfl⟩
        have Hd := Lib.hid hd; have Hjr := Lib.hid hjr
        have Hokj : Hid jr.ok := Lib.hid (by rw [← hjr]; exact rJoin_ok hokq)
        have hmq : (r.key ok, (q, sq)) ∈ m := alFind_mem e2
        have Hqf : Hid (Flds _ sq q.f) := Lib.hid (Rd.out.get (H.get (r := R) (by (repeat (first | with_reducible exact List.mem_cons_self | with_reducible apply List.mem_cons_of_mem)))) hmq)
        have Hmq := Lib.hid hmq
        have Hsq : Hid (sq.oneCell' = true) := Lib.hid (flds_one Hqf.out)
        have J2 : Hid (∀ s, JInv (bPut (Pj L j) r) (alPut m (r.key ok) (jr, s)) names) := Lib.hid fun s => by rw [← hjr]; exact (jinv_old J.out s Hm.out rfl e2).1
        have E1 := Lib.hid e1
        have Hh := Lib.hid H
        clear e1 e2 hjo hd hjr hmq
        go_wp2_with (first | go_skip | ((with_reducible apply ld_rec); rfl; rfl; (first | (focus (apply H.rc; (repeat (first | with_reducible exact List.mem_cons_self | with_reducible apply List.mem_cons_of_mem)); done)) | (apply RecAt.bel (hb := H.bel); assumption) | assumption)) | ((with_reducible apply ld_id); rfl; rfl; (first | (focus (apply H.rc; (repeat (first | with_reducible exact List.mem_cons_self | with_reducible apply List.mem_cons_of_mem)); done)) | (apply RecAt.bel (hb := H.bel); assumption))) | ((fail_if_success have := k9); (with_reducible apply al_rec H); clear H; intro wn k9 H) | ((fail_if_success have := k10); (with_reducible apply al_rec H); clear H; intro wn k10 H) | ((with_reducible apply st_rec H); rfl; rfl; rfl; (repeat (first | with_reducible apply Upd.head | with_reducible apply Upd.tail)); (first | assumption | (refine Hid.out ?_; assumption)); (first | rfl | assumption | (refine Hid.out ?_; assumption)); clear H; intro wn H) | ((with_reducible apply arm_lookup2 H (k := r.key ok) (ok := keyID) (ht := Try.underlying83) (hz := zero_recW)); rfl; rfl; (repeat (first | with_reducible exact List.mem_cons_self | with_reducible apply List.mem_cons_of_mem)); rw [E1.out]; dsimp only))
        (try simp only [Act.put, List.setIfInBounds_toArray, List.set_cons_zero, List.set_cons_succ])
        refine wp_slotsML [⟨some 56, [], fun _ v => v = .map (some kM)⟩, ⟨some 57, [], fun _ v => v = .pointer (some ⟨k9, 0, none⟩)⟩, ⟨some 58, [(1, 57)], fun _ v => v = .agg (idA r)⟩, ⟨some 59, [], fun _ v => v = .agg (rA q sq)⟩, ⟨some 60, [], fun _ v => v = .agg (rA r s)⟩, ⟨some 61, [(3, 59), (4, 60)], Made wn (fun s' => .tuple #[.agg (rA jr s'), .bool d]) (fun s' => Res.row 51 4 s' jr.f.length (fieldsL jr.f))⟩, ⟨some 55, [(5, 61)], Made wn (fun s' => .tuple #[.agg (rA jr s'), .bool d]) (fun s' => Res.row 51 4 s' jr.f.length (fieldsL jr.f))⟩, ⟨some 62, [(6, 55)], Made wn (fun s' => .agg (rA jr s')) (fun s' => Res.row 51 4 s' jr.f.length (fieldsL jr.f))⟩, ⟨some 63, [(6, 55)], fun _ v => v = .bool d⟩] [56, 57, 58, 59, 60, 61, 55, 62, 63] (false :: false :: false :: false :: false :: false :: false :: false :: false :: false :: false :: false :: false :: false :: false :: false :: false :: false :: false :: false :: false :: false :: false :: false :: false :: false :: false :: false :: false :: false :: false :: false :: false :: false :: false :: false :: false :: false :: false :: false :: false :: false :: false :: false :: false :: false :: false :: false :: false :: false :: false :: false :: false :: false :: false :: true :: true :: true :: true :: true :: true :: true :: true :: true :: []) [(some 56, []), (some 57, []), (some 58, [(1, 57)]), (some 59, []), (some 60, []), (some 61, [(3, 59), (4, 60)]), (some 55, [(5, 61)]), (some 62, [(6, 55)]), (some 63, [(6, 55)])] 8 rfl (by kernel_rfl) (by kernel_rfl) (by rfl) (by rfl) ?_ (by rfl) (by rfl) ?_ ?_ ?_
        · exact stable_cons (fun _ _ _ _ h => h) (stable_cons (fun _ _ _ _ h => h) (stable_cons (fun _ _ _ _ h => h) (stable_cons (fun _ _ _ _ h => h) (stable_cons (fun _ _ _ _ h => h) (stable_cons Made.keep (stable_cons Made.keep (stable_cons Made.keep (stable_cons (fun _ _ _ _ h => h) (stable_nil)))))))))
        · refine hops_cons ?_ (hops_cons ?_ (hops_cons ?_ (hops_cons ?_ (hops_cons ?_ (hops_cons ?_ (hops_cons ?_ (hops_cons ?_ (hops_cons ?_ (trivial)))))))))
          · unfold HopM; intro u wn hb hk; have H0 := H; replace H := H.call hb
            simp only [fillM]
            go_wp2_with (first | go_skip | ((with_reducible apply ld_rec); rfl; rfl; (first | (focus (apply H.rc; (repeat (first | with_reducible exact List.mem_cons_self | with_reducible apply List.mem_cons_of_mem)); done)) | (apply RecAt.bel (hb := H.bel); assumption) | assumption)) | ((with_reducible apply ld_id); rfl; rfl; (first | (focus (apply H.rc; (repeat (first | with_reducible exact List.mem_cons_self | with_reducible apply List.mem_cons_of_mem)); done)) | (apply RecAt.bel (hb := H.bel); assumption))))
            exact ⟨rfl, Below.refl _ _, .map (some kM), rfl, rfl⟩
          · unfold HopM; intro u wn hb hk; have H0 := H; replace H := H.call hb
            simp only [fillM]
            go_wp2_with (first | go_skip | ((with_reducible apply ld_rec); rfl; rfl; (first | (focus (apply H.rc; (repeat (first | with_reducible exact List.mem_cons_self | with_reducible apply List.mem_cons_of_mem)); done)) | (apply RecAt.bel (hb := H.bel); assumption) | assumption)) | ((with_reducible apply ld_id); rfl; rfl; (first | (focus (apply H.rc; (repeat (first | with_reducible exact List.mem_cons_self | with_reducible apply List.mem_cons_of_mem)); done)) | (apply RecAt.bel (hb := H.bel); assumption))))
            exact ⟨rfl, Below.refl _ _, .pointer (some ⟨k9, 0, none⟩), rfl, rfl⟩
          · unfold HopM; intro u wn hb hk; have H0 := H; replace H := H.call hb
            obtain ⟨hq1, -⟩ := hk
            replace hq1 := hq1 _ rfl; dsimp only at hq1
            simp only [fillM, hq1]
            clear hq1
            go_wp2_with (first | go_skip | ((with_reducible apply ld_rec); rfl; rfl; (first | (focus (apply H.rc; (repeat (first | with_reducible exact List.mem_cons_self | with_reducible apply List.mem_cons_of_mem)); done)) | (apply RecAt.bel (hb := H.bel); assumption) | assumption)) | ((with_reducible apply ld_id); rfl; rfl; (first | (focus (apply H.rc; (repeat (first | with_reducible exact List.mem_cons_self | with_reducible apply List.mem_cons_of_mem)); done)) | (apply RecAt.bel (hb := H.bel); assumption))))
            exact ⟨rfl, Below.refl _ _, .agg (idA r), rfl, rfl⟩
          · unfold HopM; intro u wn hb hk; have H0 := H; replace H := H.call hb
            simp only [fillM]
            go_wp2_with (first | go_skip | ((with_reducible apply ld_rec); rfl; rfl; (first | (focus (apply H.rc; (repeat (first | with_reducible exact List.mem_cons_self | with_reducible apply List.mem_cons_of_mem)); done)) | (apply RecAt.bel (hb := H.bel); assumption) | assumption)) | ((with_reducible apply ld_id); rfl; rfl; (first | (focus (apply H.rc; (repeat (first | with_reducible exact List.mem_cons_self | with_reducible apply List.mem_cons_of_mem)); done)) | (apply RecAt.bel (hb := H.bel); assumption))))
            exact ⟨rfl, Below.refl _ _, .agg (rA q sq), rfl, rfl⟩
          · unfold HopM; intro u wn hb hk; have H0 := H; replace H := H.call hb
            simp only [fillM]
            go_wp2_with (first | go_skip | ((with_reducible apply ld_rec); rfl; rfl; (first | (focus (apply H.rc; (repeat (first | with_reducible exact List.mem_cons_self | with_reducible apply List.mem_cons_of_mem)); done)) | (apply RecAt.bel (hb := H.bel); assumption) | assumption)) | ((with_reducible apply ld_id); rfl; rfl; (first | (focus (apply H.rc; (repeat (first | with_reducible exact List.mem_cons_self | with_reducible apply List.mem_cons_of_mem)); done)) | (apply RecAt.bel (hb := H.bel); assumption))))
            exact ⟨rfl, Below.refl _ _, .agg (rA r s), rfl, rfl⟩
          · unfold HopM; intro u wn hb hk; have H0 := H; replace H := H.call hb
            obtain ⟨hq3, hq4, -⟩ := hk
            replace hq3 := hq3 _ rfl; dsimp only at hq3
            replace hq4 := hq4 _ rfl; dsimp only at hq4
            simp only [fillM, hq3, hq4]
            clear hq3 hq4
            go_wp2_with (first | go_skip | (go_at_call 27; (with_reducible refine (rjoinO Hokq.out ok Hd.out Hjr.out _ (Rd.out.get (H.get (r := R) (by (repeat (first | with_reducible exact List.mem_cons_self | with_reducible apply List.mem_cons_of_mem)))) Hmq.out) (Hf.out.below H.bel)).mono ?_); rintro e wm ⟨sj, rfl, ho, hbb⟩; have hs := St.ofRow hbb ho))
            exact ⟨rfl, hs.bel, _, rfl, sj, rfl, hs.get List.mem_cons_self, fun b hf => Nat.le_trans hb.size (hs.base _ List.mem_cons_self b hf)⟩
          · unfold HopM; intro u wn hb hk; have H0 := H; replace H := H.call hb
            obtain ⟨hq5, -⟩ := hk
            replace hq5 := hq5 _ rfl; dsimp only at hq5; obtain ⟨sj, hq5, hr, hbs⟩ := hq5; dsimp only at hq5
            simp only [fillM, hq5]
            clear hq5
            go_wp2_with (first | go_skip)
            exact ⟨rfl, Below.refl _ _, _, rfl, sj, rfl, hr, hbs⟩
          · unfold HopM; intro u wn hb hk; have H0 := H; replace H := H.call hb
            obtain ⟨hq6, -⟩ := hk
            replace hq6 := hq6 _ rfl; dsimp only at hq6; obtain ⟨sj, hq6, hr, hbs⟩ := hq6; dsimp only at hq6
            simp only [fillM, hq6]
            clear hq6
            go_wp2_with (first | go_skip)
            exact ⟨rfl, Below.refl _ _, _, rfl, sj, rfl, hr, hbs⟩
          · unfold HopM; intro u wn hb hk; have H0 := H; replace H := H.call hb
            obtain ⟨hq6, -⟩ := hk
            replace hq6 := hq6 _ rfl; dsimp only at hq6; obtain ⟨sj, hq6, hr, hbs⟩ := hq6; dsimp only at hq6
            simp only [fillM, hq6]
            clear hq6
            go_wp2_with (first | go_skip | ((with_reducible apply ld_rec); rfl; rfl; (first | (focus (apply H.rc; (repeat (first | with_reducible exact List.mem_cons_self | with_reducible apply List.mem_cons_of_mem)); done)) | (apply RecAt.bel (hb := H.bel); assumption) | assumption)) | ((with_reducible apply ld_id); rfl; rfl; (first | (focus (apply H.rc; (repeat (first | with_reducible exact List.mem_cons_self | with_reducible apply List.mem_cons_of_mem)); done)) | (apply RecAt.bel (hb := H.bel); assumption))))
            exact ⟨rfl, Below.refl _ _, .bool d, rfl, rfl⟩
        · intro u wn hb hk
          obtain ⟨hq6, -⟩ := hk
          replace hq6 := hq6 _ rfl; dsimp only at hq6; obtain ⟨sj, hq6, hr, hbs⟩ := hq6; dsimp only at hq6
          simp only [fillM, hq6]
          exact ⟨.bool d, .inl ⟨rfl, fun W => rfl⟩, rfl⟩
        intro u wn hb hk; have H0 := H; replace H := H.call hb
        obtain ⟨hq0, hq1, hq2, hq3, hq4, hq5, hq6, hq7, hq8, -⟩ := hk
        replace hq0 := hq0 _ rfl; dsimp only at hq0
        replace hq1 := hq1 _ rfl; dsimp only at hq1
        replace hq2 := hq2 _ rfl; dsimp only at hq2
        replace hq3 := hq3 _ rfl; dsimp only at hq3
        replace hq4 := hq4 _ rfl; dsimp only at hq4
        replace hq5 := hq5 _ rfl; dsimp only at hq5; obtain ⟨sj, hq5, hr, hbs⟩ := hq5; dsimp only at hq5
        replace hq6 := hq6 _ rfl; dsimp only at hq6; obtain ⟨sj, hq6, hr, hbs⟩ := hq6; dsimp only at hq6
        replace hq7 := hq7 _ rfl; dsimp only at hq7; obtain ⟨sj, hq7, hRow, hBase⟩ := hq7; dsimp only at hq7; replace H := H0.new hb hRow hBase; clear hRow hBase
        replace hq8 := hq8 _ rfl; dsimp only at hq8
        simp only [fillM, List.length_cons, List.length_nil, Nat.reduceAdd, List.drop_succ_cons, List.drop_zero, hq0, hq1, hq2, hq3, hq4, hq5, hq6, hq7, hq8]
        clear hb H0 hq0 hq1 hq2 hq3 hq4 hq5 hq6 hq7 hq8
        go_wp2_with (first | go_skip | ((with_reducible apply ms_rec (r.key ok) H); rfl; rfl; (conv => lhs; whnf); (repeat (first | with_reducible apply Upd.head | with_reducible apply Upd.tail)); clear H; intro wn H))
        go_roundw
        case rel =>
          refine ⟨j + 1, alPut m (r.key ok) (jr, sj), names, (Res.row 51 4 sj jr.f.length (fieldsL jr.f)).and R, by omega, by go_num, Lib.hid (by rw [Hst.out]; exact J2.out sj), Lib.hid Rd.out.put, ?_⟩
          have hg := gPut_alV (r.key ok) (jr, sj) m
          dsimp only at hg
          rw [hg] at H
          try dsimp only at H
          exact (H.sub (by (repeat (first | with_reducible exact List.Sublist.refl _ | with_reducible refine List.Sublist.cons_cons _ ?_ | refine List.Sublist.cons _ ?_)))).absorb
        case measure => simp [intOf]; omega
    · have hjn : j = n := by omega
      subst hjn
      have Hlen : Hid (names.length = (Pj L j).length) := Lib.hid (by rw [J.out.keys, J.out.len]; simp)
      obtain ⟨an, cn, rfl⟩ := H.rowSl List.mem_cons_self
      by_cases hbig : names.length ≤ 10
      · have Hc0 : Hid (bCan (LA.map (·.1)) (LB.map (·.1)) = 0) := Lib.hid (by
          unfold bCan; rw [if_pos Hcan.out, ← HP.out, ← Hlen.out, if_pos hbig])
        have HbJ : Hid (bJ (LA.map (·.1)) (LB.map (·.1)) = Pj L j) := Lib.hid (by unfold bJ; rw [if_pos Hc0.out, HP.out])
        go_wp2_with (first | go_skip | (go_at_call 51; (with_reducible refine (bksort_c _ names (by omega) _ (H.get (by (repeat (first | with_reducible exact List.mem_cons_self | with_reducible apply List.mem_cons_of_mem))))).mono ?_); rintro e wn ⟨rfl, ns, hpm, hsrt, hrow, hchg⟩; replace H := H.upd (Upd.head _ _ _) hchg hrow (fun _ e => .inl e)) | ((fail_if_success have := k12); (with_reducible apply al_bk H); clear H; intro wn k12 H))
        rw [hpm.length_eq] at H
        have Hnl2 := Lib.hid hpm.length_eq
        have Hpm := Lib.hid hpm; have Hsrt := Lib.hid hsrt
        clear hpm hsrt hrow hchg
        go_loopw [73] (fun i wr => ∃ (kk : Nat) (so : Value), kk ≤ names.length ∧ i = .int .i64 kk ∧ St w wr [Res.row 38 19 so kk (recsL ((ns.take kk).map (alGet m))), Res.blk k12 24 #[so], Res.row 33 16 (.slice an names.length cn) names.length (idsL ns), Res.map kM encK (alV m), Res.blk kR 24 #[.slice none 0 0], R]) (fun i _ => names.length - (intOf i).toNat)
        case atStart =>
          refine ⟨0, .slice none 0 0, by omega, rfl, ?_⟩
          rw [show recsL ((ns.take 0).map (alGet m)) = [] from rfl]
          exact (H.nilRow 38 19).sub (by (repeat (first | with_reducible exact List.Sublist.refl _ | with_reducible refine List.Sublist.cons_cons _ ?_ | refine List.Sublist.cons _ ?_)))
        case round =>
          clear H
          obtain ⟨kk, so, hkk, rfl, H⟩ := hrel
          by_cases hkl : kk < names.length
          · obtain ⟨key, hkey⟩ : ∃ key, ns[kk]? = some key := ⟨_, List.getElem?_eq_getElem (by rw [Hnl2.out]; exact hkl)⟩
            obtain ⟨b1, off1, rfl, G1⟩ := ids_row_at (H.rowRead (by (repeat (first | with_reducible exact List.mem_cons_self | with_reducible apply List.mem_cons_of_mem)))) hkey
            obtain ⟨x, hx⟩ : ∃ x, alFind m key = some x := alFind_key (by rw [← J.out.keys]; exact Hpm.out.subset (List.mem_of_getElem? hkey))
            obtain ⟨r, s⟩ := x
            have ok : r.ok := by
              have hb := J.out.find key
              rw [hx] at hb
              exact J.out.ok r (bFind_mem hb).1
            have Hok : Hid r.ok := Lib.hid ok
            have Hs1 : Hid (s.oneCell' = true) := Lib.hid (flds_one (Rd.out.get (H.get (r := R) (by (repeat (first | with_reducible exact List.mem_cons_self | with_reducible apply List.mem_cons_of_mem)))) (alFind_mem hx)))
            obtain ⟨jj, E1⟩ : ∃ jj, Hid (gIx (alV m) key = some (jj, .agg (rA r s))) := by
              rcases gIx_alV key m with ⟨_, e2⟩ | ⟨jj, x, e1, e2⟩
              · rw [hx] at e2; cases e2
              · rw [hx] at e2; cases e2; exact ⟨jj, Lib.hid e1⟩
            have Hnext : Hid (recsL ((ns.take (kk + 1)).map (alGet m)) = recsL ((ns.take kk).map (alGet m)) ++ recsL [(r, s)]) := Lib.hid (by
              rw [List.take_add_one, hkey, List.map_append, recsL_append]
              congr 1
              show recsL [alGet m key] = _
              unfold alGet; rw [hx]; rfl)
            clear hx hkey
            go_wp2_with (first | go_skip | ((with_reducible apply ld_idS (k := key)); rfl; rfl; (first | assumption | (focus (apply H.arr (t := 33); (repeat (first | with_reducible exact List.mem_cons_self | with_reducible apply List.mem_cons_of_mem)); done)))) | ((fail_if_success have := k14); (with_reducible apply al_idz H); clear H; intro wn k14 H) | ((with_reducible apply st_idb (k := key) zid_length H); rfl; rfl; rfl; (repeat (first | with_reducible apply Upd.head | with_reducible apply Upd.tail)); clear H; intro wn H))
            (try simp only [Act.put, List.setIfInBounds_toArray, List.set_cons_zero, List.set_cons_succ])
            refine wp_slotsM [⟨some 77, [], fun _ v => v = .pointer (some ⟨k12, 0, none⟩)⟩, ⟨some 78, [(0, 77)], fun _ v => v = so⟩, ⟨some 79, [], fun _ v => v = .map (some kM)⟩, ⟨some 80, [], fun _ v => v = encK key⟩, ⟨some 81, [(2, 79), (3, 80)], fun _ v => v = .agg (rA r s)⟩, ⟨some 82, [(4, 81)], Made wn (fun v => v) (fun v => Res.row 38 19 v 1 (recsL [(r, s)]))⟩] [77, 78, 79, 80, 81, 82] (false :: false :: false :: false :: false :: false :: false :: false :: false :: false :: false :: false :: false :: false :: false :: false :: false :: false :: false :: false :: false :: false :: false :: false :: false :: false :: false :: false :: false :: false :: false :: false :: false :: false :: false :: false :: false :: false :: false :: false :: false :: false :: false :: false :: false :: false :: false :: false :: false :: false :: false :: false :: false :: false :: false :: false :: false :: false :: false :: false :: false :: false :: false :: false :: false :: false :: false :: false :: false :: false :: false :: false :: false :: false :: false :: false :: false :: true :: true :: true :: true :: true :: true :: []) [(some 77, []), (some 78, [(0, 77)]), (some 79, []), (some 80, []), (some 81, [(2, 79), (3, 80)]), (some 82, [(4, 81)])] rfl (by kernel_rfl) (by kernel_rfl) (by rfl) (by rfl) ?_ ?_ ?_
            · exact stable_cons (fun _ _ _ _ h => h) (stable_cons (fun _ _ _ _ h => h) (stable_cons (fun _ _ _ _ h => h) (stable_cons (fun _ _ _ _ h => h) (stable_cons (fun _ _ _ _ h => h) (stable_cons Made.keep (stable_nil))))))
            · refine hops_cons ?_ (hops_cons ?_ (hops_cons ?_ (hops_cons ?_ (hops_cons ?_ (hops_cons ?_ (trivial))))))
              · unfold HopM; intro u wn hb hk; have H0 := H; replace H := H.call hb
                simp only [fillM]
                go_wp2_with (first | go_skip | ((with_reducible apply ld_one (ty := 22) Try.underlying22 rfl); rfl; rfl; (focus (apply H.one; (repeat (first | with_reducible exact List.mem_cons_self | with_reducible apply List.mem_cons_of_mem)); done))) | ((with_reducible apply ld_idS (k := key)); rfl; rfl; (first | assumption | (focus (apply H.arr (t := 33); (repeat (first | with_reducible exact List.mem_cons_self | with_reducible apply List.mem_cons_of_mem)); done)))) | ((with_reducible apply arm_lookup1 H (k := key) (ok := keyID) (ht := Try.underlying83) (hz := zero_recW)); rfl; rfl; (repeat (first | with_reducible exact List.mem_cons_self | with_reducible apply List.mem_cons_of_mem)); rw [E1.out]; dsimp only))
                exact ⟨rfl, Below.refl _ _, .pointer (some ⟨k12, 0, none⟩), rfl, rfl⟩
              · unfold HopM; intro u wn hb hk; have H0 := H; replace H := H.call hb
                obtain ⟨hq0, -⟩ := hk
                replace hq0 := hq0 _ rfl; dsimp only at hq0
                simp only [fillM, hq0]
                clear hq0
                go_wp2_with (first | go_skip | ((with_reducible apply ld_one (ty := 22) Try.underlying22 rfl); rfl; rfl; (focus (apply H.one; (repeat (first | with_reducible exact List.mem_cons_self | with_reducible apply List.mem_cons_of_mem)); done))) | ((with_reducible apply ld_idS (k := key)); rfl; rfl; (first | assumption | (focus (apply H.arr (t := 33); (repeat (first | with_reducible exact List.mem_cons_self | with_reducible apply List.mem_cons_of_mem)); done)))) | ((with_reducible apply arm_lookup1 H (k := key) (ok := keyID) (ht := Try.underlying83) (hz := zero_recW)); rfl; rfl; (repeat (first | with_reducible exact List.mem_cons_self | with_reducible apply List.mem_cons_of_mem)); rw [E1.out]; dsimp only))
                exact ⟨rfl, Below.refl _ _, so, rfl, rfl⟩
              · unfold HopM; intro u wn hb hk; have H0 := H; replace H := H.call hb
                simp only [fillM]
                go_wp2_with (first | go_skip | ((with_reducible apply ld_one (ty := 22) Try.underlying22 rfl); rfl; rfl; (focus (apply H.one; (repeat (first | with_reducible exact List.mem_cons_self | with_reducible apply List.mem_cons_of_mem)); done))) | ((with_reducible apply ld_idS (k := key)); rfl; rfl; (first | assumption | (focus (apply H.arr (t := 33); (repeat (first | with_reducible exact List.mem_cons_self | with_reducible apply List.mem_cons_of_mem)); done)))) | ((with_reducible apply arm_lookup1 H (k := key) (ok := keyID) (ht := Try.underlying83) (hz := zero_recW)); rfl; rfl; (repeat (first | with_reducible exact List.mem_cons_self | with_reducible apply List.mem_cons_of_mem)); rw [E1.out]; dsimp only))
                exact ⟨rfl, Below.refl _ _, .map (some kM), rfl, rfl⟩
              · unfold HopM; intro u wn hb hk; have H0 := H; replace H := H.call hb
                simp only [fillM]
                go_wp2_with (first | go_skip | ((with_reducible apply ld_one (ty := 22) Try.underlying22 rfl); rfl; rfl; (focus (apply H.one; (repeat (first | with_reducible exact List.mem_cons_self | with_reducible apply List.mem_cons_of_mem)); done))) | ((with_reducible apply ld_idS (k := key)); rfl; rfl; (first | assumption | (focus (apply H.arr (t := 33); (repeat (first | with_reducible exact List.mem_cons_self | with_reducible apply List.mem_cons_of_mem)); done)))) | ((with_reducible apply arm_lookup1 H (k := key) (ok := keyID) (ht := Try.underlying83) (hz := zero_recW)); rfl; rfl; (repeat (first | with_reducible exact List.mem_cons_self | with_reducible apply List.mem_cons_of_mem)); rw [E1.out]; dsimp only))
                exact ⟨rfl, Below.refl _ _, encK key, rfl, rfl⟩
              · unfold HopM; intro u wn hb hk; have H0 := H; replace H := H.call hb
                obtain ⟨hq2, hq3, -⟩ := hk
                replace hq2 := hq2 _ rfl; dsimp only at hq2
                replace hq3 := hq3 _ rfl; dsimp only at hq3
                simp only [fillM, hq2, hq3]
                clear hq2 hq3
                go_wp2_with (first | go_skip | ((with_reducible apply ld_one (ty := 22) Try.underlying22 rfl); rfl; rfl; (focus (apply H.one; (repeat (first | with_reducible exact List.mem_cons_self | with_reducible apply List.mem_cons_of_mem)); done))) | ((with_reducible apply ld_idS (k := key)); rfl; rfl; (first | assumption | (focus (apply H.arr (t := 33); (repeat (first | with_reducible exact List.mem_cons_self | with_reducible apply List.mem_cons_of_mem)); done)))) | ((with_reducible apply arm_lookup1 H (k := key) (ok := keyID) (ht := Try.underlying83) (hz := zero_recW)); rfl; rfl; (repeat (first | with_reducible exact List.mem_cons_self | with_reducible apply List.mem_cons_of_mem)); rw [E1.out]; dsimp only))
                exact ⟨rfl, Below.refl _ _, .agg (rA r s), rfl, rfl⟩
              · unfold HopM; intro u wn hb hk; have H0 := H; replace H := H.call hb
                obtain ⟨hq4, -⟩ := hk
                replace hq4 := hq4 _ rfl; dsimp only at hq4
                simp only [fillM, hq4]
                clear hq4
                go_wp2_with (first | go_skip | ((with_reducible apply bs_rec ok (St.init _)); rfl; intro wm b hs))
                exact ⟨rfl, hs.bel, _, rfl, _, rfl, hs.get List.mem_cons_self, fun b hf => Nat.le_trans hb.size (hs.base _ List.mem_cons_self b hf)⟩
            intro u wn hb hk; have H0 := H; replace H := H.call hb
            obtain ⟨hq0, hq1, hq2, hq3, hq4, hq5, -⟩ := hk
            replace hq0 := hq0 _ rfl; dsimp only at hq0
            replace hq1 := hq1 _ rfl; dsimp only at hq1
            replace hq2 := hq2 _ rfl; dsimp only at hq2
            replace hq3 := hq3 _ rfl; dsimp only at hq3
            replace hq4 := hq4 _ rfl; dsimp only at hq4
            replace hq5 := hq5 _ rfl; dsimp only at hq5; obtain ⟨sv, hq5, hRow, hBase⟩ := hq5; dsimp only at hq5; replace H := H0.new hb hRow hBase; clear hRow hBase
            simp only [fillM, List.length_cons, List.length_nil, Nat.reduceAdd, List.drop_succ_cons, List.drop_zero, hq0, hq1, hq2, hq3, hq4, hq5]
            clear hb H0 hq0 hq1 hq2 hq3 hq4 hq5
            go_wp2_with (first | go_skip | ((with_reducible apply arm_app H (ht := Try.underlying22) (hinfo := info_rec3) (hzs := size_rec0) (hsz := by decide)); (conv => lhs; whnf); (conv => lhs; whnf); (intro v; (repeat (first | with_reducible apply Upd.head | with_reducible apply Upd.tail))); (focus (apply H.rowRead; (repeat (first | with_reducible exact List.mem_cons_self | with_reducible apply List.mem_cons_of_mem)); done)); (focus (exact recsL_one (fun p hp => by rw [List.mem_singleton.1 hp]; exact Hs1.out); done)); (focus (unfold maxLen; omega; done)); (focus (omega; done)); clear H; intro wn vn H; obtain ⟨av, cv, rfl⟩ := H.rowSl (v := vn) (by (repeat (first | with_reducible exact List.mem_cons_self | with_reducible apply List.mem_cons_of_mem)))) | ((with_reducible apply st_on rs_one H); rfl; rfl; (conv => lhs; whnf); (repeat (first | with_reducible apply Upd.head | with_reducible apply Upd.tail)); rfl; (first | rfl | assumption | (refine Hid.out ?_; assumption)); clear H; intro wn H))
            go_roundw
            case rel =>
              refine ⟨kk + 1, .slice av (kk + 1) cv, by omega, by go_num, ?_⟩
              rw [Hnext.out]
              exact H.sub (by (repeat (first | with_reducible exact List.Sublist.refl _ | with_reducible refine List.Sublist.cons_cons _ ?_ | refine List.Sublist.cons _ ?_)))
            case measure => simp [intOf]; omega
          · have hkn : kk = names.length := by omega
            subst hkn
            obtain ⟨az, cz, rfl⟩ := H.rowSl List.mem_cons_self
            go_wp2_with (first | go_skip | ((with_reducible apply ld_bk); rfl; rfl; (focus (apply H.one; (repeat (first | with_reducible exact List.mem_cons_self | with_reducible apply List.mem_cons_of_mem)); done))) | (with_reducible apply bd_bk0) | ((with_reducible apply st_bk H); rfl; rfl; rfl; (repeat (first | with_reducible apply Upd.head | with_reducible apply Upd.tail)); (first | rfl | assumption | (refine Hid.out ?_; assumption)); clear H; intro wn H))
            all_goals first | (rw [Exit.noGoto_ret]) | skip
            have hR := H.arr (b := kR) (t := 24) (cs := #[.slice az names.length cz]) (by (repeat (first | with_reducible exact List.mem_cons_self | with_reducible apply List.mem_cons_of_mem)))
            refine bodyPost_ret (results_cell_tmp Try.results23 _ _ kR #[.slice az names.length cz] _ _ rfl rfl hR Try.underlying24 rfl bk_info) rfl ?_
            refine ⟨.slice az names.length cz, (Res.row 38 19 (.slice az names.length cz) names.length (recsL ((ns.take names.length).map (alGet m)))).and R, by rw [Hc0.out]; rfl, fun W hW => ?_, St.merge (Γ := []) (H.sub (by (repeat (first | with_reducible exact List.Sublist.refl _ | with_reducible refine List.Sublist.cons_cons _ ?_ | refine List.Sublist.cons _ ?_))))⟩
            rw [HbJ.out]
            have htk : ns.take names.length = ns := by rw [← Hnl2.out]; exact List.take_length
            have hrow := Res.row_reads hW.1
            rw [htk] at hrow
            refine ⟨ns.map (alGet m), jinv_out J.out Hpm.out Hsrt.out, by rw [List.length_map, Hnl2.out]; exact hrow, fun p hp => ?_⟩
            obtain ⟨key, hkey, rfl⟩ := List.mem_map.1 hp
            obtain ⟨x, hx⟩ : ∃ x, alFind m key = some x := alFind_key (by rw [← J.out.keys]; exact Hpm.out.subset hkey)
            have hb := J.out.find key
            rw [hx] at hb
            have hf := Rd.out.get hW.2 (alFind_mem hx)
            rw [show alGet m key = x by unfold alGet; rw [hx]; rfl]
            exact ⟨J.out.ok x.1 (bFind_mem hb).1, hf⟩
      · have Hc4 : Hid (bCan (LA.map (·.1)) (LB.map (·.1)) = 4) := Lib.hid (by
          unfold bCan; rw [if_pos Hcan.out, ← HP.out, ← Hlen.out, if_neg hbig])
        have HbJ : Hid (bJ (LA.map (·.1)) (LB.map (·.1)) = []) := Lib.hid (by unfold bJ; rw [if_neg (by rw [Hc4.out]; decide)])
        go_wp2_with (first | go_skip | ((with_reducible apply ld_bk); rfl; rfl; (focus (apply H.one; (repeat (first | with_reducible exact List.mem_cons_self | with_reducible apply List.mem_cons_of_mem)); done))) | (with_reducible apply bd_bk0) | ((with_reducible apply st_bk H); rfl; rfl; rfl; (repeat (first | with_reducible apply Upd.head | with_reducible apply Upd.tail)); (first | rfl | assumption | (refine Hid.out ?_; assumption)); clear H; intro wn H))
        all_goals first | (rw [Exit.noGoto_ret]) | skip
        have hR := H.arr (b := kR) (t := 24) (cs := #[.slice none 0 0]) (by (repeat (first | with_reducible exact List.mem_cons_self | with_reducible apply List.mem_cons_of_mem)))
        refine bodyPost_ret (results_cell_tmp Try.results23 _ _ kR #[.slice none 0 0] _ _ rfl rfl hR Try.underlying24 rfl bk_info) rfl ?_
        refine ⟨.slice none 0 0, by rw [Hc4.out]; rfl, Res.none, fun W _ => by rw [HbJ.out]; exact Recs.nil W, ?_⟩
        exact H.addNone.sub (by (repeat (first | with_reducible exact List.Sublist.refl _ | with_reducible refine List.Sublist.cons_cons _ ?_ | refine List.Sublist.cons _ ?_)))
end Go.Proofs.Ytolbmemogoojhaa
