/- The document's book of bytes; its digest. -/
import Derived.Test.YtolbmemogoojhaaGreatKRcB
namespace Go.Proofs.YtolbmemogoojhaaGreat
open Go Go.RowKit Go.Deep
set_option linter.unusedVariables false
set_option linter.unusedSimpArgs false
set_option maxRecDepth 100000
theorem rrec_n {w : World} {v : Value} {bs : List UInt8} (h : gRec bs = none) (hv : Byt w v bs) (hl : bs.length ≤ 100000) : Calls Tryz.prog 80 #[v] w fun e w' => ∃ r s, e = .returned (.tuple #[.agg (rA r s), .int .i64 0, .bool false]) ∧ r.ok ∧ s.oneCell' = true ∧ Below w.heap.size w w' := by
  have := rrec_c hv hl
  rw [h] at this
  exact this
def RRecY (w : World) (bs t : List UInt8) (r : RD) (e : Ending) (w' : World) : Prop := ∃ (s : Value) (A : Nat), e = .returned (.tuple #[.agg (rA r s), .int .i64 (A : Int), .bool true]) ∧ t = bs.drop A ∧ A ≤ bs.length ∧ s.oneCell' = true ∧ St w w' [Res.row 82 4 s r.f.length (fieldsL r.f)]
theorem rrec_y {w : World} {v : Value} {bs t : List UInt8} {r : RD} (h : gRec bs = some (r, t)) (hv : Byt w v bs) (hl : bs.length ≤ 100000) : Calls Tryz.prog 80 #[v] w (RRecY w bs t r) := by
  have := rrec_c hv hl
  rw [h] at this
  exact this
section
variable {α : Type}
theorem perm_start2 (n r a b : α) : [n, r, a, b].Perm [a, b, n, r] := (List.perm_append_comm (l₁ := [n, r]) (l₂ := [a, b]))
theorem perm_in2 (f b c R r : α) : [f, R, b, c, r].Perm [f, b, c, R, r] := (List.Perm.cons f (List.perm_middle (l₁ := [b, c]) (l₂ := [r]) (a := R))).symm
theorem perm_out2 (R b c r : α) : [b, c, R, r].Perm [R, b, c, r] := List.perm_middle (l₁ := [b, c]) (l₂ := [r]) (a := R)
end
set_option maxHeartbeats 25600000 in
theorem rcnget_c {w : World} {v : Value} {bs : List UInt8} (hv : Byt w v bs) (hbl : bs.length ≤ 100000) : Calls Tryz.prog 42 #[v] w (GetP w (gBook bs)) := by
  obtain ⟨fa, fc, rfl, _⟩ := byt_slice hv
  obtain ⟨nb, hnb⟩ : ∃ n, bs.length = n := ⟨_, rfl⟩
  have hnbm : nb ≤ 100000 := by rw [← hnb]; exact hbl
  rw [hnb] at hv ⊢
  have Hv := Lib.hid hv; have Hnb := Lib.hid hnb
  clear hbl
  have H := St.init w
  cases hm : gMany 10 bs with
  | none =>
    rw [gBook_none hm]
    rcases gMany_no hm with hg | ⟨n8, u8, hg, h8, _⟩
    · have Hg := Lib.hid hg
      clear hg hm hv hnb
      go_enter Tryz.func42, Tryz.ntmps42
      go_wp2_with (first | go_skip | ((fail_if_success have := kO); (with_reducible apply al_bk H); clear H; intro wn kO H) | ((fail_if_success have := kT); (with_reducible apply al_bk H); clear H; intro wn kT H) | (with_reducible apply bd_bk0) | ((with_reducible apply st_bk H); rfl; rfl; rfl; (repeat (first | with_reducible apply Upd.head | with_reducible apply Upd.tail)); (first | rfl | assumption | (refine Hid.out ?_; assumption)); clear H; intro wn H) | (go_at_call 79; (with_reducible refine (rget_no_c _ _ _ (Hv.out.below H.bel) Hg.out).mono ?_); rintro e wn ⟨rfl, hb⟩; replace H := H.call hb; clear hb))
      all_goals first | (rw [Exit.noGoto_ret]) | skip
      have hR := H.arr (b := kO) (t := 24) (cs := #[.slice none 0 0]) (by (repeat (first | with_reducible exact mH | with_reducible apply mT)))
      exact bodyPost_ret (results_cell_tmp Tryz.results42 _ _ kO #[.slice none 0 0] _ _ rfl rfl hR Tryz.underlying24 rfl bk_info) rfl ⟨rfl, H.bel⟩
    · have Hg := Lib.hid hg
      have h8' : 10 < n8 := by omega
      clear hg hm hv hnb h8
      go_enter Tryz.func42, Tryz.ntmps42
      go_wp2_with (first | go_skip | ((fail_if_success have := kO); (with_reducible apply al_bk H); clear H; intro wn kO H) | ((fail_if_success have := kT); (with_reducible apply al_bk H); clear H; intro wn kT H) | (with_reducible apply bd_bk0) | ((with_reducible apply st_bk H); rfl; rfl; rfl; (repeat (first | with_reducible apply Upd.head | with_reducible apply Upd.tail)); (first | rfl | assumption | (refine Hid.out ?_; assumption)); clear H; intro wn H) | (go_at_call 79; (with_reducible refine (rget_yes_c _ _ _ _ _ (Hv.out.below H.bel) Hg.out).mono ?_); rintro e wn ⟨rfl, hb⟩; replace H := H.call hb; clear hb))
      all_goals first | (rw [Exit.noGoto_ret]) | skip
      have hR := H.arr (b := kO) (t := 24) (cs := #[.slice none 0 0]) (by (repeat (first | with_reducible exact mH | with_reducible apply mT)))
      exact bodyPost_ret (results_cell_tmp Tryz.results42 _ _ kO #[.slice none 0 0] _ _ rfl rfl hR Tryz.underlying24 rfl bk_info) rfl ⟨rfl, H.bel⟩
  | some p =>
    obtain ⟨n, t1⟩ := p
    rw [gBook_eq hm]
    obtain ⟨u, hg, hn10, rfl, hu⟩ := gMany_some hm
    obtain ⟨o, ho⟩ : ∃ o, gList gRec n (bs.drop u) = o := ⟨_, rfl⟩
    rw [ho]
    have hc2 : ∀ W, (convert 101 3 (.int .u64 (n : Int))).run Tryz.prog W = .ok (.int .i64 (n : Int)) W := conv_i64 (by omega)
    have h8' : ¬ 10 < n := by omega
    have hub : u ≤ nb := by rw [← hnb]; exact hu
    have Hg := Lib.hid hg; have Ho := Lib.hid ho
    clear hm ho hg hnb hu
    go_enter Tryz.func42, Tryz.ntmps42
    go_wp2_with (first | go_skip | ((fail_if_success have := kO); (with_reducible apply al_bk H); clear H; intro wn kO H) | ((fail_if_success have := kT); (with_reducible apply al_bk H); clear H; intro wn kT H) | (with_reducible apply bd_bk0) | ((with_reducible apply st_bk H); rfl; rfl; rfl; (repeat (first | with_reducible apply Upd.head | with_reducible apply Upd.tail)); (first | rfl | assumption | (refine Hid.out ?_; assumption)); clear H; intro wn H) | (go_at_call 79; (with_reducible refine (rget_yes_c _ _ _ _ _ (Hv.out.below H.bel) Hg.out).mono ?_); rintro e wn ⟨rfl, hb⟩; replace H := H.call hb; clear hb))
    go_loopw [5, 8] (fun vx i wr => ∃ (j A : Nat) (L : RS) (vO : Value) (R : Res), j ≤ n ∧ i = .int .i64 j ∧ vx = .int .i64 A ∧ A ≤ nb ∧ Hid (L.length = j) ∧ Hid (pre (L.map (·.1)) (gList gRec (n - j) (bs.drop A)) = o) ∧ Hid (LOk8 R L) ∧ St w wr [Res.blk kT 24 #[vO], Res.blk kO 24 #[.slice none 0 0], R, Res.row 33 19 vO L.length (recsL L)]) (fun _ i _ => n - (intOf i).toNat)
    case atStart => exact ⟨0, u, [], .slice none 0 0, Res.none, by omega, rfl, rfl, hub, Lib.hid rfl, Lib.hid (by rw [List.map_nil, pre_nil]; exact Ho.out), Lib.hid LOk8.nil, (H.nilRow 33 19).addNone.perm (perm_start2 _ _ _ _)⟩
    case round =>
      clear H
      obtain ⟨j, A, L, vO, R, hj, rfl, rfl, hA, hLl, I, HK, H⟩ := hrel
      obtain ⟨av, cv, rfl⟩ := H.rowSl (v := vO) (by (repeat (first | with_reducible exact mH | with_reducible apply mT)))
      obtain ⟨nl, hnl⟩ : ∃ n, L.length = n := ⟨_, rfl⟩
      by_cases hlt : j < n
      · obtain ⟨m, hm⟩ : ∃ m, n - j = m + 1 := ⟨n - j - 1, by omega⟩
        have HLn : Hid (L.length ≤ 10) := Lib.hid (by have := hLl.out; omega)
        obtain ⟨v2, hd2, hs2⟩ := byt_drop hv A (by rw [Hnb.out]; exact hA)
        have Hd2 := Lib.hid hd2
        have Hdl : Hid ((bs.drop A).length ≤ 100000) := Lib.hid (by rw [List.length_drop, Hnb.out]; omega)
        clear hd2 hnl
        cases hg : gRec (bs.drop A) with
        | none =>
          have ho : Hid (o = none) := Lib.hid (by rw [← I.out, hm, pre_none hg])
          have Hg2 := Lib.hid hg; clear hg
          go_wp2_with (first | go_skip | (go_at_call 80; (fail_if_success have := TR); (with_reducible refine (rrec_n Hg2.out (Hd2.out.below H.bel) Hdl.out).mono ?_); rintro e wn ⟨rx, sx, rfl, h1, h2, hb⟩; have TR := Lib.hid True.intro; have Hrx := Lib.hid h1; have Hsx := Lib.hid h2; clear h1 h2; replace H := H.call hb; clear hb) | ((fail_if_success have := kR); (with_reducible apply al_rec H); clear H; intro wn kR H) | ((with_reducible apply st_rec H); rfl; rfl; rfl; (repeat (first | with_reducible apply Upd.head | with_reducible apply Upd.tail)); (focus (exact Hrx.out; done)); (focus (exact Hsx.out; done)); clear H; intro wn H) | (with_reducible apply bd_bk0) | ((with_reducible apply st_bk H); rfl; rfl; rfl; (repeat (first | with_reducible apply Upd.head | with_reducible apply Upd.tail)); (first | rfl | assumption | (refine Hid.out ?_; assumption)); clear H; intro wn H))
          all_goals first | (rw [Exit.noGoto_ret]) | skip
          have hR := H.arr (b := kO) (t := 24) (cs := #[.slice none 0 0]) (by (repeat (first | with_reducible exact mH | with_reducible apply mT)))
          exact bodyPost_ret (results_cell_tmp Tryz.results42 _ _ kO #[.slice none 0 0] _ _ rfl rfl hR Tryz.underlying24 rfl bk_info) rfl (by rw [ho.out]; exact ⟨rfl, H.bel⟩)
        | some p =>
          obtain ⟨r, t'⟩ := p
          have I1 : Hid (pre ((L.map (·.1)) ++ [r]) (gList gRec (n - (j + 1)) t') = o) := Lib.hid (by rw [← I.out, hm, pre_some hg, show n - (j + 1) = m by omega])
          have Hrok : Hid r.ok := Lib.hid (gRec_get _ _ _ hg).1.1
          have Hg2 := Lib.hid hg; clear hg
          go_wp2_with (first | go_skip | (go_at_call 80; (fail_if_success have := TR); (with_reducible refine (rrec_y Hg2.out (Hd2.out.below H.bel) Hdl.out).mono ?_); rintro e wn ⟨sR, B, rfl, ht, hB, h1, hs⟩; have TR := Lib.hid True.intro; obtain ⟨A4, hA4⟩ : ∃ z, A + B = z := ⟨_, rfl⟩; have hA4b : A4 ≤ nb := (by rw [List.length_drop, Hnb.out] at hB; omega); have Hw4 := Lib.hid (wR hA4 (by omega)); have Ht := Lib.hid (ht.trans (by rw [List.drop_drop, hA4])); clear ht hB hA4; have Hs1 := Lib.hid h1; clear h1; replace H := H.comp hs; clear hs; simp only [List.cons_append, List.nil_append] at H) | ((fail_if_success have := kR); (with_reducible apply al_rec H); clear H; intro wn kR H) | ((with_reducible apply st_rec H); rfl; rfl; rfl; (repeat (first | with_reducible apply Upd.head | with_reducible apply Upd.tail)); (focus (exact Hrok.out; done)); (focus (exact Hs1.out; done)); clear H; intro wn H) | ((with_reducible apply ld_rec); rfl; rfl; (first | (focus (apply H.rc; (repeat (first | with_reducible exact mH | with_reducible apply mT)); done)) | (apply RecAt.bel (hb := H.bel); assumption) | assumption)) | ((with_reducible apply ld_one (ty := 22) Tryz.underlying22 rfl); rfl; rfl; (focus (apply H.one; (repeat (first | with_reducible exact mH | with_reducible apply mT)); done))) | ((fail_if_success have := kU); (with_reducible apply bs_rec Hrok.out H); rfl; clear H; intro wn kU H) | ((with_reducible apply arm_app H (ht := Tryz.underlying22) (hinfo := info_rec3) (hzs := size_rec0) (hsz := by decide)); (conv => lhs; whnf); (conv => lhs; whnf); (intro v; (repeat (first | with_reducible apply Upd.head | with_reducible apply Upd.tail))); (focus (apply H.rowRead; (repeat (first | with_reducible exact mH | with_reducible apply mT)); done)); (focus (exact recsL_one (fun p hp => by rw [List.mem_singleton.1 hp]; exact Hs1.out); done)); (focus (have := HLn.out; unfold maxLen; omega; done)); (focus (have := HLn.out; omega; done)); clear H; intro wn vn H; obtain ⟨av, cv, rfl⟩ := H.rowSl (v := vn) (by (repeat (first | with_reducible exact mH | with_reducible apply mT)))) | ((with_reducible apply st_on recs_info H); rfl; rfl; (conv => lhs; whnf); (repeat (first | with_reducible apply Upd.head | with_reducible apply Upd.tail)); rfl; rfl; clear H; intro wn H) | ((with_reducible refine arm_addR Hw4.out ?_ ?_ ?_ ?_); rfl; rfl; rfl))
          go_roundw
          case rel => exact ⟨j + 1, A4, L ++ [(r, sR)], .slice av (L.length + 1) cv, (Res.row 82 4 sR r.f.length (fieldsL r.f)).and R, by omega, by go_num, rfl, hA4b, Lib.hid (by rw [List.length_append, hLl.out]; rfl), by rw [List.map_append, ← Ht.out]; exact I1, Lib.hid (HK.out.more Hrok.out Hs1.out), by
            rw [recsL_append, List.length_append]
            have H1 := (H.sub (Γ' := [Res.row 82 4 sR r.f.length (fieldsL r.f), Res.blk kT 24 #[.slice av (L.length + 1) cv], Res.blk kO 24 #[.slice none 0 0], R, Res.row 33 19 (.slice av (L.length + 1) cv) (L.length + 1) (recsL L ++ recsL [(r, sR)])]) (by (repeat (first | with_reducible exact List.Sublist.refl _ | with_reducible refine List.Sublist.cons_cons _ ?_ | refine List.Sublist.cons _ ?_)))).perm (perm_in2 _ _ _ _ _)
            exact H1.merge.perm (perm_out2 _ _ _ _)⟩
          case measure => simp [intOf]; omega
      · have hjn : j = n := by omega
        subst hjn
        have ho : Hid (o = some (L.map (·.1), bs.drop A)) := Lib.hid (by rw [← I.out, Nat.sub_self, pre_zero])
        rw [hnl] at H
        have hrecs : ∀ W Γ', St w W Γ' → R ∈ Γ' → Res.row 33 19 (.slice av nl cv) nl (recsL L) ∈ Γ' → Recs W (.slice av nl cv) (L.map (·.1)) := fun W Γ' H' h1 h2 => HK.out.recs (H'.get h1) (by rw [hnl]; exact H'.rowRead h2)
        have HR := Lib.hid hrecs
        have HK2 : Hid (∀ W, (R.and (Res.row 33 19 (.slice av nl cv) nl (recsL L))).holds W → Recs W (.slice av nl cv) (L.map (·.1))) := Lib.hid fun W hW => HK.out.recs hW.1 (by rw [hnl]; exact Res.row_reads hW.2)
        obtain ⟨q, hq⟩ : ∃ q, bMay (L.map (·.1)) = q := ⟨_, rfl⟩
        have Hq := Lib.hid hq
        clear hrecs hnl
        have hneq : A = nb ∨ (A < nb ∧ ¬ ((A : Int) = (nb : Int)) ∧ ¬ A = nb) := by omega
        rcases hneq with hAn | ⟨hAn, hA5, hA6⟩
        · subst hAn
          have ht : bs.drop A = [] := List.drop_of_length_le (by rw [Hnb.out]; exact Nat.le_refl _)
          cases q with
          | false =>
            have hend : Hid (gEnd o = none) := Lib.hid (by rw [ho.out]; unfold gEnd; simp only; rw [if_neg (fun h => by rw [hq] at h; cases h.2)])
            clear hq ht
            go_wp2_with (first | go_skip | ((with_reducible apply ld_bk); rfl; rfl; (focus (apply H.one; (repeat (first | with_reducible exact mH | with_reducible apply mT)); done))) | (with_reducible apply bd_bk0) | ((with_reducible apply st_bk H); rfl; rfl; rfl; (repeat (first | with_reducible apply Upd.head | with_reducible apply Upd.tail)); (first | rfl | assumption | (refine Hid.out ?_; assumption)); clear H; intro wn H) | (go_at_call 15; (with_reducible refine (rbmay_v Hq.out _ (HR.out _ _ H (by (repeat (first | with_reducible exact mH | with_reducible apply mT))) (by (repeat (first | with_reducible exact mH | with_reducible apply mT))))).mono ?_); rintro e wn ⟨rfl, hb⟩; replace H := H.call hb; clear hb))
            all_goals first | (rw [Exit.noGoto_ret]) | skip
            have hR := H.arr (b := kO) (t := 24) (cs := #[.slice none 0 0]) (by (repeat (first | with_reducible exact mH | with_reducible apply mT)))
            exact bodyPost_ret (results_cell_tmp Tryz.results42 _ _ kO #[.slice none 0 0] _ _ rfl rfl hR Tryz.underlying24 rfl bk_info) rfl (by rw [hend.out]; exact ⟨rfl, H.bel⟩)
          | true =>
            have hend : Hid (gEnd o = some (L.map (·.1))) := Lib.hid (by rw [ho.out]; unfold gEnd; simp only; rw [if_pos ⟨ht, hq⟩])
            clear hq ht
            go_wp2_with (first | go_skip | ((with_reducible apply ld_bk); rfl; rfl; (focus (apply H.one; (repeat (first | with_reducible exact mH | with_reducible apply mT)); done))) | (with_reducible apply bd_bk0) | ((with_reducible apply st_bk H); rfl; rfl; rfl; (repeat (first | with_reducible apply Upd.head | with_reducible apply Upd.tail)); (first | rfl | assumption | (refine Hid.out ?_; assumption)); clear H; intro wn H) | (go_at_call 15; (with_reducible refine (rbmay_v Hq.out _ (HR.out _ _ H (by (repeat (first | with_reducible exact mH | with_reducible apply mT))) (by (repeat (first | with_reducible exact mH | with_reducible apply mT))))).mono ?_); rintro e wn ⟨rfl, hb⟩; replace H := H.call hb; clear hb))
            all_goals first | (rw [Exit.noGoto_ret]) | skip
            have hR := H.arr (b := kO) (t := 24) (cs := #[.slice av nl cv]) (by (repeat (first | with_reducible exact mH | with_reducible apply mT)))
            exact bodyPost_ret (results_cell_tmp Tryz.results42 _ _ kO #[.slice av nl cv] _ _ rfl rfl hR Tryz.underlying24 rfl bk_info) rfl (by rw [hend.out]; exact ⟨_, R.and (Res.row 33 19 (.slice av nl cv) nl (recsL L)), rfl, HK2.out, (H.sub (Γ' := [R, Res.row 33 19 (.slice av nl cv) nl (recsL L)]) (by (repeat (first | with_reducible exact List.Sublist.refl _ | with_reducible refine List.Sublist.cons_cons _ ?_ | refine List.Sublist.cons _ ?_)))).merge⟩)
        · have hend : Hid (gEnd o = none) := Lib.hid (by rw [ho.out]; unfold gEnd; simp only; rw [if_neg (fun h => by have := congrArg List.length h.1; rw [List.length_drop, Hnb.out] at this; simp at this; omega)])
          clear hq
          cases q
          all_goals
            go_wp2_with (first | go_skip | ((with_reducible apply ld_bk); rfl; rfl; (focus (apply H.one; (repeat (first | with_reducible exact mH | with_reducible apply mT)); done))) | (with_reducible apply bd_bk0) | ((with_reducible apply st_bk H); rfl; rfl; rfl; (repeat (first | with_reducible apply Upd.head | with_reducible apply Upd.tail)); (first | rfl | assumption | (refine Hid.out ?_; assumption)); clear H; intro wn H) | (go_at_call 15; (with_reducible refine (rbmay_v Hq.out _ (HR.out _ _ H (by (repeat (first | with_reducible exact mH | with_reducible apply mT))) (by (repeat (first | with_reducible exact mH | with_reducible apply mT))))).mono ?_); rintro e wn ⟨rfl, hb⟩; replace H := H.call hb; clear hb))
            all_goals first | (rw [Exit.noGoto_ret]) | skip
            have hR := H.arr (b := kO) (t := 24) (cs := #[.slice none 0 0]) (by (repeat (first | with_reducible exact mH | with_reducible apply mT)))
            exact bodyPost_ret (results_cell_tmp Tryz.results42 _ _ kO #[.slice none 0 0] _ _ rfl rfl hR Tryz.underlying24 rfl bk_info) rfl (by rw [hend.out]; exact ⟨rfl, H.bel⟩)
set_option maxHeartbeats 6400000 in
theorem rcndigest_c (va : Value) (L : BK) (w : World) (hv : Recs w va L) : Calls Tryz.prog 44 #[.agg #[va]] w fun e w' => e = .returned (.agg (encU (dig (bPutP L))).toArray) ∧ Below w.heap.size w w' := by
  obtain ⟨bs, hbs⟩ : ∃ bs, Hid (bPutP L = bs) := ⟨_, rfl⟩
  have Hl : Hid (bs.length ≤ 80000) := Lib.hid (by rw [← hbs.out]; exact bPutP_len hv.ok)
  obtain ⟨O, hO⟩ : ∃ O, Hid ((encU (dig bs)).toArray = O) := ⟨_, rfl⟩
  have HOs : Hid (O.size = 32) := Lib.hid (by rw [← hO.out]; simp [encU_length, dig, outs_length])
  have HO1 : Hid (O.all (·.oneCell') = true) := Lib.hid (by rw [← hO.out]; simp [encU, Value.oneCell'])
  rw [hbs.out, hO.out]
  obtain ⟨m, hm⟩ : ∃ m, bMay L = m := ⟨_, rfl⟩
  have Hm := Lib.hid hm
  have Ha := Lib.hid hv; clear hv hm
  have H := St.init w
  go_enter Tryz.func44, Tryz.ntmps44
  go_wp2_with (first | go_skip | ((fail_if_success have := kB); (with_reducible apply arm_box H); rfl; clear H; intro wn kB H) | ((with_reducible apply ld_bk); rfl; rfl; (focus (apply H.one; (repeat (first | with_reducible exact mH | with_reducible apply mT)); done))) | ((fail_if_success have := kR); (with_reducible apply al_dg H); clear H; intro wn kR H) | ((with_reducible apply st_dg H); rfl; rfl; rfl; exact HOs.out; exact HO1.out; (repeat (first | with_reducible apply Upd.head | with_reducible apply Upd.tail)); clear H; intro wn H) | (go_at_call 40; (with_reducible refine (rcnput_c _ L _ (Ha.out.below H.bel)).mono ?_); rintro e wn ⟨v, rfl, hs⟩; rw [hbs.out] at hs; rw [Hm.out]; replace H := H.comp hs; clear hs; simp only [List.cons_append, List.nil_append] at H) | (go_at_call 81; (with_reducible refine (rsum_c v bs Hl.out _ (H.byt8 (by (repeat (first | with_reducible exact mH | with_reducible apply mT))))).mono ?_); rw [hO.out]; rintro e wn ⟨rfl, hb⟩; replace H := H.call hb; clear hb))
  all_goals first | (rw [Exit.noGoto_ret]) | skip
  have hR := H.blkOf (b := kR) (t := 64) (cs := O) (by (repeat (first | with_reducible exact mH | with_reducible apply mT)))
  exact bodyPost_ret (results_cell_row Tryz.results44 _ _ kR _ O _ _ rfl hR Tryz.underlying64 rfl (by rw [HOs.out]; exact size32_info)) rfl ⟨rfl, H.bel⟩
theorem rcndigest_v {va : Value} {L : BK} {bs : List UInt8} {D : Array Value} (hb : bPutP L = bs) (hD : (encU (dig bs)).toArray = D) (w : World) (hv : Recs w va L) : Calls Tryz.prog 44 #[.agg #[va]] w fun e w' => e = .returned (.agg D) ∧ Below w.heap.size w w' := by
  subst hb hD
  exact rcndigest_c va L w hv
theorem rcnput_v {va : Value} {L : BK} {m : Bool} {bs : List UInt8} (hm : bMay L = m) (hb : bPutP L = bs) (w : World) (hv : Recs w va L) : Calls Tryz.prog 40 #[.agg #[va]] w fun e w' => ∃ v, e = .returned (.tuple #[v, .bool m]) ∧ St w w' [Res.row 5 1 v bs.length (encU bs)] := by
  subst hm hb
  exact rcnput_c va L w hv
theorem rcnget_n {w : World} {v : Value} {bs : List UInt8} (h : gBook bs = none) (hl : bs.length ≤ 100000) (hv : Byt w v bs) : Calls Tryz.prog 42 #[v] w fun e w' => e = .returned (.tuple #[.agg #[.slice none 0 0], .bool false]) ∧ Below w.heap.size w w' := by
  have := rcnget_c hv hl
  rw [h] at this
  exact this
theorem rcnget_y {w : World} {v : Value} {bs : List UInt8} {L : BK} (h : gBook bs = some L) (hl : bs.length ≤ 100000) (hv : Byt w v bs) : Calls Tryz.prog 42 #[v] w (GotP w L) := by
  have := rcnget_c hv hl
  rw [h] at this
  exact this
end Go.Proofs.YtolbmemogoojhaaGreat
