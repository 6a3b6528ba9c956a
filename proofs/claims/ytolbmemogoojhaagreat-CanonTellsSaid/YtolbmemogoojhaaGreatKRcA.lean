/- The document's bytes of a book. -/
import Derived.Test.YtolbmemogoojhaaGreatKCanH
import Derived.Test.YtolbmemogoojhaaGreatKRbA
namespace Go.Proofs.YtolbmemogoojhaaGreat
open Go Go.RowKit Go.Deep
set_option linter.unusedVariables false
set_option linter.unusedSimpArgs false
set_option maxRecDepth 100000
theorem id_at {w : World} {b k : Nat} {r : RD} {s : Value} {c : UInt8} (h : RecAt w b 0 r s) (hc : r.id[k]? = some c) : Sub w b k #[.int .u8 (c.toNat : Int)] := fun j u hj => by
  match j, hj with
  | 0, hj =>
    simp only [List.getElem?_toArray, List.getElem?_cons_zero, Option.some.injEq] at hj
    subst hj
    have hg : (idA r)[k]? = some (.int .u8 (c.toNat : Int)) := by
      unfold idA
      rw [List.getElem?_toArray, encU_get, hc]; rfl
    have := h.id k _ hg
    simpa using this
theorem bs_cat {bs c : List UInt8} : encU bs ++ encU c = encU (bs ++ c) := (encU_append _ _).symm
set_option maxHeartbeats 12800000 in
theorem rcnput_c (va : Value) (L : BK) (w : World) (hv : Recs w va L) : Calls Tryz.prog 40 #[.agg #[va]] w (BPut w L) := by
  obtain ⟨m, hm⟩ : ∃ m, Hid (bMay L = m) := ⟨_, rfl⟩
  have hres : Hid (BPut w L = fun e w' => ∃ v, e = .returned (.tuple #[v, .bool m]) ∧ St w w' [Res.row 5 1 v (bPutP L).length (encU (bPutP L))]) := Lib.hid (by unfold BPut; rw [hm.out])
  rw [hres.out]; clear hres
  obtain ⟨n, hn⟩ : ∃ n, L.length = n := ⟨_, rfl⟩
  obtain ⟨a, c, rfl, hm1, _⟩ := id hv.slice
  rw [hn] at hv hm1 ⊢
  unfold maxLen at hm1
  have Ha := Lib.hid hv; have Hn := Lib.hid hn; clear hv hn
  have H := St.init w
  cases m with
  | false =>
    have hP : Hid (bPutP L = []) := Lib.hid (by unfold bPutP; rw [hm.out]; rfl)
    go_enter Tryz.func40, Tryz.ntmps40
    go_wp2_with (first | go_skip | ((fail_if_success have := kB); (with_reducible apply arm_box H); rfl; clear H; intro wn kB H) | ((with_reducible apply ld_bk); rfl; rfl; (focus (apply H.one; (repeat (first | with_reducible exact mH | with_reducible apply mT)); done))) | (go_at_call 15; first | ((with_reducible refine (rbmay_v hm.out _ (Ha.out.below H.bel)).mono ?_); rintro e wn ⟨rfl, hb⟩; replace H := H.call hb; clear hb)))
    go_ret2
    exact ⟨.slice none 0 0, rfl, by rw [hP.out]; exact (H.sub (List.nil_sublist _)).nilRow _ _⟩
  | true =>
    have hP : Hid (bPutP L = bBytes L) := Lib.hid (by unfold bPutP; rw [hm.out]; rfl)
    have HBL : Hid ((bBytes L).length ≤ 100000 ∧ n ≤ 1000000 ∧ (∀ r ∈ L, r.f.length ≤ 1000000 ∧ ∀ f ∈ r.f, 0 ≤ f.1 ∧ f.1 < 8)) := Lib.hid (by rw [← Hn.out]; exact can_small hm.out Ha.out.ok)
    have Hnb := Lib.hid HBL.out.2.1
    have hcv : ∀ W, (convert 3 101 (.int .i64 (n : Int))).run Tryz.prog W = .ok (.int .u64 (n : Int)) W := conv_u64 Hnb.out
    go_enter Tryz.func40, Tryz.ntmps40
    go_wp2_with (first | go_skip | ((fail_if_success have := kB); (with_reducible apply arm_box H); rfl; clear H; intro wn kB H) | ((with_reducible apply ld_bk); rfl; rfl; (focus (apply H.one; (repeat (first | with_reducible exact mH | with_reducible apply mT)); done))) | (go_at_call 15; first | ((with_reducible refine (rbmay_v hm.out _ (Ha.out.below H.bel)).mono ?_); rintro e wn ⟨rfl, hb⟩; replace H := H.call hb; clear hb)) | ((with_reducible apply ld_one (ty := 22) Tryz.underlying22 rfl); rfl; rfl; (focus (apply H.one; (repeat (first | with_reducible exact mH | with_reducible apply mT)); done))) | (go_at_call 73; (fail_if_success have := Tvo); (with_reducible refine (rput_c n (by have := Hnb.out; omega) _).mono ?_); rintro e wn ⟨vo, rfl, hown, hb⟩; have Tvo := Lib.hid True.intro; replace H := H.rowIn hb hown.own; clear hown hb))
    clear hcv
    go_loopw [5, 6] (fun vx i wr => ∃ (j : Nat) (vo : Value) (bs : List UInt8), vo = vx ∧ j ≤ n ∧ i = .int .i64 j ∧ Hid (bBytes L = bs ++ (L.drop j).flatMap rBytes) ∧ St w wr [Res.row 5 1 vo (bs).length (encU (bs)), Res.blk kB 24 #[.slice a n c]]) (fun _ i _ => n - (intOf i).toNat)
    case atStart => exact ⟨0, vo, putL n, rfl, by omega, rfl, Lib.hid (by unfold bBytes; rw [Hn.out]; rfl), H.sub (by (repeat (first | with_reducible exact List.Sublist.refl _ | with_reducible refine List.Sublist.cons_cons _ ?_ | refine List.Sublist.cons _ ?_)))⟩
    case round =>
      clear H
      obtain ⟨j, vo, bs, hvt, hj, rfl, I, H⟩ := hrel
      subst hvt
      by_cases hlt : j < n
      · obtain ⟨r, hr⟩ : ∃ r, L[j]? = some r := ⟨_, List.getElem?_eq_getElem (by rw [Hn.out]; exact hlt)⟩
        obtain ⟨b, off, s, rfl, hbw, G, hf⟩ := Ha.out.at hr
        obtain ⟨hrl, hrf⟩ := HBL.out.2.2 r (List.mem_of_getElem? hr)
        have I1 : Hid (bBytes L = bs ++ rBytes r ++ (L.drop (j + 1)).flatMap rBytes) := Lib.hid (by rw [I.out, drop_at hr, List.flatMap_cons, List.append_assoc])
        have HLen := Lib.hid (show (bs ++ rBytes r).length ≤ 100000 from by have := HBL.out.1; rw [I1.out, List.length_append] at this; omega)
        have hok : Hid r.ok := Lib.hid G.2
        obtain ⟨nf, hnf⟩ : ∃ nf, r.f.length = nf := ⟨_, rfl⟩
        obtain ⟨_, fa, fc, rfl, hc1, hc2, _⟩ := id hf
        rw [hnf] at hf hc1 G hrl
        unfold maxLen at hc2
        have Hf := Lib.hid hf; have Hnf := Lib.hid hnf; have Hnfb := Lib.hid hrl; have Hrf := Lib.hid hrf
        have Hone2 : Hid (Value.oneCell' (.slice fa nf fc) = true) := Lib.hid rfl
        obtain ⟨st, hst⟩ : ∃ st, stBytes r.N r.R = st := ⟨_, rfl⟩
        have Hst := Lib.hid hst
        have HRB : Hid (rBytes r = r.id ++ (st ++ (putL nf ++ r.f.flatMap fBytes))) := Lib.hid (by unfold rBytes; rw [hst, hnf])
        have hlen := HLen.out
        rw [HRB.out] at hlen
        simp only [List.length_append] at hlen
        have hidl : r.id.length = 16 := G.2
        have HB1 : Hid (bs.length + 16 ≤ 100000) := Lib.hid (by omega)
        have HB2 : Hid (bs.length + 16 + st.length ≤ 100000) := Lib.hid (by omega)
        have HB3 : Hid (bs.length + 16 + st.length + (putL nf).length ≤ 100000) := Lib.hid (by omega)
        have Hidl := Lib.hid hidl
        clear hf hr hbw hnf hrl hrf hst hlen hidl
        go_wp2_with (first | go_skip | ((with_reducible apply ld_one (ty := 22) Tryz.underlying22 rfl); rfl; rfl; (focus (apply H.one; (repeat (first | with_reducible exact mH | with_reducible apply mT)); done))) | ((with_reducible apply ld_rec); rfl; rfl; (first | (focus (apply H.rc; (repeat (first | with_reducible exact mH | with_reducible apply mT)); done)) | (apply RecAt.bel (hb := H.bel); assumption) | assumption)) | ((fail_if_success have := kR); (with_reducible apply al_rec H); clear H; intro wn kR H) | ((with_reducible apply st_rec H); rfl; rfl; rfl; (repeat (first | with_reducible apply Upd.head | with_reducible apply Upd.tail)); (first | assumption | (refine Hid.out ?_; assumption)); (first | rfl | assumption | (refine Hid.out ?_; assumption)); clear H; intro wn H))
        go_loopw [5, 8] (fun vx i wr => ∃ (k : Nat) (vo : Value) (bt : List UInt8), vo = vx ∧ k ≤ 16 ∧ i = .int .i64 k ∧ Hid (bt = bs ++ r.id.take k) ∧ St w wr [Res.row 5 1 vo (bt).length (encU (bt)), Res.rc kR r (.slice fa nf fc), Res.blk kB 24 #[.slice (some ⟨b, off, none⟩) n c]]) (fun _ i _ => 16 - (intOf i).toNat)
        case atStart => exact ⟨0, vo, bs, rfl, by omega, rfl, Lib.hid (by simp), by exact H.perm (List.Perm.swap _ _ _)⟩
        case round =>
          clear H
          obtain ⟨k, vo, bt, hvt, hk, rfl, J, H⟩ := hrel
          subst hvt
          by_cases hkl : k < 16
          · obtain ⟨c8, hc8⟩ : ∃ c, r.id[k]? = some c := ⟨_, List.getElem?_eq_getElem (by rw [Hidl.out]; exact hkl)⟩
            have Hc := Lib.hid hc8
            have J1 : Hid (bt ++ [c8] = bs ++ r.id.take (k + 1)) := Lib.hid (by rw [J.out, List.take_add_one, hc8, List.append_assoc]; rfl)
            have HB4 : Hid (bt.length + 1 ≤ 100000) := Lib.hid (by have := HB1.out; rw [J.out, List.length_append, List.length_take, Hidl.out]; omega)
            clear hc8
            go_wp2_with (first | go_skip | ((with_reducible refine ld_one (ty := 5) Tryz.underlying5 rfl ?_ ?_ (id_at (H.rc (r := r) (by (repeat (first | with_reducible exact mH | with_reducible apply mT)))) Hc.out) ?_); rfl; rfl) | ((fail_if_success have := kU); (with_reducible apply bs_u8 (c := c8) H); exact rfl; rfl; clear H; intro wn kU H) | ((fail_if_success have := Tvn1); (with_reducible apply arm_app H (ht := Tryz.underlying58) (hinfo := info_u8) (hzs := rfl) (hsz := by decide)); (conv => lhs; whnf); (conv => lhs; whnf); (intro v; (repeat (first | with_reducible apply Upd.head | with_reducible apply Upd.tail))); (focus (apply H.rowRead; (repeat (first | with_reducible exact mH | with_reducible apply mT)); done)); (focus (exact encU_one _; done)); (focus (have := HB4.out; unfold maxLen; omega; done)); (focus (have := HB4.out; omega; done)); clear H; intro wn vn1 H; have Tvn1 := Lib.hid True.intro))
            go_roundw
            case rel => exact ⟨k + 1, vn1, bt ++ [c8], rfl, by omega, by go_num, J1, by
              rw [bs_cat, show bt.length + 1 = (bt ++ [c8]).length by simp] at H
              exact H.sub (by (repeat (first | with_reducible exact List.Sublist.refl _ | with_reducible refine List.Sublist.cons_cons _ ?_ | refine List.Sublist.cons _ ?_)))⟩
            case measure => simp [intOf]; omega
          · have hkn : k = 16 := by omega
            subst hkn
            have J1 : Hid (bt = bs ++ r.id) := Lib.hid (by rw [J.out, List.take_of_length_le (by rw [Hidl.out]; exact Nat.le_refl _)])
            have HBt : Hid (bt.length = bs.length + 16) := Lib.hid (by rw [J1.out, List.length_append, Hidl.out])
            have hcv : ∀ W, (convert 3 101 (.int .i64 (nf : Int))).run Tryz.prog W = .ok (.int .u64 (nf : Int)) W := conv_u64 Hnfb.out
            go_wp2_with (first | go_skip | ((with_reducible apply ld_dead); rfl; rfl; (first | (focus (apply H.rc; (repeat (first | with_reducible exact mH | with_reducible apply mT)); done)) | (apply RecAt.bel (hb := H.bel); assumption))) | (go_at_call 74; (fail_if_success have := Tvd); (with_reducible refine (rstput_v rfl Hst.out _).mono ?_); rintro e wn ⟨vd, rfl, hown, hb⟩; have Tvd := Lib.hid True.intro; replace H := H.rowIn hb hown.own; clear hown hb) | ((fail_if_success have := Tv1); (with_reducible apply arm_app H (ht := Tryz.underlying58) (hinfo := info_u8) (hzs := rfl) (hsz := by decide)); (conv => lhs; whnf); (conv => lhs; whnf); (intro v; (repeat (first | with_reducible apply Upd.head | with_reducible apply Upd.tail))); (focus (apply H.rowRead; (repeat (first | with_reducible exact mH | with_reducible apply mT)); done)); (focus (exact encU_one _; done)); (focus (have := And.intro HBt.out HB2.out; unfold maxLen; omega; done)); (focus (have := And.intro HBt.out HB2.out; omega; done)); clear H; intro wn v1 H; have Tv1 := Lib.hid True.intro) | ((with_reducible apply ld_F); rfl; rfl; (first | (focus (apply H.rc; (repeat (first | with_reducible exact mH | with_reducible apply mT)); done)) | (apply RecAt.bel (hb := H.bel); assumption))) | (go_at_call 73; (fail_if_success have := Tvp); (with_reducible refine (rput_c nf (by have := Hnfb.out; omega) _).mono ?_); rintro e wn ⟨vp, rfl, hown, hb⟩; have Tvp := Lib.hid True.intro; replace H := H.rowIn hb hown.own; clear hown hb) | ((fail_if_success have := Tv3); (with_reducible apply arm_app H (ht := Tryz.underlying58) (hinfo := info_u8) (hzs := rfl) (hsz := by decide)); (conv => lhs; whnf); (conv => lhs; whnf); (intro v; (repeat (first | with_reducible apply Upd.head | with_reducible apply Upd.tail))); (focus (apply H.rowRead; (repeat (first | with_reducible exact mH | with_reducible apply mT)); done)); (focus (exact encU_one _; done)); (focus (have := And.intro HBt.out HB3.out; unfold maxLen; omega; done)); (focus (have := And.intro HBt.out HB3.out; omega; done)); clear H; intro wn v3 H; have Tv3 := Lib.hid True.intro))
            clear hcv
            have HE : Hid (encU bt ++ encU st ++ encU (putL nf) = encU (bt ++ (st ++ putL nf)) ∧ bt.length + st.length + (putL nf).length = (bt ++ (st ++ putL nf)).length) := Lib.hid ⟨by simp only [encU_append, List.append_assoc], by simp only [List.length_append]; omega⟩
            rw [HE.out.1, HE.out.2] at H
            go_loopw [5, 11] (fun vx i wr => ∃ (k : Nat) (vo : Value) (bt : List UInt8), vo = vx ∧ k ≤ nf ∧ i = .int .i64 k ∧ Hid (bBytes L = bt ++ ((r.f.drop k).flatMap fBytes ++ (L.drop (j + 1)).flatMap rBytes)) ∧ St w wr [Res.row 5 1 vo (bt).length (encU (bt)), Res.rc kR r (.slice fa nf fc), Res.blk kB 24 #[.slice (some ⟨b, off, none⟩) n c]]) (fun _ i _ => nf - (intOf i).toNat)
            case atStart => exact ⟨0, v3, bt ++ (st ++ putL nf), rfl, by omega, rfl, Lib.hid (by rw [I1.out, HRB.out, J1.out]; simp only [List.append_assoc, List.drop_zero]), (H.sub (Γ' := [Res.row 5 1 v3 (bt ++ (st ++ putL nf)).length (encU (bt ++ (st ++ putL nf))), Res.rc kR r (.slice fa nf fc), Res.blk kB 24 #[.slice (some ⟨b, off, none⟩) n c]]) (by (repeat (first | with_reducible exact List.Sublist.refl _ | with_reducible refine List.Sublist.cons_cons _ ?_ | refine List.Sublist.cons _ ?_))))⟩
            case round =>
              clear H
              obtain ⟨k, vo, bt, hvt, hk, rfl, I2, H⟩ := hrel
              subst hvt
              by_cases hkl : k < nf
              · obtain ⟨f, hfk⟩ : ∃ f, r.f[k]? = some f := ⟨_, List.getElem?_eq_getElem (by rw [Hnf.out]; exact hkl)⟩
                obtain ⟨b2, off2, rfl, G2⟩ := fldat_of Hf.out hfk
                obtain ⟨no, N, R, S⟩ := f
                obtain ⟨g1, g2⟩ := Hrf.out _ (List.mem_of_getElem? hfk)
                dsimp only at g1 g2 G2
                obtain ⟨m, rfl⟩ : ∃ m : Nat, no = (m : Int) := ⟨no.toNat, by omega⟩
                obtain ⟨c8, hc8⟩ : ∃ c, UInt8.ofNat m = c := ⟨_, rfl⟩
                obtain ⟨cb, hcb⟩ : ∃ c, cBytes N R S = c := ⟨_, rfl⟩
                have I3 : Hid (bBytes L = bt ++ ([c8] ++ cb) ++ ((r.f.drop (k + 1)).flatMap fBytes ++ (L.drop (j + 1)).flatMap rBytes)) := Lib.hid (by rw [I2.out, drop_at hfk, List.flatMap_cons]; unfold fBytes; dsimp only; rw [Int.toNat_natCast, hc8, hcb]; simp only [List.append_assoc, List.cons_append, List.nil_append])
                have hlen := HBL.out.1
                rw [I3.out] at hlen
                simp only [List.length_append, List.length_cons, List.length_nil] at hlen
                have HB4 : Hid (bt.length + 1 ≤ 100000) := Lib.hid (by omega)
                have HB5 : Hid (bt.length + 1 + cb.length ≤ 100000) := Lib.hid (by omega)
                have Hcb := Lib.hid hcb
                have hm8 : m < 8 := by omega
                have Hc8 : Hid (Value.int .u8 (m : Int) = .int .u8 (c8.toNat : Int)) := Lib.hid (by rw [← hc8, UInt8.toNat_ofNat', Nat.mod_eq_of_lt (by omega)])
                clear hfk hlen hcb hc8 g1 g2
                go_wp2_with (first | go_skip | ((with_reducible apply ld_F); rfl; rfl; (first | (focus (apply H.rc; (repeat (first | with_reducible exact mH | with_reducible apply mT)); done)) | (apply RecAt.bel (hb := H.bel); assumption))) | ((with_reducible apply ld_fcel); rfl; rfl; (first | (focus (apply H.fld; (repeat (first | with_reducible exact mH | with_reducible apply mT)); done)) | (apply FldAt.bel (hb := H.bel); assumption))) | ((with_reducible apply ld_fno); rfl; rfl; (first | (focus (apply H.fld; (repeat (first | with_reducible exact mH | with_reducible apply mT)); done)) | (apply FldAt.bel (hb := H.bel); assumption))) | (go_at_call 75; (fail_if_success have := Tvc); (with_reducible refine (rcput_c _ _ _ _).mono ?_); rintro e wn ⟨vc, rfl, hown, hb⟩; have Tvc := Lib.hid True.intro; rw [Hcb.out] at hown; replace H := H.rowIn hb hown.own; clear hown hb) | ((fail_if_success have := kU); (with_reducible apply bs_u8 (c := c8) H); exact Hc8.out; rfl; clear H; intro wn kU H) | ((fail_if_success have := Tvn1); (with_reducible apply arm_app H (ht := Tryz.underlying58) (hinfo := info_u8) (hzs := rfl) (hsz := by decide)); (conv => lhs; whnf); (conv => lhs; whnf); (intro v; (repeat (first | with_reducible apply Upd.head | with_reducible apply Upd.tail))); (focus (apply H.rowRead; (repeat (first | with_reducible exact mH | with_reducible apply mT)); done)); (focus (exact encU_one _; done)); (focus (have := HB4.out; unfold maxLen; omega; done)); (focus (have := HB4.out; omega; done)); clear H; intro wn vn1 H; have Tvn1 := Lib.hid True.intro) | ((fail_if_success have := Tvn2); (with_reducible apply arm_app H (ht := Tryz.underlying58) (hinfo := info_u8) (hzs := rfl) (hsz := by decide)); (conv => lhs; whnf); (conv => lhs; whnf); (intro v; (repeat (first | with_reducible apply Upd.head | with_reducible apply Upd.tail))); (focus (apply H.rowRead; (repeat (first | with_reducible exact mH | with_reducible apply mT)); done)); (focus (exact encU_one _; done)); (focus (have := HB5.out; unfold maxLen; omega; done)); (focus (have := HB5.out; omega; done)); clear H; intro wn vn2 H; have Tvn2 := Lib.hid True.intro))
                go_roundw
                case rel => exact ⟨k + 1, vn2, bt ++ ([c8] ++ cb), rfl, by omega, by go_num, I3, by
                  have HE : encU bt ++ encU [c8] ++ encU cb = encU (bt ++ ([c8] ++ cb)) ∧ bt.length + 1 + cb.length = (bt ++ ([c8] ++ cb)).length := ⟨by simp only [encU_append, List.append_assoc], by simp only [List.length_append, List.length_cons, List.length_nil]; omega⟩
                  rw [HE.1, HE.2] at H
                  exact H.sub (Γ' := [Res.row 5 1 vn2 (bt ++ ([c8] ++ cb)).length (encU (bt ++ ([c8] ++ cb))), Res.rc kR r (.slice (some ⟨b2, off2, none⟩) nf fc), Res.blk kB 24 #[.slice (some ⟨b, off, none⟩) n c]]) (by (repeat (first | with_reducible exact List.Sublist.refl _ | with_reducible refine List.Sublist.cons_cons _ ?_ | refine List.Sublist.cons _ ?_)))⟩
                case measure => simp [intOf]; omega
              · have hkn : k = nf := by omega
                subst hkn
                have I3 : Hid (bBytes L = bt ++ (L.drop (j + 1)).flatMap rBytes) := Lib.hid (by rw [I2.out, ← Hnf.out, List.drop_length]; rfl)
                go_wp2_with (first | go_skip | ((with_reducible apply ld_F); rfl; rfl; (first | (focus (apply H.rc; (repeat (first | with_reducible exact mH | with_reducible apply mT)); done)) | (apply RecAt.bel (hb := H.bel); assumption))) | ((with_reducible apply ld_fcel); rfl; rfl; (first | (focus (apply H.fld; (repeat (first | with_reducible exact mH | with_reducible apply mT)); done)) | (apply FldAt.bel (hb := H.bel); assumption))) | ((with_reducible apply ld_fno); rfl; rfl; (first | (focus (apply H.fld; (repeat (first | with_reducible exact mH | with_reducible apply mT)); done)) | (apply FldAt.bel (hb := H.bel); assumption))) | (go_at_call 75; (fail_if_success have := Tvc); (with_reducible refine (rcput_c _ _ _ _).mono ?_); rintro e wn ⟨vc, rfl, hown, hb⟩; have Tvc := Lib.hid True.intro; rw [Hcb.out] at hown; replace H := H.rowIn hb hown.own; clear hown hb) | ((fail_if_success have := kU); (with_reducible apply bs_u8 (c := c8) H); exact Hc8.out; rfl; clear H; intro wn kU H) | ((fail_if_success have := Tvn1); (with_reducible apply arm_app H (ht := Tryz.underlying58) (hinfo := info_u8) (hzs := rfl) (hsz := by decide)); (conv => lhs; whnf); (conv => lhs; whnf); (intro v; (repeat (first | with_reducible apply Upd.head | with_reducible apply Upd.tail))); (focus (apply H.rowRead; (repeat (first | with_reducible exact mH | with_reducible apply mT)); done)); (focus (exact encU_one _; done)); (focus (have := HB4.out; unfold maxLen; omega; done)); (focus (have := HB4.out; omega; done)); clear H; intro wn vn1 H; have Tvn1 := Lib.hid True.intro) | ((fail_if_success have := Tvn2); (with_reducible apply arm_app H (ht := Tryz.underlying58) (hinfo := info_u8) (hzs := rfl) (hsz := by decide)); (conv => lhs; whnf); (conv => lhs; whnf); (intro v; (repeat (first | with_reducible apply Upd.head | with_reducible apply Upd.tail))); (focus (apply H.rowRead; (repeat (first | with_reducible exact mH | with_reducible apply mT)); done)); (focus (exact encU_one _; done)); (focus (have := HB5.out; unfold maxLen; omega; done)); (focus (have := HB5.out; omega; done)); clear H; intro wn vn2 H; have Tvn2 := Lib.hid True.intro))
                go_roundw
                case rel => exact ⟨j + 1, vo, bt, rfl, by omega, by go_num, I3, H.sub (by (repeat (first | with_reducible exact List.Sublist.refl _ | with_reducible refine List.Sublist.cons_cons _ ?_ | refine List.Sublist.cons _ ?_)))⟩
                case measure => simp [intOf]; omega
      · have hjn : j = n := by omega
        subst hjn
        have I1 : Hid (bBytes L = bs) := Lib.hid (by rw [I.out, ← Hn.out, List.drop_length]; simp)
        go_wp2_with (first | go_skip | ((fail_if_success have := kB); (with_reducible apply arm_box H); rfl; clear H; intro wn kB H) | ((with_reducible apply ld_bk); rfl; rfl; (focus (apply H.one; (repeat (first | with_reducible exact mH | with_reducible apply mT)); done))) | (go_at_call 15; first | ((with_reducible refine (rbmay_v hm.out _ (Ha.out.below H.bel)).mono ?_); rintro e wn ⟨rfl, hb⟩; replace H := H.call hb; clear hb)) | ((with_reducible apply ld_one (ty := 22) Tryz.underlying22 rfl); rfl; rfl; (focus (apply H.one; (repeat (first | with_reducible exact mH | with_reducible apply mT)); done))) | (go_at_call 73; (fail_if_success have := Tvo); (with_reducible refine (rput_c n (by have := Hnb.out; omega) _).mono ?_); rintro e wn ⟨vo, rfl, hown, hb⟩; have Tvo := Lib.hid True.intro; replace H := H.rowIn hb hown.own; clear hown hb))
        go_ret2
        exact ⟨vo, rfl, by rw [hP.out, I1.out]; exact H.sub (by (repeat (first | with_reducible exact List.Sublist.refl _ | with_reducible refine List.Sublist.cons_cons _ ?_ | refine List.Sublist.cons _ ?_)))⟩
end Go.Proofs.YtolbmemogoojhaaGreat
