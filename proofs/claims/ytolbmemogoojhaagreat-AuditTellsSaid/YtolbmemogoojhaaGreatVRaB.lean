/- The document's values of books. -/
import Derived.Test.YtolbmemogoojhaaGreatVRaA
namespace Go.Proofs.YtolbmemogoojhaaGreat
open Go Go.RowKit Go.Deep
set_option linter.unusedVariables false
set_option linter.unusedSimpArgs false
set_option maxRecDepth 100000
set_option maxHeartbeats 12800000 in
theorem rvalues_c (v : Value) (LL : List BK) (w : World) (hv : Bks w v LL) (hb : (LL.flatMap valsB).length ≤ 90000) : Calls Tryz.prog 35 #[v] w fun e w' => ∃ v', e = .returned v' ∧ St w w' [Res.row 9 1 v' (auValues LL).length (strL (auValues LL))] := by
  obtain ⟨n, hn⟩ : ∃ n, LL.length = n := ⟨_, rfl⟩
  obtain ⟨a, c, rfl, hm1, _⟩ := id hv.slice
  rw [hn] at hv hm1 ⊢
  unfold maxLen at hm1
  have Hv := Lib.hid hv; have Hn := Lib.hid hn; have HB := Lib.hid hb; clear hv hn hb
  have H := St.init w
  go_enter Tryz.func35, Tryz.ntmps35
  go_wp2
  go_loopw [4, 3] (fun i vo wr => ∃ (j : Nat) (v' : Value) (l' : List ByteArray), v' = vo ∧ j ≤ n ∧ i = .int .i64 j ∧ Hid (auValues LL = onces l' ((LL.drop j).flatMap valsB)) ∧ Hid (l'.length + ((LL.drop j).flatMap valsB).length ≤ 90000) ∧ St w wr [Res.row 9 1 v' l'.length (strL l')]) (fun i _ _ => n - (intOf i).toNat)
  case atStart => exact ⟨0, .slice none 0 0, [], rfl, by omega, rfl, Lib.hid rfl, Lib.hid (by simpa using HB.out), H.nilRow _ _⟩
  case round =>
    clear H
    obtain ⟨j, v1, l1, hvt, hj, rfl, I1, B1, H⟩ := hrel
    subst hvt
    by_cases hlt : j < n
    · obtain ⟨L, hL⟩ : ∃ L, LL[j]? = some L := ⟨_, List.getElem?_eq_getElem (by rw [Hn.out]; exact hlt)⟩
      obtain ⟨b, off, s, rfl, hs, hR⟩ := Hv.out.at hL
      obtain ⟨X, hX⟩ : ∃ X, (LL.drop (j + 1)).flatMap valsB = X := ⟨_, rfl⟩
      have HX := Lib.hid hX
      have J1 : Hid (auValues LL = onces l1 (valsB L ++ X)) := Lib.hid (by rw [I1.out, flat_drop hL, hX])
      have C1 : Hid (l1.length + (valsB L ++ X).length ≤ 90000) := Lib.hid (by have := B1.out; rw [flat_drop hL, hX] at this; exact this)
      obtain ⟨n2, hn2⟩ : ∃ n, L.length = n := ⟨_, rfl⟩
      obtain ⟨a2, c2, rfl, hm2, _⟩ := id hR.slice
      rw [hn2] at hR hm2 hs
      unfold maxLen at hm2
      have HS := Lib.hid hs
      have HR := Lib.hid hR; have Hn2 := Lib.hid hn2
      clear hs hR hL hX hn2
      go_wp2
      go_loopw [5, 3] (fun i vo wr => ∃ (j : Nat) (v' : Value) (l' : List ByteArray), v' = vo ∧ j ≤ n2 ∧ i = .int .i64 j ∧ Hid (auValues LL = onces l' ((L.drop j).flatMap valsR ++ X)) ∧ Hid (l'.length + ((L.drop j).flatMap valsR ++ X).length ≤ 90000) ∧ St w wr [Res.row 9 1 v' l'.length (strL l')]) (fun i _ _ => n2 - (intOf i).toNat)
      case atStart => exact ⟨0, v1, l1, rfl, by omega, rfl, J1, C1, H⟩
      case round =>
        clear H
        obtain ⟨k, v2, l2, hvt, hk, rfl, I2, B2, H⟩ := hrel
        subst hvt
        by_cases hkl : k < n2
        · obtain ⟨r, hr⟩ : ∃ r, L[k]? = some r := ⟨_, List.getElem?_eq_getElem (by rw [Hn2.out]; exact hkl)⟩
          obtain ⟨b2, off2, s, rfl, hbw, G, hf⟩ := HR.out.at hr
          obtain ⟨Y, hY⟩ : ∃ Y, (L.drop (k + 1)).flatMap valsR ++ X = Y := ⟨_, rfl⟩
          have HY := Lib.hid hY
          have J2 : Hid (auValues LL = onces l2 (valsR r ++ Y)) := Lib.hid (by rw [I2.out, flat_drop hr, List.append_assoc, hY])
          have C2 : Hid (l2.length + (valsR r ++ Y).length ≤ 90000) := Lib.hid (by have := B2.out; rw [flat_drop hr, List.append_assoc, hY] at this; exact this)
          obtain ⟨nf, hnf⟩ : ∃ nf, r.f.length = nf := ⟨_, rfl⟩
          obtain ⟨_, fa, fc, rfl, hc1, hc2, _⟩ := id hf
          rw [hnf] at hf hc1 G
          unfold maxLen at hc2
          have Hf := Lib.hid hf; have Hnf := Lib.hid hnf
          clear hf hr hbw hnf hY
          go_wp2_with (first | go_skip | ((with_reducible refine ld_one (ty := 22) Tryz.underlying22 rfl ?_ ?_ (HS.out.keep H.bel) ?_); rfl; rfl) | ((with_reducible apply ld_F); rfl; rfl; (first | (focus (apply H.rc; (repeat (first | with_reducible exact mH | with_reducible apply mT)); done)) | (apply RecAt.bel (hb := H.bel); assumption))))
          go_loopw [6, 3] (fun i vo wr => ∃ (j : Nat) (v' : Value) (l' : List ByteArray), v' = vo ∧ j ≤ nf ∧ i = .int .i64 j ∧ Hid (auValues LL = onces l' ((r.f.drop j).map (fun f => f.2.2.2) ++ Y)) ∧ Hid (l'.length + ((r.f.drop j).map (fun f => f.2.2.2) ++ Y).length ≤ 90000) ∧ St w wr [Res.row 9 1 v' l'.length (strL l')]) (fun i _ _ => nf - (intOf i).toNat)
          case atStart => exact ⟨0, v2, l2, rfl, by omega, rfl, J2, C2, H⟩
          case round =>
            clear H
            obtain ⟨m, v3, l3, hvt, hm, rfl, I3, B3, H⟩ := hrel
            subst hvt
            by_cases hml : m < nf
            · obtain ⟨f, hfk⟩ : ∃ f, r.f[m]? = some f := ⟨_, List.getElem?_eq_getElem (by rw [Hnf.out]; exact hml)⟩
              obtain ⟨b3, off3, rfl, G2⟩ := fldat_of Hf.out hfk
              have J3 : Hid (auValues LL = onces (onceP l3 f.2.2.2) ((r.f.drop (m + 1)).map (fun f => f.2.2.2) ++ Y)) := Lib.hid (by rw [I3.out, map_drop hfk]; rfl)
              have C3 : Hid ((onceP l3 f.2.2.2).length + ((r.f.drop (m + 1)).map (fun f => f.2.2.2) ++ Y).length ≤ 90000) := Lib.hid (by
                have h1 := B3.out; have h2 := onceP_le l3 f.2.2.2
                rw [map_drop hfk] at h1
                simp only [List.cons_append, List.length_cons] at h1; omega)
              have HL : Hid (l3.length + [f.2.2.2].length ≤ 100000) := Lib.hid (by have := B3.out; simp only [List.length_cons, List.length_nil]; omega)
              obtain ⟨q, hq⟩ : ∃ q, decide (f.2.2.2 ∈ l3) = q := ⟨_, rfl⟩
              have HQ := Lib.hid hq
              clear hfk hq
              cases q with
              | true =>
                have e : onceP l3 f.2.2.2 = l3 := if_pos (of_decide_eq_true HQ.out)
                rw [e] at J3 C3
                clear e
                go_wp2_with (first | go_skip | ((with_reducible refine ld_one (ty := 22) Tryz.underlying22 rfl ?_ ?_ (HS.out.keep H.bel) ?_); rfl; rfl) | ((with_reducible apply ld_F); rfl; rfl; (first | (focus (apply H.rc; (repeat (first | with_reducible exact mH | with_reducible apply mT)); done)) | (apply RecAt.bel (hb := H.bel); assumption))) | ((with_reducible apply ld_fstr2); rfl; rfl; (first | (focus (apply H.fld; (repeat (first | with_reducible exact mH | with_reducible apply mT)); done)) | (apply FldAt.bel (hb := H.bel); assumption))) | (go_at_call 68; (with_reducible refine (rhas_v HQ.out _ (H.rowRead (by (repeat (first | with_reducible exact mH | with_reducible apply mT))))).mono ?_); rintro e wn ⟨rfl, hb⟩; replace H := H.call hb; clear hb) | ((with_reducible apply bs_str H); rfl; clear H; intro wn b H) | ((with_reducible apply arm_app H (ht := Tryz.underlying47) (hinfo := info_strR) (hzs := rfl) (hsz := by decide)); (conv => lhs; whnf); (conv => lhs; whnf); (intro v; (repeat (first | with_reducible apply Upd.head | with_reducible apply Upd.tail))); (focus (apply H.rowRead; (repeat (first | with_reducible exact mH | with_reducible apply mT)); done)); (focus (exact strL_one _; done)); (focus (have := HL.out; unfold maxLen; simp only [List.length_cons, List.length_nil] at *; omega; done)); (focus (have := HL.out; simp only [List.length_cons, List.length_nil] at *; omega; done)); clear H; intro wn vn H))
                go_roundw
                case rel => exact ⟨m + 1, v3, l3, rfl, by omega, by go_num, J3, C3, H⟩
                case measure => simp [intOf]; omega
              | false =>
                have e : onceP l3 f.2.2.2 = l3 ++ [f.2.2.2] := if_neg (of_decide_eq_false HQ.out)
                rw [e] at J3 C3
                clear e
                go_wp2_with (first | go_skip | ((with_reducible refine ld_one (ty := 22) Tryz.underlying22 rfl ?_ ?_ (HS.out.keep H.bel) ?_); rfl; rfl) | ((with_reducible apply ld_F); rfl; rfl; (first | (focus (apply H.rc; (repeat (first | with_reducible exact mH | with_reducible apply mT)); done)) | (apply RecAt.bel (hb := H.bel); assumption))) | ((with_reducible apply ld_fstr2); rfl; rfl; (first | (focus (apply H.fld; (repeat (first | with_reducible exact mH | with_reducible apply mT)); done)) | (apply FldAt.bel (hb := H.bel); assumption))) | (go_at_call 68; (with_reducible refine (rhas_v HQ.out _ (H.rowRead (by (repeat (first | with_reducible exact mH | with_reducible apply mT))))).mono ?_); rintro e wn ⟨rfl, hb⟩; replace H := H.call hb; clear hb) | ((with_reducible apply bs_str H); rfl; clear H; intro wn b H) | ((with_reducible apply arm_app H (ht := Tryz.underlying47) (hinfo := info_strR) (hzs := rfl) (hsz := by decide)); (conv => lhs; whnf); (conv => lhs; whnf); (intro v; (repeat (first | with_reducible apply Upd.head | with_reducible apply Upd.tail))); (focus (apply H.rowRead; (repeat (first | with_reducible exact mH | with_reducible apply mT)); done)); (focus (exact strL_one _; done)); (focus (have := HL.out; unfold maxLen; simp only [List.length_cons, List.length_nil] at *; omega; done)); (focus (have := HL.out; simp only [List.length_cons, List.length_nil] at *; omega; done)); clear H; intro wn vn H))
                go_roundw
                case rel => exact ⟨m + 1, vn, l3 ++ [f.2.2.2], rfl, by omega, by go_num, J3, C3, by rw [strL_app, List.length_append]; exact H.sub (by (repeat (first | with_reducible exact List.Sublist.refl _ | with_reducible refine List.Sublist.cons_cons _ ?_ | refine List.Sublist.cons _ ?_)))⟩
                case measure => simp [intOf]; omega
            · have hmn : m = nf := by omega
              subst hmn
              have J3 : Hid (auValues LL = onces l3 ((L.drop (k + 1)).flatMap valsR ++ X)) := Lib.hid (by rw [I3.out, ← Hnf.out, List.drop_length, HY.out]; rfl)
              have C3 : Hid (l3.length + ((L.drop (k + 1)).flatMap valsR ++ X).length ≤ 90000) := Lib.hid (by have := B3.out; rw [← Hnf.out, List.drop_length] at this; rw [HY.out]; exact this)
              go_wp2_with (first | go_skip | ((with_reducible refine ld_one (ty := 22) Tryz.underlying22 rfl ?_ ?_ (HS.out.keep H.bel) ?_); rfl; rfl) | ((with_reducible apply ld_F); rfl; rfl; (first | (focus (apply H.rc; (repeat (first | with_reducible exact mH | with_reducible apply mT)); done)) | (apply RecAt.bel (hb := H.bel); assumption))))
              go_roundw
              case rel => exact ⟨k + 1, v3, l3, rfl, by omega, by go_num, J3, C3, H⟩
              case measure => simp [intOf]; omega
        · have hkn : k = n2 := by omega
          subst hkn
          have J2 : Hid (auValues LL = onces l2 ((LL.drop (j + 1)).flatMap valsB)) := Lib.hid (by rw [I2.out, ← Hn2.out, List.drop_length, HX.out]; rfl)
          have C2 : Hid (l2.length + ((LL.drop (j + 1)).flatMap valsB).length ≤ 90000) := Lib.hid (by have := B2.out; rw [← Hn2.out, List.drop_length] at this; rw [HX.out]; exact this)
          go_wp2_with (first | go_skip | ((with_reducible refine ld_one (ty := 22) Tryz.underlying22 rfl ?_ ?_ (HS.out.keep H.bel) ?_); rfl; rfl) | ((with_reducible apply ld_F); rfl; rfl; (first | (focus (apply H.rc; (repeat (first | with_reducible exact mH | with_reducible apply mT)); done)) | (apply RecAt.bel (hb := H.bel); assumption))))
          go_roundw
          case rel => exact ⟨j + 1, v2, l2, rfl, by omega, by go_num, J2, C2, H⟩
          case measure => simp [intOf]; omega
    · have hjn : j = n := by omega
      subst hjn
      have J1 : Hid (auValues LL = l1) := Lib.hid (by rw [I1.out, ← Hn.out, List.drop_length]; rfl)
      go_wp2
      all_goals first | (rw [Exit.noGoto_ret]; go_ret) | go_ret
      all_goals exact ⟨v1, rfl, by rw [J1.out]; exact H.sub (by (repeat (first | with_reducible exact List.Sublist.refl _ | with_reducible refine List.Sublist.cons_cons _ ?_ | refine List.Sublist.cons _ ?_)))⟩
end Go.Proofs.YtolbmemogoojhaaGreat
