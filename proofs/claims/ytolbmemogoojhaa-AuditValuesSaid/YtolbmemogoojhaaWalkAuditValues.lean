/- The walk of AuditValues. -/
import Derived.Test.YtolbmemogoojhaaWalkAuditJoin
namespace Go.Proofs.Ytolbmemogoojhaa
open Go Go.RowKit Go.Deep
set_option linter.unusedVariables false
set_option linter.unusedSimpArgs false
set_option maxRecDepth 100000
theorem str_beq (x y : ByteArray) : (x.toList == y.toList) = decide (x = y) := by
  rw [Bool.eq_iff_iff, decide_eq_true_eq, beq_iff_eq]
  refine ⟨fun h => ?_, fun h => by rw [h]⟩
  rw [ByteArray.toList_eq, ByteArray.toList_eq] at h
  cases x; cases y
  exact congrArg ByteArray.mk (Array.ext' h)
theorem take_in {V : List ByteArray} {m : Nat} {x s : ByteArray} (h : V[m]? = some x) : decide (s ∈ V.take (m + 1)) = (decide (s ∈ V.take m) || decide (x = s)) := by
  rw [List.take_add_one, h]
  rw [Bool.eq_iff_iff]
  simp only [Option.toList_some, List.mem_append, List.mem_singleton, decide_eq_true_eq, Bool.or_eq_true]
  exact ⟨fun h => h.imp id Eq.symm, fun h => h.imp id Eq.symm⟩
set_option maxHeartbeats 12800000 in
theorem auditValues_walk (va : Value) (A : List BK) (w : World) (ha : Bks w va A) : Calls Try.prog 10 #[va] w fun e w' => e = .returned (.bool true) ∧ Below w.heap.size w w' := by
  obtain ⟨n, hn⟩ : ∃ n, A.length = n := ⟨_, rfl⟩
  obtain ⟨a, c, rfl, hm1, _⟩ := id ha.slice
  rw [hn] at ha hm1 ⊢
  unfold maxLen at hm1
  have Ha := Lib.hid ha; have Hn := Lib.hid hn; clear ha hn
  obtain ⟨p, hfa⟩ : ∃ p, Hid (bksFew A = p) := ⟨_, rfl⟩
  have H := St.init w
  cases p with
  | false =>
    go_enter Try.func10, Try.ntmps10
    go_wp2_with (first | go_skip | (go_at_call 34; (with_reducible refine (awake22_c _).mono ?_); rintro e wn ⟨rfl, hb⟩; replace H := H.call hb; clear hb) | (go_at_call 35; (with_reducible refine (books_v hfa.out _ (Ha.out.below H.bel)).mono ?_); rintro e wn ⟨rfl, hb⟩; replace H := H.call hb; clear hb) | (go_at_call 36; (with_reducible refine (values_c _ A _ (Ha.out.below H.bel) Hb.out).mono ?_); rintro e wn ⟨vv, rfl, hs⟩; replace H := H.comp hs; clear hs; simp only [List.cons_append, List.nil_append] at H; rw [HV.out, Hnv.out] at H; obtain ⟨-, av, cv, ev, hcv, hmx, -⟩ := H.rowRead List.mem_cons_self; subst ev))
    all_goals first | (rw [Exit.noGoto_ret]; go_ret) | go_ret
    all_goals exact ⟨rfl, H.bel⟩
  | true =>
    have Hb := Lib.hid (bksFew_vals hfa.out)
    obtain ⟨V, hV⟩ : ∃ V, auValues A = V := ⟨_, rfl⟩
    obtain ⟨nv, hnv⟩ : ∃ n, V.length = n := ⟨_, rfl⟩
    have hnd : V.Nodup := by rw [← hV]; exact auValues_nodup A
    have Hnd := Lib.hid hnd
    have Hmem : Hid (∀ (L : BK) (r : RD) (f : F4), L ∈ A → r ∈ L → f ∈ r.f → f.2.2.2 ∈ V) := Lib.hid fun L r f h1 h2 h3 => by rw [← hV]; exact auValues_mem h1 h2 h3
    have HV := Lib.hid hV; have Hnv := Lib.hid hnv
    clear hV hnv hnd
    go_enter Try.func10, Try.ntmps10
    go_wp2_with (first | go_skip | (go_at_call 34; (with_reducible refine (awake22_c _).mono ?_); rintro e wn ⟨rfl, hb⟩; replace H := H.call hb; clear hb) | (go_at_call 35; (with_reducible refine (books_v hfa.out _ (Ha.out.below H.bel)).mono ?_); rintro e wn ⟨rfl, hb⟩; replace H := H.call hb; clear hb) | (go_at_call 36; (with_reducible refine (values_c _ A _ (Ha.out.below H.bel) Hb.out).mono ?_); rintro e wn ⟨vv, rfl, hs⟩; replace H := H.comp hs; clear hs; simp only [List.cons_append, List.nil_append] at H; rw [HV.out, Hnv.out] at H; obtain ⟨-, av, cv, ev, hcv, hmx, -⟩ := H.rowRead List.mem_cons_self; subst ev))
    unfold maxLen at hmx
    go_loopw [6] (fun i wr => ∃ (j : Nat), j ≤ nv ∧ i = .int .i64 j ∧ St w wr [Res.row 9 1 (.slice av nv cv) nv (strL V)]) (fun i _ => nv - (intOf i).toNat)
    case atStart => exact ⟨0, by omega, rfl, H⟩
    case round =>
      clear H
      obtain ⟨j, hj, rfl, H⟩ := hrel
      by_cases hlt : j < nv
      · obtain ⟨y, hy⟩ : ∃ y, V[j]? = some y := ⟨_, List.getElem?_eq_getElem (by rw [Hnv.out]; exact hlt)⟩
        obtain ⟨bv, ov, c', he, _⟩ := row1_at (H.rowRead List.mem_cons_self) (strL_get hy)
        injection he with e1 e2 e3
        subst e1 e3
        have Hy := Lib.hid (strL_get hy); have HY := Lib.hid hy
        clear hy e2
        go_wp2
        go_loopw [7] (fun i wr => ∃ (k : Nat), k ≤ j ∧ i = .int .i64 k ∧ St w wr [Res.row 9 1 (.slice (some ⟨bv, ov, none⟩) nv cv) nv (strL V)]) (fun i _ => j - (intOf i).toNat)
        case atStart => exact ⟨0, by omega, rfl, H⟩
        case round =>
          clear H
          obtain ⟨k, hk, rfl, H⟩ := hrel
          by_cases hkl : k < j
          · obtain ⟨z, hz⟩ : ∃ z, V[k]? = some z := ⟨_, List.getElem?_eq_getElem (by rw [Hnv.out]; omega)⟩
            have hne := nodup_ne Hnd.out HY.out hz (by omega)
            have hne2 : (y == z) = false := by rw [ba_beq]; exact decide_eq_false hne
            have hne3 : (y.toList == z.toList) = false := by rw [str_beq]; exact decide_eq_false hne
            have Hz := Lib.hid (strL_get hz)
            have hknv : k < nv := by omega
            clear hz
            go_wp2
            (try simp only [Act.put, List.setIfInBounds_toArray, List.set_cons_zero, List.set_cons_succ])
            refine wp_quiet_all (C := fun w' => ∃ x : After _, w' = x.w) (by kernel_rfl) (by kernel_rfl) (since_drew _) ?_
            repeat (first | go_big_quiet_skip | (go_big_quiet_want; (with_reducible apply qd_oneS (ty := 9) Try.underlying9 rfl); rfl; (rintro _ ⟨x, rfl⟩; exact (H.call x.h).rowAt (e := 9) (n := nv) (c := cv) (m := nv) (cs := strL V) (j := j) (u := .string y) (by (repeat (first | with_reducible exact List.mem_cons_self | with_reducible apply List.mem_cons_of_mem))) Hy.out); (go_simp; go_big_quiet_on)) | (go_big_quiet_want; (with_reducible apply qd_oneS (ty := 9) Try.underlying9 rfl); rfl; (rintro _ ⟨x, rfl⟩; exact (H.call x.h).rowAt (e := 9) (n := nv) (c := cv) (m := nv) (cs := strL V) (j := k) (u := .string z) (by (repeat (first | with_reducible exact List.mem_cons_self | with_reducible apply List.mem_cons_of_mem))) Hz.out); (go_simp; go_big_quiet_on)) | (go_big_quiet_step (fail)))
            refine wpQuiet_nil ?_
            rintro _ ⟨zq, rfl⟩; replace H := H.call zq.h
            go_wp2
            go_roundw
            case rel => exact ⟨k + 1, by omega, by go_num, H⟩
            case measure => simp [intOf]; omega
          · have hkn : k = j := by omega
            subst hkn
            go_wp2
            go_roundw
            case rel => exact ⟨k + 1, by omega, by go_num, H⟩
            case measure => simp [intOf]; omega
      · have hjn : j = nv := by omega
        subst hjn
        go_wp2
        go_loopw [8] (fun i wr => ∃ (i1 : Nat), i1 ≤ n ∧ i = .int .i64 i1 ∧ St w wr [Res.row 9 1 (.slice av j cv) j (strL V)]) (fun i _ => n - (intOf i).toNat)
        case atStart => exact ⟨0, by omega, rfl, H⟩
        case round =>
          clear H
          obtain ⟨i1, hi1, rfl, H⟩ := hrel
          by_cases hl1 : i1 < n
          · obtain ⟨L, hL⟩ : ∃ L, A[i1]? = some L := ⟨_, List.getElem?_eq_getElem (by rw [Hn.out]; exact hl1)⟩
            obtain ⟨b, off, s, rfl, hs, hR⟩ := Ha.out.at hL
            have hLm := Lib.hid (List.mem_of_getElem? hL)
            obtain ⟨n2, hn2⟩ : ∃ n, L.length = n := ⟨_, rfl⟩
            obtain ⟨a2, c2, rfl, hm2, _⟩ := id hR.slice
            rw [hn2] at hR hm2 hs
            unfold maxLen at hm2
            have HS := Lib.hid hs; have HR := Lib.hid hR; have Hn2 := Lib.hid hn2
            clear hs hR hL hn2
            go_wp2
            go_loopw [9] (fun i wr => ∃ (i2 : Nat), i2 ≤ n2 ∧ i = .int .i64 i2 ∧ St w wr [Res.row 9 1 (.slice av j cv) j (strL V)]) (fun i _ => n2 - (intOf i).toNat)
            case atStart => exact ⟨0, by omega, rfl, H⟩
            case round =>
              clear H
              obtain ⟨i2, hi2, rfl, H⟩ := hrel
              by_cases hl2 : i2 < n2
              · obtain ⟨r, hr⟩ : ∃ r, L[i2]? = some r := ⟨_, List.getElem?_eq_getElem (by rw [Hn2.out]; exact hl2)⟩
                obtain ⟨b2, off2, s, rfl, hbw, G, hf⟩ := HR.out.at hr
                have hrm := Lib.hid (List.mem_of_getElem? hr)
                obtain ⟨nf, hnf⟩ : ∃ nf, r.f.length = nf := ⟨_, rfl⟩
                obtain ⟨_, fa, fc, rfl, hc1, hc2, _⟩ := id hf
                rw [hnf] at hf hc1 G
                unfold maxLen at hc2
                have Hf := Lib.hid hf; have Hnf := Lib.hid hnf
                clear hf hr hbw hnf
                go_wp2_with (first | go_skip | ((with_reducible refine ld_one (ty := 22) Try.underlying22 rfl ?_ ?_ (HS.out.keep H.bel) ?_); rfl; rfl) | ((with_reducible apply ld_F); rfl; rfl; (first | (focus (apply H.rc; (repeat (first | with_reducible exact List.mem_cons_self | with_reducible apply List.mem_cons_of_mem)); done)) | (apply RecAt.bel (hb := H.bel); assumption))))
                go_loopw [10] (fun i wr => ∃ (i3 : Nat), i3 ≤ nf ∧ i = .int .i64 i3 ∧ St w wr [Res.row 9 1 (.slice av j cv) j (strL V)]) (fun i _ => nf - (intOf i).toNat)
                case atStart => exact ⟨0, by omega, rfl, H⟩
                case round =>
                  clear H
                  obtain ⟨i3, hi3, rfl, H⟩ := hrel
                  by_cases hl3 : i3 < nf
                  · obtain ⟨f, hfk⟩ : ∃ f, r.f[i3]? = some f := ⟨_, List.getElem?_eq_getElem (by rw [Hnf.out]; exact hl3)⟩
                    obtain ⟨b3, off3, rfl, G2⟩ := fldat_of Hf.out hfk
                    have hin := Lib.hid (Hmem.out L r f hLm.out hrm.out (List.mem_of_getElem? hfk))
                    clear hfk
                    go_wp2_with (first | go_skip | ((with_reducible refine ld_one (ty := 22) Try.underlying22 rfl ?_ ?_ (HS.out.keep H.bel) ?_); rfl; rfl) | ((with_reducible apply ld_F); rfl; rfl; (first | (focus (apply H.rc; (repeat (first | with_reducible exact List.mem_cons_self | with_reducible apply List.mem_cons_of_mem)); done)) | (apply RecAt.bel (hb := H.bel); assumption))))
                    go_loopw [12, 11] (fun i is wr => ∃ (m : Nat) (q : Bool), m ≤ j ∧ i = .int .i64 m ∧ is = .bool q ∧ Hid (decide (f.2.2.2 ∈ V.take m) = q) ∧ St w wr [Res.row 9 1 (.slice av j cv) j (strL V)]) (fun i _ _ => j - (intOf i).toNat)
                    case atStart => exact ⟨0, false, by omega, rfl, rfl, Lib.hid (by simp), H⟩
                    case round =>
                      clear H
                      obtain ⟨m, q, hm, rfl, rfl, HQ, H⟩ := hrel
                      by_cases hml : m < j
                      · obtain ⟨y, hy⟩ : ∃ y, V[m]? = some y := ⟨_, List.getElem?_eq_getElem (by rw [Hnv.out]; exact hml)⟩
                        obtain ⟨bv, ov, c', he, _⟩ := row1_at (H.rowRead List.mem_cons_self) (strL_get hy)
                        injection he with e1 e2 e3
                        subst e1 e3
                        have Hy := Lib.hid (strL_get hy)
                        have HQ2 := Lib.hid (take_in (s := f.2.2.2) hy)
                        obtain ⟨e, he⟩ : ∃ e, decide (y = f.2.2.2) = e := ⟨_, rfl⟩
                        have he2 : (y.toList == f.2.2.2.toList) = e := by rw [str_beq]; exact he
                        have He := Lib.hid he
                        clear hy e2
                        cases q with
                        | true =>
                          go_wp2
                          (try simp only [Act.put, List.setIfInBounds_toArray, List.set_cons_zero, List.set_cons_succ])
                          refine wp_quiet_all (C := fun w' => ∃ x : After _, w' = x.w) (by kernel_rfl) (by kernel_rfl) (since_drew _) ?_
                          repeat (first | go_big_quiet_skip | (go_big_quiet_want; (with_reducible apply qd_oneS (ty := 9) Try.underlying9 rfl); rfl; (rintro _ ⟨x, rfl⟩; exact (H.call x.h).rowAt (e := 9) (n := j) (c := cv) (m := j) (cs := strL V) (j := m) (u := .string y) (by (repeat (first | with_reducible exact List.mem_cons_self | with_reducible apply List.mem_cons_of_mem))) Hy.out); (go_simp; go_big_quiet_on)) | (go_big_quiet_want; (with_reducible apply qd_oneS (ty := 22) Try.underlying22 rfl); rfl; (rintro _ ⟨x, rfl⟩; exact HS.out.keep (H.call x.h).bel); (go_simp; go_big_quiet_on)) | (go_big_quiet_want; (with_reducible apply qd_F); rfl; (rintro _ ⟨x, rfl⟩; have H := H.call x.h; (first | (focus (apply H.rc; (repeat (first | with_reducible exact List.mem_cons_self | with_reducible apply List.mem_cons_of_mem)); done)) | (apply RecAt.bel (hb := H.bel); assumption))); (go_simp; go_big_quiet_on)) | (go_big_quiet_want; (with_reducible apply qd_fstr2); rfl; (rintro _ ⟨x, rfl⟩; have H := H.call x.h; (first | (focus (apply H.fld; (repeat (first | with_reducible exact List.mem_cons_self | with_reducible apply List.mem_cons_of_mem)); done)) | (apply FldAt.bel (hb := H.bel); assumption))); (go_simp; go_big_quiet_on)) | (go_big_quiet_step (fail)))
                          refine wpQuiet_nil ?_
                          rintro _ ⟨zq, rfl⟩; replace H := H.call zq.h
                          go_wp2
                          go_roundw
                          case rel => exact ⟨m + 1, true, by omega, by go_num, rfl, Lib.hid (by rw [HQ2.out, HQ.out]; rfl), H⟩
                          case measure => simp [intOf]; omega
                        | false =>
                          cases e
                          all_goals
                            go_wp2
                            (try simp only [Act.put, List.setIfInBounds_toArray, List.set_cons_zero, List.set_cons_succ])
                            refine wp_quiet_all (C := fun w' => ∃ x : After _, w' = x.w) (by kernel_rfl) (by kernel_rfl) (since_drew _) ?_
                            repeat (first | go_big_quiet_skip | (go_big_quiet_want; (with_reducible apply qd_oneS (ty := 9) Try.underlying9 rfl); rfl; (rintro _ ⟨x, rfl⟩; exact (H.call x.h).rowAt (e := 9) (n := j) (c := cv) (m := j) (cs := strL V) (j := m) (u := .string y) (by (repeat (first | with_reducible exact List.mem_cons_self | with_reducible apply List.mem_cons_of_mem))) Hy.out); (go_simp; go_big_quiet_on)) | (go_big_quiet_want; (with_reducible apply qd_oneS (ty := 22) Try.underlying22 rfl); rfl; (rintro _ ⟨x, rfl⟩; exact HS.out.keep (H.call x.h).bel); (go_simp; go_big_quiet_on)) | (go_big_quiet_want; (with_reducible apply qd_F); rfl; (rintro _ ⟨x, rfl⟩; have H := H.call x.h; (first | (focus (apply H.rc; (repeat (first | with_reducible exact List.mem_cons_self | with_reducible apply List.mem_cons_of_mem)); done)) | (apply RecAt.bel (hb := H.bel); assumption))); (go_simp; go_big_quiet_on)) | (go_big_quiet_want; (with_reducible apply qd_fstr2); rfl; (rintro _ ⟨x, rfl⟩; have H := H.call x.h; (first | (focus (apply H.fld; (repeat (first | with_reducible exact List.mem_cons_self | with_reducible apply List.mem_cons_of_mem)); done)) | (apply FldAt.bel (hb := H.bel); assumption))); (go_simp; go_big_quiet_on)) | (go_big_quiet_step (fail)))
                            refine wpQuiet_nil ?_
                            rintro _ ⟨zq, rfl⟩; replace H := H.call zq.h
                            go_wp2
                            go_roundw
                            case rel => exact ⟨m + 1, _, by omega, by go_num, rfl, Lib.hid (by rw [HQ2.out, HQ.out, He.out]; rfl), H⟩
                            case measure => simp [intOf]; omega
                      · have hmn : m = j := by omega
                        subst hmn
                        have hq : q = true := by
                          rw [← HQ.out, ← Hnv.out, List.take_length]; exact decide_eq_true hin.out
                        subst hq
                        go_wp2
                        go_roundw
                        case rel => exact ⟨i3 + 1, by omega, by go_num, H⟩
                        case measure => simp [intOf]; omega
                  · have hn3 : i3 = nf := by omega
                    subst hn3
                    go_wp2_with (first | go_skip | ((with_reducible refine ld_one (ty := 22) Try.underlying22 rfl ?_ ?_ (HS.out.keep H.bel) ?_); rfl; rfl) | ((with_reducible apply ld_F); rfl; rfl; (first | (focus (apply H.rc; (repeat (first | with_reducible exact List.mem_cons_self | with_reducible apply List.mem_cons_of_mem)); done)) | (apply RecAt.bel (hb := H.bel); assumption))))
                    go_roundw
                    case rel => exact ⟨i2 + 1, by omega, by go_num, H⟩
                    case measure => simp [intOf]; omega
              · have hn3 : i2 = n2 := by omega
                subst hn3
                go_wp2_with (first | go_skip | ((with_reducible refine ld_one (ty := 22) Try.underlying22 rfl ?_ ?_ (HS.out.keep H.bel) ?_); rfl; rfl) | ((with_reducible apply ld_F); rfl; rfl; (first | (focus (apply H.rc; (repeat (first | with_reducible exact List.mem_cons_self | with_reducible apply List.mem_cons_of_mem)); done)) | (apply RecAt.bel (hb := H.bel); assumption))))
                go_roundw
                case rel => exact ⟨i1 + 1, by omega, by go_num, H⟩
                case measure => simp [intOf]; omega
          · have hn3 : i1 = n := by omega
            subst hn3
            go_wp2
            all_goals first | (rw [Exit.noGoto_ret]; go_ret) | go_ret
            all_goals exact ⟨rfl, H.bel⟩
end Go.Proofs.Ytolbmemogoojhaa
