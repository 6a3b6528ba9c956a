/- The walk of AuditParts. -/
import Derived.Test.YtolbmemogoojhaaN9
namespace Go.Proofs.Ytolbmemogoojhaa
open Go Go.RowKit Go.Deep
set_option linter.unusedVariables false
set_option linter.unusedSimpArgs false
set_option maxRecDepth 100000
theorem texts_n {v : Value} {LL : List ByteArray} {n : Nat} {q : Bool} (h : txFew LL = q) (w : World) (hv : Row w 1 v n (strL LL)) : Calls Try.prog 37 #[v] w fun e w' => e = .returned (.bool q) ∧ Below w.heap.size w w' := by
  have e : n = LL.length := by have := hv.1; rw [strL_length] at this; omega
  subst e
  exact texts_v h w hv
theorem parts_n {v : Value} {LL : List ByteArray} {n : Nat} (w : World) (hv : Row w 1 v n (strL LL)) (hb : mostL LL ≤ 90000) : Calls Try.prog 38 #[v] w fun e w' => ∃ v', e = .returned v' ∧ St w w' [Res.row 9 1 v' (auParts LL).length (strL (auParts LL))] := by
  have e : n = LL.length := by have := hv.1; rw [strL_length] at this; omega
  subst e
  exact parts_c v LL w hv hb
theorem tz_w1 {t z : Nat} (h : t + (z - 7) ≤ 12000) (h7 : 7 < z) : wrap64 ((t : Int) + (z : Int)) = (t : Int) + (z : Int) := by
  have : t + z ≤ 12007 := by omega
  clear h h7
  unfold wrap64; omega
theorem tz_w2 {t z : Nat} (h : t + (z - 7) ≤ 12000) (h7 : 7 < z) : wrap64 ((t : Int) + (z : Int) - 7) = (t : Int) + (z : Int) - 7 := by
  have : t + z ≤ 12007 := by omega
  clear h h7
  unfold wrap64; omega
theorem tz_v {t z : Nat} (h7 : 7 < z) : (t : Int) + (z : Int) - 7 = ((t + (z - 7) : Nat) : Int) := by omega
theorem most_step {l : List ByteArray} {j : Nat} {s : ByteArray} (h : l[j]? = some s) : mostL (l.drop j) = (s.size - 7) + mostL (l.drop (j + 1)) := by
  rw [drop_at h]; rfl
set_option maxHeartbeats 12800000 in
theorem auditParts_walk (va : Value) (A : List ByteArray) (w : World) (ha : Row w 1 va A.length (strL A)) : Calls Try.prog 11 #[va] w fun e w' => e = .returned (.bool true) ∧ Below w.heap.size w w' := by
  obtain ⟨n, hn⟩ : ∃ n, A.length = n := ⟨_, rfl⟩
  rw [hn] at ha
  obtain ⟨_, a, c, rfl, hm1, hm2, _⟩ := id ha
  unfold maxLen at hm2
  have Ha := Lib.hid ha; have Hn := Lib.hid hn; clear ha hn
  obtain ⟨p, hfa⟩ : ∃ p, Hid (txFew A = p) := ⟨_, rfl⟩
  have H := St.init w
  obtain ⟨s, hs⟩ : ∃ s, decide ((10 : Int) < (n : Int)) = s := ⟨_, rfl⟩
  have hcase : (p = false ∨ (p = true ∧ s = true)) ∨ (p = true ∧ s = false) := by cases p <;> cases s <;> simp
  rcases hcase with (rfl | ⟨rfl, rfl⟩) | ⟨rfl, rfl⟩
  iterate 2
    · go_enter Try.func11, Try.ntmps11
      go_wp2_with (first | go_skip | (go_at_call 34; (with_reducible refine (awake22_c _).mono ?_); rintro e wn ⟨rfl, hb⟩; replace H := H.call hb; clear hb) | (go_at_call 37; (with_reducible refine (texts_n hfa.out _ (Ha.out.below H.bel)).mono ?_); rintro e wn ⟨rfl, hb⟩; replace H := H.call hb; clear hb) | (go_at_call 38; (with_reducible refine (parts_n (LL := A) _ (Ha.out.below H.bel) Hb.out).mono ?_); rintro e wn ⟨vv, rfl, hs⟩; replace H := H.comp hs; clear hs; simp only [List.cons_append, List.nil_append] at H; rw [HV.out, Hnv.out] at H; obtain ⟨-, av, cv, ev, hcv, hmx, -⟩ := H.rowRead List.mem_cons_self; subst ev))
      all_goals first | (rw [Exit.noGoto_ret]; go_ret) | go_ret
      all_goals exact ⟨rfl, H.bel⟩
  · have hmost := txFew_most hfa.out
    have Hb : Hid (mostL A ≤ 90000) := Lib.hid (by omega)
    obtain ⟨law1, law2, law3, law4⟩ := auParts_law A
    obtain ⟨V, hV⟩ : ∃ V, auParts A = V := ⟨_, rfl⟩
    obtain ⟨nv, hnv⟩ : ∃ n, V.length = n := ⟨_, rfl⟩
    rw [hV] at law1 law2 law3 law4
    rw [hnv] at law3 law4
    have Hsz := Lib.hid law1; have Hnd := Lib.hid law2; have HL3 := Lib.hid law3; have HL4 := Lib.hid law4; have Hmost := Lib.hid hmost
    have HV := Lib.hid hV; have Hnv := Lib.hid hnv
    clear hV hnv law1 law2 law3 law4 hmost
    go_enter Try.func11, Try.ntmps11
    go_wp2_with (first | go_skip | (go_at_call 34; (with_reducible refine (awake22_c _).mono ?_); rintro e wn ⟨rfl, hb⟩; replace H := H.call hb; clear hb) | (go_at_call 37; (with_reducible refine (texts_n hfa.out _ (Ha.out.below H.bel)).mono ?_); rintro e wn ⟨rfl, hb⟩; replace H := H.call hb; clear hb) | (go_at_call 38; (with_reducible refine (parts_n (LL := A) _ (Ha.out.below H.bel) Hb.out).mono ?_); rintro e wn ⟨vv, rfl, hs⟩; replace H := H.comp hs; clear hs; simp only [List.cons_append, List.nil_append] at H; rw [HV.out, Hnv.out] at H; obtain ⟨-, av, cv, ev, hcv, hmx, -⟩ := H.rowRead List.mem_cons_self; subst ev))
    unfold maxLen at hmx
    go_loopw [7, 6] (fun i u wr => ∃ (j t : Nat), j ≤ n ∧ i = .int .i64 j ∧ u = .int .i64 t ∧ Hid (mostL A = t + mostL (A.drop j)) ∧ St w wr [Res.row 9 1 (.slice av nv cv) nv (strL V)]) (fun i _ _ => n - (intOf i).toNat)
    case atStart => exact ⟨0, 0, by omega, rfl, rfl, Lib.hid (by simp), H⟩
    case round =>
      clear H
      obtain ⟨j, t, hj, rfl, rfl, I, H⟩ := hrel
      by_cases hlt : j < n
      · obtain ⟨s, hs⟩ : ∃ s, A[j]? = some s := ⟨_, List.getElem?_eq_getElem (by rw [Hn.out]; exact hlt)⟩
        obtain ⟨b, off, c', he, hS⟩ := row1_at Ha.out (strL_get hs)
        injection he with e1 e2 e3
        subst e1 e3
        have HS := Lib.hid hS
        obtain ⟨z, hz⟩ : ∃ z, s.size = z := ⟨_, rfl⟩
        have I2 : Hid (mostL A = t + (z - 7) + mostL (A.drop (j + 1))) := Lib.hid (by rw [I.out, most_step hs, hz]; omega)
        have hbd : t + (z - 7) ≤ 12000 := by have h1 := I2.out; have h2 := Hmost.out; omega
        clear hs hS e2
        by_cases h7 : 7 < z
        · have hc : decide ((7 : Int) < (z : Int)) = true := decide_eq_true (by omega)
          have hw1 := tz_w1 hbd h7
          have hw2 := tz_w2 hbd h7
          have Hz := Lib.hid hz; have Hbd := Lib.hid hbd; have H7 := Lib.hid h7
          clear hbd h7
          go_wp2_with (first | go_skip | ((with_reducible refine ld_one (ty := 9) Try.underlying9 rfl ?_ ?_ (HS.out.keep H.bel) ?_); rfl; rfl))
          have h7 := H7.out
          go_roundw
          case rel => exact ⟨j + 1, t + (z - 7), by omega, by go_num, congrArg (Value.int .i64) ((tz_w2 Hbd.out h7).trans (tz_v h7)), I2, H⟩
          case measure => simp [intOf]; omega
        · have hc : decide ((7 : Int) < (z : Int)) = false := decide_eq_false (by omega)
          have I3 : Hid (mostL A = t + mostL (A.drop (j + 1))) := Lib.hid (by have := I2.out; omega)
          clear hbd h7
          go_wp2_with (first | go_skip | ((with_reducible refine ld_one (ty := 9) Try.underlying9 rfl ?_ ?_ (HS.out.keep H.bel) ?_); rfl; rfl))
          go_roundw
          case rel => exact ⟨j + 1, t, by omega, by go_num, rfl, I3, H⟩
          case measure => simp [intOf]; omega
      · have hjn : j = n := by omega
        subst hjn
        have ht : mostL A = t := by rw [I.out, ← Hn.out, List.drop_length]; rfl
        have h3 := HL3.out; have h4 := HL4.out
        rw [ht] at h3 h4
        have Ht := Lib.hid ht
        have H3 := Lib.hid h3; have H4 := Lib.hid h4
        clear ht h3 h4
        go_wp2
        go_loopw [8] (fun i wr => ∃ (k : Nat), k ≤ nv ∧ i = .int .i64 k ∧ St w wr [Res.row 9 1 (.slice av nv cv) nv (strL V)]) (fun i _ => nv - (intOf i).toNat)
        case atStart => exact ⟨0, by omega, rfl, H⟩
        case round =>
          clear H
          obtain ⟨k, hk, rfl, H⟩ := hrel
          by_cases hkl : k < nv
          · obtain ⟨y, hy⟩ : ∃ y, V[k]? = some y := ⟨_, List.getElem?_eq_getElem (by rw [Hnv.out]; exact hkl)⟩
            obtain ⟨bv, ov, c', he, _⟩ := row1_at (H.rowRead List.mem_cons_self) (strL_get hy)
            injection he with e1 e2 e3
            subst e1 e3
            have hys : y.size = 8 := Hsz.out y (List.mem_of_getElem? hy)
            have Hy := Lib.hid (strL_get hy); have HY := Lib.hid hy
            clear hy e2
            cases k with
            | zero =>
              go_wp2
              (try simp only [Act.put, List.setIfInBounds_toArray, List.set_cons_zero, List.set_cons_succ])
              refine wp_quiet_all (C := fun w' => ∃ x : After _, w' = x.w) (by kernel_rfl) (by kernel_rfl) (since_drew _) ?_
              repeat (first | go_big_quiet_skip | (go_big_quiet_want; (with_reducible apply qd_oneS (ty := 9) Try.underlying9 rfl); rfl; (rintro _ ⟨x, rfl⟩; exact (H.call x.h).rowAt (e := 9) (n := nv) (c := cv) (m := nv) (cs := strL V) (j := 0) (u := .string y) (by (repeat (first | with_reducible exact List.mem_cons_self | with_reducible apply List.mem_cons_of_mem))) Hy.out); (go_simp; go_big_quiet_on)) | (go_big_quiet_step (fail)))
              refine wpQuiet_nil ?_
              rintro _ ⟨zq, rfl⟩; replace H := H.call zq.h
              go_wp2
              go_roundw
              case rel => exact ⟨0 + 1, by omega, by go_num, H⟩
              case measure => simp [intOf]; omega
            | succ k =>
              obtain ⟨z, hz⟩ : ∃ z, V[k]? = some z := ⟨_, List.getElem?_eq_getElem (by rw [Hnv.out]; omega)⟩
              have hne := nodup_ne Hnd.out HY.out hz (by omega)
              have hne2 : (y == z) = false := by rw [ba_beq]; exact decide_eq_false hne
              have hne3 : (y.toList == z.toList) = false := by rw [str_beq]; exact decide_eq_false hne
              have Hz := Lib.hid (strL_get hz)
              have hp1 : decide (0 < (k : Int) + 1) = true := by simp <;> omega
              have hp2 : wrap64 ((k : Int) + 1 - 1) = k := by unfold wrap64; omega
              have Hp1 := Lib.hid hp1; have Hp2 := Lib.hid hp2
              clear hz hp1 hp2
              go_wp2
              have hp1 := Hp1.out; have hp2 := Hp2.out
              (try simp only [Act.put, List.setIfInBounds_toArray, List.set_cons_zero, List.set_cons_succ])
              refine wp_quiet_all (C := fun w' => ∃ x : After _, w' = x.w) (by kernel_rfl) (by kernel_rfl) (since_drew _) ?_
              repeat (first | go_big_quiet_skip | (go_big_quiet_want; (with_reducible apply qd_oneS (ty := 9) Try.underlying9 rfl); rfl; (rintro _ ⟨x, rfl⟩; exact (H.call x.h).rowAt (e := 9) (n := nv) (c := cv) (m := nv) (cs := strL V) (j := (k + 1)) (u := .string y) (by (repeat (first | with_reducible exact List.mem_cons_self | with_reducible apply List.mem_cons_of_mem))) Hy.out); (go_simp; go_big_quiet_on)) | (go_big_quiet_want; (with_reducible apply qd_oneS (ty := 9) Try.underlying9 rfl); rfl; (rintro _ ⟨x, rfl⟩; exact (H.call x.h).rowAt (e := 9) (n := nv) (c := cv) (m := nv) (cs := strL V) (j := k) (u := .string z) (by (repeat (first | with_reducible exact List.mem_cons_self | with_reducible apply List.mem_cons_of_mem))) Hz.out); (go_simp; go_big_quiet_on)) | (go_big_quiet_step (fail)))
              refine wpQuiet_nil ?_
              rintro _ ⟨zq, rfl⟩; replace H := H.call zq.h
              clear hp1 hp2
              go_wp2
              go_roundw
              case rel => exact ⟨k + 1 + 1, by omega, by go_num, H⟩
              case measure => simp [intOf]; omega
          · have hkn : k = nv := by omega
            subst hkn
            by_cases hv0 : k = 0
            · have ht0 : t = 0 := H4.out.2 hv0
              subst hv0 ht0
              go_wp2
              all_goals first | (rw [Exit.noGoto_ret]; go_ret) | go_ret
              all_goals exact ⟨rfl, H.bel⟩
            · have ht0 : ¬ t = 0 := fun h => hv0 (H4.out.1 h)
              have hle : k ≤ t := H3.out
              have hd1 : decide ((t : Int) = 0) = false := decide_eq_false (by omega)
              have hd2 : decide ((k : Int) = 0) = false := decide_eq_false (by omega)
              have hd3 : decide ((k : Int) ≤ (t : Int)) = true := decide_eq_true (by omega)
              have hd4 : ((t : Int) == 0) = false := by rw [beq_eq_false_iff_ne]; omega
              have hd5 : ((k : Int) == 0) = false := by rw [beq_eq_false_iff_ne]; omega
              go_wp2
              all_goals first | (rw [Exit.noGoto_ret]; go_ret) | go_ret
              all_goals exact ⟨rfl, H.bel⟩
end Go.Proofs.Ytolbmemogoojhaa
