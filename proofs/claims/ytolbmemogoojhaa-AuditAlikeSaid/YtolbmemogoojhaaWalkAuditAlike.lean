/- The walk of AuditAlike. -/
import Derived.Test.YtolbmemogoojhaaAlkB
namespace Go.Proofs.Ytolbmemogoojhaa
open Go Go.RowKit Go.Deep
set_option linter.unusedVariables false
set_option linter.unusedSimpArgs false
set_option maxRecDepth 100000
theorem texts_m {v : Value} {LL : List ByteArray} {n : Nat} {q : Bool} (h : txFew LL = q) (w : World) (hv : Row w 1 v n (strL LL)) : Calls Try.prog 37 #[v] w fun e w' => e = .returned (.bool q) ∧ Below w.heap.size w w' := by
  have e : n = LL.length := by have := hv.1; rw [strL_length] at this; omega
  subst e
  exact texts_v h w hv
theorem str_ne {x y : ByteArray} (h : x ≠ y) : (x.toList == y.toList) = false := by rw [str_beq]; exact decide_eq_false h
theorem dg_eql (a b : DgK) (W : World) : (binOp .eql 71 (encD a) (encD b)).run Try.prog W = .ok (.bool (a.1 == b.1)) W := by
  unfold encD
  rw [run_eql_struct]
  have := run_equalIn_bytes (P := Try.prog) W 9998 71 5 32 (by kernel_rfl) (by kernel_rfl) (fun w => by simp [sizeOf, typeInfo]; kernel_rfl) a.1 b.1 a.2 b.2
  have e : ∀ l : List UInt8, encU l = l.map Extern.Stop.cell := fun l => rfl
  rw [e, e, this]
  rfl
theorem guard_dg (a b : DgK) (x y : Operand) (W : World) : (eqGuard .eql 71 x y (encD a) (encD b)).run Try.prog W = .ok () W := by
  unfold encD
  kernel_rfl
set_option maxHeartbeats 12800000 in
theorem auditAlike_walk (va : Value) (A : List ByteArray) (w : World) (ha : Row w 1 va A.length (strL A)) : Calls Try.prog 14 #[va] w fun e w' => e = .returned (.bool true) ∧ Below w.heap.size w w' := by
  obtain ⟨n, hn⟩ : ∃ n, A.length = n := ⟨_, rfl⟩
  rw [hn] at ha
  obtain ⟨_, a, c, rfl, hm1, hm2, _⟩ := id ha
  unfold maxLen at hm2
  have Ha := Lib.hid ha; have Hn := Lib.hid hn; clear ha hn
  obtain ⟨p, hfa⟩ : ∃ p, Hid (txFew A = p) := ⟨_, rfl⟩
  have H := St.init w
  cases p with
  | false =>
    go_enter Try.func14, Try.ntmps14
    go_wp2_with (first | go_skip | (go_at_call 34; (with_reducible refine (awake22_c _).mono ?_); rintro e wn ⟨rfl, hb⟩; replace H := H.call hb; clear hb) | (go_at_call 37; (with_reducible refine (texts_m hfa.out _ (Ha.out.below H.bel)).mono ?_); rintro e wn ⟨rfl, hb⟩; replace H := H.call hb; clear hb))
    all_goals first | (rw [Exit.noGoto_ret]; go_ret) | go_ret
    all_goals exact ⟨rfl, H.bel⟩
  | true =>
    have hf := hfa.out
    unfold txFew at hf
    rw [Bool.and_eq_true, decide_eq_true_eq] at hf
    have H40 := Lib.hid hf.1
    have HZ : Hid (∀ s ∈ A, s.size ≤ 80000) := Lib.hid fun s hs => Nat.le_trans (txFew_size hf.2 s hs) (by decide)
    clear hf
    have heq := dg_eql
    have hgd := guard_dg
    go_enter Try.func14, Try.ntmps14
    go_wp2_with (first | go_skip | (go_at_call 34; (with_reducible refine (awake22_c _).mono ?_); rintro e wn ⟨rfl, hb⟩; replace H := H.call hb; clear hb) | (go_at_call 37; (with_reducible refine (texts_m hfa.out _ (Ha.out.below H.bel)).mono ?_); rintro e wn ⟨rfl, hb⟩; replace H := H.call hb; clear hb) | (go_at_call 40; (with_reducible refine (alike_c _ A _ (Ha.out.below H.bel) HZ.out H40.out).mono ?_); rintro e wn ⟨hP, hb⟩; replace H := H.call hb; clear hb; rcases hP with ⟨t, s, rfl, h1, h2, h3, h4⟩ | ⟨rfl, hfin⟩; rotate_left; (have Hfin := Lib.hid hfin; clear hfin); rotate_left; (have hne := str_ne h3; have Hz1 := Lib.hid (HZ.out t h1); have Hz2 := Lib.hid (HZ.out s h2); obtain ⟨k, hk⟩ : ∃ k, dgK t = k := ⟨_, rfl⟩; rw [hk] at h4; have Hk1 := Lib.hid hk; have Hk2 := Lib.hid h4.symm; clear h1 h2 h3 h4 hk)) | (go_at_call 41; first | ((with_reducible refine (of_k Hz1.out Hk1.out _).mono ?_); rintro e wn ⟨rfl, hb⟩; replace H := H.call hb; clear hb) | ((with_reducible refine (of_k Hz2.out Hk2.out _).mono ?_); rintro e wn ⟨rfl, hb⟩; replace H := H.call hb; clear hb)))
    · all_goals first | (rw [Exit.noGoto_ret]; go_ret) | go_ret
      exact ⟨rfl, H.bel⟩
    · go_wp2
      go_loopw [8] (fun i wr => ∃ (i1 : Nat), i1 ≤ n ∧ i = .int .i64 i1 ∧ St w wr []) (fun i _ => n - (intOf i).toNat)
      case atStart => exact ⟨0, by omega, rfl, H⟩
      case round =>
        clear H
        obtain ⟨i1, hi1, rfl, H⟩ := hrel
        by_cases hl1 : i1 < n
        · obtain ⟨y, hy⟩ : ∃ y, A[i1]? = some y := ⟨_, List.getElem?_eq_getElem (by rw [Hn.out]; exact hl1)⟩
          obtain ⟨b, off, c', he, hS⟩ := row1_at Ha.out (strL_get hy)
          injection he with e1 e2 e3
          subst e1 e3
          have HS := Lib.hid hS
          have Hym := Lib.hid (List.mem_of_getElem? hy)
          have Hz1 := Lib.hid (HZ.out y Hym.out)
          obtain ⟨k1, hk1⟩ : ∃ k, dgK y = k := ⟨_, rfl⟩
          have Hk1 := Lib.hid hk1
          clear hS hy e2 hk1
          go_wp2
          go_loopw [9] (fun i wr => ∃ (i2 : Nat), i2 ≤ i1 ∧ i = .int .i64 i2 ∧ St w wr []) (fun i _ => i1 - (intOf i).toNat)
          case atStart => exact ⟨0, by omega, rfl, H⟩
          case round =>
            clear H
            obtain ⟨i2, hi2, rfl, H⟩ := hrel
            by_cases hl2 : i2 < i1
            · obtain ⟨z, hz⟩ : ∃ z, A[i2]? = some z := ⟨_, List.getElem?_eq_getElem (by rw [Hn.out]; omega)⟩
              obtain ⟨b', off', c', he, hS⟩ := row1_at Ha.out (strL_get hz)
              injection he with e1 e2 e3
              simp only [Option.some.injEq, Addr.mk.injEq, and_true] at e1
              obtain ⟨rfl, rfl⟩ := e1
              have HS2 := Lib.hid hS
              have Hzm := Lib.hid (List.mem_of_getElem? hz)
              have hin2 : i2 < n := by omega
              clear hS hz e2 e3
              by_cases hyz : y = z
              · subst hyz
                have hbb : (y.toList == y.toList) = true := beq_self_eq_true _
                go_wp2
                (try simp only [Act.put, List.setIfInBounds_toArray, List.set_cons_zero, List.set_cons_succ])
                refine wp_quiet_all (C := fun w' => ∃ x : After _, w' = x.w) (by kernel_rfl) (by kernel_rfl) (since_drew _) ?_
                repeat (first | go_big_quiet_skip | (go_big_quiet_want; (with_reducible apply qd_oneS (ty := 9) Try.underlying9 rfl); rfl; (rintro _ ⟨x, rfl⟩; exact HS.out.keep (H.call x.h).bel); (go_simp; go_big_quiet_on)) | (go_big_quiet_want; (with_reducible apply qd_oneS (ty := 9) Try.underlying9 rfl); rfl; (rintro _ ⟨x, rfl⟩; exact HS2.out.keep (H.call x.h).bel); (go_simp; go_big_quiet_on)) | (go_big_quiet_step (fail)))
                refine wpQuiet_nil ?_
                rintro _ ⟨zq, rfl⟩; replace H := H.call zq.h
                go_wp2
                go_roundw
                case rel => exact ⟨i2 + 1, by omega, by go_num, H⟩
                case measure => simp [intOf]; omega
              · have hbb := str_ne hyz
                have hkk : dgK y ≠ dgK z := fun h => hyz (Hfin.out y Hym.out z Hzm.out h)
                have Hz2 := Lib.hid (HZ.out z Hzm.out)
                rw [Hk1.out] at hkk
                obtain ⟨k2, hk2⟩ : ∃ k, dgK z = k := ⟨_, rfl⟩
                rw [hk2] at hkk
                have Hk2 := Lib.hid hk2
                have hkb : (k1.1 == k2.1) = false := by rw [beq_eq_false_iff_ne]; exact fun h => hkk (Subtype.ext h)
                clear hk2 hkk hyz
                go_wp2
                (try simp only [Act.put, List.setIfInBounds_toArray, List.set_cons_zero, List.set_cons_succ])
                refine wp_quiet_all (C := fun w' => ∃ x : After _, w' = x.w) (by kernel_rfl) (by kernel_rfl) (since_drew _) ?_
                repeat (first | go_big_quiet_skip | (go_big_quiet_want; (with_reducible apply qd_oneS (ty := 9) Try.underlying9 rfl); rfl; (rintro _ ⟨x, rfl⟩; exact HS.out.keep (H.call x.h).bel); (go_simp; go_big_quiet_on)) | (go_big_quiet_want; (with_reducible apply qd_oneS (ty := 9) Try.underlying9 rfl); rfl; (rintro _ ⟨x, rfl⟩; exact HS2.out.keep (H.call x.h).bel); (go_simp; go_big_quiet_on)) | (go_big_quiet_step ((first | (go_at_call 41; with_reducible exact after_call _ (of_k Hz1.out Hk1.out _)) | (go_at_call 41; with_reducible exact after_call _ (of_k Hz2.out Hk2.out _))))))
                refine wpQuiet_nil ?_
                rintro _ ⟨zq, rfl⟩; replace H := H.call zq.h
                go_wp2
                go_roundw
                case rel => exact ⟨i2 + 1, by omega, by go_num, H⟩
                case measure => simp [intOf]; omega
            · have hkn : i2 = i1 := by omega
              subst hkn
              go_wp2
              go_roundw
              case rel => exact ⟨i2 + 1, by omega, by go_num, H⟩
              case measure => simp [intOf]; omega
        · have hkn : i1 = n := by omega
          subst hkn
          go_wp2
          all_goals first | (rw [Exit.noGoto_ret]; go_ret) | go_ret
          all_goals exact ⟨rfl, H.bel⟩
end Go.Proofs.Ytolbmemogoojhaa
