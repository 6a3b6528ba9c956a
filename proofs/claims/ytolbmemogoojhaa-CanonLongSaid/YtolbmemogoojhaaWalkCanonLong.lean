/- The walk of CanonLong. -/
import Derived.Test.YtolbmemogoojhaaCanH
namespace Go.Proofs.Ytolbmemogoojhaa
open Go Go.RowKit Go.Deep
set_option linter.unusedVariables false
set_option linter.unusedSimpArgs false
set_option maxRecDepth 100000
theorem byt_hd {w : World} {b off m c n : Nat} {bs : List UInt8} (h : Byt w (.slice (some ⟨b, off, none⟩) m c) bs) (hb : ∃ t, bs = UInt8.ofNat n :: t) (hn : n ≤ 10) : Sub w b off #[.int .u8 (n : Int)] := by
  obtain ⟨t, rfl⟩ := hb
  have := byt_at0 h
  rw [UInt8.toNat_ofNat', Nat.mod_eq_of_lt (by omega)] at this
  exact this
theorem conv_small {n : Nat} (hn : n ≤ 10) (W : World) : (convert 5 3 (.int .u8 (n : Int))).run Try.prog W = .ok (.int .i64 (n : Int)) W := by
  have := conv_u8i (c := UInt8.ofNat n) W
  rw [UInt8.toNat_ofNat', Nat.mod_eq_of_lt (by omega)] at this
  exact this
theorem mostR_take {L : BK} {j : Nat} {r : RD} (h : L[j]? = some r) : mostR (L.take (j + 1)) = mostR (L.take j) + 25 + mostF r.f := by
  induction L generalizing j with
  | nil => cases h
  | cons x L ih =>
    cases j with
    | zero =>
      simp only [List.getElem?_cons_zero, Option.some.injEq] at h
      subst h
      simp [mostR]
    | succ j =>
      rw [List.take_succ_cons, List.take_succ_cons, mostR, mostR, ih (by simpa using h)]
      omega
theorem mostF_take {L : List F4} {j : Nat} {f : F4} (h : L[j]? = some f) : mostF (L.take (j + 1)) = mostF (L.take j) + 12 + f.2.2.2.size := by
  induction L generalizing j with
  | nil => cases h
  | cons x L ih =>
    cases j with
    | zero =>
      simp only [List.getElem?_cons_zero, Option.some.injEq] at h
      subst h
      simp [mostF]
    | succ j =>
      rw [List.take_succ_cons, List.take_succ_cons, mostF, mostF, ih (by simpa using h)]
      omega
theorem mostF_mono (L : List F4) (j : Nat) : mostF (L.take j) ≤ mostF L := by
  induction L generalizing j with
  | nil => simp [mostF]
  | cons x L ih =>
    cases j with
    | zero => simp [mostF]
    | succ j =>
      rw [List.take_succ_cons, mostF, mostF]
      have := ih j
      omega
theorem mostR_mono (L : BK) (j : Nat) : mostR (L.take j) ≤ mostR L := by
  induction L generalizing j with
  | nil => simp [mostR]
  | cons x L ih =>
    cases j with
    | zero => simp [mostR]
    | succ j =>
      rw [List.take_succ_cons, mostR, mostR]
      have := ih j
      omega
theorem w_add {T d : Nat} (h : T + d ≤ 30000) : wrap64 ((T : Int) + (d : Int)) = ((T + d : Nat) : Int) := by unfold wrap64; omega
theorem w_add25 {T : Nat} (h : T + 25 ≤ 30000) : wrap64 ((T : Int) + 25) = ((T + 25 : Nat) : Int) := w_add h
theorem w_add12 {T : Nat} (h : T + 12 ≤ 30000) : wrap64 ((T : Int) + 12) = ((T + 12 : Nat) : Int) := w_add h
theorem w_adds {T d : Nat} (h : T + 12 + d ≤ 30000) : wrap64 ((T : Int) + 12 + (d : Int)) = ((T + 12 + d : Nat) : Int) := by unfold wrap64; omega
section
variable {a : Act} {b o : Nat} {dst : Option Tmp} {ty typ : TypeId} {x : Operand} {pos : String} {af : Array Edge} {gd : Option (Nat × Bool)} {C : World → Prop} {K : Act → Prop} {v : Value} {d : TypeDesc}
theorem qd_one8 (hu : Try.prog.underlying ty = some d) (hd : (match (generalizing := false) d with | .struct _ | .array _ _ => true | _ => false) = false) (hx : a.eval x = .pointer (some ⟨b, o, none⟩)) (h : ∀ w', C w' → Sub w' b o #[v]) (k : K (a.put dst v)) : (⟨dst, .load ty x, typ, pos, af, gd⟩ : Oper).quiet Try.prog a C K :=
  quiet_load_one (P := Try.prog) (C := C) (K := K) ty x rfl dst rfl b o hx v d h hu (by cases d <;> first | rfl | (exact absurd hd (by simp))) k
end
section
variable {ops : Array Oper} {rest : List Oper} {a : Act} {w : World} {Q : Exit → Act → World → Prop} {dst : Option Tmp} {typ : TypeId} {x y : Operand} {pos : String} {af : Array Edge} {gd : Option (Nat × Bool)} {X Y Z : Int}
/-- A sum that is known. -/
theorem arm_addi (hz : wrap64 (X + Y) = Z) (hw : Region.wanted (⟨dst, .binOp .add 3 x y 3, typ, pos, af, gd⟩ : Oper) (yielded ops a.tmps) = true) (hx : a.eval x = .int .i64 X) (hy : a.eval y = .int .i64 Y)
    (h : wpList Try.prog ops Q rest (a.put dst (.int .i64 Z)) w) : wpList Try.prog ops Q (⟨dst, .binOp .add 3 x y 3, typ, pos, af, gd⟩ :: rest) a w := by
  refine BigFrame.wpList_want hw fun K hK => ?_
  have hu := Try.underlying3
  have hz2 : IntKind.i64.wrap (X + Y) = Z := by rw [← hz, IntKind.wrap_i64]; first | rfl | (unfold wrap64; rfl) | (unfold wrap64; omega)
  have hr : (binOp .add 3 (.int .i64 X) (.int .i64 Y)).run Try.prog w = .ok (.int .i64 Z) w := by
    simp [go_sem, hu, hz2]
  have hg : (eqGuard .add 3 x y (.int .i64 X) (.int .i64 Y)).run Try.prog w = .ok () w := by first | rfl | simp [eqGuard, go_sem] | kernel_rfl
  unfold Oper.wp execOp
  simp only [hx, hy, Sem.run_bind, hg, hr, Result.andThen_ok, Sem.run_pure]
  first | exact hK _ _ h | (rw [hz2]; exact hK _ _ h)
end
set_option maxHeartbeats 12800000 in
theorem canonLong_walk (va : Value) (A : BK) (w : World) (ha : Recs w va A) : Calls Try.prog 18 #[.agg #[va]] w fun e w' => e = .returned (.bool true) ∧ Below w.heap.size w w' := by
  obtain ⟨n, hn⟩ : ∃ n, A.length = n := ⟨_, rfl⟩
  obtain ⟨a, c, rfl, hm1, _⟩ := id ha.slice
  have hok := ha.ok
  rw [hn] at ha hm1 ⊢
  unfold maxLen at hm1
  have Ha := Lib.hid ha; have Hn := Lib.hid hn; clear ha
  obtain ⟨m, hm⟩ : ∃ m, Hid (bMay A = m) := ⟨_, rfl⟩
  obtain ⟨bs, HP⟩ : ∃ bs, Hid (bPutP A = bs) := ⟨_, rfl⟩
  have H := St.init w
  cases m with
  | false =>
    clear hn hok
    go_enter Try.func18, Try.ntmps18
    go_wp2_with (first | go_skip | ((fail_if_success have := kA); (with_reducible apply arm_box H); rfl; clear H; intro wn kA H) | ((with_reducible apply ld_bk); rfl; rfl; (focus (apply H.one; (repeat (first | with_reducible exact List.mem_cons_self | with_reducible apply List.mem_cons_of_mem)); done))) | (go_at_call 42; (with_reducible refine (awake8_c _).mono ?_); rintro e wn ⟨rfl, hb⟩; replace H := H.call hb; clear hb) | (go_at_call 43; (fail_if_success have := Tvp); (with_reducible refine (cnput_v hm.out HP.out _ (Ha.out.below H.bel)).mono ?_); rintro e wn ⟨vp, rfl, hs⟩; have Tvp := Lib.hid True.intro; replace H := H.comp hs; clear hs; simp only [List.cons_append, List.nil_append] at H) | (go_at_call 22; (with_reducible refine (bkmay_v hm.out _ (Ha.out.below H.bel)).mono ?_); rintro e wn ⟨rfl, hb⟩; replace H := H.call hb; clear hb))
    all_goals first | (rw [Exit.noGoto_ret]; go_ret) | go_ret
    all_goals exact ⟨rfl, H.bel⟩
  | true =>
    have hbok := bOk_of hm.out hok
    have hB : bs = bBytes A := by rw [← HP.out, bPutP_yes hm.out]
    obtain ⟨hl1, hl2⟩ := bBytes_len hbok
    obtain ⟨t0, hh, hh10⟩ := bBytes_head hbok
    rw [hn] at hh hh10
    obtain ⟨nb, hnb⟩ : ∃ n, bs.length = n := ⟨_, rfl⟩
    obtain ⟨Z, hZ⟩ : ∃ Z, mostR A = Z := ⟨_, rfl⟩
    have hnZ : nb ≤ 2 + Z := by rw [← hnb, hB, ← hZ]; exact hl1
    have hZ2 : Z ≤ 20000 := by rw [← hZ]; exact hl2
    have HLb := Lib.hid hnb
    have Hnb0 : Hid (0 < nb) := Lib.hid (by rw [← hnb, hB, hh]; simp)
    have HH : Hid (∃ t, bs = UInt8.ofNat n :: t) := Lib.hid ⟨t0, by rw [hB, hh]⟩
    have Hn10 : Hid (n ≤ 10) := Lib.hid hh10
    have hcv : ∀ W, (convert 5 3 (.int .u8 (n : Int))).run Try.prog W = .ok (.int .i64 (n : Int)) W := conv_small hh10
    have HZ := Lib.hid hZ
    have HnZ := Lib.hid hnZ
    clear hn hok hbok hB hl1 hl2 hh hh10 hnb hZ hnZ
    go_enter Try.func18, Try.ntmps18
    go_wp2_with (first | go_skip | ((fail_if_success have := kA); (with_reducible apply arm_box H); rfl; clear H; intro wn kA H) | ((with_reducible apply ld_bk); rfl; rfl; (focus (apply H.one; (repeat (first | with_reducible exact List.mem_cons_self | with_reducible apply List.mem_cons_of_mem)); done))) | (go_at_call 42; (with_reducible refine (awake8_c _).mono ?_); rintro e wn ⟨rfl, hb⟩; replace H := H.call hb; clear hb) | (go_at_call 43; (fail_if_success have := Tvp); (with_reducible refine (cnput_v hm.out HP.out _ (Ha.out.below H.bel)).mono ?_); rintro e wn ⟨vp, rfl, hs⟩; have Tvp := Lib.hid True.intro; replace H := H.comp hs; clear hs; simp only [List.cons_append, List.nil_append] at H; obtain ⟨pb, po, pc, rfl, -⟩ := byt_head1 (H.byt8 (v := vp) (by (repeat (first | with_reducible exact List.mem_cons_self | with_reducible apply List.mem_cons_of_mem)))) HLb.out Hnb0.out) | ((with_reducible apply ld_one (ty := 22) Try.underlying22 rfl); rfl; rfl; (focus (apply H.one; (repeat (first | with_reducible exact List.mem_cons_self | with_reducible apply List.mem_cons_of_mem)); done))))
    go_loopw [6, 7] (fun v i wr => ∃ (j T : Nat), j ≤ n ∧ i = .int .i64 j ∧ v = .int .i64 T ∧ Hid (T = 2 + mostR (A.take j)) ∧ St w wr [Res.row 5 1 (.slice (some ⟨pb, po, none⟩) nb pc) bs.length (encU bs), Res.blk kA 24 #[.slice a n c]]) (fun _ i _ => n - (intOf i).toNat)
    case atStart => exact ⟨0, 2, by omega, rfl, rfl, Lib.hid rfl, H⟩
    case round =>
      clear H
      obtain ⟨j, T, hj, rfl, rfl, HT, H⟩ := hrel
      have hT : T ≤ 20002 := by have := mostR_mono A j; have := HT.out; have := HZ.out; omega
      by_cases hlt : j < n
      · obtain ⟨r, hr⟩ : ∃ r, A[j]? = some r := ⟨_, List.getElem?_eq_getElem (by rw [Hn.out]; exact hlt)⟩
        obtain ⟨b, off, s, rfl, hbw, G, hf⟩ := Ha.out.at hr
        have HR := Lib.hid (mostR_take hr)
        have hT1 : T + 25 + mostF r.f ≤ 20002 := by have := mostR_mono A (j + 1); have := HT.out; have := HZ.out; have := HR.out; omega
        have HT1 := Lib.hid hT1
        have hok : Hid r.ok := Lib.hid G.2
        obtain ⟨nf, hnf⟩ : ∃ nf, r.f.length = nf := ⟨_, rfl⟩
        obtain ⟨_, fa, fc, rfl, hc1, hc2, _⟩ := id hf
        rw [hnf] at hf hc1 G
        unfold maxLen at hc2
        have Hf := Lib.hid hf; have Hnf := Lib.hid hnf
        have b1 : T + 25 ≤ 30000 := by omega
        have Hw := Lib.hid (w_add25 b1)
        clear b1 hf hr hbw hnf hT1
        go_wp2_with (first | go_skip | ((with_reducible refine arm_addi Hw.out ?_ ?_ ?_ ?_); rfl; rfl; rfl) | ((with_reducible apply ld_one (ty := 22) Try.underlying22 rfl); rfl; rfl; (focus (apply H.one; (repeat (first | with_reducible exact List.mem_cons_self | with_reducible apply List.mem_cons_of_mem)); done))) | ((with_reducible apply ld_F); rfl; rfl; (first | (focus (apply H.rc; (repeat (first | with_reducible exact List.mem_cons_self | with_reducible apply List.mem_cons_of_mem)); done)) | (apply RecAt.bel (hb := H.bel); assumption))))
        go_loopw [6, 8] (fun v i wr => ∃ (k S : Nat), k ≤ nf ∧ i = .int .i64 k ∧ v = .int .i64 S ∧ Hid (S = T + 25 + mostF (r.f.take k)) ∧ St w wr [Res.row 5 1 (.slice (some ⟨pb, po, none⟩) nb pc) bs.length (encU bs), Res.blk kA 24 #[.slice (some ⟨b, off, none⟩) n c]]) (fun _ i _ => nf - (intOf i).toNat)
        case atStart => exact ⟨0, T + 25, by omega, rfl, rfl, Lib.hid rfl, H⟩
        case round =>
          clear H
          obtain ⟨k, S, hk, rfl, rfl, HS, H⟩ := hrel
          by_cases hkl : k < nf
          · obtain ⟨f, hfk⟩ : ∃ f, r.f[k]? = some f := ⟨_, List.getElem?_eq_getElem (by rw [Hnf.out]; exact hkl)⟩
            obtain ⟨b2, off2, rfl, G2⟩ := fldat_of Hf.out hfk
            have HF := Lib.hid (mostF_take hfk)
            have hS1 : S + 12 + f.2.2.2.size ≤ 20002 := by have := mostF_mono r.f (k + 1); have := HS.out; have := HF.out; have := HT1.out; omega
            have b1 : S + 12 ≤ 30000 := by omega
            have b3 : S + 12 + f.2.2.2.size ≤ 30000 := by omega
            have Hw1 := Lib.hid (w_add12 b1)
            have Hw2 := Lib.hid (w_add b3)
            clear hfk b1 b3 hS1
            go_wp2_with (first | go_skip | ((with_reducible refine arm_addi Hw1.out ?_ ?_ ?_ ?_); rfl; rfl; rfl) | ((with_reducible refine arm_addi Hw2.out ?_ ?_ ?_ ?_); rfl; rfl; rfl) | ((with_reducible apply ld_one (ty := 22) Try.underlying22 rfl); rfl; rfl; (focus (apply H.one; (repeat (first | with_reducible exact List.mem_cons_self | with_reducible apply List.mem_cons_of_mem)); done))) | ((with_reducible apply ld_F); rfl; rfl; (first | (focus (apply H.rc; (repeat (first | with_reducible exact List.mem_cons_self | with_reducible apply List.mem_cons_of_mem)); done)) | (apply RecAt.bel (hb := H.bel); assumption))) | ((with_reducible apply ld_fstr2); rfl; rfl; (first | (focus (apply H.fld; (repeat (first | with_reducible exact List.mem_cons_self | with_reducible apply List.mem_cons_of_mem)); done)) | (apply FldAt.bel (hb := H.bel); assumption))))
            go_roundw
            case rel => exact ⟨k + 1, S + 12 + f.2.2.2.size, by omega, by go_num, by first | rfl | go_num, Lib.hid (by rw [HF.out, HS.out]; omega), H⟩
            case measure => simp [intOf]; omega
          · have hkn : k = nf := by omega
            subst hkn
            have HE : Hid (S = T + 25 + mostF r.f) := Lib.hid (by rw [HS.out, ← Hnf.out, List.take_length])
            go_wp2_with (first | go_skip | ((with_reducible apply ld_one (ty := 22) Try.underlying22 rfl); rfl; rfl; (focus (apply H.one; (repeat (first | with_reducible exact List.mem_cons_self | with_reducible apply List.mem_cons_of_mem)); done))) | ((with_reducible apply ld_F); rfl; rfl; (first | (focus (apply H.rc; (repeat (first | with_reducible exact List.mem_cons_self | with_reducible apply List.mem_cons_of_mem)); done)) | (apply RecAt.bel (hb := H.bel); assumption))) | ((with_reducible apply ld_fstr2); rfl; rfl; (first | (focus (apply H.fld; (repeat (first | with_reducible exact List.mem_cons_self | with_reducible apply List.mem_cons_of_mem)); done)) | (apply FldAt.bel (hb := H.bel); assumption))))
            go_roundw
            case rel => exact ⟨j + 1, S, by omega, by go_num, rfl, Lib.hid (by rw [HR.out, HE.out, HT.out]; omega), H⟩
            case measure => simp [intOf]; omega
      · have hjn : j = n := by omega
        subst hjn
        have hle : nb ≤ T := by have := HT.out; have := HZ.out; have := HnZ.out; have e : mostR (A.take j) = mostR A := by rw [← Hn.out, List.take_length]
                                omega
        have hnb0 := Hnb0.out
        have hle2 : decide ((nb : Int) ≤ (T : Int)) = true := by simp; omega
        go_wp2_with (first | go_skip | ((with_reducible apply ld_one (ty := 22) Try.underlying22 rfl); rfl; rfl; (focus (apply H.one; (repeat (first | with_reducible exact List.mem_cons_self | with_reducible apply List.mem_cons_of_mem)); done))) | ((with_reducible apply ld_F); rfl; rfl; (first | (focus (apply H.rc; (repeat (first | with_reducible exact List.mem_cons_self | with_reducible apply List.mem_cons_of_mem)); done)) | (apply RecAt.bel (hb := H.bel); assumption))) | ((with_reducible apply ld_fstr2); rfl; rfl; (first | (focus (apply H.fld; (repeat (first | with_reducible exact List.mem_cons_self | with_reducible apply List.mem_cons_of_mem)); done)) | (apply FldAt.bel (hb := H.bel); assumption))))
        (try simp only [Act.put, List.setIfInBounds_toArray, List.set_cons_zero, List.set_cons_succ])
        refine wp_quiet_all (C := fun w' => ∃ x : After _, w' = x.w) (by kernel_rfl) (by kernel_rfl) (since_drew _) ?_
        repeat (first | go_big_quiet_skip | (go_big_quiet_want; (with_reducible apply qd_one8 (ty := 5) Try.underlying5 rfl); rfl; (rintro _ ⟨x, rfl⟩; exact byt_hd ((H.call x.h).byt8 (bs := bs) (by (repeat (first | with_reducible exact List.mem_cons_self | with_reducible apply List.mem_cons_of_mem)))) HH.out Hn10.out); (go_simp; go_big_quiet_on)) | (go_big_quiet_want; (with_reducible apply qd_one (ty := 22) Try.underlying22 rfl); rfl; (rintro _ ⟨x, rfl⟩; have H := H.call x.h; (focus (apply H.one; (repeat (first | with_reducible exact List.mem_cons_self | with_reducible apply List.mem_cons_of_mem)); done))); (go_simp; go_big_quiet_on)) | (go_big_quiet_step (fail)))
        refine wpQuiet_nil ?_
        rintro _ ⟨zq, rfl⟩; replace H := H.call zq.h
        go_wp2
        all_goals first | (rw [Exit.noGoto_ret]; go_ret) | go_ret
        all_goals exact ⟨by first | rfl | simp, H.bel⟩
end Go.Proofs.Ytolbmemogoojhaa
