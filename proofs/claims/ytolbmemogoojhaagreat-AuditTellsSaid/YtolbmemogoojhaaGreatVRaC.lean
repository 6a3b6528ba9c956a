/- The document's parts of texts. -/
import Derived.Test.YtolbmemogoojhaaGreatVRaB
namespace Go.Proofs.YtolbmemogoojhaaGreat
open Go Go.RowKit Go.Deep
set_option linter.unusedVariables false
set_option linter.unusedSimpArgs false
set_option maxRecDepth 100000
section
variable {ops : Array Oper} {rest : List Oper} {a : Act} {w : World} {Q : Exit → Act → World → Prop} {dst : Option Tmp} {typ t : TypeId} {x y z : Operand} {pos : String} {af : Array Edge} {v l h u : Value} {k : Int}
theorem ar_lh (hs : ∀ W, (Instr.slice 9 v (some l) (some h) none).run Tryz.prog W = .ok u W) (hx : a.eval x = v) (hy : a.eval y = l) (hz : a.eval z = h) (q : wpList Tryz.prog ops Q rest (a.put dst u) w) :
    wpList Tryz.prog ops Q (⟨dst, .slice 9 x (some y) (some z) none, typ, pos, af, none⟩ :: rest) a w := by
  refine wpList_run rfl u w ?_ q
  have hu : Tryz.prog.underlying 9 = some .string := by kernel_rfl
  unfold execOp
  simp only [hx, hy, hz, Option.map_some, Option.map_none, Sem.run_bind, run_sliceAt_string _ _ _ _ _ _ hu, hs, Result.andThen_ok, Sem.run_pure]
end
theorem str_lh {s p : ByteArray} {m : Nat} (h : m + 8 ≤ s.size) (e : s.extract m (m + 8) = p) (W : World) : (Instr.slice 9 (.string s) (some (.int .i64 (m : Int))) (some (.int .i64 ((m : Int) + 8))) none).run Tryz.prog W = .ok (.string p) W := by
  rw [run_slice_string W 9 s .i64 .i64 (m : Int) ((m : Int) + 8) (by kernel_rfl) (by omega) (by omega) (by omega), show ((m : Int)).toNat = m from Int.toNat_natCast m, show ((m : Int) + 8).toNat = m + 8 by omega, e]
theorem wrap8 {m : Nat} (h : m ≤ 1000000) : wrap64 ((m : Int) + 8) = (m : Int) + 8 := by unfold wrap64; omega
set_option maxHeartbeats 12800000 in
theorem rparts_c (v : Value) (LL : List ByteArray) {n : Nat} (w : World) (hv : Row w 1 v n (strL LL)) (hsz : ∀ s ∈ LL, s.size ≤ 80000) (hb : mostL LL ≤ 90000) : Calls Tryz.prog 37 #[v] w fun e w' => ∃ v', e = .returned v' ∧ St w w' [Res.row 9 1 v' (auParts LL).length (strL (auParts LL))] := by
  have hn : LL.length = n := by have := hv.1; rw [strL_length] at this; omega
  obtain ⟨_, a, c, rfl, hm1, hm2, _⟩ := id hv
  unfold maxLen at hm2
  have Hv := Lib.hid hv; have Hn := Lib.hid hn; have HB := Lib.hid hb; have HZ := Lib.hid hsz; clear hv hn hb hsz
  have H := St.init w
  go_enter Tryz.func37, Tryz.ntmps37
  go_wp2
  go_loopw [4, 3] (fun i vo wr => ∃ (j : Nat) (v' : Value) (l' : List ByteArray), v' = vo ∧ j ≤ n ∧ i = .int .i64 j ∧ Hid (auParts LL = onces l' ((LL.drop j).flatMap cuts)) ∧ Hid (l'.length + ((LL.drop j).flatMap cuts).length ≤ 90000) ∧ St w wr [Res.row 9 1 v' l'.length (strL l')]) (fun i _ _ => n - (intOf i).toNat)
  case atStart => exact ⟨0, .slice none 0 0, [], rfl, by omega, rfl, Lib.hid rfl, Lib.hid (by have := HB.out; rw [← most_len] at this; simpa using this), H.nilRow _ _⟩
  case round =>
    clear H
    obtain ⟨j, v1, l1, hvt, hj, rfl, I1, B1, H⟩ := hrel
    subst hvt
    by_cases hlt : j < n
    · obtain ⟨s, hs⟩ : ∃ s, LL[j]? = some s := ⟨_, List.getElem?_eq_getElem (by rw [Hn.out]; exact hlt)⟩
      obtain ⟨b, off, c', he, hS⟩ := row1_at Hv.out (strL_get hs)
      injection he with e1 e2 e3
      subst e1 e3
      have HS := Lib.hid hS
      obtain ⟨X, hX⟩ : ∃ X, (LL.drop (j + 1)).flatMap cuts = X := ⟨_, rfl⟩
      have HX := Lib.hid hX
      have J1 : Hid (auParts LL = onces l1 (cuts s ++ X)) := Lib.hid (by rw [I1.out, flat_drop hs, hX])
      have C1 : Hid (l1.length + (cuts s ++ X).length ≤ 90000) := Lib.hid (by have := B1.out; rw [flat_drop hs, hX] at this; exact this)
      have HZ1 := HZ.out s (List.mem_of_getElem? hs)
      obtain ⟨q, hq⟩ : ∃ q, s.size = q := ⟨_, rfl⟩
      rw [hq] at HZ1
      have HQ := Lib.hid hq
      clear hs hX hS e2 hq
      go_wp2
      go_loopw [5, 3] (fun i vo wr => ∃ (m : Nat) (v' : Value) (l' : List ByteArray), v' = vo ∧ m ≤ q ∧ i = .int .i64 m ∧ Hid (auParts LL = onces l' ((cuts s).drop m ++ X)) ∧ Hid (l'.length + ((cuts s).drop m ++ X).length ≤ 90000) ∧ St w wr [Res.row 9 1 v' l'.length (strL l')]) (fun i _ _ => q - (intOf i).toNat)
      case atStart => exact ⟨0, v1, l1, rfl, by omega, rfl, J1, C1, H⟩
      case round =>
        clear H
        obtain ⟨m, v3, l3, hvt, hm, rfl, I3, B3, H⟩ := hrel
        subst hvt
        have hw := wrap8 (m := m) (by omega)
        by_cases hml : m + 8 ≤ q
        · have hat := cuts_at (s := s) (m := m) (by rw [HQ.out]; omega)
          obtain ⟨p, hp⟩ : ∃ p, s.extract m (m + 8) = p := ⟨_, rfl⟩
          rw [hp] at hat
          have J3 : Hid (auParts LL = onces (onceP l3 p) ((cuts s).drop (m + 1) ++ X)) := Lib.hid (by rw [I3.out, drop_at hat]; rfl)
          have C3 : Hid ((onceP l3 p).length + ((cuts s).drop (m + 1) ++ X).length ≤ 90000) := Lib.hid (by
            have h1 := B3.out; have h2 := onceP_le l3 p
            rw [drop_at hat] at h1
            simp only [List.cons_append, List.length_cons] at h1; omega)
          have HL : Hid (l3.length + [p].length ≤ 100000) := Lib.hid (by have := B3.out; simp only [List.length_cons, List.length_nil]; omega)
          have Hc := Lib.hid (str_lh (s := s) (p := p) (m := m) (by rw [HQ.out]; exact hml) hp)
          have h8 : decide ((m : Int) + 8 ≤ (s.size : Int)) = true := decide_eq_true (by rw [HQ.out]; omega)
          obtain ⟨t, ht⟩ : ∃ t, decide (p ∈ l3) = t := ⟨_, rfl⟩
          have HQ2 := HQ
          clear HQ
          have HQ := Lib.hid ht
          clear hat hp ht
          cases t with
          | true =>
            have e : onceP l3 p = l3 := if_pos (of_decide_eq_true HQ.out)
            rw [e] at J3 C3
            clear e
            go_wp2_with (first | go_skip | ((with_reducible refine ld_one (ty := 9) Tryz.underlying9 rfl ?_ ?_ (HS.out.keep H.bel) ?_); rfl; rfl) | ((with_reducible apply ar_lh); exact Hc.out; rfl; rfl; rfl) | (go_at_call 68; (with_reducible refine (rhas_v HQ.out _ (H.rowRead (by (repeat (first | with_reducible exact mH | with_reducible apply mT))))).mono ?_); rintro e wn ⟨rfl, hb⟩; replace H := H.call hb; clear hb) | ((with_reducible apply bs_str H); rfl; clear H; intro wn b H) | ((with_reducible apply arm_app H (ht := Tryz.underlying47) (hinfo := info_strR) (hzs := rfl) (hsz := by decide)); (conv => lhs; whnf); (conv => lhs; whnf); (intro v; (repeat (first | with_reducible apply Upd.head | with_reducible apply Upd.tail))); (focus (apply H.rowRead; (repeat (first | with_reducible exact mH | with_reducible apply mT)); done)); (focus (exact strL_one _; done)); (focus (have := HL.out; unfold maxLen; simp only [List.length_cons, List.length_nil] at *; omega; done)); (focus (have := HL.out; simp only [List.length_cons, List.length_nil] at *; omega; done)); clear H; intro wn vn H))
            go_roundw
            case rel => exact ⟨m + 1, v3, l3, rfl, by omega, by go_num, J3, C3, H⟩
            case measure => simp [intOf]; omega
          | false =>
            have e : onceP l3 p = l3 ++ [p] := if_neg (of_decide_eq_false HQ.out)
            rw [e] at J3 C3
            clear e
            go_wp2_with (first | go_skip | ((with_reducible refine ld_one (ty := 9) Tryz.underlying9 rfl ?_ ?_ (HS.out.keep H.bel) ?_); rfl; rfl) | ((with_reducible apply ar_lh); exact Hc.out; rfl; rfl; rfl) | (go_at_call 68; (with_reducible refine (rhas_v HQ.out _ (H.rowRead (by (repeat (first | with_reducible exact mH | with_reducible apply mT))))).mono ?_); rintro e wn ⟨rfl, hb⟩; replace H := H.call hb; clear hb) | ((with_reducible apply bs_str H); rfl; clear H; intro wn b H) | ((with_reducible apply arm_app H (ht := Tryz.underlying47) (hinfo := info_strR) (hzs := rfl) (hsz := by decide)); (conv => lhs; whnf); (conv => lhs; whnf); (intro v; (repeat (first | with_reducible apply Upd.head | with_reducible apply Upd.tail))); (focus (apply H.rowRead; (repeat (first | with_reducible exact mH | with_reducible apply mT)); done)); (focus (exact strL_one _; done)); (focus (have := HL.out; unfold maxLen; simp only [List.length_cons, List.length_nil] at *; omega; done)); (focus (have := HL.out; simp only [List.length_cons, List.length_nil] at *; omega; done)); clear H; intro wn vn H))
            go_roundw
            case rel => exact ⟨m + 1, vn, l3 ++ [p], rfl, by omega, by go_num, J3, C3, by rw [strL_app, List.length_append]; exact H.sub (by (repeat (first | with_reducible exact List.Sublist.refl _ | with_reducible refine List.Sublist.cons_cons _ ?_ | refine List.Sublist.cons _ ?_)))⟩
            case measure => simp [intOf]; omega
        · have h8 : decide ((m : Int) + 8 ≤ (s.size : Int)) = false := decide_eq_false (by rw [HQ.out]; omega)
          have hnil : (cuts s).drop m = [] := List.drop_of_length_le (by rw [cuts_len, HQ.out]; omega)
          have J3 : Hid (auParts LL = onces l3 ((LL.drop (j + 1)).flatMap cuts)) := Lib.hid (by rw [I3.out, hnil, HX.out]; rfl)
          have C3 : Hid (l3.length + ((LL.drop (j + 1)).flatMap cuts).length ≤ 90000) := Lib.hid (by have := B3.out; rw [hnil] at this; rw [HX.out]; exact this)
          clear hnil
          go_wp2_with (first | go_skip | ((with_reducible refine ld_one (ty := 9) Tryz.underlying9 rfl ?_ ?_ (HS.out.keep H.bel) ?_); rfl; rfl))
          go_roundw
          case rel => exact ⟨j + 1, v3, l3, rfl, by omega, by go_num, J3, C3, H⟩
          case measure => simp [intOf]; omega
    · have hjn : j = n := by omega
      subst hjn
      have J1 : Hid (auParts LL = l1) := Lib.hid (by rw [I1.out, ← Hn.out, List.drop_length]; rfl)
      go_wp2
      all_goals first | (rw [Exit.noGoto_ret]; go_ret) | go_ret
      all_goals exact ⟨v1, rfl, by rw [J1.out]; exact H.sub (by (repeat (first | with_reducible exact List.Sublist.refl _ | with_reducible refine List.Sublist.cons_cons _ ?_ | refine List.Sublist.cons _ ?_)))⟩
end Go.Proofs.YtolbmemogoojhaaGreat
