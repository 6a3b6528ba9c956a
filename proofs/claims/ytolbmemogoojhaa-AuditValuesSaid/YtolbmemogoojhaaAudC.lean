/- All parts of texts, of eight bytes. -/
import Derived.Test.YtolbmemogoojhaaAudB
namespace Go.Proofs.Ytolbmemogoojhaa
open Go Go.RowKit Go.Deep
set_option linter.unusedVariables false
set_option linter.unusedSimpArgs false
set_option maxRecDepth 100000
section
variable {ops : Array Oper} {rest : List Oper} {a : Act} {w : World} {Q : Exit → Act → World → Prop} {dst : Option Tmp} {typ t : TypeId} {x y z : Operand} {pos : String} {af : Array Edge} {v l h u : Value} {k : Int}
theorem ar_sh (hs : ∀ W, (Instr.slice 9 v none (some (.int .i64 k)) none).run Try.prog W = .ok u W) (hx : a.eval x = v) (q : wpList Try.prog ops Q rest (a.put dst u) w) :
    wpList Try.prog ops Q (⟨dst, .slice 9 x none (some (.const (.int .i64 k))) none, typ, pos, af, none⟩ :: rest) a w := by
  refine wpList_run rfl u w ?_ q
  have hu : Try.prog.underlying 9 = some .string := by kernel_rfl
  have hc : a.eval (.const (.int .i64 k)) = .int .i64 k := rfl
  unfold execOp
  simp only [hx, hc, Option.map_some, Option.map_none, Sem.run_bind, run_sliceAt_string _ _ _ _ _ _ hu, hs, Result.andThen_ok, Sem.run_pure]
theorem ar_sl (hs : ∀ W, (Instr.slice 9 v (some (.int .i64 k)) none none).run Try.prog W = .ok u W) (hx : a.eval x = v) (q : wpList Try.prog ops Q rest (a.put dst u) w) :
    wpList Try.prog ops Q (⟨dst, .slice 9 x (some (.const (.int .i64 k))) none none, typ, pos, af, none⟩ :: rest) a w := by
  refine wpList_run rfl u w ?_ q
  have hu : Try.prog.underlying 9 = some .string := by kernel_rfl
  have hc : a.eval (.const (.int .i64 k)) = .int .i64 k := rfl
  unfold execOp
  simp only [hx, hc, Option.map_some, Option.map_none, Sem.run_bind, run_sliceAt_string _ _ _ _ _ _ hu, hs, Result.andThen_ok, Sem.run_pure]
end
def strSz : Value → Nat
  | .string y => y.size
  | _ => 0
theorem cuts_at {s : ByteArray} {m : Nat} (h : m < s.size - 7) : (cuts s)[m]? = some (s.extract m (m + 8)) := by
  unfold cuts
  rw [List.getElem?_map, List.getElem?_range h]; rfl
theorem str_h {y p : ByteArray} (h : 8 ≤ y.size) (e : y.extract 0 8 = p) (W : World) : (Instr.slice 9 (.string y) none (some (.int .i64 8)) none).run Try.prog W = .ok (.string p) W := by
  rw [run_slice_string_h W 9 y (by kernel_rfl) .i64 8 (by omega) (by omega), ← e]; rfl
theorem str_l {y p : ByteArray} (h : 1 ≤ y.size) (e : y.extract 1 y.size = p) (W : World) : (Instr.slice 9 (.string y) (some (.int .i64 1)) none none).run Try.prog W = .ok (.string p) W := by
  rw [run_slice_string_l W 9 y (by kernel_rfl) .i64 1 (by omega) (by omega), ← e]; rfl
set_option maxHeartbeats 6400000 in
theorem parts_c (v : Value) (LL : List ByteArray) (w : World) (hv : Row w 1 v LL.length (strL LL)) (hb : mostL LL ≤ 90000) : Calls Try.prog 38 #[v] w fun e w' => ∃ v', e = .returned v' ∧ St w w' [Res.row 9 1 v' (auParts LL).length (strL (auParts LL))] := by
  obtain ⟨n, hn⟩ : ∃ n, LL.length = n := ⟨_, rfl⟩
  rw [hn] at hv
  obtain ⟨_, a, c, rfl, hm1, hm2, _⟩ := id hv
  unfold maxLen at hm2
  have Hv := Lib.hid hv; have Hn := Lib.hid hn; have HB := Lib.hid hb; clear hv hn hb
  have H := St.init w
  go_enter Try.func38, Try.ntmps38
  go_wp2_with (first | go_skip | ((fail_if_success have := kM); (with_reducible apply arm_makeMap H (κ := ByteArray) encS); clear H; intro wn kM H) | ((fail_if_success have := kO); (with_reducible apply arm_box H); rfl; clear H; intro wn kO H))
  go_loopw [11] (fun i wr => ∃ (j : Nat) (v' : Value) (l' : List ByteArray), j ≤ n ∧ i = .int .i64 j ∧ Hid (auParts LL = onces l' ((LL.drop j).flatMap cuts)) ∧ Hid (l'.length + ((LL.drop j).flatMap cuts).length ≤ 90000) ∧ St w wr [Res.row 9 1 v' (l').length (strL l'), Res.blk kO 109 #[.map (some kM), v'], Res.map kM encS (keysL l')]) (fun i _ => n - (intOf i).toNat)
  case atStart => exact ⟨0, .slice none 0 0, [], by omega, rfl, Lib.hid rfl, Lib.hid (by have := HB.out; rw [← most_len] at this; simpa using this), H.nilRow _ _⟩
  case round =>
    clear H
    obtain ⟨j, v1, l1, hj, rfl, I1, B1, H⟩ := hrel
    by_cases hlt : j < n
    · obtain ⟨s, hs⟩ : ∃ s, LL[j]? = some s := ⟨_, List.getElem?_eq_getElem (by rw [Hn.out]; exact hlt)⟩
      obtain ⟨b, off, c', he, hS⟩ := row1_at Hv.out (strL_get hs)
      injection he with e1 e2 e3
      subst e1 e3
      have HS := Lib.hid hS
      obtain ⟨X, hX⟩ : ∃ X, (LL.drop (j + 1)).flatMap cuts = X := ⟨_, rfl⟩
      have HX := Lib.hid hX
      have J1 : Hid (auParts LL = onces l1 (cuts s ++ X)) := Lib.hid (by rw [I1.out, flat_drop hs, hX])
      have C1 : Hid (l1.length + (cuts s ++ X).length ≤ 90000) := Lib.hid (by have := B1.out; rw [flat_drop hs, hX] at this; exact this)
      obtain ⟨q, hq⟩ : ∃ q, s.size = q := ⟨_, rfl⟩
      have HQ := Lib.hid hq
      clear hs hX hS e2 hq
      go_wp2_with (first | go_skip | ((with_reducible refine ld_one (ty := 9) Try.underlying9 rfl ?_ ?_ (HS.out.keep H.bel) ?_); rfl; rfl))
      go_loopw [5] (fun i wr => ∃ (m z : Nat) (y : ByteArray) (v' : Value) (l' : List ByteArray), m + z = q ∧ i = .string y ∧ y.size = z ∧ Hid (y = s.extract m q) ∧ Hid (auParts LL = onces l' ((cuts s).drop m ++ X)) ∧ Hid (l'.length + ((cuts s).drop m ++ X).length ≤ 90000) ∧ St w wr [Res.row 9 1 v' (l').length (strL l'), Res.blk kO 109 #[.map (some kM), v'], Res.map kM encS (keysL l')]) (fun i _ => strSz i)
      case atStart => exact ⟨0, q, s, v1, l1, by omega, rfl, HQ.out, Lib.hid (by rw [← HQ.out, ByteArray.extract_zero_size]), J1, C1, H.sub (by (repeat (first | with_reducible exact List.Sublist.refl _ | with_reducible refine List.Sublist.cons_cons _ ?_ | refine List.Sublist.cons _ ?_)))⟩
      case round =>
        clear H
        obtain ⟨m, z, y, v3, l3, hmz, rfl, hz, hy, I3, B3, H⟩ := hrel
        by_cases hml : 8 ≤ z
        · have hat := cuts_at (s := s) (m := m) (by rw [HQ.out]; omega)
          obtain ⟨p, hp⟩ : ∃ p, s.extract m (m + 8) = p := ⟨_, rfl⟩
          rw [hp] at hat
          have J3 : Hid (auParts LL = onces (onceP l3 p) ((cuts s).drop (m + 1) ++ X)) := Lib.hid (by rw [I3.out, drop_at hat]; rfl)
          have C3 : Hid ((onceP l3 p).length + ((cuts s).drop (m + 1) ++ X).length ≤ 90000) := Lib.hid (by
            have h1 := B3.out; have h2 := onceP_le l3 p
            rw [drop_at hat] at h1
            simp only [List.cons_append, List.length_cons] at h1; omega)
          have HL : Hid (l3.length + [p].length ≤ 100000) := Lib.hid (by have := B3.out; simp only [List.length_cons, List.length_nil]; omega)
          obtain ⟨y2, hy2⟩ : ∃ y2, s.extract (m + 1) q = y2 := ⟨_, rfl⟩
          have Hc1 := Lib.hid (str_h (y := y) (p := p) (by omega) (by rw [hy.out, ← hp, ByteArray.extract_extract]; congr 1; omega))
          have Hc2 := Lib.hid (str_l (y := y) (p := y2) (by omega) (by rw [hz, hy.out, ← hy2, ByteArray.extract_extract]; congr 1; omega))
          have Hz2 : Hid (y2.size = z - 1) := Lib.hid (by rw [← hy2, ByteArray.size_extract, HQ.out]; omega)
          have Hy2 := Lib.hid hy2
          have h8 : decide ((8 : Int) ≤ (z : Int)) = true := decide_eq_true (by omega)
          clear hat hp hy2
          go_wp2_with (first | go_skip | ((with_reducible apply ar_sh); exact Hc1.out; rfl) | ((with_reducible apply ar_sl); exact Hc2.out; rfl) | ((fail_if_success have := kS); (with_reducible apply bs_str H); rfl; clear H; intro wn kS H) | (go_at_call 68; have H2 := H.sub (Γ' := [Res.row 9 1 (.slice (some ⟨kS, 0, none⟩) 1 1) [p].length (strL [p]), Res.row 9 1 v3 (l3).length (strL l3), Res.blk kO 109 #[.map (some kM), v3], Res.map kM encS (keysL l3)]) (by (repeat (first | with_reducible exact List.Sublist.refl _ | with_reducible refine List.Sublist.cons_cons _ ?_ | refine List.Sublist.cons _ ?_))); (with_reducible refine (oput_1 H2 HL.out).mono ?_); clear H2 H; rintro e wn ⟨rfl, v2, H⟩))
          go_roundw
          case rel => exact ⟨m + 1, z - 1, y2, v2, onceP l3 p, by omega, rfl, Hz2.out, Lib.hid Hy2.out.symm, J3, C3, H⟩
          case measure => show strSz (.string y2) < strSz (.string y); show y2.size < y.size; rw [Hz2.out, hz]; omega
        · have h8 : decide ((8 : Int) ≤ (z : Int)) = false := decide_eq_false (by omega)
          have hnil : (cuts s).drop m = [] := List.drop_of_length_le (by rw [cuts_len, HQ.out]; omega)
          have J3 : Hid (auParts LL = onces l3 ((LL.drop (j + 1)).flatMap cuts)) := Lib.hid (by rw [I3.out, hnil, HX.out]; rfl)
          have C3 : Hid (l3.length + ((LL.drop (j + 1)).flatMap cuts).length ≤ 90000) := Lib.hid (by have := B3.out; rw [hnil] at this; rw [HX.out]; exact this)
          clear hnil
          go_wp2
          go_roundw
          case rel => exact ⟨j + 1, v3, l3, by omega, by go_num, J3, C3, H⟩
          case measure => simp [intOf]; omega
    · have hjn : j = n := by omega
      subst hjn
      have J1 : Hid (auParts LL = l1) := Lib.hid (by rw [I1.out, ← Hn.out, List.drop_length]; rfl)
      go_wp2_with (first | go_skip | ((with_reducible refine ld_one (ty := 60) Try.underlying60 rfl ?_ ?_ (H.two1 (by (repeat (first | with_reducible exact List.mem_cons_self | with_reducible apply List.mem_cons_of_mem)))) ?_); rfl; rfl))
      all_goals first | (rw [Exit.noGoto_ret]; go_ret) | go_ret
      all_goals exact ⟨v1, rfl, by rw [J1.out]; exact H.sub (by (repeat (first | with_reducible exact List.Sublist.refl _ | with_reducible refine List.Sublist.cons_cons _ ?_ | refine List.Sublist.cons _ ?_)))⟩
end Go.Proofs.Ytolbmemogoojhaa
