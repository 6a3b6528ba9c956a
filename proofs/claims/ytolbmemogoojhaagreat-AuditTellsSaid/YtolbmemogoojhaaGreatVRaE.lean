/- The document's two that are alike. -/
import Derived.Test.YtolbmemogoojhaaGreatVRaD
import Derived.Test.YtolbmemogoojhaaGreatVR1
namespace Go.Proofs.YtolbmemogoojhaaGreat
open Go Go.RowKit Go.Deep
set_option linter.unusedVariables false
set_option linter.unusedSimpArgs false
set_option maxRecDepth 100000
def encDq (k : DgK) : List Value := encU k.1
/-- Digests as a row. -/
def dgsL (l : List DgK) : List Value := l.flatMap encDq
theorem encDq_len (k : DgK) : (encDq k).length = 32 := by unfold encDq; rw [encU_length]; exact k.2
theorem dgsL_len : ∀ l : List DgK, (dgsL l).length = l.length * 32
  | [] => rfl
  | k :: l => by
    have := dgsL_len l
    unfold dgsL at this ⊢
    rw [List.flatMap_cons, List.length_append, this, encDq_len, List.length_cons]; omega
theorem dgsL_append (a b : List DgK) : dgsL (a ++ b) = dgsL a ++ dgsL b := by unfold dgsL; exact List.flatMap_append
theorem dgsL_get (l : List DgK) (t : Nat) : (dgsL l)[t]? = (l[t / 32]?).bind fun k => (encDq k)[t % 32]? := by
  have h := Go.Great.flat_get (s := 32) (by omega) (l.map encD) (fun v hv => by obtain ⟨k, _, rfl⟩ := List.mem_map.1 hv; simp [encD, Value.cells, encU_length, k.2]) t
  have e : ((l.map encD).flatMap fun v => v.cells.toList) = dgsL l := by
    unfold dgsL encDq
    rw [List.flatMap_map]
    congr 1
  rw [e] at h
  rw [h, List.getElem?_map]
  cases l[t / 32]? with
  | none => rfl
  | some k => simp [encD, Value.cells, encDq]
theorem dgsL_one (l : List DgK) : ∀ u ∈ dgsL l, u.oneCell' = true := by
  intro u hu
  obtain ⟨k, _, h⟩ := List.mem_flatMap.1 hu
  exact encU_one _ u h
theorem dgsL_single (k : DgK) : dgsL [k] = encU k.1 := by simp [dgsL, encDq]
theorem info_dg3 : (Tryz.prog.info? 64).map (fun i => (i.zero, i.size, i.bytes)) = some (some (.agg (encU zdg).toArray), 32, 32) := by kernel_rfl
theorem size_dg0 : (Value.agg (encU zdg).toArray).cells.size = 32 := by simp [Value.cells, encU_length]
theorem dgs_row_at {w : World} {a : Option Addr} {n c : Nat} {l : List DgK} (h : Row w 32 (.slice a n c) n (dgsL l)) {j : Nat} {k : DgK} (hj : l[j]? = some k) : ∃ b off, a = some ⟨b, off, none⟩ ∧ Sub w b (off + j * 32) (encU k.1).toArray := by
  obtain ⟨hl, a', c', he, _, _, _, h4⟩ := h
  injection he with e1 e2 e3
  subst e1
  have hjl := (List.getElem?_eq_some_iff.1 hj).1
  obtain ⟨b, off, rfl, hc⟩ := h4 (by rw [dgsL_len]; omega)
  refine ⟨b, off, rfl, fun i u hi => ?_⟩
  have hi16 : i < 32 := by have := (Array.getElem?_eq_some_iff.1 hi).1; rw [encU_arr32 k.2] at this; exact this
  rw [Nat.add_assoc]
  refine hc _ _ ?_
  rw [dgsL_get, show (j * 32 + i) / 32 = j by omega, show (j * 32 + i) % 32 = i by omega, hj]
  simpa [encDq] using hi
theorem St.dgAt {w0 w : World} {Γ : List Res} (H : St w0 w Γ) {e : TypeId} {b off n c : Nat} {l : List DgK} (hm : Res.row e 32 (.slice (some ⟨b, off, none⟩) n c) n (dgsL l) ∈ Γ) {j : Nat} {k : DgK} (hj : l[j]? = some k) : Sub w b (off + j * 32) (encU k.1).toArray := by
  obtain ⟨b', off', he, hs⟩ := dgs_row_at (H.rowRead hm) hj
  simp only [Option.some.injEq, Addr.mk.injEq, and_true] at he
  obtain ⟨rfl, rfl⟩ := he
  exact hs
section
variable {ops : Array Oper} {rest : List Oper} {a : Act} {w0 w : World} {Q : Exit → Act → World → Prop} {Γ Γ' : List Res} {dst : Option Tmp} {typ t : TypeId} {x y : Operand} {pos : String} {af : Array Edge} {gd : Option (Nat × Bool)} {b off : Nat}
theorem bs_dg {k : DgK} (H : St w0 w Γ) (hx : a.eval x = encD k) (h : ∀ w' b, St w0 w' (Res.row 64 32 (.slice (some ⟨b, 0, none⟩) 1 1) 1 (dgsL [k]) :: Γ) → wpList Tryz.prog ops Q rest (a.put dst (.slice (some ⟨b, 0, none⟩) 1 1)) w') : wpList Tryz.prog ops Q (⟨dst, .buildSlice 92 1 #[(0, x)], typ, pos, af, none⟩ :: rest) a w :=
  arm_bslice1 H hx (cs := dgsL [k]) (by rw [dgsL_single]; simp [Value.cells, encD]) Tryz.underlying92 info_dg3 size_dg0 (by rw [dgsL_single, encU_length]; exact k.2) (by decide) (by decide) h
end
theorem qd_dgS {a : Act} {b o : Nat} {dst : Option Tmp} {typ : TypeId} {x : Operand} {pos : String} {af : Array Edge} {gd : Option (Nat × Bool)} {C : World → Prop} {K : Act → Prop} {k : DgK} (hx : a.eval x = .pointer (some ⟨b, o, none⟩)) (h : ∀ w', C w' → Sub w' b o (encU k.1).toArray) (q : K (a.put dst (encD k))) : (⟨dst, .load 64 x, typ, pos, af, gd⟩ : Oper).quiet Tryz.prog a C K :=
  quiet_load_sub 64 x rfl dst rfl b _ hx (encU k.1).toArray _ h Tryz.underlying64 rfl (dg_inf k.2) q
theorem rof_k {s : ByteArray} {k : DgK} (hl : s.size ≤ 80000) (hk : dgK s = k) (w : World) : Calls Tryz.prog 66 #[.string s] w fun e w' => e = .returned (encD k) ∧ Below w.heap.size w w' := by
  subst hk
  unfold encD dgK
  dsimp only
  exact rof_c s hl w
theorem rdg_eql (a b : DgK) (W : World) : (binOp .eql 64 (encD a) (encD b)).run Tryz.prog W = .ok (.bool (a.1 == b.1)) W := by
  unfold encD
  rw [run_eql_struct]
  have := run_equalIn_bytes (P := Tryz.prog) W 9998 64 5 32 (by kernel_rfl) (by kernel_rfl) (fun w => by simp [sizeOf, typeInfo]; kernel_rfl) a.1 b.1 a.2 b.2
  have e : ∀ l : List UInt8, encU l = l.map Extern.Stop.cell := fun l => rfl
  rw [e, e, this]
  rfl
theorem rguard_dg (a b : DgK) (x y : Operand) (W : World) : (eqGuard .eql 64 x y (encD a) (encD b)).run Tryz.prog W = .ok () W := by
  unfold encD
  kernel_rfl
theorem find_end {l : List ByteArray} {j : Nat} {p : ByteArray → Bool} : ((l.take j).drop j).find? p = none := by
  rw [List.drop_of_length_le (by rw [List.length_take]; omega)]; rfl
theorem find_step {l : List ByteArray} {j m : Nat} {x : ByteArray} {p : ByteArray → Bool} (hm : m < j) (hx : l[m]? = some x) : ((l.take j).drop m).find? p = if p x = true then some x else ((l.take j).drop (m + 1)).find? p := by
  rw [drop_at (L := l.take j) (r := x) (by rw [List.getElem?_take, if_pos hm]; exact hx), List.find?_cons]
  cases p x <;> rfl
set_option maxHeartbeats 12800000 in
theorem ralike_q (v : Value) (l : List ByteArray) {n : Nat} (w : World) (hv : Row w 1 v n (strL l)) (hsz : ∀ s ∈ l, s.size ≤ 80000) (h40 : l.length ≤ 40) : Calls Tryz.prog 30 #[v] w fun e w' => e = .returned (alkV (alkP l)) ∧ Below w.heap.size w w' := by
  have hn : l.length = n := by have := hv.1; rw [strL_length] at this; omega
  obtain ⟨_, a, c, rfl, hm1, hm2, _⟩ := id hv
  unfold maxLen at hm2
  rw [hn] at h40
  have Hv := Lib.hid hv; have Hn := Lib.hid hn; have HZ := Lib.hid hsz; clear hv hn hsz
  have heq := rdg_eql
  have hgd := rguard_dg
  have H := St.init w
  go_enter Tryz.func30, Tryz.ntmps30
  go_wp2
  go_loopw [6, 5] (fun i vo wr => ∃ (j : Nat) (v' : Value), v' = vo ∧ j ≤ n ∧ i = .int .i64 j ∧ Hid (alkP l = alkGo (l.take j) (l.drop j)) ∧ St w wr [Res.row 64 32 v' j (dgsL ((l.take j).map dgK))]) (fun i _ _ => n - (intOf i).toNat)
  case atStart => exact ⟨0, .slice none 0 0, rfl, by omega, rfl, Lib.hid rfl, by rw [List.take_zero]; exact H.nilRow _ _⟩
  case round =>
    clear H
    obtain ⟨j, v1, hvt, hj, rfl, I, H⟩ := hrel
    subst hvt
    by_cases hlt : j < n
    · obtain ⟨s, hs⟩ : ∃ s, l[j]? = some s := ⟨_, List.getElem?_eq_getElem (by rw [Hn.out]; exact hlt)⟩
      obtain ⟨b, off, c', he, hS⟩ := row1_at Hv.out (strL_get hs)
      injection he with e1 e2 e3
      subst e1 e3
      have HS := Lib.hid hS; have Hs := Lib.hid hs
      have Hsz := Lib.hid (HZ.out s (List.mem_of_getElem? hs))
      obtain ⟨k, hk⟩ : ∃ k, dgK s = k := ⟨_, rfl⟩
      have Hk := Lib.hid hk
      obtain ⟨D, hD⟩ : ∃ D, (l.take (j + 1)).map dgK = D := ⟨_, rfl⟩
      have HD := Lib.hid hD
      have HE : Hid (dgsL ((l.take j).map dgK) ++ dgsL [k] = dgsL D) := Lib.hid (by rw [← hD, List.take_add_one, hs, List.map_append, dgsL_append, ← hk]; rfl)
      have D2 : Hid (D[j]? = some k) := Lib.hid (by rw [← hD, List.getElem?_map, List.getElem?_take, if_pos (by omega), hs, ← hk]; rfl)
      have HC : Hid (j + 1 ≤ 100) := Lib.hid (by omega)
      clear hS hs e2 hk hD
      go_wp2_with (first | go_skip | ((with_reducible refine ld_one (ty := 9) Tryz.underlying9 rfl ?_ ?_ (HS.out.keep H.bel) ?_); rfl; rfl) | (go_at_call 66; (with_reducible refine (rof_k Hsz.out Hk.out _).mono ?_); rintro e wn ⟨rfl, hb⟩; replace H := H.call hb; clear hb) | ((fail_if_success have := kD); (with_reducible apply bs_dg (k := k) H); rfl; clear H; intro wn kD H) | ((with_reducible apply arm_app H (ht := Tryz.underlying92) (hinfo := info_dg3) (hzs := size_dg0) (hsz := by decide)); (conv => lhs; whnf); (conv => lhs; whnf); (intro v; (repeat (first | with_reducible apply Upd.head | with_reducible apply Upd.tail))); (focus (apply H.rowRead; (repeat (first | with_reducible exact mH | with_reducible apply mT)); done)); (focus (exact dgsL_one _; done)); (focus (have := HC.out; unfold maxLen; omega; done)); (focus (have := HC.out; omega; done)); clear H; intro wn vn H))
      rw [HE.out] at H
      obtain ⟨-, ad, cd, ev, hcv, hmx, -⟩ := H.rowRead (v := vn) (by (repeat (first | with_reducible exact mH | with_reducible apply mT)))
      subst ev
      obtain ⟨bd, od, rfl, -⟩ := dgs_row_at (H.rowRead (e := 64) (v := .slice ad (j + 1) cd) (n := j + 1) (cs := dgsL D) (by (repeat (first | with_reducible exact mH | with_reducible apply mT)))) D2.out
      unfold maxLen at hmx
      go_loopw [7] (fun i wr => ∃ (m : Nat), m ≤ j ∧ i = .int .i64 m ∧ Hid ((l.take j).find? (alkHit s) = ((l.take j).drop m).find? (alkHit s)) ∧ St w wr [Res.row 64 32 (.slice (some ⟨bd, od, none⟩) (j + 1) cd) (j + 1) (dgsL D)]) (fun i _ => j - (intOf i).toNat)
      case atStart => exact ⟨0, by omega, rfl, Lib.hid rfl, H.sub (by (repeat (first | with_reducible exact List.Sublist.refl _ | with_reducible refine List.Sublist.cons_cons _ ?_ | refine List.Sublist.cons _ ?_)))⟩
      case round =>
        clear H
        obtain ⟨m, hm, rfl, I2, H⟩ := hrel
        by_cases hml : m < j
        · obtain ⟨t, ht⟩ : ∃ t, l[m]? = some t := ⟨_, List.getElem?_eq_getElem (by rw [Hn.out]; omega)⟩
          obtain ⟨b', off', c', he, hS⟩ := row1_at Hv.out (strL_get ht)
          injection he with e1 e2 e3
          simp only [Option.some.injEq, Addr.mk.injEq, and_true] at e1
          obtain ⟨rfl, rfl⟩ := e1
          have HT := Lib.hid hS
          obtain ⟨k1, hk1⟩ : ∃ k, dgK t = k := ⟨_, rfl⟩
          have Hk1 := Lib.hid hk1
          have D1 : Hid (D[m]? = some k1) := Lib.hid (by rw [← HD.out, List.getElem?_map, List.getElem?_take, if_pos (by omega), ht, ← hk1]; rfl)
          have I3 := Lib.hid (I2.out.trans (find_step (p := alkHit s) hml ht))
          have hmn : m < n := by omega
          have hmj : m < j + 1 := by omega
          clear hS ht e2 e3 hk1
          by_cases hts : t = s
          · subst hts
            have hnn : (t.toList == t.toList) = true := beq_self_eq_true _
            have I4 := Lib.hid (I3.out.trans (if_neg (by unfold alkHit; simp)))
            go_wp2
            (try simp only [Act.put, List.setIfInBounds_toArray, List.set_cons_zero, List.set_cons_succ])
            refine wp_quiet_all (C := fun w' => ∃ x : After _, w' = x.w) (by kernel_rfl) (by kernel_rfl) (since_drew _) ?_
            repeat (first | go_big_quiet_skip | (go_big_quiet_want; (with_reducible apply qd_oneS (ty := 9) Tryz.underlying9 rfl); rfl; (rintro _ ⟨x, rfl⟩; exact HT.out.keep (H.call x.h).bel); (go_simp; go_big_quiet_on)) | (go_big_quiet_want; (with_reducible apply qd_oneS (ty := 9) Tryz.underlying9 rfl); rfl; (rintro _ ⟨x, rfl⟩; exact HS.out.keep (H.call x.h).bel); (go_simp; go_big_quiet_on)) | (go_big_quiet_want; (with_reducible apply qd_dgS (k := k1)); rfl; (rintro _ ⟨x, rfl⟩; exact (H.call x.h).dgAt (by (repeat (first | with_reducible exact mH | with_reducible apply mT))) D1.out); (go_simp; go_big_quiet_on)) | (go_big_quiet_want; (with_reducible apply qd_dgS (k := k)); rfl; (rintro _ ⟨x, rfl⟩; exact (H.call x.h).dgAt (by (repeat (first | with_reducible exact mH | with_reducible apply mT))) D2.out); (go_simp; go_big_quiet_on)) | (go_big_quiet_step (fail)))
            refine wpQuiet_nil ?_
            rintro _ ⟨zq, rfl⟩; replace H := H.call zq.h
            go_wp2
            go_roundw
            case rel => exact ⟨m + 1, by omega, by go_num, I4, H⟩
            case measure => simp [intOf]; omega
          · have hnn : (t.toList == s.toList) = false := by rw [str_beq]; exact decide_eq_false hts
            obtain ⟨q, hq⟩ : ∃ q, (k1.1 == k.1) = q := ⟨_, rfl⟩
            have HQ := Lib.hid hq
            have Hts := Lib.hid hts
            clear hts
            cases q with
            | true =>
              have hkk : k1 = k := Subtype.ext (eq_of_beq HQ.out)
              have I4 := Lib.hid (I3.out.trans (if_pos (by unfold alkHit; rw [Hk1.out, Hk.out, decide_eq_true hkk, decide_eq_true Hts.out]; rfl)))
              clear hkk
              go_wp2
              (try simp only [Act.put, List.setIfInBounds_toArray, List.set_cons_zero, List.set_cons_succ])
              refine wp_quiet_all (C := fun w' => ∃ x : After _, w' = x.w) (by kernel_rfl) (by kernel_rfl) (since_drew _) ?_
              repeat (first | go_big_quiet_skip | (go_big_quiet_want; (with_reducible apply qd_oneS (ty := 9) Tryz.underlying9 rfl); rfl; (rintro _ ⟨x, rfl⟩; exact HT.out.keep (H.call x.h).bel); (go_simp; go_big_quiet_on)) | (go_big_quiet_want; (with_reducible apply qd_oneS (ty := 9) Tryz.underlying9 rfl); rfl; (rintro _ ⟨x, rfl⟩; exact HS.out.keep (H.call x.h).bel); (go_simp; go_big_quiet_on)) | (go_big_quiet_want; (with_reducible apply qd_dgS (k := k1)); rfl; (rintro _ ⟨x, rfl⟩; exact (H.call x.h).dgAt (by (repeat (first | with_reducible exact mH | with_reducible apply mT))) D1.out); (go_simp; go_big_quiet_on)) | (go_big_quiet_want; (with_reducible apply qd_dgS (k := k)); rfl; (rintro _ ⟨x, rfl⟩; exact (H.call x.h).dgAt (by (repeat (first | with_reducible exact mH | with_reducible apply mT))) D2.out); (go_simp; go_big_quiet_on)) | (go_big_quiet_step (fail)))
              refine wpQuiet_nil ?_
              rintro _ ⟨zq, rfl⟩; replace H := H.call zq.h
              go_wp2
              (try simp only [Act.put, List.setIfInBounds_toArray, List.set_cons_zero, List.set_cons_succ])
              refine wp_quiet_all (C := fun w' => ∃ x : After _, w' = x.w) (by kernel_rfl) (by kernel_rfl) (since_drew _) ?_
              repeat (first | go_big_quiet_skip | (go_big_quiet_want; (with_reducible apply qd_oneS (ty := 9) Tryz.underlying9 rfl); rfl; (rintro _ ⟨x, rfl⟩; exact HT.out.keep (H.call x.h).bel); (go_simp; go_big_quiet_on)) | (go_big_quiet_want; (with_reducible apply qd_oneS (ty := 9) Tryz.underlying9 rfl); rfl; (rintro _ ⟨x, rfl⟩; exact HS.out.keep (H.call x.h).bel); (go_simp; go_big_quiet_on)) | (go_big_quiet_step (fail)))
              refine wpQuiet_nil ?_
              rintro _ ⟨zq, rfl⟩; replace H := H.call zq.h
              go_wp2
              all_goals first | (rw [Exit.noGoto_ret]) | skip
              refine bodyPost_ret (results_tmp3 Tryz.results30 _ _ _) rfl ?_
              exact ⟨by rw [I.out, alk_hit Hs.out I4.out]; rfl, H.bel⟩
            | false =>
              have hkk : ¬ k1 = k := fun h => by have := HQ.out; rw [h, beq_self_eq_true] at this; cases this
              have I4 := Lib.hid (I3.out.trans (if_neg (by unfold alkHit; rw [Hk1.out, Hk.out, decide_eq_false hkk]; simp)))
              clear hkk
              go_wp2
              (try simp only [Act.put, List.setIfInBounds_toArray, List.set_cons_zero, List.set_cons_succ])
              refine wp_quiet_all (C := fun w' => ∃ x : After _, w' = x.w) (by kernel_rfl) (by kernel_rfl) (since_drew _) ?_
              repeat (first | go_big_quiet_skip | (go_big_quiet_want; (with_reducible apply qd_oneS (ty := 9) Tryz.underlying9 rfl); rfl; (rintro _ ⟨x, rfl⟩; exact HT.out.keep (H.call x.h).bel); (go_simp; go_big_quiet_on)) | (go_big_quiet_want; (with_reducible apply qd_oneS (ty := 9) Tryz.underlying9 rfl); rfl; (rintro _ ⟨x, rfl⟩; exact HS.out.keep (H.call x.h).bel); (go_simp; go_big_quiet_on)) | (go_big_quiet_want; (with_reducible apply qd_dgS (k := k1)); rfl; (rintro _ ⟨x, rfl⟩; exact (H.call x.h).dgAt (by (repeat (first | with_reducible exact mH | with_reducible apply mT))) D1.out); (go_simp; go_big_quiet_on)) | (go_big_quiet_want; (with_reducible apply qd_dgS (k := k)); rfl; (rintro _ ⟨x, rfl⟩; exact (H.call x.h).dgAt (by (repeat (first | with_reducible exact mH | with_reducible apply mT))) D2.out); (go_simp; go_big_quiet_on)) | (go_big_quiet_step (fail)))
              refine wpQuiet_nil ?_
              rintro _ ⟨zq, rfl⟩; replace H := H.call zq.h
              go_wp2
              go_roundw
              case rel => exact ⟨m + 1, by omega, by go_num, I4, H⟩
              case measure => simp [intOf]; omega
        · have hmn : m = j := by omega
          subst hmn
          have I4 := I2.out
          rw [find_end] at I4
          have I5 := Lib.hid (I.out.trans (alk_step Hs.out I4))
          clear I4
          go_wp2
          go_roundw
          case rel => exact ⟨m + 1, _, rfl, by omega, by go_num, I5, by rw [HD.out]; exact H⟩
          case measure => simp [intOf]; omega
    · have hjn : j = n := by omega
      subst hjn
      go_wp2
      all_goals first | (rw [Exit.noGoto_ret]) | skip
      refine bodyPost_ret (results_tmp3 Tryz.results30 _ _ _) rfl ?_
      exact ⟨by rw [I.out, ← Hn.out, alk_end]; rfl, H.bel⟩
end Go.Proofs.YtolbmemogoojhaaGreat
