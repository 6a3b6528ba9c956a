/- The document's books: what is less, may be, is the same, is found. -/
import Derived.Test.YtolbmemogoojhaaGreatKN6
import Derived.Test.YtolbmemogoojhaaGreatKR3
namespace Go.Proofs.YtolbmemogoojhaaGreat
open Go Go.RowKit Go.Deep
set_option linter.unusedVariables false
set_option linter.unusedSimpArgs false
set_option maxRecDepth 100000
section
variable {a : Act} {b o : Nat} {dst : Option Tmp} {ty typ : TypeId} {x : Operand} {pos : String} {af : Array Edge} {gd : Option (Nat × Bool)} {C : World → Prop} {K : Act → Prop} {v : Value} {d : TypeDesc}
theorem qd_oneR (hu : Tryz.prog.underlying ty = some d) (hd : (match (generalizing := false) d with | .struct _ | .array _ _ => true | _ => false) = false) (hx : a.eval x = .pointer (some ⟨b, o, none⟩)) (h : ∀ w', C w' → Sub w' b o #[v]) (k : K (a.put dst v)) : (⟨dst, .load ty x, typ, pos, af, gd⟩ : Oper).quiet Tryz.prog a C K :=
  quiet_load_one (P := Tryz.prog) (C := C) (K := K) ty x rfl dst rfl b o hx v d h hu (by cases d <;> first | rfl | (exact absurd hd (by simp))) k
end
theorem arr_at {w : World} {k : Nat} {l : List UInt8} {i : Nat} {x : UInt8} (h : Sub w k 0 (encU l).toArray) (hx : l[i]? = some x) : Sub w k i #[.int .u8 (x.toNat : Int)] := fun j u hj => by
  match j with
  | 0 =>
    simp only [List.getElem?_toArray, List.getElem?_cons_zero, Option.some.injEq] at hj
    subst hj
    have := h i (.int .u8 (x.toNat : Int)) (by simp [encU, hx])
    rwa [Nat.zero_add] at this
  | j + 1 => simp at hj
theorem lex_at : ∀ {a b : List UInt8} {i : Nat} {x y : UInt8}, a.take i = b.take i → a[i]? = some x → b[i]? = some y → x ≠ y → (a < b ↔ x < y)
  | x' :: a, y' :: b, 0, x, y, _, hx, hy, hne => by
    cases hx; cases hy
    rw [List.cons_lt_cons_iff]
    exact ⟨fun h => h.elim id fun h => absurd h.1 hne, .inl⟩
  | x' :: a, y' :: b, i + 1, x, y, h, hx, hy, hne => by
    simp only [List.take_succ_cons, List.cons.injEq] at h
    rw [List.cons_lt_cons_iff, ← lex_at h.2 (by simpa using hx) (by simpa using hy) hne, h.1]
    exact ⟨fun h => h.elim (fun h => absurd h (by simp)) (·.2), fun h => .inr ⟨rfl, h⟩⟩
theorem take_moreB {a b : List UInt8} {i : Nat} {x : UInt8} (h : a.take i = b.take i) (hx : a[i]? = some x) (hy : b[i]? = some x) : a.take (i + 1) = b.take (i + 1) := by
  rw [List.take_add_one, List.take_add_one, h, hx, hy]
set_option maxHeartbeats 1600000 in
theorem rbless_c (a b : List UInt8) (ha : a.length = 16) (hb : b.length = 16) (w : World) : Calls Tryz.prog 17 #[.agg (encU a).toArray, .agg (encU b).toArray] w fun e w' => e = .returned (.bool (idLt a b)) ∧ Below w.heap.size w w' := by
  have H := St.init w
  have Ha := Lib.hid ha; have Hb := Lib.hid hb; clear ha hb
  go_enter Tryz.func17, Tryz.ntmps17
  go_wp2_with (first | go_skip | ((fail_if_success have := kA); (with_reducible apply arm_box H); rfl; clear H; intro wn kA H) | ((fail_if_success have := kB); (with_reducible apply arm_box H); rfl; clear H; intro wn kB H))
  go_loopw [5] (fun i wr => ∃ j, j ≤ 16 ∧ i = .int .i64 (j : Nat) ∧ Hid (a.take j = b.take j) ∧ St w wr [Res.blk kB 26 (encU b).toArray, Res.blk kA 26 (encU a).toArray]) (fun i _ => 16 - (intOf i).toNat)
  case atStart => exact ⟨0, by omega, rfl, Lib.hid rfl, H⟩
  case round =>
    clear H
    obtain ⟨j, hj, rfl, I, H⟩ := hrel
    by_cases hlt : j < 16
    · obtain ⟨x, hx⟩ : ∃ x, a[j]? = some x := ⟨_, List.getElem?_eq_getElem (by rw [Ha.out]; exact hlt)⟩
      obtain ⟨y, hy⟩ : ∃ y, b[j]? = some y := ⟨_, List.getElem?_eq_getElem (by rw [Hb.out]; exact hlt)⟩
      have Hx := Lib.hid hx; have Hy := Lib.hid hy
      clear hx hy
      by_cases hxy : x = y
      · subst hxy
        go_wp2
        (try simp only [Act.put, List.setIfInBounds_toArray, List.set_cons_zero, List.set_cons_succ])
        refine wp_quiet_all (C := fun w' => ∃ x : After _, w' = x.w) (by kernel_rfl) (by kernel_rfl) (since_drew _) ?_
        repeat (first | go_big_quiet_skip | (go_big_quiet_want; (with_reducible apply qd_oneR (ty := 5) Tryz.underlying5 rfl); rfl; (rintro _ ⟨x, rfl⟩; exact arr_at ((H.call x.h).arr (b := kA) (t := 26) (cs := (encU a).toArray) (by (repeat (first | with_reducible exact mH | with_reducible apply mT)))) Hx.out); (go_simp; go_big_quiet_on)) | (go_big_quiet_want; (with_reducible apply qd_oneR (ty := 5) Tryz.underlying5 rfl); rfl; (rintro _ ⟨x, rfl⟩; exact arr_at ((H.call x.h).arr (b := kB) (t := 26) (cs := (encU b).toArray) (by (repeat (first | with_reducible exact mH | with_reducible apply mT)))) Hy.out); (go_simp; go_big_quiet_on)) | (go_big_quiet_step (fail)))
        refine wpQuiet_nil ?_
        rintro _ ⟨zq, rfl⟩; replace H := H.call zq.h
        go_wp2
        go_roundw
        case rel => exact ⟨j + 1, by omega, by go_num, Lib.hid (take_moreB I.out Hx.out Hy.out), H⟩
        case measure => simp [intOf]; omega
      · have hne : ¬ x.toNat = y.toNat := fun h => hxy (UInt8.toNat_inj.1 h)
        have hres : Hid (idLt a b = decide ((x.toNat : Int) < (y.toNat : Int))) := Lib.hid (by
          unfold idLt
          refine decide_eq_decide.2 ?_
          rw [lex_at I.out Hx.out Hy.out hxy, UInt8.lt_iff_toNat_lt]; omega)
        go_wp2
        (try simp only [Act.put, List.setIfInBounds_toArray, List.set_cons_zero, List.set_cons_succ])
        refine wp_quiet_all (C := fun w' => ∃ x : After _, w' = x.w) (by kernel_rfl) (by kernel_rfl) (since_drew _) ?_
        repeat (first | go_big_quiet_skip | (go_big_quiet_want; (with_reducible apply qd_oneR (ty := 5) Tryz.underlying5 rfl); rfl; (rintro _ ⟨x, rfl⟩; exact arr_at ((H.call x.h).arr (b := kA) (t := 26) (cs := (encU a).toArray) (by (repeat (first | with_reducible exact mH | with_reducible apply mT)))) Hx.out); (go_simp; go_big_quiet_on)) | (go_big_quiet_want; (with_reducible apply qd_oneR (ty := 5) Tryz.underlying5 rfl); rfl; (rintro _ ⟨x, rfl⟩; exact arr_at ((H.call x.h).arr (b := kB) (t := 26) (cs := (encU b).toArray) (by (repeat (first | with_reducible exact mH | with_reducible apply mT)))) Hy.out); (go_simp; go_big_quiet_on)) | (go_big_quiet_step (fail)))
        refine wpQuiet_nil ?_
        rintro _ ⟨zq, rfl⟩; replace H := H.call zq.h
        go_wp2
        (try simp only [Act.put, List.setIfInBounds_toArray, List.set_cons_zero, List.set_cons_succ])
        refine wp_quiet_all (C := fun w' => ∃ x : After _, w' = x.w) (by kernel_rfl) (by kernel_rfl) (since_drew _) ?_
        repeat (first | go_big_quiet_skip | (go_big_quiet_want; (with_reducible apply qd_oneR (ty := 5) Tryz.underlying5 rfl); rfl; (rintro _ ⟨x, rfl⟩; exact arr_at ((H.call x.h).arr (b := kA) (t := 26) (cs := (encU a).toArray) (by (repeat (first | with_reducible exact mH | with_reducible apply mT)))) Hx.out); (go_simp; go_big_quiet_on)) | (go_big_quiet_want; (with_reducible apply qd_oneR (ty := 5) Tryz.underlying5 rfl); rfl; (rintro _ ⟨x, rfl⟩; exact arr_at ((H.call x.h).arr (b := kB) (t := 26) (cs := (encU b).toArray) (by (repeat (first | with_reducible exact mH | with_reducible apply mT)))) Hy.out); (go_simp; go_big_quiet_on)) | (go_big_quiet_step (fail)))
        refine wpQuiet_nil ?_
        rintro _ ⟨zq, rfl⟩; replace H := H.call zq.h
        go_wp2
        all_goals first | (rw [Exit.noGoto_ret]; go_ret) | go_ret
        all_goals exact ⟨by rw [hres.out]; first | rfl | simp, H.bel⟩
    · have hjn : j = 16 := by omega
      subst hjn
      have hres : Hid (idLt a b = false) := Lib.hid (by
        have e := I.out
        rw [List.take_of_length_le (by rw [Ha.out]; exact Nat.le_refl _), List.take_of_length_le (by rw [Hb.out]; exact Nat.le_refl _)] at e
        rw [e]; exact idLt_self b)
      go_wp2
      all_goals first | (rw [Exit.noGoto_ret]; go_ret) | go_ret
      all_goals exact ⟨by rw [hres.out]; rfl, H.bel⟩
theorem rbless_v {a b : List UInt8} {r : Bool} (h : idLt a b = r) (ha : a.length = 16) (hb : b.length = 16) (w : World) : Calls Tryz.prog 17 #[.agg (encU a).toArray, .agg (encU b).toArray] w fun e w' => e = .returned (.bool r) ∧ Below w.heap.size w w' := by subst h; exact rbless_c a b ha hb w
theorem rbless_r {r r' : RD} {q : Bool} (h : idLt r.id r'.id = q) (hr : r.ok) (hr' : r'.ok) (w : World) : Calls Tryz.prog 17 #[.agg (idA r), .agg (idA r')] w fun e w' => e = .returned (.bool q) ∧ Below w.heap.size w w' := rbless_v h hr hr' w
set_option maxHeartbeats 6400000 in
theorem rbmay_c (v : Value) (L : BK) (w : World) (hv : Recs w v L) : Calls Tryz.prog 15 #[.agg #[v]] w fun e w' => e = .returned (.bool (bMay L)) ∧ Below w.heap.size w w' := by
  obtain ⟨n, hn⟩ : ∃ n, L.length = n := ⟨_, rfl⟩
  obtain ⟨a, c, rfl, hm1, _⟩ := id hv.slice
  rw [hn] at hv hm1 ⊢
  unfold maxLen at hm1
  have Hv := Lib.hid hv; have Hn := Lib.hid hn; clear hv hn
  have H := St.init w
  go_enter Tryz.func15, Tryz.ntmps15
  go_wp2_with (first | go_skip | ((fail_if_success have := kB); (with_reducible apply arm_box H); rfl; clear H; intro wn kB H))
  go_loopw [3] (fun i wr => ∃ j : Nat, j ≤ n ∧ i = .int .i64 j ∧ Hid (bMayL none L = bMayL (prevAt L j) (L.drop j)) ∧ St w wr [Res.blk kB 24 #[.slice a n c]]) (fun i _ => n - (intOf i).toNat)
  case atStart => exact ⟨0, by omega, rfl, Lib.hid rfl, H⟩
  case round =>
    clear H
    obtain ⟨j, hj, rfl, I, H⟩ := hrel
    by_cases hlt : j < n
    · obtain ⟨r, hr⟩ : ∃ r, L[j]? = some r := ⟨_, List.getElem?_eq_getElem (by rw [Hn.out]; exact hlt)⟩
      obtain ⟨b, off, s, rfl, hbw, G, hf⟩ := Hv.out.at hr
      have hok : Hid r.ok := Lib.hid G.2
      have Hf := Lib.hid hf
      have Hst := Lib.hid (bMayL_step hr)
      obtain ⟨m, hm⟩ : ∃ m, Hid (rMay r = m) := ⟨_, rfl⟩
      cases m with
      | false =>
        have Hres : Hid (bMay L = false) := Lib.hid (by unfold bMay; rw [I.out, Hst.out, hm.out]; simp)
        clear hf hr hbw
        go_wp2_with (first | go_skip | ((with_reducible apply ld_one (ty := 22) Tryz.underlying22 rfl); rfl; rfl; (focus (apply H.one; (repeat (first | with_reducible exact mH | with_reducible apply mT)); done))) | ((with_reducible apply ld_rec); rfl; rfl; (first | (focus (apply H.rc; (repeat (first | with_reducible exact mH | with_reducible apply mT)); done)) | (apply RecAt.bel (hb := H.bel); assumption) | assumption)) | (go_at_call 55; (with_reducible refine (rfmay_v hok.out hm.out _ (Hf.out.below H.bel)).mono ?_); rintro e wn ⟨rfl, hb⟩; replace H := H.call hb; clear hb))
        all_goals first | (rw [Exit.noGoto_ret]; go_ret) | go_ret
        all_goals exact ⟨by rw [Hres.out]; rfl, H.bel⟩
      | true =>
        cases j with
        | zero =>
          have Hnext : Hid (bMayL none L = bMayL (prevAt L (0 + 1)) (L.drop (0 + 1))) := Lib.hid (by rw [I.out, Hst.out, hm.out]; simp [prevAt])
          clear hf hr hbw
          go_wp2_with (first | go_skip | ((with_reducible apply ld_one (ty := 22) Tryz.underlying22 rfl); rfl; rfl; (focus (apply H.one; (repeat (first | with_reducible exact mH | with_reducible apply mT)); done))) | ((with_reducible apply ld_rec); rfl; rfl; (first | (focus (apply H.rc; (repeat (first | with_reducible exact mH | with_reducible apply mT)); done)) | (apply RecAt.bel (hb := H.bel); assumption) | assumption)) | (go_at_call 55; (with_reducible refine (rfmay_v hok.out hm.out _ (Hf.out.below H.bel)).mono ?_); rintro e wn ⟨rfl, hb⟩; replace H := H.call hb; clear hb))
          go_roundw
          case rel => exact ⟨0 + 1, by omega, by go_num, Hnext, H⟩
          case measure => simp [intOf]; omega
        | succ i =>
          obtain ⟨rp, hrp⟩ : ∃ r, L[i]? = some r := ⟨_, List.getElem?_eq_getElem (by rw [Hn.out]; omega)⟩
          obtain ⟨b2, off2, sp, he, _, G2, _⟩ := Hv.out.at hrp
          simp only [Option.some.injEq, Addr.mk.injEq, and_true] at he
          obtain ⟨rfl, rfl⟩ := he
          have hokp : Hid rp.ok := Lib.hid G2.2
          obtain ⟨l, hl⟩ : ∃ l, Hid (idLt rp.id r.id = l) := ⟨_, rfl⟩
          have hp : prevAt L (i + 1) = some rp.id := by simp [prevAt, hrp]
          have Hst2 : Hid (bMayL none L = (l && bMayL (prevAt L (i + 1 + 1)) (L.drop (i + 1 + 1)))) := Lib.hid (by
            rw [I.out, Hst.out, hm.out, hp]; simp only [Bool.true_and]; rw [← hl.out]; rfl)
          have hp1 : decide (0 < (i : Int) + 1) = true := by simp <;> omega
          have hp2 : wrap64 ((i : Int) + 1 - 1) = i := by unfold wrap64; omega
          have Hp1 := Lib.hid hp1; have Hp2 := Lib.hid hp2
          clear hf hr hbw hrp hp hp1 hp2
          go_wp2_with (first | go_skip | ((with_reducible apply ld_one (ty := 22) Tryz.underlying22 rfl); rfl; rfl; (focus (apply H.one; (repeat (first | with_reducible exact mH | with_reducible apply mT)); done))) | ((with_reducible apply ld_rec); rfl; rfl; (first | (focus (apply H.rc; (repeat (first | with_reducible exact mH | with_reducible apply mT)); done)) | (apply RecAt.bel (hb := H.bel); assumption) | assumption)) | (go_at_call 55; (with_reducible refine (rfmay_v hok.out hm.out _ (Hf.out.below H.bel)).mono ?_); rintro e wn ⟨rfl, hb⟩; replace H := H.call hb; clear hb))
          have hp1 := Hp1.out; have hp2 := Hp2.out
          cases l with
          | false =>
            have Hres : Hid (bMay L = false) := Lib.hid (by unfold bMay; rw [Hst2.out]; simp)
            (try simp only [Act.put, List.setIfInBounds_toArray, List.set_cons_zero, List.set_cons_succ])
            refine wp_quiet_all (C := fun w' => ∃ x : After _, w' = x.w) (by kernel_rfl) (by kernel_rfl) (since_drew _) ?_
            repeat (first | go_big_quiet_skip | (go_big_quiet_want; (with_reducible apply qd_rec); rfl; (rintro _ ⟨x, rfl⟩; have H := H.call x.h; (first | (focus (apply H.rc; (repeat (first | with_reducible exact mH | with_reducible apply mT)); done)) | (apply RecAt.bel (hb := H.bel); assumption))); (first | assumption | (refine Hid.out ?_; assumption)); (go_simp; go_big_quiet_on)) | (go_big_quiet_want; (with_reducible apply qd_id); rfl; (rintro _ ⟨x, rfl⟩; have H := H.call x.h; (first | (focus (apply H.rc; (repeat (first | with_reducible exact mH | with_reducible apply mT)); done)) | (apply RecAt.bel (hb := H.bel); assumption))); (first | assumption | (refine Hid.out ?_; assumption)); (go_simp; go_big_quiet_on)) | (go_big_quiet_want; (with_reducible apply qd_one (ty := 22) Tryz.underlying22 rfl); rfl; (rintro _ ⟨x, rfl⟩; have H := H.call x.h; (focus (apply H.one; (repeat (first | with_reducible exact mH | with_reducible apply mT)); done))); (go_simp; go_big_quiet_on)) | (go_big_quiet_step ((first | (go_at_call 17; with_reducible exact after_call _ (rbless_r hl.out hokp.out hok.out _))))))
            refine wpQuiet_nil ?_
            rintro _ ⟨zq, rfl⟩; replace H := H.call zq.h
            clear hp1 hp2
            go_wp2
            all_goals first | (rw [Exit.noGoto_ret]; go_ret) | go_ret
            all_goals exact ⟨by rw [Hres.out]; rfl, H.bel⟩
          | true =>
            have Hnext : Hid (bMayL none L = bMayL (prevAt L (i + 1 + 1)) (L.drop (i + 1 + 1))) := Lib.hid (by rw [Hst2.out]; simp)
            (try simp only [Act.put, List.setIfInBounds_toArray, List.set_cons_zero, List.set_cons_succ])
            refine wp_quiet_all (C := fun w' => ∃ x : After _, w' = x.w) (by kernel_rfl) (by kernel_rfl) (since_drew _) ?_
            repeat (first | go_big_quiet_skip | (go_big_quiet_want; (with_reducible apply qd_rec); rfl; (rintro _ ⟨x, rfl⟩; have H := H.call x.h; (first | (focus (apply H.rc; (repeat (first | with_reducible exact mH | with_reducible apply mT)); done)) | (apply RecAt.bel (hb := H.bel); assumption))); (first | assumption | (refine Hid.out ?_; assumption)); (go_simp; go_big_quiet_on)) | (go_big_quiet_want; (with_reducible apply qd_id); rfl; (rintro _ ⟨x, rfl⟩; have H := H.call x.h; (first | (focus (apply H.rc; (repeat (first | with_reducible exact mH | with_reducible apply mT)); done)) | (apply RecAt.bel (hb := H.bel); assumption))); (first | assumption | (refine Hid.out ?_; assumption)); (go_simp; go_big_quiet_on)) | (go_big_quiet_want; (with_reducible apply qd_one (ty := 22) Tryz.underlying22 rfl); rfl; (rintro _ ⟨x, rfl⟩; have H := H.call x.h; (focus (apply H.one; (repeat (first | with_reducible exact mH | with_reducible apply mT)); done))); (go_simp; go_big_quiet_on)) | (go_big_quiet_step ((first | (go_at_call 17; with_reducible exact after_call _ (rbless_r hl.out hokp.out hok.out _))))))
            refine wpQuiet_nil ?_
            rintro _ ⟨zq, rfl⟩; replace H := H.call zq.h
            clear hp1 hp2
            go_wp2
            go_roundw
            case rel => exact ⟨i + 1 + 1, by omega, by go_num, Hnext, H⟩
            case measure => simp [intOf]; omega
    · have hjn : j = n := by omega
      subst hjn
      have Hres : Hid (bMay L = decide ((j : Int) ≤ 10)) := Lib.hid (by
        unfold bMay
        rw [I.out, bMayL_end (by rw [Hn.out]; exact Nat.le_refl _), Bool.true_and, Hn.out]
        exact decide_eq_decide.2 (by omega))
      go_wp2_with (first | go_skip | ((with_reducible apply ld_one (ty := 22) Tryz.underlying22 rfl); rfl; rfl; (focus (apply H.one; (repeat (first | with_reducible exact mH | with_reducible apply mT)); done))) | ((with_reducible apply ld_rec); rfl; rfl; (first | (focus (apply H.rc; (repeat (first | with_reducible exact mH | with_reducible apply mT)); done)) | (apply RecAt.bel (hb := H.bel); assumption) | assumption)) | (go_at_call 55; (with_reducible refine (rfmay_v hok.out hm.out _ (Hf.out.below H.bel)).mono ?_); rintro e wn ⟨rfl, hb⟩; replace H := H.call hb; clear hb))
      all_goals first | (rw [Exit.noGoto_ret]; go_ret) | go_ret
      all_goals exact ⟨by rw [Hres.out]; simp, H.bel⟩
theorem rbmay_v {v : Value} {L : BK} {m : Bool} (h : bMay L = m) (w : World) (hv : Recs w v L) : Calls Tryz.prog 15 #[.agg #[v]] w fun e w' => e = .returned (.bool m) ∧ Below w.heap.size w w' := by subst h; exact rbmay_c v L w hv
theorem bSame_stepB {L M : BK} {j : Nat} {r r' : RD} (h : L[j]? = some r) (h' : M[j]? = some r') : bSame (L.drop j) (M.drop j) = (rSame r r' && bSame (L.drop (j + 1)) (M.drop (j + 1))) := by
  rw [drop_at h, drop_at h', bSame]
theorem bSame_lenB : ∀ {L M : BK}, L.length ≠ M.length → bSame L M = false
  | [], [], h => absurd rfl h
  | [], _ :: _, _ => rfl
  | _ :: _, [], _ => rfl
  | x :: L, y :: M, h => by
    rw [bSame, bSame_lenB (L := L) (M := M) (fun e => h (by simp [e])), Bool.and_false]
set_option maxHeartbeats 6400000 in
theorem rbsame_c (v v' : Value) (L M : BK) (w : World) (hv : Recs w v L) (hv' : Recs w v' M) : Calls Tryz.prog 14 #[.agg #[v], .agg #[v']] w fun e w' => e = .returned (.bool (bSame L M)) ∧ Below w.heap.size w w' := by
  obtain ⟨n, hn⟩ : ∃ n, L.length = n := ⟨_, rfl⟩
  obtain ⟨a, c, rfl, hm1, _⟩ := id hv.slice
  rw [hn] at hv hm1 ⊢
  unfold maxLen at hm1
  have Hv := Lib.hid hv; have Hn := Lib.hid hn; clear hv hn
  obtain ⟨n', hn'⟩ : ∃ n, M.length = n := ⟨_, rfl⟩
  obtain ⟨a', c', rfl, hm1', _⟩ := id hv'.slice
  rw [hn'] at hv' hm1' ⊢
  unfold maxLen at hm1'
  have Hv' := Lib.hid hv'; have Hn' := Lib.hid hn'; clear hv' hn'
  have H := St.init w
  by_cases hnn : n = n'
  · subst hnn
    go_enter Tryz.func14, Tryz.ntmps14
    go_wp2_with (first | go_skip | ((fail_if_success have := kA); (with_reducible apply arm_box H); rfl; clear H; intro wn kA H) | ((fail_if_success have := kB); (with_reducible apply arm_box H); rfl; clear H; intro wn kB H) | ((with_reducible apply ld_one (ty := 22) Tryz.underlying22 rfl); rfl; rfl; (focus (apply H.one; (repeat (first | with_reducible exact mH | with_reducible apply mT)); done))))
    go_loopw [5] (fun i wr => ∃ j : Nat, j ≤ n ∧ i = .int .i64 j ∧ Hid (bSame L M = bSame (L.drop j) (M.drop j)) ∧ St w wr [Res.blk kB 24 #[.slice a' n c'], Res.blk kA 24 #[.slice a n c]]) (fun i _ => n - (intOf i).toNat)
    case atStart => exact ⟨0, by omega, rfl, Lib.hid rfl, H⟩
    case round =>
      clear H
      obtain ⟨j, hj, rfl, I, H⟩ := hrel
      by_cases hlt : j < n
      · obtain ⟨r, hr⟩ : ∃ r, L[j]? = some r := ⟨_, List.getElem?_eq_getElem (by rw [Hn.out]; exact hlt)⟩
        obtain ⟨r2, hr2⟩ : ∃ r, M[j]? = some r := ⟨_, List.getElem?_eq_getElem (by rw [Hn'.out]; exact hlt)⟩
        obtain ⟨b, off, s, rfl, hbw, G, hf⟩ := Hv.out.at hr
        obtain ⟨b2, off2, s2, rfl, hbw2, G2, hf2⟩ := Hv'.out.at hr2
        have hok : Hid r.ok := Lib.hid G.2
        have hok2 : Hid r2.ok := Lib.hid G2.2
        have Hf := Lib.hid hf; have Hf2 := Lib.hid hf2
        have Hst := Lib.hid (bSame_stepB hr hr2)
        obtain ⟨q, hq⟩ : ∃ q, Hid (rSame r r2 = q) := ⟨_, rfl⟩
        clear hf hr hbw hf2 hr2 hbw2
        cases q with
        | true =>
          go_wp2_with (first | go_skip | ((fail_if_success have := kA); (with_reducible apply arm_box H); rfl; clear H; intro wn kA H) | ((fail_if_success have := kB); (with_reducible apply arm_box H); rfl; clear H; intro wn kB H) | ((with_reducible apply ld_one (ty := 22) Tryz.underlying22 rfl); rfl; rfl; (focus (apply H.one; (repeat (first | with_reducible exact mH | with_reducible apply mT)); done))))
          (try simp only [Act.put, List.setIfInBounds_toArray, List.set_cons_zero, List.set_cons_succ])
          refine wp_quiet_all (C := fun w' => ∃ x : After _, w' = x.w) (by kernel_rfl) (by kernel_rfl) (since_drew _) ?_
          repeat (first | go_big_quiet_skip | (go_big_quiet_want; (with_reducible apply qd_rec); rfl; (rintro _ ⟨x, rfl⟩; have H := H.call x.h; (first | (focus (apply H.rc; (repeat (first | with_reducible exact mH | with_reducible apply mT)); done)) | (apply RecAt.bel (hb := H.bel); assumption))); (first | assumption | (refine Hid.out ?_; assumption)); (go_simp; go_big_quiet_on)) | (go_big_quiet_want; (with_reducible apply qd_id); rfl; (rintro _ ⟨x, rfl⟩; have H := H.call x.h; (first | (focus (apply H.rc; (repeat (first | with_reducible exact mH | with_reducible apply mT)); done)) | (apply RecAt.bel (hb := H.bel); assumption))); (first | assumption | (refine Hid.out ?_; assumption)); (go_simp; go_big_quiet_on)) | (go_big_quiet_want; (with_reducible apply qd_one (ty := 22) Tryz.underlying22 rfl); rfl; (rintro _ ⟨x, rfl⟩; have H := H.call x.h; (focus (apply H.one; (repeat (first | with_reducible exact mH | with_reducible apply mT)); done))); (go_simp; go_big_quiet_on)) | (go_big_quiet_step ((first | (go_at_call 13; with_reducible exact after_call _ (rfsame_v hok.out hok2.out hq.out _ (Hf.out.below (H.call (After.h _)).bel) (Hf2.out.below (H.call (After.h _)).bel)))))))
          refine wpQuiet_nil ?_
          rintro _ ⟨zq, rfl⟩; replace H := H.call zq.h
          go_wp2
          go_roundw
          case rel => exact ⟨j + 1, by omega, by go_num, Lib.hid (by rw [I.out, Hst.out, hq.out]; rfl), H⟩
          case measure => simp [intOf]; omega
        | false =>
          have Hres : Hid (bSame L M = false) := Lib.hid (by rw [I.out, Hst.out, hq.out]; rfl)
          go_wp2_with (first | go_skip | ((fail_if_success have := kA); (with_reducible apply arm_box H); rfl; clear H; intro wn kA H) | ((fail_if_success have := kB); (with_reducible apply arm_box H); rfl; clear H; intro wn kB H) | ((with_reducible apply ld_one (ty := 22) Tryz.underlying22 rfl); rfl; rfl; (focus (apply H.one; (repeat (first | with_reducible exact mH | with_reducible apply mT)); done))))
          (try simp only [Act.put, List.setIfInBounds_toArray, List.set_cons_zero, List.set_cons_succ])
          refine wp_quiet_all (C := fun w' => ∃ x : After _, w' = x.w) (by kernel_rfl) (by kernel_rfl) (since_drew _) ?_
          repeat (first | go_big_quiet_skip | (go_big_quiet_want; (with_reducible apply qd_rec); rfl; (rintro _ ⟨x, rfl⟩; have H := H.call x.h; (first | (focus (apply H.rc; (repeat (first | with_reducible exact mH | with_reducible apply mT)); done)) | (apply RecAt.bel (hb := H.bel); assumption))); (first | assumption | (refine Hid.out ?_; assumption)); (go_simp; go_big_quiet_on)) | (go_big_quiet_want; (with_reducible apply qd_id); rfl; (rintro _ ⟨x, rfl⟩; have H := H.call x.h; (first | (focus (apply H.rc; (repeat (first | with_reducible exact mH | with_reducible apply mT)); done)) | (apply RecAt.bel (hb := H.bel); assumption))); (first | assumption | (refine Hid.out ?_; assumption)); (go_simp; go_big_quiet_on)) | (go_big_quiet_want; (with_reducible apply qd_one (ty := 22) Tryz.underlying22 rfl); rfl; (rintro _ ⟨x, rfl⟩; have H := H.call x.h; (focus (apply H.one; (repeat (first | with_reducible exact mH | with_reducible apply mT)); done))); (go_simp; go_big_quiet_on)) | (go_big_quiet_step ((first | (go_at_call 13; with_reducible exact after_call _ (rfsame_v hok.out hok2.out hq.out _ (Hf.out.below (H.call (After.h _)).bel) (Hf2.out.below (H.call (After.h _)).bel)))))))
          refine wpQuiet_nil ?_
          rintro _ ⟨zq, rfl⟩; replace H := H.call zq.h
          go_wp2
          all_goals first | (rw [Exit.noGoto_ret]; go_ret) | go_ret
          all_goals exact ⟨by rw [Hres.out]; rfl, H.bel⟩
      · have hjn : j = n := by omega
        subst hjn
        have Hres : Hid (bSame L M = true) := Lib.hid (by
          have e1 : L.drop j = [] := List.drop_of_length_le (by rw [Hn.out]; exact Nat.le_refl _)
          have e2 : M.drop j = [] := List.drop_of_length_le (by rw [Hn'.out]; exact Nat.le_refl _)
          rw [I.out, e1, e2]; rfl)
        go_wp2_with (first | go_skip | ((fail_if_success have := kA); (with_reducible apply arm_box H); rfl; clear H; intro wn kA H) | ((fail_if_success have := kB); (with_reducible apply arm_box H); rfl; clear H; intro wn kB H) | ((with_reducible apply ld_one (ty := 22) Tryz.underlying22 rfl); rfl; rfl; (focus (apply H.one; (repeat (first | with_reducible exact mH | with_reducible apply mT)); done))))
        all_goals first | (rw [Exit.noGoto_ret]; go_ret) | go_ret
        all_goals exact ⟨by rw [Hres.out]; rfl, H.bel⟩
  · have Hres : Hid (bSame L M = false) := Lib.hid (bSame_lenB (by rw [Hn.out, Hn'.out]; exact hnn))
    go_enter Tryz.func14, Tryz.ntmps14
    go_wp2_with (first | go_skip | ((fail_if_success have := kA); (with_reducible apply arm_box H); rfl; clear H; intro wn kA H) | ((fail_if_success have := kB); (with_reducible apply arm_box H); rfl; clear H; intro wn kB H) | ((with_reducible apply ld_one (ty := 22) Tryz.underlying22 rfl); rfl; rfl; (focus (apply H.one; (repeat (first | with_reducible exact mH | with_reducible apply mT)); done))))
    all_goals first | (rw [Exit.noGoto_ret]; go_ret) | go_ret
    all_goals exact ⟨by rw [Hres.out]; rfl, H.bel⟩
theorem rbsame_v {v v' : Value} {L M : BK} {m : Bool} (h : bSame L M = m) (w : World) (hv : Recs w v L) (hv' : Recs w v' M) : Calls Tryz.prog 14 #[.agg #[v], .agg #[v']] w fun e w' => e = .returned (.bool m) ∧ Below w.heap.size w w' := by subst h; exact rbsame_c v v' L M w hv hv'
end Go.Proofs.YtolbmemogoojhaaGreat
