/- Names compared. -/
import Derived.Test.YtolbmemogoojhaaGreatKN1
namespace Go.Proofs.YtolbmemogoojhaaGreat
open Go Go.RowKit Go.Deep
set_option linter.unusedVariables false
set_option linter.unusedSimpArgs false
set_option maxRecDepth 100000
theorem St.blkOf {w0 w : World} {Γ : List Res} (H : St w0 w Γ) {b : Nat} {t : TypeId} {cs : Array Value} (hm : Res.blk b t cs ∈ Γ) : Blk w b t cs := H.get hm
section
variable {a : Act} {b : Nat} {dst : Option Tmp} {ty typ : TypeId} {x : Operand} {pos : String} {af : Array Edge} {gd : Option (Nat × Bool)} {C : World → Prop} {K : Act → Prop} {v : Value} {d : TypeDesc}
theorem qd_one (hu : Tryz.prog.underlying ty = some d) (hd : (match (generalizing := false) d with | .struct _ | .array _ _ => true | _ => false) = false) (hx : a.eval x = .pointer (some ⟨b, 0, none⟩)) (h : ∀ w', C w' → Sub w' b 0 #[v]) (k : K (a.put dst v)) : (⟨dst, .load ty x, typ, pos, af, gd⟩ : Oper).quiet Tryz.prog a C K :=
  quiet_load_one (P := Tryz.prog) (C := C) (K := K) ty x rfl dst rfl b 0 hx v d h hu (by cases d <;> first | rfl | (exact absurd hd (by simp))) k
end
section
variable {ops : Array Oper} {rest : List Oper} {a : Act} {w0 w : World} {Q : Exit → Act → World → Prop} {Γ Γ' : List Res}
variable {dst : Option Tmp} {ty typ t : TypeId} {x y : Operand} {pos : String} {af : Array Edge} {gd : Option (Nat × Bool)} {b off : Nat} {v v' : Value} {d : TypeDesc}
theorem ld_one (hu : Tryz.prog.underlying ty = some d) (hd : (match (generalizing := false) d with | .struct _ | .array _ _ => true | _ => false) = false) (hw : Region.wanted (⟨dst, .load ty x, typ, pos, af, gd⟩ : Oper) (yielded ops a.tmps) = true) (hx : a.eval x = .pointer (some ⟨b, off, none⟩)) (hg : Sub w b off #[v])
    (h : wpList Tryz.prog ops Q rest (a.put dst v) w) : wpList Tryz.prog ops Q (⟨dst, .load ty x, typ, pos, af, gd⟩ :: rest) a w := arm_ld1 hw hx hg hu (by cases d <;> first | rfl | (exact absurd hd (by simp))) h
theorem st_on (hi : (Tryz.prog.info? ty).map (·.size) = some 1) (H : St w0 w Γ) (hw : Region.wanted (⟨dst, .store ty x y, typ, pos, af, gd⟩ : Oper) (yielded ops a.tmps) = true) (hx : a.eval x = .pointer (some ⟨b, 0, none⟩)) (hy : a.eval y = v')
    (u : Upd Γ (Res.blk b t #[v]) (Res.blk b t #[v']) Γ') (hv : v'.cells = #[v']) (h1 : v'.oneCell' = true) (h : ∀ w', St w0 w' Γ' → wpList Tryz.prog ops Q rest (a.put dst undef) w') : wpList Tryz.prog ops Q (⟨dst, .store ty x y, typ, pos, af, gd⟩ :: rest) a w :=
  st_one H hw hx hy u hi hv h1 h
end
theorem byt_blk {w : World} {k : Nat} {ty : TypeId} {a : List UInt8} {n : Nat} (h : Blk w k ty (encU a).toArray) (ha : a.length = n) (hn : n ≤ maxLen) : Byt w (.slice (some ⟨k, 0, none⟩) n n) a := by
  subst ha
  refine ⟨by rw [encU_length, Nat.mul_one], some ⟨k, 0, none⟩, _, rfl, Nat.le_refl _, hn, fun h => (by cases h), fun _ => ⟨k, 0, rfl, fun j u hj => ?_⟩⟩
  rw [h.cell, Nat.zero_add]; simpa using hj
def cmpID (a b : List UInt8) : Int := Lib.compareBytes a b
theorem id_info16 {A : Array Value} (h : A.size = 16) : (Tryz.prog.info? 26).map (·.size) = some A.size := info_id h
def idLt (a b : IDL) : Bool := decide (a < b)
theorem cmp_lt (a b : IDL) : decide (cmpID a b < 0) = idLt a b := by unfold idLt cmpID; exact decide_eq_decide.2 (cb_iff a b)
set_option maxHeartbeats 1600000 in
theorem bkless_c (a b : List UInt8) (ha : a.length = 16) (hb : b.length = 16) (w : World) : Calls Tryz.prog 21 #[.agg (encU a).toArray, .agg (encU b).toArray] w fun e w' => e = .returned (.bool (idLt a b)) ∧ Below w.heap.size w w' := by
  obtain ⟨A, hA⟩ : ∃ A, Hid ((encU a).toArray = A) := ⟨_, rfl⟩
  obtain ⟨B, hB⟩ : ∃ B, Hid ((encU b).toArray = B) := ⟨_, rfl⟩
  have HAs : Hid ((Tryz.prog.info? 26).map (·.size) = some A.size) := Lib.hid (by rw [← hA.out]; exact id_info16 (encU_arr16 ha))
  have HBs : Hid ((Tryz.prog.info? 26).map (·.size) = some B.size) := Lib.hid (by rw [← hB.out]; exact id_info16 (encU_arr16 hb))
  obtain ⟨r, hr⟩ : ∃ r, Hid (cmpID a b = r) := ⟨_, rfl⟩
  obtain ⟨q, hq⟩ : ∃ q, Hid ((a == b) = q) := ⟨_, rfl⟩
  have hneq : ∀ W, (binOp .neq 26 (.agg A) (.agg B)).run Tryz.prog W = .ok (.bool (!q)) W := fun W => by rw [← hA.out, ← hB.out, ← hq.out]; exact neq_id a b ha hb W
  have hres : Hid (idLt a b = (!q && decide (r < 0))) := Lib.hid (by
    rw [← hr.out, cmp_lt, ← hq.out]
    cases h : (a == b) with
    | false => simp
    | true => have : a = b := by simpa using h
              subst this; simp [idLt, idl_irrefl])
  rw [hA.out, hB.out]
  have H := St.init w
  have Ha := Lib.hid ha; have Hb := Lib.hid hb; clear ha hb
  cases q
  all_goals
    go_enter Tryz.func21, Tryz.ntmps21
    go_wp2_with (first | go_skip | ((fail_if_success have := kA); (with_reducible apply arm_box H); rfl; clear H; intro wn kA H) | ((fail_if_success have := kB); (with_reducible apply arm_box H); rfl; clear H; intro wn kB H))
    have hc : ∀ x : After wn, Calls Tryz.prog 59 #[.slice (some ⟨kA, 0, none⟩) 16 16, .slice (some ⟨kB, 0, none⟩) 16 16] x.w fun e w' => e = .returned (.int .i64 r) ∧ x.w = w' := fun x => by
      have h1 : Blk x.w kA 26 A := (H.call x.h).blkOf (by (repeat (first | with_reducible exact mH | with_reducible apply mT)))
      have h2 : Blk x.w kB 26 B := (H.call x.h).blkOf (by (repeat (first | with_reducible exact mH | with_reducible apply mT)))
      rw [← hA.out] at h1; rw [← hB.out] at h2
      have := bcompare_c _ _ a b x.w (byt_blk h1 Ha.out (by decide)) (byt_blk h2 Hb.out (by decide))
      unfold cmpID at hr
      rwa [hr.out] at this
    have Hc := Lib.hid hc; clear hc
    refine wp_quiet_all (C := fun w' => ∃ x : After _, w' = x.w) (by kernel_rfl) (by kernel_rfl) (since_drew _) ?_
    repeat (first | go_big_quiet_skip | (go_big_quiet_want; (refine quiet_load_sub 26 _ rfl _ rfl kA 0 rfl A _ ?_ Tryz.underlying26 rfl HAs.out ?_; rotate_left; (go_simp; go_big_quiet_on); rotate_left; (rintro _ ⟨x, rfl⟩; apply (H.call x.h).arr (t := 26); (repeat (first | with_reducible exact mH | with_reducible apply mT))))) | (go_big_quiet_want; (refine quiet_load_sub 26 _ rfl _ rfl kB 0 rfl B _ ?_ Tryz.underlying26 rfl HBs.out ?_; rotate_left; (go_simp; go_big_quiet_on); rotate_left; (rintro _ ⟨x, rfl⟩; apply (H.call x.h).arr (t := 26); (repeat (first | with_reducible exact mH | with_reducible apply mT))))) | (go_big_quiet_step ((first | (go_at_call 59; with_reducible exact after_call_same _ (Hc.out _))))))
    refine wpQuiet_nil ?_
    rintro _ ⟨zq, rfl⟩; replace H := H.call zq.h
    go_wp2
    all_goals first | (rw [Exit.noGoto_ret]; go_ret) | go_ret
    exact ⟨by rw [hres.out]; simp, H.bel⟩
theorem bkless_v {a b : List UInt8} {r : Bool} (h : idLt a b = r) (ha : a.length = 16) (hb : b.length = 16) (w : World) : Calls Tryz.prog 21 #[.agg (encU a).toArray, .agg (encU b).toArray] w fun e w' => e = .returned (.bool r) ∧ Below w.heap.size w w' := by subst h; exact bkless_c a b ha hb w
theorem bkless_r {r r' : RD} {q : Bool} (h : idLt r.id r'.id = q) (hr : r.ok) (hr' : r'.ok) (w : World) : Calls Tryz.prog 21 #[.agg (idA r), .agg (idA r')] w fun e w' => e = .returned (.bool q) ∧ Below w.heap.size w w' := bkless_v h hr hr' w
end Go.Proofs.YtolbmemogoojhaaGreat
/- Whether a book may be, whether two are the same. -/
namespace Go.Proofs.YtolbmemogoojhaaGreat
open Go Go.RowKit Go.Deep
set_option linter.unusedVariables false
set_option linter.unusedSimpArgs false
set_option maxRecDepth 100000
def prevAt (L : BK) : Nat → Option IDL
  | 0 => none
  | i + 1 => (L[i]?).map (·.id)
theorem bMayL_step {L : BK} {j : Nat} {r : RD} (hj : L[j]? = some r) : bMayL (prevAt L j) (L.drop j) = (rMay r && (match prevAt L j with | none => true | some q => decide (q < r.id)) && bMayL (prevAt L (j + 1)) (L.drop (j + 1))) := by
  have h1 := List.getElem?_eq_some_iff.1 hj
  rw [List.drop_eq_getElem_cons h1.1, h1.2]
  have : prevAt L (j + 1) = some r.id := by simp [prevAt, hj]
  rw [this]; rfl
theorem bMayL_end {L : BK} {j : Nat} (hj : L.length ≤ j) (p : Option IDL) : bMayL p (L.drop j) = true := by rw [List.drop_of_length_le hj]; rfl
set_option maxHeartbeats 6400000 in
theorem bkmay_c (v : Value) (L : BK) (w : World) (hv : Recs w v L) : Calls Tryz.prog 18 #[.agg #[v]] w fun e w' => e = .returned (.bool (bMay L)) ∧ Below w.heap.size w w' := by
  obtain ⟨n, hn⟩ : ∃ n, L.length = n := ⟨_, rfl⟩
  obtain ⟨a, c, rfl, hm1, _⟩ := id hv.slice
  rw [hn] at hv hm1 ⊢
  unfold maxLen at hm1
  have Hv := Lib.hid hv; have Hn := Lib.hid hn; clear hv hn
  have H := St.init w
  go_enter Tryz.func18, Tryz.ntmps18
  go_wp2_with (first | go_skip | ((fail_if_success have := kB); (with_reducible apply arm_box H); rfl; clear H; intro wn kB H) | ((with_reducible apply ld_one (ty := 22) Tryz.underlying22 rfl); rfl; rfl; (focus (apply H.one; (repeat (first | with_reducible exact mH | with_reducible apply mT)); done))))
  go_loopw [8] (fun i wr => ∃ j : Nat, j ≤ n ∧ i = .int .i64 j ∧ Hid (bMayL none L = bMayL (prevAt L j) (L.drop j)) ∧ St w wr [Res.blk kB 24 #[.slice a n c]]) (fun i _ => n - (intOf i).toNat)
  case atStart => exact ⟨0, by omega, rfl, Lib.hid rfl, H⟩
  case round =>
    clear H
    obtain ⟨j, hj, rfl, I, H⟩ := hrel
    by_cases hlt : j < n
    · obtain ⟨r, hr⟩ : ∃ r, L[j]? = some r := ⟨_, List.getElem?_eq_getElem (by rw [Hn.out]; exact hlt)⟩
      obtain ⟨b, off, s, rfl, hbw, G, hf⟩ := Hv.out.at hr
      have hok : Hid r.ok := Lib.hid G.2
      have Hf := Lib.hid hf
      have Hone : Hid (s.oneCell' = true) := Lib.hid (flds_one hf)
      have Hst := Lib.hid (bMayL_step hr)
      obtain ⟨m, hm⟩ : ∃ m, Hid (rMay r = m) := ⟨_, rfl⟩
      cases m with
      | false =>
        have Hres : Hid (bMay L = false) := Lib.hid (by unfold bMay; rw [I.out, Hst.out, hm.out]; simp)
        clear hf hr hbw
        go_wp2_with (first | go_skip | ((with_reducible apply ld_one (ty := 22) Tryz.underlying22 rfl); rfl; rfl; (focus (apply H.one; (repeat (first | with_reducible exact mH | with_reducible apply mT)); done))) | ((with_reducible apply ld_rec); rfl; rfl; (first | (focus (apply H.rc; (repeat (first | with_reducible exact mH | with_reducible apply mT)); done)) | (apply RecAt.bel (hb := H.bel); assumption))) | ((with_reducible apply ld_id); rfl; rfl; (first | (focus (apply H.rc; (repeat (first | with_reducible exact mH | with_reducible apply mT)); done)) | (apply RecAt.bel (hb := H.bel); assumption))) | ((with_reducible apply al_rec H); clear H; intro wn b H) | ((with_reducible apply st_rec H); rfl; rfl; rfl; (repeat (first | with_reducible apply Upd.head | with_reducible apply Upd.tail)); (first | assumption | (refine Hid.out ?_; assumption)); (first | rfl | assumption | (refine Hid.out ?_; assumption)); clear H; intro wn H))
        (try simp only [Act.put, List.setIfInBounds_toArray, List.set_cons_zero, List.set_cons_succ])
        refine wp_quiet_all (C := fun w' => ∃ x : After _, w' = x.w) (by kernel_rfl) (by kernel_rfl) (since_drew _) ?_
        repeat (first | go_big_quiet_skip | (go_big_quiet_want; (with_reducible apply qd_rec); rfl; (rintro _ ⟨x, rfl⟩; have H := H.call x.h; (first | (focus (apply H.rc; (repeat (first | with_reducible exact mH | with_reducible apply mT)); done)) | (apply RecAt.bel (hb := H.bel); assumption))); (first | assumption | (refine Hid.out ?_; assumption)); (go_simp; go_big_quiet_on)) | (go_big_quiet_want; (with_reducible apply qd_id); rfl; (rintro _ ⟨x, rfl⟩; have H := H.call x.h; (first | (focus (apply H.rc; (repeat (first | with_reducible exact mH | with_reducible apply mT)); done)) | (apply RecAt.bel (hb := H.bel); assumption))); (first | assumption | (refine Hid.out ?_; assumption)); (go_simp; go_big_quiet_on)) | (go_big_quiet_want; (with_reducible apply qd_one (ty := 22) Tryz.underlying22 rfl); rfl; (rintro _ ⟨x, rfl⟩; have H := H.call x.h; (focus (apply H.one; (repeat (first | with_reducible exact mH | with_reducible apply mT)); done))); (go_simp; go_big_quiet_on)) | (go_big_quiet_step ((first | (go_at_call 56; with_reducible exact after_call _ (rmayD hok.out hm.out _ (Hf.out.below (H.call (After.h _)).bel))) | (go_at_call 21; with_reducible exact after_call _ (bkless_r hl.out hokp.out hok.out _))))))
        refine wpQuiet_nil ?_
        rintro _ ⟨zq, rfl⟩; replace H := H.call zq.h
        go_wp2_with (first | go_skip | ((with_reducible apply ld_one (ty := 22) Tryz.underlying22 rfl); rfl; rfl; (focus (apply H.one; (repeat (first | with_reducible exact mH | with_reducible apply mT)); done))) | ((with_reducible apply ld_rec); rfl; rfl; (first | (focus (apply H.rc; (repeat (first | with_reducible exact mH | with_reducible apply mT)); done)) | (apply RecAt.bel (hb := H.bel); assumption))) | ((with_reducible apply ld_id); rfl; rfl; (first | (focus (apply H.rc; (repeat (first | with_reducible exact mH | with_reducible apply mT)); done)) | (apply RecAt.bel (hb := H.bel); assumption))) | ((with_reducible apply al_rec H); clear H; intro wn b H) | ((with_reducible apply st_rec H); rfl; rfl; rfl; (repeat (first | with_reducible apply Upd.head | with_reducible apply Upd.tail)); (first | assumption | (refine Hid.out ?_; assumption)); (first | rfl | assumption | (refine Hid.out ?_; assumption)); clear H; intro wn H))
        all_goals first | (rw [Exit.noGoto_ret]; go_ret) | go_ret
        all_goals exact ⟨by rw [Hres.out]; rfl, H.bel⟩
      | true =>
        cases j with
        | zero =>
          have Hnext : Hid (bMayL none L = bMayL (prevAt L (0 + 1)) (L.drop (0 + 1))) := Lib.hid (by rw [I.out, Hst.out, hm.out]; simp [prevAt])
          clear hf hr hbw
          go_wp2_with (first | go_skip | ((with_reducible apply ld_one (ty := 22) Tryz.underlying22 rfl); rfl; rfl; (focus (apply H.one; (repeat (first | with_reducible exact mH | with_reducible apply mT)); done))) | ((with_reducible apply ld_rec); rfl; rfl; (first | (focus (apply H.rc; (repeat (first | with_reducible exact mH | with_reducible apply mT)); done)) | (apply RecAt.bel (hb := H.bel); assumption))) | ((with_reducible apply ld_id); rfl; rfl; (first | (focus (apply H.rc; (repeat (first | with_reducible exact mH | with_reducible apply mT)); done)) | (apply RecAt.bel (hb := H.bel); assumption))) | ((with_reducible apply al_rec H); clear H; intro wn b H) | ((with_reducible apply st_rec H); rfl; rfl; rfl; (repeat (first | with_reducible apply Upd.head | with_reducible apply Upd.tail)); (first | assumption | (refine Hid.out ?_; assumption)); (first | rfl | assumption | (refine Hid.out ?_; assumption)); clear H; intro wn H))
          (try simp only [Act.put, List.setIfInBounds_toArray, List.set_cons_zero, List.set_cons_succ])
          refine wp_quiet_all (C := fun w' => ∃ x : After _, w' = x.w) (by kernel_rfl) (by kernel_rfl) (since_drew _) ?_
          repeat (first | go_big_quiet_skip | (go_big_quiet_want; (with_reducible apply qd_rec); rfl; (rintro _ ⟨x, rfl⟩; have H := H.call x.h; (first | (focus (apply H.rc; (repeat (first | with_reducible exact mH | with_reducible apply mT)); done)) | (apply RecAt.bel (hb := H.bel); assumption))); (first | assumption | (refine Hid.out ?_; assumption)); (go_simp; go_big_quiet_on)) | (go_big_quiet_want; (with_reducible apply qd_id); rfl; (rintro _ ⟨x, rfl⟩; have H := H.call x.h; (first | (focus (apply H.rc; (repeat (first | with_reducible exact mH | with_reducible apply mT)); done)) | (apply RecAt.bel (hb := H.bel); assumption))); (first | assumption | (refine Hid.out ?_; assumption)); (go_simp; go_big_quiet_on)) | (go_big_quiet_want; (with_reducible apply qd_one (ty := 22) Tryz.underlying22 rfl); rfl; (rintro _ ⟨x, rfl⟩; have H := H.call x.h; (focus (apply H.one; (repeat (first | with_reducible exact mH | with_reducible apply mT)); done))); (go_simp; go_big_quiet_on)) | (go_big_quiet_step ((first | (go_at_call 56; with_reducible exact after_call _ (rmayD hok.out hm.out _ (Hf.out.below (H.call (After.h _)).bel))) | (go_at_call 21; with_reducible exact after_call _ (bkless_r hl.out hokp.out hok.out _))))))
          refine wpQuiet_nil ?_
          rintro _ ⟨zq, rfl⟩; replace H := H.call zq.h
          go_wp2_with (first | go_skip | ((with_reducible apply ld_one (ty := 22) Tryz.underlying22 rfl); rfl; rfl; (focus (apply H.one; (repeat (first | with_reducible exact mH | with_reducible apply mT)); done))) | ((with_reducible apply ld_rec); rfl; rfl; (first | (focus (apply H.rc; (repeat (first | with_reducible exact mH | with_reducible apply mT)); done)) | (apply RecAt.bel (hb := H.bel); assumption))) | ((with_reducible apply ld_id); rfl; rfl; (first | (focus (apply H.rc; (repeat (first | with_reducible exact mH | with_reducible apply mT)); done)) | (apply RecAt.bel (hb := H.bel); assumption))) | ((with_reducible apply al_rec H); clear H; intro wn b H) | ((with_reducible apply st_rec H); rfl; rfl; rfl; (repeat (first | with_reducible apply Upd.head | with_reducible apply Upd.tail)); (first | assumption | (refine Hid.out ?_; assumption)); (first | rfl | assumption | (refine Hid.out ?_; assumption)); clear H; intro wn H))
          go_roundw
          case rel => exact ⟨0 + 1, by omega, by go_num, Hnext, H.sub (by (repeat (first | with_reducible exact List.Sublist.refl _ | with_reducible refine List.Sublist.cons_cons _ ?_ | refine List.Sublist.cons _ ?_)))⟩
          case measure => simp [intOf]; omega
        | succ i =>
          obtain ⟨rp, hrp⟩ : ∃ r, L[i]? = some r := ⟨_, List.getElem?_eq_getElem (by rw [Hn.out]; omega)⟩
          obtain ⟨b2, off2, sp, he, _, G2, _⟩ := Hv.out.at hrp
          simp only [Option.some.injEq, Addr.mk.injEq, and_true] at he
          obtain ⟨rfl, rfl⟩ := he
          have hokp : Hid rp.ok := Lib.hid G2.2
          obtain ⟨l, hl⟩ : ∃ l, Hid (idLt rp.id r.id = l) := ⟨_, rfl⟩
          have hp : prevAt L (i + 1) = some rp.id := by simp [prevAt, hrp]
          have Hst2 : Hid (bMayL none L = (l && bMayL (prevAt L (i + 1 + 1)) (L.drop (i + 1 + 1)))) := Lib.hid (by
            rw [I.out, Hst.out, hm.out, hp]; simp only [Bool.true_and]; rw [← hl.out]; rfl)
          have hp1 : decide (0 < (i : Int) + 1) = true := by simp <;> omega
          have hp2 : wrap64 ((i : Int) + 1 - 1) = i := by unfold wrap64; omega
          have Hp1 := Lib.hid hp1; have Hp2 := Lib.hid hp2
          clear hf hr hbw hrp hp hp1 hp2
          go_wp2_with (first | go_skip | ((with_reducible apply ld_one (ty := 22) Tryz.underlying22 rfl); rfl; rfl; (focus (apply H.one; (repeat (first | with_reducible exact mH | with_reducible apply mT)); done))) | ((with_reducible apply ld_rec); rfl; rfl; (first | (focus (apply H.rc; (repeat (first | with_reducible exact mH | with_reducible apply mT)); done)) | (apply RecAt.bel (hb := H.bel); assumption))) | ((with_reducible apply ld_id); rfl; rfl; (first | (focus (apply H.rc; (repeat (first | with_reducible exact mH | with_reducible apply mT)); done)) | (apply RecAt.bel (hb := H.bel); assumption))) | ((with_reducible apply al_rec H); clear H; intro wn b H) | ((with_reducible apply st_rec H); rfl; rfl; rfl; (repeat (first | with_reducible apply Upd.head | with_reducible apply Upd.tail)); (first | assumption | (refine Hid.out ?_; assumption)); (first | rfl | assumption | (refine Hid.out ?_; assumption)); clear H; intro wn H))
          have hp1 := Hp1.out; have hp2 := Hp2.out
          cases l with
          | false =>
            have Hres : Hid (bMay L = false) := Lib.hid (by unfold bMay; rw [Hst2.out]; simp)
            (try simp only [Act.put, List.setIfInBounds_toArray, List.set_cons_zero, List.set_cons_succ])
            refine wp_quiet_all (C := fun w' => ∃ x : After _, w' = x.w) (by kernel_rfl) (by kernel_rfl) (since_drew _) ?_
            repeat (first | go_big_quiet_skip | (go_big_quiet_want; (with_reducible apply qd_rec); rfl; (rintro _ ⟨x, rfl⟩; have H := H.call x.h; (first | (focus (apply H.rc; (repeat (first | with_reducible exact mH | with_reducible apply mT)); done)) | (apply RecAt.bel (hb := H.bel); assumption))); (first | assumption | (refine Hid.out ?_; assumption)); (go_simp; go_big_quiet_on)) | (go_big_quiet_want; (with_reducible apply qd_id); rfl; (rintro _ ⟨x, rfl⟩; have H := H.call x.h; (first | (focus (apply H.rc; (repeat (first | with_reducible exact mH | with_reducible apply mT)); done)) | (apply RecAt.bel (hb := H.bel); assumption))); (first | assumption | (refine Hid.out ?_; assumption)); (go_simp; go_big_quiet_on)) | (go_big_quiet_want; (with_reducible apply qd_one (ty := 22) Tryz.underlying22 rfl); rfl; (rintro _ ⟨x, rfl⟩; have H := H.call x.h; (focus (apply H.one; (repeat (first | with_reducible exact mH | with_reducible apply mT)); done))); (go_simp; go_big_quiet_on)) | (go_big_quiet_step ((first | (go_at_call 56; with_reducible exact after_call _ (rmayD hok.out hm.out _ (Hf.out.below (H.call (After.h _)).bel))) | (go_at_call 21; with_reducible exact after_call _ (bkless_r hl.out hokp.out hok.out _))))))
            refine wpQuiet_nil ?_
            rintro _ ⟨zq, rfl⟩; replace H := H.call zq.h
            clear hp1 hp2
            go_wp2_with (first | go_skip | ((with_reducible apply ld_one (ty := 22) Tryz.underlying22 rfl); rfl; rfl; (focus (apply H.one; (repeat (first | with_reducible exact mH | with_reducible apply mT)); done))) | ((with_reducible apply ld_rec); rfl; rfl; (first | (focus (apply H.rc; (repeat (first | with_reducible exact mH | with_reducible apply mT)); done)) | (apply RecAt.bel (hb := H.bel); assumption))) | ((with_reducible apply ld_id); rfl; rfl; (first | (focus (apply H.rc; (repeat (first | with_reducible exact mH | with_reducible apply mT)); done)) | (apply RecAt.bel (hb := H.bel); assumption))) | ((with_reducible apply al_rec H); clear H; intro wn b H) | ((with_reducible apply st_rec H); rfl; rfl; rfl; (repeat (first | with_reducible apply Upd.head | with_reducible apply Upd.tail)); (first | assumption | (refine Hid.out ?_; assumption)); (first | rfl | assumption | (refine Hid.out ?_; assumption)); clear H; intro wn H))
            all_goals first | (rw [Exit.noGoto_ret]; go_ret) | go_ret
            all_goals exact ⟨by rw [Hres.out]; rfl, H.bel⟩
          | true =>
            have Hnext : Hid (bMayL none L = bMayL (prevAt L (i + 1 + 1)) (L.drop (i + 1 + 1))) := Lib.hid (by rw [Hst2.out]; simp)
            (try simp only [Act.put, List.setIfInBounds_toArray, List.set_cons_zero, List.set_cons_succ])
            refine wp_quiet_all (C := fun w' => ∃ x : After _, w' = x.w) (by kernel_rfl) (by kernel_rfl) (since_drew _) ?_
            repeat (first | go_big_quiet_skip | (go_big_quiet_want; (with_reducible apply qd_rec); rfl; (rintro _ ⟨x, rfl⟩; have H := H.call x.h; (first | (focus (apply H.rc; (repeat (first | with_reducible exact mH | with_reducible apply mT)); done)) | (apply RecAt.bel (hb := H.bel); assumption))); (first | assumption | (refine Hid.out ?_; assumption)); (go_simp; go_big_quiet_on)) | (go_big_quiet_want; (with_reducible apply qd_id); rfl; (rintro _ ⟨x, rfl⟩; have H := H.call x.h; (first | (focus (apply H.rc; (repeat (first | with_reducible exact mH | with_reducible apply mT)); done)) | (apply RecAt.bel (hb := H.bel); assumption))); (first | assumption | (refine Hid.out ?_; assumption)); (go_simp; go_big_quiet_on)) | (go_big_quiet_want; (with_reducible apply qd_one (ty := 22) Tryz.underlying22 rfl); rfl; (rintro _ ⟨x, rfl⟩; have H := H.call x.h; (focus (apply H.one; (repeat (first | with_reducible exact mH | with_reducible apply mT)); done))); (go_simp; go_big_quiet_on)) | (go_big_quiet_step ((first | (go_at_call 56; with_reducible exact after_call _ (rmayD hok.out hm.out _ (Hf.out.below (H.call (After.h _)).bel))) | (go_at_call 21; with_reducible exact after_call _ (bkless_r hl.out hokp.out hok.out _))))))
            refine wpQuiet_nil ?_
            rintro _ ⟨zq, rfl⟩; replace H := H.call zq.h
            clear hp1 hp2
            go_wp2_with (first | go_skip | ((with_reducible apply ld_one (ty := 22) Tryz.underlying22 rfl); rfl; rfl; (focus (apply H.one; (repeat (first | with_reducible exact mH | with_reducible apply mT)); done))) | ((with_reducible apply ld_rec); rfl; rfl; (first | (focus (apply H.rc; (repeat (first | with_reducible exact mH | with_reducible apply mT)); done)) | (apply RecAt.bel (hb := H.bel); assumption))) | ((with_reducible apply ld_id); rfl; rfl; (first | (focus (apply H.rc; (repeat (first | with_reducible exact mH | with_reducible apply mT)); done)) | (apply RecAt.bel (hb := H.bel); assumption))) | ((with_reducible apply al_rec H); clear H; intro wn b H) | ((with_reducible apply st_rec H); rfl; rfl; rfl; (repeat (first | with_reducible apply Upd.head | with_reducible apply Upd.tail)); (first | assumption | (refine Hid.out ?_; assumption)); (first | rfl | assumption | (refine Hid.out ?_; assumption)); clear H; intro wn H))
            go_roundw
            case rel => exact ⟨i + 1 + 1, by omega, by go_num, Hnext, H.sub (by (repeat (first | with_reducible exact List.Sublist.refl _ | with_reducible refine List.Sublist.cons_cons _ ?_ | refine List.Sublist.cons _ ?_)))⟩
            case measure => simp [intOf]; omega
    · have hjn : j = n := by omega
      subst hjn
      have Hres : Hid (bMay L = decide ((j : Int) ≤ 10)) := Lib.hid (by
        unfold bMay
        rw [I.out, bMayL_end (by rw [Hn.out]; exact Nat.le_refl _), Bool.true_and, Hn.out]
        exact decide_eq_decide.2 (by omega))
      go_wp2_with (first | go_skip | ((with_reducible apply ld_one (ty := 22) Tryz.underlying22 rfl); rfl; rfl; (focus (apply H.one; (repeat (first | with_reducible exact mH | with_reducible apply mT)); done))) | ((with_reducible apply ld_rec); rfl; rfl; (first | (focus (apply H.rc; (repeat (first | with_reducible exact mH | with_reducible apply mT)); done)) | (apply RecAt.bel (hb := H.bel); assumption))) | ((with_reducible apply ld_id); rfl; rfl; (first | (focus (apply H.rc; (repeat (first | with_reducible exact mH | with_reducible apply mT)); done)) | (apply RecAt.bel (hb := H.bel); assumption))) | ((with_reducible apply al_rec H); clear H; intro wn b H) | ((with_reducible apply st_rec H); rfl; rfl; rfl; (repeat (first | with_reducible apply Upd.head | with_reducible apply Upd.tail)); (first | assumption | (refine Hid.out ?_; assumption)); (first | rfl | assumption | (refine Hid.out ?_; assumption)); clear H; intro wn H))
      all_goals first | (rw [Exit.noGoto_ret]; go_ret) | go_ret
      all_goals exact ⟨by rw [Hres.out]; simp, H.bel⟩
theorem bkmay_v {v : Value} {L : BK} {m : Bool} (h : bMay L = m) (w : World) (hv : Recs w v L) : Calls Tryz.prog 18 #[.agg #[v]] w fun e w' => e = .returned (.bool m) ∧ Below w.heap.size w w' := by subst h; exact bkmay_c v L w hv
end Go.Proofs.YtolbmemogoojhaaGreat
/- Books compared; a record found. -/
namespace Go.Proofs.YtolbmemogoojhaaGreat
open Go Go.RowKit Go.Deep
set_option linter.unusedVariables false
set_option linter.unusedSimpArgs false
set_option maxRecDepth 100000
theorem bSame_step {L M : BK} {j : Nat} {r r' : RD} (h : L[j]? = some r) (k : M[j]? = some r') : bSame (L.drop j) (M.drop j) = (rSame r r' && bSame (L.drop (j + 1)) (M.drop (j + 1))) := by
  have h1 := List.getElem?_eq_some_iff.1 h
  have k1 := List.getElem?_eq_some_iff.1 k
  rw [List.drop_eq_getElem_cons h1.1, h1.2, List.drop_eq_getElem_cons k1.1, k1.2]; rfl
theorem bSame_len {L M : BK} (h : L.length ≠ M.length) : bSame L M = false := by
  cases hb : bSame L M with
  | false => rfl
  | true => exact absurd (congrArg List.length ((bSame_iff L M).1 hb)) h
theorem bSame_end {L M : BK} {j : Nat} (h : L.length ≤ j) (k : M.length ≤ j) : bSame (L.drop j) (M.drop j) = true := by rw [List.drop_of_length_le h, List.drop_of_length_le k]; rfl
set_option maxHeartbeats 6400000 in
theorem bkeq_c (v v' : Value) (L M : BK) (w : World) (hv : Recs w v L) (hv' : Recs w v' M) : Calls Tryz.prog 57 #[v, v', .func (.func 58) #[] #[]] w fun e w' => e = .returned (.bool (bSame L M)) ∧ Below w.heap.size w w' := by
  obtain ⟨n, hn⟩ : ∃ n, L.length = n := ⟨_, rfl⟩
  obtain ⟨n', hn'⟩ : ∃ n, M.length = n := ⟨_, rfl⟩
  obtain ⟨a, c, rfl, hm1, _⟩ := id hv.slice
  obtain ⟨a', c', rfl, hm2, _⟩ := id hv'.slice
  rw [hn] at hv hm1 ⊢; rw [hn'] at hv' hm2 ⊢
  unfold maxLen at hm1 hm2
  have Hv := Lib.hid hv; have Hn := Lib.hid hn; have Hv' := Lib.hid hv'; have Hn' := Lib.hid hn'; clear hv hn hv' hn'
  have H := St.init w
  by_cases hne : n = n'
  · subst hne
    go_enter Tryz.func57, Tryz.ntmps57
    go_wp2_with (first | go_skip | fail)
    go_loopw [17] (fun i wr => ∃ j : Nat, j ≤ n ∧ i = .int .i64 j ∧ Hid (bSame L M = bSame (L.drop j) (M.drop j)) ∧ St w wr []) (fun i _ => n - (intOf i).toNat)
    case atStart => exact ⟨0, by omega, rfl, Lib.hid rfl, H⟩
    case round =>
      clear H
      obtain ⟨j, hj, rfl, I, H⟩ := hrel
      by_cases hlt : j < n
      · obtain ⟨r, hr⟩ : ∃ r, L[j]? = some r := ⟨_, List.getElem?_eq_getElem (by rw [Hn.out]; exact hlt)⟩
        obtain ⟨r', hr'⟩ : ∃ r, M[j]? = some r := ⟨_, List.getElem?_eq_getElem (by rw [Hn'.out]; exact hlt)⟩
        obtain ⟨b, off, s, rfl, hbw, G, hf⟩ := Hv.out.at hr
        obtain ⟨b', off', s', rfl, hbw', G', hf'⟩ := Hv'.out.at hr'
        have hok : Hid r.ok := Lib.hid G.2; have hok' : Hid r'.ok := Lib.hid G'.2
        have Hf := Lib.hid hf; have Hf' := Lib.hid hf'
        have Hone : Hid (s.oneCell' = true) := Lib.hid (flds_one hf); have Hone' : Hid (s'.oneCell' = true) := Lib.hid (flds_one hf')
        obtain ⟨q, hq⟩ : ∃ q, Hid (rSame r r' = q) := ⟨_, rfl⟩
        have Hst : Hid (bSame L M = (q && bSame (L.drop (j + 1)) (M.drop (j + 1)))) := Lib.hid (by rw [I.out, bSame_step hr hr', hq.out])
        clear hf hf' hr hr' hbw hbw'
        cases q with
        | false =>
          have Hres : Hid (bSame L M = false) := Lib.hid (by rw [Hst.out]; rfl)
          go_wp2_with (first | go_skip | ((with_reducible apply ld_rec); rfl; rfl; (first | (focus (apply H.rc; (repeat (first | with_reducible exact mH | with_reducible apply mT)); done)) | (apply RecAt.bel (hb := H.bel); assumption))) | ((with_reducible apply al_rec H); clear H; intro wn b H) | ((with_reducible apply st_rec H); rfl; rfl; rfl; (repeat (first | with_reducible apply Upd.head | with_reducible apply Upd.tail)); (first | assumption | (refine Hid.out ?_; assumption)); (first | rfl | assumption | (refine Hid.out ?_; assumption)); clear H; intro wn H) | (go_at_call 58; (with_reducible refine (rsameD hok.out hok'.out hq.out _ (Hf.out.below H.bel) (Hf'.out.below H.bel)).mono ?_); rintro e wn ⟨rfl, hb⟩; replace H := H.call hb; clear hb))
          all_goals first | (rw [Exit.noGoto_ret]; go_ret) | go_ret
          all_goals exact ⟨by rw [Hres.out]; rfl, H.bel⟩
        | true =>
          have Hnext : Hid (bSame L M = bSame (L.drop (j + 1)) (M.drop (j + 1))) := Lib.hid (by rw [Hst.out]; rfl)
          go_wp2_with (first | go_skip | ((with_reducible apply ld_rec); rfl; rfl; (first | (focus (apply H.rc; (repeat (first | with_reducible exact mH | with_reducible apply mT)); done)) | (apply RecAt.bel (hb := H.bel); assumption))) | ((with_reducible apply al_rec H); clear H; intro wn b H) | ((with_reducible apply st_rec H); rfl; rfl; rfl; (repeat (first | with_reducible apply Upd.head | with_reducible apply Upd.tail)); (first | assumption | (refine Hid.out ?_; assumption)); (first | rfl | assumption | (refine Hid.out ?_; assumption)); clear H; intro wn H) | (go_at_call 58; (with_reducible refine (rsameD hok.out hok'.out hq.out _ (Hf.out.below H.bel) (Hf'.out.below H.bel)).mono ?_); rintro e wn ⟨rfl, hb⟩; replace H := H.call hb; clear hb))
          go_roundw
          case rel => exact ⟨j + 1, by omega, by go_num, Hnext, H.sub (by (repeat (first | with_reducible exact List.Sublist.refl _ | with_reducible refine List.Sublist.cons_cons _ ?_ | refine List.Sublist.cons _ ?_)))⟩
          case measure => simp [intOf]; omega
      · have hjn : j = n := by omega
        subst hjn
        have Hres : Hid (bSame L M = true) := Lib.hid (by rw [I.out]; exact bSame_end (by rw [Hn.out]; exact Nat.le_refl _) (by rw [Hn'.out]; exact Nat.le_refl _))
        go_wp2_with (first | go_skip | ((with_reducible apply ld_rec); rfl; rfl; (first | (focus (apply H.rc; (repeat (first | with_reducible exact mH | with_reducible apply mT)); done)) | (apply RecAt.bel (hb := H.bel); assumption))) | ((with_reducible apply al_rec H); clear H; intro wn b H) | ((with_reducible apply st_rec H); rfl; rfl; rfl; (repeat (first | with_reducible apply Upd.head | with_reducible apply Upd.tail)); (first | assumption | (refine Hid.out ?_; assumption)); (first | rfl | assumption | (refine Hid.out ?_; assumption)); clear H; intro wn H) | (go_at_call 58; (with_reducible refine (rsameD hok.out hok'.out hq.out _ (Hf.out.below H.bel) (Hf'.out.below H.bel)).mono ?_); rintro e wn ⟨rfl, hb⟩; replace H := H.call hb; clear hb))
        all_goals first | (rw [Exit.noGoto_ret]; go_ret) | go_ret
        all_goals exact ⟨by rw [Hres.out]; rfl, H.bel⟩
  · have Hres : Hid (bSame L M = false) := Lib.hid (bSame_len (by rw [Hn.out, Hn'.out]; exact hne))
    have hne2 : ((n : Int) == (n' : Int)) = false := by simp; omega
    go_enter Tryz.func57, Tryz.ntmps57
    go_wp2_with (first | go_skip | fail)
    all_goals first | (rw [Exit.noGoto_ret]; go_ret) | go_ret
    all_goals exact ⟨by rw [Hres.out]; rfl, H.bel⟩
theorem bkeq_v {v v' : Value} {L M : BK} {q : Bool} (h : bSame L M = q) (w : World) (hv : Recs w v L) (hv' : Recs w v' M) : Calls Tryz.prog 57 #[v, v', .func (.func 58) #[] #[]] w fun e w' => e = .returned (.bool q) ∧ Below w.heap.size w w' := by subst h; exact bkeq_c v v' L M w hv hv'
set_option maxHeartbeats 1600000 in
theorem bksame_v {v v' : Value} {L M : BK} {q : Bool} (h : bSame L M = q) (w : World) (hv : Recs w v L) (hv' : Recs w v' M) : Calls Tryz.prog 19 #[.agg #[v], .agg #[v']] w fun e w' => e = .returned (.bool q) ∧ Below w.heap.size w w' := by
  have Hq := Lib.hid h; have Hv := Lib.hid hv; have Hv' := Lib.hid hv'; clear h hv hv'
  have H := St.init w
  go_enter Tryz.func19, Tryz.ntmps19
  go_wp2_with (first | go_skip | ((fail_if_success have := kA); (with_reducible apply arm_box H); rfl; clear H; intro wn kA H) | ((fail_if_success have := kB); (with_reducible apply arm_box H); rfl; clear H; intro wn kB H) | ((with_reducible apply ld_one (ty := 22) Tryz.underlying22 rfl); rfl; rfl; (focus (apply H.one; (repeat (first | with_reducible exact mH | with_reducible apply mT)); done))) | (go_at_call 57; (with_reducible refine (bkeq_v Hq.out _ (Hv.out.below H.bel) (Hv'.out.below H.bel)).mono ?_); rintro e wn ⟨rfl, hb⟩; replace H := H.call hb; clear hb))
  all_goals first | (rw [Exit.noGoto_ret]; go_ret) | go_ret
  exact ⟨rfl, H.bel⟩
end Go.Proofs.YtolbmemogoojhaaGreat
/- A record of its own; a record found. -/
namespace Go.Proofs.YtolbmemogoojhaaGreat
open Go Go.RowKit Go.Deep
set_option linter.unusedVariables false
set_option linter.unusedSimpArgs false
set_option maxRecDepth 100000
theorem eql_nilF (W : World) (a : Option Addr) (l c : Nat) : (binOp .eql 31 (.slice a l c) (.slice none 0 0)).run Tryz.prog W = .ok (.bool a.isNone) W := by
  have h : (Op.equal 31 (.slice a l c) (.slice none 0 0)).run Tryz.prog W = .ok a.isNone W := run_equal_slice_nil W _ _ a l c Tryz.underlying31
  simp [binOp, h]
section
variable {P : Program} {ops : Array Oper} {rest : List Oper} {a : Act} {w0 w : World} {Q : Exit → Act → World → Prop} {Γ : List Res} {dst : Option Tmp} {ty typ : TypeId} {x : Operand} {pos : String} {af : Array Edge}
theorem run_buildSlice0 (t e : TypeId) (i : TypeInfo) (hu : P.underlying t = some (.slice e)) (hi : P.info? e = some i) (w : World) : (Instr.buildSlice t 0 #[]).run P w = .ok (.slice (some ⟨w.heap.size, 0, none⟩) 0 0) (w.alloc (.cells #[] e)) := by
  simp [Instr.buildSlice, run_underlying hu, sizeOf, typeInfo, hi, Instr.fill, newRow, show Array.range 0 = #[] from rfl]
/-- An empty slice that is not nil. -/
theorem arm_bslice0 (H : St w0 w Γ) {t e : TypeId} {z : Value} {size bytes : Nat} (hu : P.underlying t = some (.slice e)) (hinfo : (P.info? e).map (fun i => (i.zero, i.size, i.bytes)) = some (some z, size, bytes))
    (h : ∀ w' b, St w0 w' (Res.row e size (.slice (some ⟨b, 0, none⟩) 0 0) 0 [] :: Γ) → wpList P ops Q rest (a.put dst (.slice (some ⟨b, 0, none⟩) 0 0)) w') : wpList P ops Q (⟨dst, .buildSlice t 0 #[], typ, pos, af, none⟩ :: rest) a w := by
  obtain ⟨i, hi, hzz⟩ := Option.map_eq_some_iff.1 hinfo
  refine wpList_run rfl _ _ ?_ (h _ _ (H.rowIn (bel_alloc (Below.refl _ _) _) ⟨by simp, .inr ⟨w.heap.size, 0, #[], rfl, Nat.le_refl _, World.alloc_heap_new w _, Nat.le_refl _, by decide, by simp, by simp⟩⟩))
  unfold execOp
  simp only [List.map_toArray, List.map_nil, Sem.run_bind, run_buildSlice0 t e i hu hi w, Result.andThen_ok, Sem.run_pure]
end
section
variable {ops : Array Oper} {rest : List Oper} {a : Act} {w : World} {Q : Exit → Act → World → Prop} {dst : Option Tmp} {ty typ : TypeId} {x : Operand} {pos : String} {af : Array Edge}
theorem bd_rec0 (h : wpList Tryz.prog ops Q rest (a.put dst (.agg (rA noRD (.slice none 0 0)))) w) : wpList Tryz.prog ops Q (⟨dst, .build 33 #[], typ, pos, af, none⟩ :: rest) a w :=
  wpList_build_to rfl 33 #[] rfl dst rfl _ (by simp only [List.map_toArray, List.map_nil]; exact noA_built) h
end
theorem results_cell_one {P : Program} {fn : Func} {p : Tmp} {ty : TypeId} (h : fn.results = #[.cell p ty]) (tmps : Array Value) (w : World) (g : Nat) (cs : Array Value) (d : TypeDesc)
    (hp : tmps.getD p undef = .pointer (some ⟨g, 0, none⟩)) (hg : Sub w g 0 cs) (hu : P.underlying ty = some d) (hd : (match d with | .struct _ | .array _ _ => true | _ => false) = true) (hi : (P.info? ty).map (·.size) = some cs.size) :
    (results fn tmps).run P w = .ok (.agg cs) w := by
  have hp' : tmps[p]?.getD undef = .pointer (some ⟨g, 0, none⟩) := by simpa using hp
  simp [results, h, hp', asAddr, run_load_sub w g 0 ty cs d hg hu hd hi]
set_option maxHeartbeats 1600000 in
theorem bkclone_c (v : Value) (l : List F4) (hb : l.length ≤ 1000) (w : World) (hv : Flds w v l) : Calls Tryz.prog 84 #[v] w fun e w' => ∃ s, e = .returned s ∧ St w w' [Res.row 82 4 s l.length (fieldsL l)] := by
  obtain ⟨hl, a, c, rfl, h1, h2, h3, h4⟩ := id hv
  have heq := eql_nilF
  have Hv := Lib.hid hv
  have hm : l.length ≤ maxLen := hv.len_le
  have Hm := Lib.hid hm; have Hb := Lib.hid hb; clear hb; have HL := Lib.hid h4; clear hv hm hl h1 h2 h4
  have H := St.init w
  cases a with
  | none =>
    have hc0 := h3 rfl
    have hl0 : Hid (l = []) := Lib.hid (by
      cases l with
      | nil => rfl
      | cons f l => obtain ⟨b, off, he, _⟩ := HL.out (by simp [fieldsL]); cases he)
    clear h3 hc0
    go_enter Tryz.func84, Tryz.ntmps84
    go_wp2_with (first | go_skip | fail)
    all_goals first | (rw [Exit.noGoto_ret]; go_ret) | go_ret
    all_goals (rw [hl0.out]; exact ⟨_, rfl, H.nilRow _ _⟩)
  | some ad =>
    clear h3
    go_enter Tryz.func84, Tryz.ntmps84
    go_wp2_with (first | go_skip | ((with_reducible apply arm_bslice0 H (hu := Tryz.underlying31) (hinfo := info_field)); clear H; intro wn b H) | ((with_reducible apply arm_app H (ht := Tryz.underlying31) (hinfo := info_field) (hzs := rfl) (hsz := by decide)); (conv => lhs; whnf); (conv => lhs; whnf); (intro v; (repeat (first | with_reducible apply Upd.head | with_reducible apply Upd.tail))); (focus (exact Hv.out.below H.bel; done)); (focus (exact fieldsL_one _; done)); (focus (rw [Nat.zero_add]; exact Hm.out; done)); (focus (rw [Nat.zero_add]; have := Hb.out; omega; done)); clear H; intro wn vn H))
    all_goals first | (rw [Exit.noGoto_ret]; go_ret) | go_ret
    all_goals (have H := H; simp only [Nat.zero_add, List.nil_append] at H; exact ⟨vn, rfl, H⟩)
set_option maxHeartbeats 1600000 in
theorem own_c (r : RD) (s : Value) (hr : r.ok) (hb : r.f.length ≤ 1000) (w : World) (hv : Flds w s r.f) : Calls Tryz.prog 49 #[.agg (rA r s)] w fun e w' => ∃ s', e = .returned (.agg (rA r s')) ∧ St w w' [Res.row 82 4 s' r.f.length (fieldsL r.f)] := by
  have Hok := Lib.hid hr; have Hb := Lib.hid hb; have Hv := Lib.hid hv; have Hone : Hid (s.oneCell' = true) := Lib.hid (flds_one hv); clear hr hb hv
  have H := St.init w
  go_enter Tryz.func49, Tryz.ntmps49
  go_wp2_with (first | go_skip | ((fail_if_success have := kA); (with_reducible apply bx_rec H); rfl; (first | assumption | (refine Hid.out ?_; assumption)); clear H; intro wn kA H) | ((fail_if_success have := kR); (with_reducible apply al_rec H); clear H; intro wn kR H) | ((with_reducible apply ld_F); rfl; rfl; (first | (focus (apply H.rc; (repeat (first | with_reducible exact mH | with_reducible apply mT)); done)) | (apply RecAt.bel (hb := H.bel); assumption))) | ((with_reducible apply ld_rec); rfl; rfl; (first | (focus (apply H.rc; (repeat (first | with_reducible exact mH | with_reducible apply mT)); done)) | (apply RecAt.bel (hb := H.bel); assumption))) | (go_at_call 84; (with_reducible refine (bkclone_c _ _ Hb.out _ (Hv.out.below H.bel)).mono ?_); rintro e wn ⟨sj, rfl, hs⟩; replace H := H.comp hs; clear hs; simp only [List.cons_append, List.nil_append] at H; have T1 : Hid (sj.oneCell' = true) := Lib.hid (by obtain ⟨_, _, _, rfl⟩ := H.rowSlice mH; rfl)) | ((with_reducible apply st_F H); rfl; rfl; (conv => lhs; whnf); (repeat (first | with_reducible apply Upd.head | with_reducible apply Upd.tail)); (first | exact ⟨_, _, _, rfl⟩ | (focus (apply H.rowSlice; (repeat (first | with_reducible exact mH | with_reducible apply mT)); done))); clear H; intro wn H) | ((with_reducible apply st_rec H); rfl; rfl; rfl; (repeat (first | with_reducible apply Upd.head | with_reducible apply Upd.tail)); (first | assumption | (refine Hid.out ?_; assumption)); (first | rfl | assumption | (refine Hid.out ?_; assumption)); clear H; intro wn H))
  all_goals first | (rw [Exit.noGoto_ret]) | skip
  have hR := (H.rc (b := kR) (r := r) (s := sj) (by (repeat (first | with_reducible exact mH | with_reducible apply mT)))).1
  exact bodyPost_ret (results_cell_one Tryz.results49 _ _ kR (rA r sj) _ rfl hR Tryz.underlying33 rfl (rA_info Hok.out)) rfl ⟨sj, rfl, H.sub (by (repeat (first | with_reducible exact List.Sublist.refl _ | with_reducible refine List.Sublist.cons_cons _ ?_ | refine List.Sublist.cons _ ?_)))⟩
end Go.Proofs.YtolbmemogoojhaaGreat
