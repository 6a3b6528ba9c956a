/- What the reader of a book's bytes reads: a record. -/
import Derived.Test.YtolbmemogoojhaaGreatKCanD
namespace Go.Proofs.YtolbmemogoojhaaGreat
open Go Go.RowKit Go.Deep
set_option linter.unusedVariables false
set_option linter.unusedSimpArgs false
set_option maxRecDepth 100000
/-- A record that has no field yet. -/
def r0 (key : IDK) (N R : Int) : RD := ⟨key.1, N, R, []⟩
theorem r0_ok (key : IDK) (N R : Int) : (r0 key N R).ok := key.2
section
variable {ops : Array Oper} {rest : List Oper} {a : Act} {w0 w : World} {Q : Exit → Act → World → Prop} {Γ Γ' : List Res} {dst : Option Tmp} {typ t : TypeId} {x y : Operand} {pos : String} {af : Array Edge} {gd : Option (Nat × Bool)} {b off : Nat} {N R : Int}
theorem built_id0 {A : Array Value} (h : A.size = 16) : Tryz.prog.built 33 [(0, .agg A)] = some (recA A 0 0 (.slice none 0 0)) := by
  obtain ⟨a0, a1, a2, a3, a4, a5, a6, a7, a8, a9, a10, a11, a12, a13, a14, a15, rfl⟩ := arr16 h
  kernel_rfl
theorem bd_recI {key : IDK} (hx : a.eval x = encK key) (h : wpList Tryz.prog ops Q rest (a.put dst (.agg (rA (r0 key 0 0) (.slice none 0 0)))) w) :
    wpList Tryz.prog ops Q (⟨dst, .build 33 #[(0, x)], typ, pos, af, none⟩ :: rest) a w :=
  wpList_build_to rfl 33 #[(0, x)] rfl dst rfl _ (by simp only [List.map_toArray, List.map_cons, List.map_nil, hx]; exact built_id0 (encU_arr16 key.2)) h
theorem ld_stp2 (hw : Region.wanted (⟨dst, .load 30 x, typ, pos, af, gd⟩ : Oper) (yielded ops a.tmps) = true) (hx : a.eval x = .pointer (some ⟨b, off, none⟩)) (h : Sub w b off #[.int .i64 N, .int .i64 R]) (q : wpList Tryz.prog ops Q rest (a.put dst (.agg #[.int .i64 N, .int .i64 R])) w) : wpList Tryz.prog ops Q (⟨dst, .load 30 x, typ, pos, af, gd⟩ :: rest) a w :=
  arm_ld hw hx h Tryz.underlying30 rfl stamp_info q
end
theorem gRec_short {bs : List UInt8} (h : bs.length < 16) : gRec bs = none := by unfold gRec; rw [if_pos h]
theorem gRec_stamp {bs : List UInt8} (h : stGet (bs.drop 16) = (0, 0, 0, false)) : gRec bs = none := by
  unfold gRec
  rw [h]
  split <;> simp
theorem gRec_eq {bs : List UInt8} {N R : Int} {u : Nat} (hl : 16 ≤ bs.length) (hs : stGet (bs.drop 16) = (N, R, u, true)) :
    gRec bs = match gMany 8 ((bs.drop 16).drop u) with
      | none => none
      | some (n, t) => (gList gField n t).map fun p => (⟨bs.take 16, N, R, p.1⟩, p.2) := by
  unfold gRec
  rw [if_neg (by omega), hs]
  simp only [if_true]
  cases gMany 8 ((bs.drop 16).drop u) with
  | none => rfl
  | some p =>
    obtain ⟨n, t⟩ := p
    simp only
    cases gList gField n t with
    | none => rfl
    | some p => rfl
/-- What a record's reading gives. -/
def RecP (w0 : World) (Γ : List Res) (kr : Nat) (o : Option (RD × List UInt8)) (e : Ending) (w' : World) : Prop :=
  match o with
  | none => e = .panicked [wrongP] ∧ St w0 w' Γ
  | some (r, t) => ∃ s vd, e = .returned (.agg (rA r s)) ∧ Byt w0 vd t ∧ s.oneCell' = true ∧ St w0 w' (Res.blk kr 108 #[vd] :: Res.row 82 4 s r.f.length (fieldsL r.f) :: Γ)
set_option maxHeartbeats 25600000 in
theorem record_c {w0 w : World} {Γ : List Res} {kr : Nat} {vs : Value} {bs : List UInt8} (H : St w0 w (Res.blk kr 108 #[vs] :: Γ)) (hv : Byt w0 vs bs) :
    Calls Tryz.prog 78 #[.pointer (some ⟨kr, 0, none⟩)] w (RecP w0 Γ kr (gRec bs)) := by
  have hmf : ∀ (fn : Fn) (first cap : Array Value) (w : World), (Instr.makeFunc fn first cap).run Tryz.prog w = .ok (.func fn first cap) w := fun _ _ _ _ => rfl
  have Hv := Lib.hid hv; clear hv
  by_cases hl : bs.length < 16
  · have hres : Hid (RecP w0 Γ kr (gRec bs) = fun e w' => e = .panicked [wrongP] ∧ St w0 w' Γ) := Lib.hid (by rw [gRec_short hl]; rfl)
    rw [hres.out]; clear hres
    have Hl := Lib.hid hl; clear hl
    go_enter Tryz.func78, Tryz.ntmps78
    go_wp2_with (first | go_skip | ((fail_if_success have := kX); (with_reducible apply al_rec H); clear H; intro wn kX H; replace H := H.swap) | (go_at_call 112; (with_reducible refine (must_no 16 z16 true H Hv.out (.inr Hl.out)).mono ?_); rintro e wn ⟨rfl, H2⟩; replace H := H2; clear H2))
    all_goals exact ⟨rfl, rfl, H.sub (by (repeat (first | with_reducible exact List.Sublist.refl _ | with_reducible refine List.Sublist.cons_cons _ ?_ | refine List.Sublist.cons _ ?_)))⟩
  have Hlen : Hid (16 ≤ bs.length) := Lib.hid (by omega)
  have hat : ∀ (b off c : Nat) W, (Instr.arrayAt 26 (.slice (some ⟨b, off, none⟩) 16 c)).run Tryz.prog W = .ok (.pointer (some ⟨b, off, none⟩)) W := fun b off c W => run_arrayAt W _ _ 16 _ _ _ Tryz.underlying26 (Nat.le_refl _)
  obtain ⟨key, hkey⟩ : ∃ key : IDK, bs.take 16 = key.1 := ⟨⟨bs.take 16, by rw [List.length_take]; omega⟩, rfl⟩
  have Hkey := Lib.hid hkey; clear hkey hl
  have Hok0 : Hid (r0 key 0 0).ok := Lib.hid (r0_ok _ _ _)
  rcases st_back2 (bs.drop 16) with hs | ⟨N, R, u, hs, _, _, hu, _⟩
  · have hres : Hid (RecP w0 Γ kr (gRec bs) = fun e w' => e = .panicked [wrongP] ∧ St w0 w' Γ) := Lib.hid (by rw [gRec_stamp hs]; rfl)
    rw [hres.out]; clear hres
    have Hs := Lib.hid hs; clear hs
    go_enter Tryz.func78, Tryz.ntmps78
    go_wp2_with (first | go_skip | ((fail_if_success have := kX); (with_reducible apply al_rec H); clear H; intro wn kX H; replace H := H.swap) | (go_at_call 112; (fail_if_success have := Hd1); (with_reducible refine (must_at 16 z16 H Hv.out (by decide) Hlen.out).mono ?_); rintro e wn ⟨pb, po, pc, vd1, rfl, hs, hd, H2⟩; have Hs16 := Lib.hid hs; have Hd1 := Lib.hid hd; clear hs hd; replace H := H2; clear H2) | ((with_reducible refine ld_idS (k := key) ?_ ?_ (by rw [← Hkey.out]; exact Hs16.out.keep H.bel) ?_); rfl; rfl) | ((with_reducible apply bd_recI (key := key)); rfl) | ((fail_if_success have := kR); (with_reducible apply al_rec H); clear H; intro wn kR H; replace H := H.swap) | ((with_reducible apply st_rec H); rfl; rfl; rfl; (repeat (first | with_reducible apply Upd.head | with_reducible apply Upd.tail)); (first | assumption | (refine Hid.out ?_; assumption)); (first | rfl | assumption | (refine Hid.out ?_; assumption)); clear H; intro wn H) | ((with_reducible apply ld_one (ty := 58) Tryz.underlying58 rfl); rfl; rfl; (focus (apply H.one; (repeat (first | with_reducible exact mH | with_reducible apply mT)); done))) | (go_at_call 113; (with_reducible refine (stget_m _ _ _ (Hd1.out.below H.bel) _ _ _ _ Hs.out).mono ?_); rintro e wn ⟨rfl, hb⟩; replace H := H.call hb; clear hb) | ((fail_if_success have := kS); (with_reducible apply al_stp H); clear H; intro wn kS H; replace H := H.swap) | ((with_reducible apply st_stamp H); rfl; rfl; rfl; (repeat (first | with_reducible apply Upd.head | with_reducible apply Upd.tail)); clear H; intro wn H) | (go_at_call 112; (with_reducible refine (must_no 0 z0 false H Hd1.out (.inl rfl)).mono ?_); rintro e wn ⟨rfl, H2⟩; replace H := H2; clear H2))
    all_goals exact ⟨rfl, rfl, H.sub (by (repeat (first | with_reducible exact List.Sublist.refl _ | with_reducible refine List.Sublist.cons_cons _ ?_ | refine List.Sublist.cons _ ?_)))⟩
  have Hok : Hid (r0 key N R).ok := Lib.hid (r0_ok _ _ _)
  have hge := gRec_eq Hlen.out hs
  have Hs := Lib.hid hs; have Hu := Lib.hid hu; clear hs hu
  cases hm : gMany 8 ((bs.drop 16).drop u) with
  | none =>
    have hres : Hid (RecP w0 Γ kr (gRec bs) = fun e w' => e = .panicked [wrongP] ∧ St w0 w' Γ) := Lib.hid (by rw [hge, hm]; rfl)
    rw [hres.out]; clear hres hge
    have Hm := Lib.hid hm; clear hm
    go_enter Tryz.func78, Tryz.ntmps78
    go_wp2_with (first | go_skip | ((fail_if_success have := kX); (with_reducible apply al_rec H); clear H; intro wn kX H; replace H := H.swap) | (go_at_call 112; (fail_if_success have := Hd1); (with_reducible refine (must_at 16 z16 H Hv.out (by decide) Hlen.out).mono ?_); rintro e wn ⟨pb, po, pc, vd1, rfl, hs, hd, H2⟩; have Hs16 := Lib.hid hs; have Hd1 := Lib.hid hd; clear hs hd; replace H := H2; clear H2) | ((with_reducible refine ld_idS (k := key) ?_ ?_ (by rw [← Hkey.out]; exact Hs16.out.keep H.bel) ?_); rfl; rfl) | ((with_reducible apply bd_recI (key := key)); rfl) | ((fail_if_success have := kR); (with_reducible apply al_rec H); clear H; intro wn kR H; replace H := H.swap) | ((with_reducible apply st_rec H); rfl; rfl; rfl; (repeat (first | with_reducible apply Upd.head | with_reducible apply Upd.tail)); (first | assumption | (refine Hid.out ?_; assumption)); (first | rfl | assumption | (refine Hid.out ?_; assumption)); clear H; intro wn H) | ((with_reducible apply ld_one (ty := 58) Tryz.underlying58 rfl); rfl; rfl; (focus (apply H.one; (repeat (first | with_reducible exact mH | with_reducible apply mT)); done))) | (go_at_call 113; (with_reducible refine (stget_m _ _ _ (Hd1.out.below H.bel) _ _ _ _ Hs.out).mono ?_); rintro e wn ⟨rfl, hb⟩; replace H := H.call hb; clear hb) | ((fail_if_success have := kS); (with_reducible apply al_stp H); clear H; intro wn kS H; replace H := H.swap) | ((with_reducible apply st_stamp H); rfl; rfl; rfl; (repeat (first | with_reducible apply Upd.head | with_reducible apply Upd.tail)); clear H; intro wn H) | (go_at_call 112; (fail_if_success have := Hd2); (with_reducible refine (must_yes u rfl H Hd1.out Hu.out).mono ?_); rintro e wn ⟨vt, vd2, rfl, -, hd, H2⟩; have Hd2 := Lib.hid hd; clear hd; replace H := H2; clear H2) | ((with_reducible apply ld_stp2); rfl; rfl; (focus (apply H.arr (t := 30); (repeat (first | with_reducible exact mH | with_reducible apply mT)); done))) | ((with_reducible apply st_dead H); rfl; rfl; rfl; (repeat (first | with_reducible apply Upd.head | with_reducible apply Upd.tail)); clear H; intro wn H) | (go_at_call 77; (with_reducible refine (many_no z8 ge8 Hm.out H Hd2.out).mono ?_); rintro e wn ⟨rfl, H2⟩; replace H := H2; clear H2))
    all_goals exact ⟨rfl, rfl, H.sub (by (repeat (first | with_reducible exact List.Sublist.refl _ | with_reducible refine List.Sublist.cons_cons _ ?_ | refine List.Sublist.cons _ ?_)))⟩
  | some p =>
    obtain ⟨nf, t2⟩ := p
    obtain ⟨o, ho⟩ : ∃ o, gList gField nf t2 = o := ⟨_, rfl⟩
    have hres : Hid (RecP w0 Γ kr (gRec bs) = RecP w0 Γ kr (o.map fun p => (⟨key.1, N, R, p.1⟩, p.2))) := Lib.hid (by rw [hge, hm, ← Hkey.out]; simp only; rw [ho])
    rw [hres.out]; clear hres hge
    have Hnf : Hid (nf ≤ 8) := Lib.hid (gMany_get hm).1
    have Hm := Lib.hid hm; have Ho := Lib.hid ho; clear hm ho
    go_enter Tryz.func78, Tryz.ntmps78
    go_wp2_with (first | go_skip | ((fail_if_success have := kX); (with_reducible apply al_rec H); clear H; intro wn kX H; replace H := H.swap) | (go_at_call 112; (fail_if_success have := Hd1); (with_reducible refine (must_at 16 z16 H Hv.out (by decide) Hlen.out).mono ?_); rintro e wn ⟨pb, po, pc, vd1, rfl, hs, hd, H2⟩; have Hs16 := Lib.hid hs; have Hd1 := Lib.hid hd; clear hs hd; replace H := H2; clear H2) | ((with_reducible refine ld_idS (k := key) ?_ ?_ (by rw [← Hkey.out]; exact Hs16.out.keep H.bel) ?_); rfl; rfl) | ((with_reducible apply bd_recI (key := key)); rfl) | ((fail_if_success have := kR); (with_reducible apply al_rec H); clear H; intro wn kR H; replace H := H.swap) | ((with_reducible apply st_rec H); rfl; rfl; rfl; (repeat (first | with_reducible apply Upd.head | with_reducible apply Upd.tail)); (first | assumption | (refine Hid.out ?_; assumption)); (first | rfl | assumption | (refine Hid.out ?_; assumption)); clear H; intro wn H) | ((with_reducible apply ld_one (ty := 58) Tryz.underlying58 rfl); rfl; rfl; (focus (apply H.one; (repeat (first | with_reducible exact mH | with_reducible apply mT)); done))) | (go_at_call 113; (with_reducible refine (stget_m _ _ _ (Hd1.out.below H.bel) _ _ _ _ Hs.out).mono ?_); rintro e wn ⟨rfl, hb⟩; replace H := H.call hb; clear hb) | ((fail_if_success have := kS); (with_reducible apply al_stp H); clear H; intro wn kS H; replace H := H.swap) | ((with_reducible apply st_stamp H); rfl; rfl; rfl; (repeat (first | with_reducible apply Upd.head | with_reducible apply Upd.tail)); clear H; intro wn H) | (go_at_call 112; (fail_if_success have := Hd2); (with_reducible refine (must_yes u rfl H Hd1.out Hu.out).mono ?_); rintro e wn ⟨vt, vd2, rfl, -, hd, H2⟩; have Hd2 := Lib.hid hd; clear hd; replace H := H2; clear H2) | ((with_reducible apply ld_stp2); rfl; rfl; (focus (apply H.arr (t := 30); (repeat (first | with_reducible exact mH | with_reducible apply mT)); done))) | ((with_reducible apply st_dead H); rfl; rfl; rfl; (repeat (first | with_reducible apply Upd.head | with_reducible apply Upd.tail)); clear H; intro wn H) | (go_at_call 77; (fail_if_success have := Hdm); (with_reducible refine (many_yes z8 ge8 Hm.out H Hd2.out).mono ?_); rintro e wn ⟨vd3, rfl, hd, H2⟩; have Hdm := Lib.hid hd; clear hd; replace H := H2; clear H2))
    rw [show (⟨(r0 key 0 0).id, N, R, (r0 key 0 0).f⟩ : RD) = r0 key N R from rfl] at H
    go_loopw [32] (fun i wr => ∃ (j : Nat) (acc : List F4) (t : List UInt8) (s vd : Value), j ≤ nf ∧ i = .int .i64 j ∧ Hid (acc.length = j) ∧ Hid (pre acc (gList gField (nf - j) t) = o) ∧ Hid (Byt w0 vd t) ∧ St w0 wr (Res.blk kr 108 #[vd] :: Res.row 82 4 s acc.length (fieldsL acc) :: Res.rc kR (r0 key N R) s :: Res.rc kX noRD (.slice none 0 0) :: Γ)) (fun i _ => nf - (intOf i).toNat)
    case atStart => exact ⟨0, [], t2, .slice none 0 0, vd3, by omega, rfl, Lib.hid rfl, Lib.hid (by rw [pre_nil]; exact Ho.out), Hdm, ((H.sub (Γ' := Res.blk kr 108 #[vd3] :: Res.rc kR (r0 key N R) (.slice none 0 0) :: Res.rc kX noRD (.slice none 0 0) :: Γ) (by (repeat (first | with_reducible exact List.Sublist.refl _ | with_reducible refine List.Sublist.cons_cons _ ?_ | refine List.Sublist.cons _ ?_)))).nilRow _ _).swap⟩
    case round =>
      clear H
      obtain ⟨j, acc, t, s, vd, hj, rfl, hacc, I, Hvd, H⟩ := hrel
      have Hone : Hid (s.oneCell' = true) := Lib.hid (by obtain ⟨_, _, _, rfl⟩ := H.rowSlice (n := acc.length) (cs := fieldsL acc) (by (repeat (first | with_reducible exact mH | with_reducible apply mT))); rfl)
      by_cases hlt : j < nf
      · obtain ⟨m, hm⟩ : ∃ m, nf - j = m + 1 := ⟨nf - j - 1, by omega⟩
        have hn8 := Hnf.out
        have HLn : Hid (acc.length ≤ 8) := Lib.hid (by have := hacc.out; omega)
        cases hg : gField t with
        | none =>
          have ho : Hid (o = none) := Lib.hid (by rw [← I.out, hm, pre_none hg])
          have Hg := Lib.hid hg; clear hg
          go_wp2_with (first | go_skip)
          (try simp only [Act.put, List.setIfInBounds_toArray, List.set_cons_zero, List.set_cons_succ])
          refine wp_till (fun W => RecAt W kR 0 (r0 key N R) s) 7 (by kernel_rfl) (fun wn hb => ?_)
          replace H := H.call hb; clear hb
          have hS : (fun W => RecAt W kR 0 (r0 key N R) s) wn := H.rc (by (repeat (first | with_reducible exact mH | with_reducible apply mT)))
          refine till_take 0 (.pointer (some ⟨kR, 18, none⟩)) rfl (by kernel_rfl) (fun _ _ _ h => h) rfl (fun W hW => rfl) hS ?_
          (try simp only [List.getElem_toArray, List.getElem_cons_succ, List.getElem_cons_zero, Act.put, List.setIfInBounds_toArray, List.set_cons_zero, List.set_cons_succ])
          refine till_take 1 (s) rfl (by kernel_rfl) (fun _ _ _ h => h) rfl (fun W hW => ex_ldF rfl hW) hS ?_
          (try simp only [List.getElem_toArray, List.getElem_cons_succ, List.getElem_cons_zero, Act.put, List.setIfInBounds_toArray, List.set_cons_zero, List.set_cons_succ])
          refine till_take 2 (.func (.func 114) #[.pointer (some ⟨kr, 0, none⟩)] #[]) rfl (by kernel_rfl) (fun _ _ _ h => h) rfl (fun W hW => rfl) hS ?_
          (try simp only [List.getElem_toArray, List.getElem_cons_succ, List.getElem_cons_zero, Act.put, List.setIfInBounds_toArray, List.set_cons_zero, List.set_cons_succ])
          refine till_next 3 rfl (by kernel_rfl) ?_
          clear hS
          (try simp only [List.getElem_toArray, List.getElem_cons_succ, List.getElem_cons_zero, Act.put, List.setIfInBounds_toArray, List.set_cons_zero, List.set_cons_succ])
          go_wp2_with (first | go_skip | (go_at_call 114; (with_reducible refine (field_no Hg.out H Hvd.out).mono ?_); rintro e wn ⟨rfl, H2⟩; replace H := H2; clear H2))
          skip
          exact ⟨rfl, by rw [ho.out]; exact ⟨rfl, H.sub (by (repeat (first | with_reducible exact List.Sublist.refl _ | with_reducible refine List.Sublist.cons_cons _ ?_ | refine List.Sublist.cons _ ?_)))⟩⟩
        | some p =>
          obtain ⟨⟨no, fN, fR, fS⟩, t'⟩ := p
          have I1 : Hid (pre (acc ++ [(no, fN, fR, fS)]) (gList gField (nf - (j + 1)) t') = o) := Lib.hid (by rw [← I.out, hm, pre_some hg, show nf - (j + 1) = m by omega])
          have Hg := Lib.hid hg; clear hg
          go_wp2_with (first | go_skip)
          (try simp only [Act.put, List.setIfInBounds_toArray, List.set_cons_zero, List.set_cons_succ])
          refine wp_till (fun W => RecAt W kR 0 (r0 key N R) s) 7 (by kernel_rfl) (fun wn hb => ?_)
          replace H := H.call hb; clear hb
          have hS : (fun W => RecAt W kR 0 (r0 key N R) s) wn := H.rc (by (repeat (first | with_reducible exact mH | with_reducible apply mT)))
          refine till_take 0 (.pointer (some ⟨kR, 18, none⟩)) rfl (by kernel_rfl) (fun _ _ _ h => h) rfl (fun W hW => rfl) hS ?_
          (try simp only [List.getElem_toArray, List.getElem_cons_succ, List.getElem_cons_zero, Act.put, List.setIfInBounds_toArray, List.set_cons_zero, List.set_cons_succ])
          refine till_take 1 (s) rfl (by kernel_rfl) (fun _ _ _ h => h) rfl (fun W hW => ex_ldF rfl hW) hS ?_
          (try simp only [List.getElem_toArray, List.getElem_cons_succ, List.getElem_cons_zero, Act.put, List.setIfInBounds_toArray, List.set_cons_zero, List.set_cons_succ])
          refine till_take 2 (.func (.func 114) #[.pointer (some ⟨kr, 0, none⟩)] #[]) rfl (by kernel_rfl) (fun _ _ _ h => h) rfl (fun W hW => rfl) hS ?_
          (try simp only [List.getElem_toArray, List.getElem_cons_succ, List.getElem_cons_zero, Act.put, List.setIfInBounds_toArray, List.set_cons_zero, List.set_cons_succ])
          refine till_next 3 rfl (by kernel_rfl) ?_
          clear hS
          (try simp only [List.getElem_toArray, List.getElem_cons_succ, List.getElem_cons_zero, Act.put, List.setIfInBounds_toArray, List.set_cons_zero, List.set_cons_succ])
          go_wp2_with (first | go_skip | (go_at_call 114; (fail_if_success have := Hd3); (with_reducible refine (field_yes Hg.out H Hvd.out).mono ?_); rintro e wn ⟨vd3, rfl, hd, H2⟩; have Hd3 := Lib.hid hd; clear hd; replace H := H2; clear H2))
          refine ⟨.inr (H.rc (by (repeat (first | with_reducible exact mH | with_reducible apply mT)))), ?_⟩
          have hS : (fun W => RecAt W kR 0 (r0 key N R) s) _ := (H.rc (by (repeat (first | with_reducible exact mH | with_reducible apply mT))))
          refine till_next 4 rfl (by kernel_rfl) ?_
          clear hS
          (try simp only [List.getElem_toArray, List.getElem_cons_succ, List.getElem_cons_zero, Act.put, List.setIfInBounds_toArray, List.set_cons_zero, List.set_cons_succ])
          go_wp2_with (first | go_skip | ((fail_if_success have := kU); (with_reducible apply bs_fld3 H); rfl; clear H; intro wn kU H))
          refine ⟨.inr (H.rc (by (repeat (first | with_reducible exact mH | with_reducible apply mT)))), ?_⟩
          have hS : (fun W => RecAt W kR 0 (r0 key N R) s) _ := (H.rc (by (repeat (first | with_reducible exact mH | with_reducible apply mT))))
          refine till_next 5 rfl (by kernel_rfl) ?_
          clear hS
          (try simp only [List.getElem_toArray, List.getElem_cons_succ, List.getElem_cons_zero, Act.put, List.setIfInBounds_toArray, List.set_cons_zero, List.set_cons_succ])
          go_wp2_with (first | go_skip | ((with_reducible apply arm_app H (ht := Tryz.underlying31) (hinfo := info_field) (hzs := rfl) (hsz := by decide)); (conv => lhs; whnf); (conv => lhs; whnf); (intro v; (repeat (first | with_reducible apply Upd.head | with_reducible apply Upd.tail))); (focus (apply H.rowRead; (repeat (first | with_reducible exact mH | with_reducible apply mT)); done)); (focus (exact fieldsL_one _; done)); (focus (have := HLn.out; unfold maxLen; omega; done)); (focus (have := HLn.out; omega; done)); clear H; intro wn vn H))
          refine ⟨.inr (H.rc (by (repeat (first | with_reducible exact mH | with_reducible apply mT)))), ?_⟩
          have hS : (fun W => RecAt W kR 0 (r0 key N R) s) _ := (H.rc (by (repeat (first | with_reducible exact mH | with_reducible apply mT))))
          refine till_next 6 rfl (by kernel_rfl) ?_
          clear hS
          (try simp only [List.getElem_toArray, List.getElem_cons_succ, List.getElem_cons_zero, Act.put, List.setIfInBounds_toArray, List.set_cons_zero, List.set_cons_succ])
          go_wp2_with (first | go_skip)
          refine ⟨.inr (H.rc (by (repeat (first | with_reducible exact mH | with_reducible apply mT)))), ?_⟩
          have hS : (fun W => RecAt W kR 0 (r0 key N R) s) _ := (H.rc (by (repeat (first | with_reducible exact mH | with_reducible apply mT))))
          refine till_next 7 rfl (by kernel_rfl) ?_
          clear hS
          (try simp only [List.getElem_toArray, List.getElem_cons_succ, List.getElem_cons_zero, Act.put, List.setIfInBounds_toArray, List.set_cons_zero, List.set_cons_succ])
          go_wp2_with (first | go_skip | ((with_reducible apply st_F H); rfl; rfl; (conv => lhs; whnf); (repeat (first | with_reducible apply Upd.head | with_reducible apply Upd.tail)); (first | exact ⟨_, _, _, rfl⟩ | (focus (apply H.rowSlice; (repeat (first | with_reducible exact mH | with_reducible apply mT)); done))); clear H; intro wn H))
          refine ⟨.inl rfl, ?_⟩
          refine till_done (by kernel_rfl) ?_ _
          go_wp2_with (first | go_skip)
          go_roundw
          case rel => exact ⟨j + 1, acc ++ [(no, fN, fR, fS)], t', vn, vd3, by omega, by go_num, Lib.hid (by rw [List.length_append, hacc.out]; rfl), I1, Hd3, by
            have HE : fieldsL acc ++ fieldsL [(no, fN, fR, fS)] = fieldsL (acc ++ [(no, fN, fR, fS)]) := by rw [fieldsL_append]
            have HL : acc.length + 1 = (acc ++ [(no, fN, fR, fS)]).length := by simp
            rw [HE, HL] at H
            exact H.sub (by (repeat (first | with_reducible exact List.Sublist.refl _ | with_reducible refine List.Sublist.cons_cons _ ?_ | refine List.Sublist.cons _ ?_)))⟩
          case measure => simp [intOf]; omega
      · have hjn : j = nf := by omega
        subst hjn
        have ho : Hid (o = some (acc, t)) := Lib.hid (by rw [← I.out, Nat.sub_self, pre_zero])
        go_wp2_with (first | go_skip | ((with_reducible apply ld_rec); rfl; rfl; (first | (focus (apply H.rc; (repeat (first | with_reducible exact mH | with_reducible apply mT)); done)) | (apply RecAt.bel (hb := H.bel); assumption) | assumption)) | ((with_reducible apply st_rec H); rfl; rfl; rfl; (repeat (first | with_reducible apply Upd.head | with_reducible apply Upd.tail)); (first | assumption | (refine Hid.out ?_; assumption)); (first | rfl | assumption | (refine Hid.out ?_; assumption)); clear H; intro wn H))
        all_goals first | (rw [Exit.noGoto_ret]) | skip
        have hR := (H.get (r := Res.rc kX (r0 key N R) s) (by (repeat (first | with_reducible exact mH | with_reducible apply mT)))).1
        exact bodyPost_ret (results_cell_row Tryz.results78 _ _ kX _ _ _ _ rfl hR Tryz.underlying33 rfl (rA_info Hok.out)) rfl (by rw [ho.out]; exact ⟨s, vd, rfl, Hvd.out, Hone.out, H.sub (by (repeat (first | with_reducible exact List.Sublist.refl _ | with_reducible refine List.Sublist.cons_cons _ ?_ | refine List.Sublist.cons _ ?_)))⟩)
end Go.Proofs.YtolbmemogoojhaaGreat
