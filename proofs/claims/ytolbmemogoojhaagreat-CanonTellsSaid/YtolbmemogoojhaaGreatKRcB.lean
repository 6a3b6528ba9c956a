/- The document's record of bytes. -/
import Derived.Test.YtolbmemogoojhaaGreatKRcA
namespace Go.Proofs.YtolbmemogoojhaaGreat
open Go Go.RowKit Go.Deep
set_option linter.unusedVariables false
set_option linter.unusedSimpArgs false
set_option maxRecDepth 100000
theorem results_cell_tmp2 {fn : Func} {p q r : Tmp} {ty : TypeId} {P : Program} (h : fn.results = #[.cell p ty, .tmp q, .tmp r]) (tmps : Array Value) (w : World) (g : Nat) (x y z : Value)
    (hp : tmps.getD p undef = .pointer (some ⟨g, 0, none⟩)) (hy : tmps.getD q undef = y) (hz : tmps.getD r undef = z) (h1 : (loadVar ty ⟨g, 0, none⟩).run P w = .ok x w) :
    (results fn tmps).run P w = .ok (.tuple #[x, y, z]) w := by
  have hp' : tmps[p]?.getD undef = .pointer (some ⟨g, 0, none⟩) := by simpa using hp
  have hy' : tmps[q]?.getD undef = y := by simpa using hy
  have hz' : tmps[r]?.getD undef = z := by simpa using hz
  simp [results, h, hp', hy', hz', asAddr, h1]
theorem rcget_m8 (v : Value) (bs : List UInt8) (w : World) (hv : Byt w v bs) {N R : Int} {s : ByteArray} {k : Nat} {d : Bool} (h : cGet bs = (N, R, s, k, d)) : Calls Tryz.prog 116 #[v] w fun e w' =>
    e = .returned (.tuple #[.agg (cellA N R s), .int .i64 (k : Int), .bool d]) ∧ Below w.heap.size w w' :=
  (rcget_c v bs w hv).mono fun e w' ⟨he, hb⟩ => ⟨by rw [he]; unfold CGetIs; rw [h], hb⟩
section
variable {ops : Array Oper} {rest : List Oper} {a : Act} {w0 w : World} {Q : Exit → Act → World → Prop} {Γ Γ' : List Res} {dst : Option Tmp} {typ : TypeId} {x y : Operand} {pos : String} {af : Array Edge} {gd : Option (Nat × Bool)} {X Y Z : Int} {b k : Nat} {r : RD} {s : Value} {c : UInt8}
/-- A sum that is known. -/
theorem arm_addR (hz : wrap64 (X + Y) = Z) (hw : Region.wanted (⟨dst, .binOp .add 3 x y 3, typ, pos, af, gd⟩ : Oper) (yielded ops a.tmps) = true) (hx : a.eval x = .int .i64 X) (hy : a.eval y = .int .i64 Y)
    (h : wpList Tryz.prog ops Q rest (a.put dst (.int .i64 Z)) w) : wpList Tryz.prog ops Q (⟨dst, .binOp .add 3 x y 3, typ, pos, af, gd⟩ :: rest) a w := by
  refine BigFrame.wpList_want hw fun K hK => ?_
  have hu := Tryz.underlying3
  have hz2 : IntKind.i64.wrap (X + Y) = Z := by rw [← hz, IntKind.wrap_i64]; first | rfl | (unfold wrap64; rfl) | (unfold wrap64; omega)
  have hr : (binOp .add 3 (.int .i64 X) (.int .i64 Y)).run Tryz.prog w = .ok (.int .i64 Z) w := by
    simp [go_sem, hu, hz2]
  have hg : (eqGuard .add 3 x y (.int .i64 X) (.int .i64 Y)).run Tryz.prog w = .ok () w := by first | rfl | simp [eqGuard, go_sem] | kernel_rfl
  unfold Oper.wp execOp
  simp only [hx, hy, Sem.run_bind, hg, hr, Result.andThen_ok, Sem.run_pure]
  first | exact hK _ _ h | (rw [hz2]; exact hK _ _ h)
/-- One byte of a record's name is written. -/
theorem u8_info1 : (Tryz.prog.info? 5).map (·.size) = some 1 := by kernel_rfl
theorem st_id8b (H : St w0 w Γ) (hw : Region.wanted (⟨dst, .store 5 x y, typ, pos, af, gd⟩ : Oper) (yielded ops a.tmps) = true) (hx : a.eval x = .pointer (some ⟨b, k, none⟩)) (hy : a.eval y = .int .u8 (c.toNat : Int))
    (u : Upd Γ (Res.rc b r s) (Res.rc b ⟨r.id.set k c, r.N, r.R, r.f⟩ s) Γ') (hk : k < 16) (h : ∀ w', St w0 w' Γ' → wpList Tryz.prog ops Q rest (a.put dst undef) w') : wpList Tryz.prog ops Q (⟨dst, .store 5 x y, typ, pos, af, gd⟩ :: rest) a w := by
  have hB : (Res.rc b r s).holds w := H.holds _ u.mem
  have hl : (encU r.id).length = 16 := by rw [encU_length]; exact hB.2
  refine BigFrame.wpList_want hw fun K hK => ?_
  unfold Oper.wp execOp
  simp only [hx, hy, Instr.storeAt, Instr.sureAddr, Sem.run_bind, Sem.run_pure, Result.andThen_ok, run_store_one (ty := 5) (off := k) (v := .int .u8 (c.toNat : Int)) hB.1 (by rw [rA_size hB.2]; omega) rfl rfl u8_info1]
  have e : ((rA r s).toList.take k ++ [Value.int .u8 (c.toNat : Int)] ++ (rA r s).toList.drop (k + 1)).toArray = rA ⟨r.id.set k c, r.N, r.R, r.f⟩ s := by
    apply Array.toList_inj.1
    rw [rA_list, rA_list]
    dsimp only
    have e1 : encU (r.id.set k c) = (encU r.id).set k (.int .u8 (c.toNat : Int)) := by unfold encU; rw [List.map_set]
    rw [e1, List.take_append_of_le_length (by omega), List.drop_append_of_le_length (by omega), List.set_eq_take_append_cons_drop, if_pos (by omega)]
    simp
  rw [e]
  refine hK _ _ (h _ (H.upd u (Chg.of_but ((But.refl _ _).setRow _)) ⟨Blk.setRow hB.1 _, ?_⟩ fun _ e => .inl e))
  show (r.id.set k c).length = 16
  rw [List.length_set]; exact hB.2
end
theorem byt_atk {w : World} {b off n cp k : Nat} {c : UInt8} {bs : List UInt8} (h : Byt w (.slice (some ⟨b, off, none⟩) n cp) bs) (hc : bs[k]? = some c) : Sub w b (off + k) #[.int .u8 (c.toNat : Int)] := by
  obtain ⟨hl, a', c', he, h1, h2, h3, h4⟩ := h
  injection he with e1 e2 e3
  subst e1
  have hk := (List.getElem?_eq_some_iff.1 hc).1
  obtain ⟨b', off', he', hcell⟩ := h4 (by rw [hl]; omega)
  simp only [Option.some.injEq, Addr.mk.injEq, and_true] at he'
  obtain ⟨rfl, rfl⟩ := he'
  have hg : (encU bs)[k]? = some (.int .u8 (c.toNat : Int)) := by rw [encU_get, hc]; rfl
  intro j u hj
  match j, hj with
  | 0, hj =>
    simp only [List.getElem?_toArray, List.getElem?_cons_zero, Option.some.injEq] at hj
    subst hj
    exact hcell k _ hg
def rk (bs : List UInt8) (k : Nat) : RD := ⟨bs.take k ++ List.replicate (16 - k) 0, 0, 0, []⟩
theorem rk_zero (bs : List UInt8) : rk bs 0 = noRD := by simp [rk, noRD, zid]
theorem rk_step {bs : List UInt8} {k : Nat} {c : UInt8} (hc : bs[k]? = some c) (hk : k < 16) : (⟨(rk bs k).id.set k c, (rk bs k).N, (rk bs k).R, (rk bs k).f⟩ : RD) = rk bs (k + 1) := by
  have hlt := (List.getElem?_eq_some_iff.1 hc).1
  have hl : (bs.take k).length = k := by rw [List.length_take]; omega
  unfold rk
  dsimp only
  congr 1
  rw [List.set_append_right _ _ (by omega), hl, Nat.sub_self, show 16 - k = (16 - (k + 1)) + 1 by omega, List.replicate_succ, List.set_cons_zero, List.take_add_one, hc]
  simp
theorem rk_end {bs : List UInt8} {key : IDK} (h : bs.take 16 = key.1) : rk bs 16 = r0 key 0 0 := by
  unfold rk r0
  rw [h]; simp
/-- What the document's record tells. -/
def RRecP (w : World) (bs : List UInt8) (o : Option (RD × List UInt8)) (e : Ending) (w' : World) : Prop :=
  match o with
  | none => ∃ r s, e = .returned (.tuple #[.agg (rA r s), .int .i64 0, .bool false]) ∧ r.ok ∧ s.oneCell' = true ∧ Below w.heap.size w w'
  | some (r, t) => ∃ (s : Value) (A : Nat), e = .returned (.tuple #[.agg (rA r s), .int .i64 (A : Int), .bool true]) ∧ t = bs.drop A ∧ A ≤ bs.length ∧ s.oneCell' = true ∧ St w w' [Res.row 82 4 s r.f.length (fieldsL r.f)]
theorem wR {x y z : Nat} (h : x + y = z) (hz : z ≤ 4611686018427387904) : wrap64 ((x : Int) + (y : Int)) = (z : Int) := by subst h; unfold wrap64; omega
theorem wR16 {y z : Nat} (h : 16 + y = z) (hz : z ≤ 4611686018427387904) : wrap64 (16 + (y : Int)) = (z : Int) := wR h hz
theorem wR1 {x z : Nat} (h : x + 1 = z) (hz : z ≤ 4611686018427387904) : wrap64 ((x : Int) + 1) = (z : Int) := wR h hz
theorem drop_nf {bs : List UInt8} {A : Nat} {c : UInt8} (h : bs[A]? = some c) : bs.drop A = c :: bs.drop (A + 1) := drop_at h
set_option maxHeartbeats 25600000 in
theorem rrec_c {w : World} {v : Value} {bs : List UInt8} (hv : Byt w v bs) (hbl : bs.length ≤ 100000) : Calls Tryz.prog 80 #[v] w (RRecP w bs (gRec bs)) := by
  have Hokn : Hid noRD.ok := Lib.hid noRD_ok
  have Honen : Hid (Value.oneCell' (.slice none 0 0) = true) := Lib.hid rfl
  have H := St.init w
  by_cases hl : bs.length < 16
  · have hres : Hid (RRecP w bs (gRec bs) = fun e w' => ∃ r s, e = .returned (.tuple #[.agg (rA r s), .int .i64 0, .bool false]) ∧ r.ok ∧ s.oneCell' = true ∧ Below w.heap.size w w') := Lib.hid (by rw [gRec_short hl]; rfl)
    rw [hres.out]; clear hres
    obtain ⟨fa, fc, rfl, _⟩ := byt_slice hv
    obtain ⟨nb, hnb⟩ : ∃ n, bs.length = n := ⟨_, rfl⟩
    rw [hnb] at hl ⊢
    clear hv hnb hbl
    go_enter Tryz.func80, Tryz.ntmps80
    go_wp2_with (first | go_skip | ((fail_if_success have := kX); (with_reducible apply al_rec H); clear H; intro wn kX H) | ((fail_if_success have := kR); (with_reducible apply al_rec H); clear H; intro wn kR H) | ((with_reducible apply st_rec H); rfl; rfl; rfl; (repeat (first | with_reducible apply Upd.head | with_reducible apply Upd.tail)); (first | assumption | (refine Hid.out ?_; assumption)); (first | rfl | assumption | (refine Hid.out ?_; assumption)); clear H; intro wn H) | ((with_reducible apply ld_rec); rfl; rfl; (first | (focus (apply H.rc; (repeat (first | with_reducible exact mH | with_reducible apply mT)); done)) | (apply RecAt.bel (hb := H.bel); assumption) | assumption)) | (with_reducible apply bd_rec0))
    all_goals first | (rw [Exit.noGoto_ret]) | skip
    have hX := (H.rc (b := kX) (r := noRD) (s := .slice none 0 0) (by (repeat (first | with_reducible exact mH | with_reducible apply mT)))).1
    exact bodyPost_ret (results_cell_tmp2 Tryz.results80 _ _ kX _ _ _ rfl rfl rfl (run_load_sub _ kX 0 _ _ _ hX Tryz.underlying33 rfl (rA_info noRD_ok))) rfl ⟨_, _, rfl, noRD_ok, rfl, H.bel⟩
  obtain ⟨pb, po, fc, rfl, -⟩ := byt_head hv (by omega)
  obtain ⟨nb, hnb⟩ : ∃ n, bs.length = n := ⟨_, rfl⟩
  have h16 : ¬ nb < 16 := by rw [← hnb]; exact hl
  have hnbm : nb ≤ 100000 := by rw [← hnb]; exact hbl
  obtain ⟨key, hkey⟩ : ∃ key : IDK, bs.take 16 = key.1 := ⟨⟨bs.take 16, by rw [List.length_take]; omega⟩, rfl⟩
  have Hok0 : Hid (r0 key 0 0).ok := Lib.hid (r0_ok _ _ _)
  obtain ⟨v1, hd1, hs1⟩ := byt_drop hv 16 (by omega)
  have hl16 : 16 ≤ bs.length := by omega
  rw [hnb] at hv hs1 ⊢
  have hs1' : ∀ W, (Instr.slice 58 (.slice (some ⟨pb, po, none⟩) nb fc) (some (.int .i64 16)) none none).run Tryz.prog W = .ok v1 W := fun W => hs1 W
  clear hs1
  have Hd1 := Lib.hid hd1
  clear hd1 hl hbl
  have Hv := Lib.hid hv
  have Hnb := Lib.hid hnb
  rcases st_back2 (bs.drop 16) with hs | ⟨N, R, u, hs, hst, _, hu, _⟩
  · have hres : Hid (RRecP w bs (gRec bs) = fun e w' => ∃ r s, e = .returned (.tuple #[.agg (rA r s), .int .i64 0, .bool false]) ∧ r.ok ∧ s.oneCell' = true ∧ Below w.heap.size w w') := Lib.hid (by rw [gRec_stamp hs]; rfl)
    rw [hres.out]; clear hres
    have Hs := Lib.hid hs; clear hs hv hnb hl16
    go_enter Tryz.func80, Tryz.ntmps80
    go_wp2_with (first | go_skip | ((fail_if_success have := kX); (with_reducible apply al_rec H); clear H; intro wn kX H) | ((fail_if_success have := kR); (with_reducible apply al_rec H); clear H; intro wn kR H) | ((with_reducible apply st_rec H); rfl; rfl; rfl; (repeat (first | with_reducible apply Upd.head | with_reducible apply Upd.tail)); (first | assumption | (refine Hid.out ?_; assumption)); (first | rfl | assumption | (refine Hid.out ?_; assumption)); clear H; intro wn H) | ((with_reducible apply ld_rec); rfl; rfl; (first | (focus (apply H.rc; (repeat (first | with_reducible exact mH | with_reducible apply mT)); done)) | (apply RecAt.bel (hb := H.bel); assumption) | assumption)) | (with_reducible apply bd_rec0))
    have hL0 := H
    clear hL0
    rw [← rk_zero bs] at H
    go_loopw [6] (fun i wr => ∃ (k : Nat), k ≤ 16 ∧ i = .int .i64 k ∧ St w wr [Res.rc kR (rk bs k) (.slice none 0 0), Res.rc kX (rk bs 0) (.slice none 0 0)]) (fun i _ => 16 - (intOf i).toNat)
    case atStart => exact ⟨0, by omega, rfl, H⟩
    case round =>
      clear H
      obtain ⟨k, hk, rfl, H⟩ := hrel
      by_cases hkl : k < 16
      · obtain ⟨c8, hc8⟩ : ∃ c, bs[k]? = some c := ⟨_, List.getElem?_eq_getElem (by rw [Hnb.out]; omega)⟩
        have Hc := Lib.hid hc8
        have Hk16 : Hid (k < 16) := Lib.hid hkl
        have hkn : k < nb := by omega
        clear hc8
        go_wp2_with (first | go_skip | ((fail_if_success have := kX); (with_reducible apply al_rec H); clear H; intro wn kX H) | ((fail_if_success have := kR); (with_reducible apply al_rec H); clear H; intro wn kR H) | ((with_reducible apply st_rec H); rfl; rfl; rfl; (repeat (first | with_reducible apply Upd.head | with_reducible apply Upd.tail)); (first | assumption | (refine Hid.out ?_; assumption)); (first | rfl | assumption | (refine Hid.out ?_; assumption)); clear H; intro wn H) | ((with_reducible apply ld_rec); rfl; rfl; (first | (focus (apply H.rc; (repeat (first | with_reducible exact mH | with_reducible apply mT)); done)) | (apply RecAt.bel (hb := H.bel); assumption) | assumption)) | (with_reducible apply bd_rec0) | ((with_reducible refine ld_one (ty := 5) Tryz.underlying5 rfl ?_ ?_ (byt_atk (Hv.out.below H.bel) Hc.out) ?_); rfl; rfl) | ((with_reducible apply st_id8b H (c := c8)); rfl; rfl; rfl; (repeat (first | with_reducible apply Upd.head | with_reducible apply Upd.tail)); (focus (exact Hk16.out; done)); clear H; intro wn H))
        go_roundw
        case rel => exact ⟨k + 1, by omega, by go_num, by rw [← rk_step Hc.out Hk16.out]; exact H⟩
        case measure => simp [intOf]; omega
      · have hkn : k = 16 := by omega
        subst hkn
        rw [rk_zero bs, rk_end hkey] at H
        go_wp2_with (first | go_skip | ((fail_if_success have := kX); (with_reducible apply al_rec H); clear H; intro wn kX H) | ((fail_if_success have := kR); (with_reducible apply al_rec H); clear H; intro wn kR H) | ((with_reducible apply st_rec H); rfl; rfl; rfl; (repeat (first | with_reducible apply Upd.head | with_reducible apply Upd.tail)); (first | assumption | (refine Hid.out ?_; assumption)); (first | rfl | assumption | (refine Hid.out ?_; assumption)); clear H; intro wn H) | ((with_reducible apply ld_rec); rfl; rfl; (first | (focus (apply H.rc; (repeat (first | with_reducible exact mH | with_reducible apply mT)); done)) | (apply RecAt.bel (hb := H.bel); assumption) | assumption)) | (with_reducible apply bd_rec0) | (go_at_call 115; (with_reducible refine (rstget_m _ _ _ (Hd1.out.below H.bel) _ _ _ _ Hs.out).mono ?_); rintro e wn ⟨rfl, hb⟩; replace H := H.call hb; clear hb) | ((fail_if_success have := kS); (with_reducible apply al_stp H); clear H; intro wn kS H) | ((with_reducible apply st_stamp H); rfl; rfl; rfl; (repeat (first | with_reducible apply Upd.head | with_reducible apply Upd.tail)); clear H; intro wn H) | ((with_reducible apply ld_stp2); rfl; rfl; (focus (apply H.arr (t := 30); (repeat (first | with_reducible exact mH | with_reducible apply mT)); done))))
        all_goals first | (rw [Exit.noGoto_ret]) | skip
        have hX := (H.rc (b := kX) (r := r0 key 0 0) (s := .slice none 0 0) (by (repeat (first | with_reducible exact mH | with_reducible apply mT)))).1
        exact bodyPost_ret (results_cell_tmp2 Tryz.results80 _ _ kX _ _ _ rfl rfl rfl (run_load_sub _ kX 0 _ _ _ hX Tryz.underlying33 rfl (rA_info Hok0.out))) rfl ⟨_, _, rfl, Hok0.out, rfl, H.bel⟩
  have Hok : Hid (r0 key N R).ok := Lib.hid (r0_ok _ _ _)
  have hge := gRec_eq hl16 hs
  have hu10 : u ≤ 10 := by have := stGet_ten (bs.drop 16); rw [hs] at this; exact this
  rw [List.length_drop] at hu
  obtain ⟨A1, hA1⟩ : ∃ A, 16 + u = A := ⟨_, rfl⟩
  have Hw1 := Lib.hid (wR16 hA1 (by omega))
  obtain ⟨v2, hd2, hs2⟩ := byt_drop hv A1 (by omega)
  have hdd : (bs.drop 16).drop u = bs.drop A1 := by rw [List.drop_drop, hA1]
  rw [hdd] at hge
  have Hd2 := Lib.hid hd2
  have hA1b : A1 ≤ nb := by omega
  have Hs := Lib.hid hs
  clear hs hd2 hdd hst hu hA1
  cases hm : gMany 8 (bs.drop A1) with
  | none =>
    have hres : Hid (RRecP w bs (gRec bs) = fun e w' => ∃ r s, e = .returned (.tuple #[.agg (rA r s), .int .i64 0, .bool false]) ∧ r.ok ∧ s.oneCell' = true ∧ Below w.heap.size w w') := Lib.hid (by rw [hge, hm]; rfl)
    rw [hres.out]; clear hres hge
    rcases gMany_no hm with hg | ⟨n8, u8, hg, h8, _⟩
    · have Hg := Lib.hid hg
      clear hg hm hv hnb hl16
      go_enter Tryz.func80, Tryz.ntmps80
      go_wp2_with (first | go_skip | ((fail_if_success have := kX); (with_reducible apply al_rec H); clear H; intro wn kX H) | ((fail_if_success have := kR); (with_reducible apply al_rec H); clear H; intro wn kR H) | ((with_reducible apply st_rec H); rfl; rfl; rfl; (repeat (first | with_reducible apply Upd.head | with_reducible apply Upd.tail)); (first | assumption | (refine Hid.out ?_; assumption)); (first | rfl | assumption | (refine Hid.out ?_; assumption)); clear H; intro wn H) | ((with_reducible apply ld_rec); rfl; rfl; (first | (focus (apply H.rc; (repeat (first | with_reducible exact mH | with_reducible apply mT)); done)) | (apply RecAt.bel (hb := H.bel); assumption) | assumption)) | (with_reducible apply bd_rec0))
      have hL0 := H
      clear hL0
      rw [← rk_zero bs] at H
      go_loopw [6] (fun i wr => ∃ (k : Nat), k ≤ 16 ∧ i = .int .i64 k ∧ St w wr [Res.rc kR (rk bs k) (.slice none 0 0), Res.rc kX (rk bs 0) (.slice none 0 0)]) (fun i _ => 16 - (intOf i).toNat)
      case atStart => exact ⟨0, by omega, rfl, H⟩
      case round =>
        clear H
        obtain ⟨k, hk, rfl, H⟩ := hrel
        by_cases hkl : k < 16
        · obtain ⟨c8, hc8⟩ : ∃ c, bs[k]? = some c := ⟨_, List.getElem?_eq_getElem (by rw [Hnb.out]; omega)⟩
          have Hc := Lib.hid hc8
          have Hk16 : Hid (k < 16) := Lib.hid hkl
          have hkn : k < nb := by omega
          clear hc8
          go_wp2_with (first | go_skip | ((fail_if_success have := kX); (with_reducible apply al_rec H); clear H; intro wn kX H) | ((fail_if_success have := kR); (with_reducible apply al_rec H); clear H; intro wn kR H) | ((with_reducible apply st_rec H); rfl; rfl; rfl; (repeat (first | with_reducible apply Upd.head | with_reducible apply Upd.tail)); (first | assumption | (refine Hid.out ?_; assumption)); (first | rfl | assumption | (refine Hid.out ?_; assumption)); clear H; intro wn H) | ((with_reducible apply ld_rec); rfl; rfl; (first | (focus (apply H.rc; (repeat (first | with_reducible exact mH | with_reducible apply mT)); done)) | (apply RecAt.bel (hb := H.bel); assumption) | assumption)) | (with_reducible apply bd_rec0) | ((with_reducible refine ld_one (ty := 5) Tryz.underlying5 rfl ?_ ?_ (byt_atk (Hv.out.below H.bel) Hc.out) ?_); rfl; rfl) | ((with_reducible apply st_id8b H (c := c8)); rfl; rfl; rfl; (repeat (first | with_reducible apply Upd.head | with_reducible apply Upd.tail)); (focus (exact Hk16.out; done)); clear H; intro wn H))
          go_roundw
          case rel => exact ⟨k + 1, by omega, by go_num, by rw [← rk_step Hc.out Hk16.out]; exact H⟩
          case measure => simp [intOf]; omega
        · have hkn : k = 16 := by omega
          subst hkn
          rw [rk_zero bs, rk_end hkey] at H
          go_wp2_with (first | go_skip | ((fail_if_success have := kX); (with_reducible apply al_rec H); clear H; intro wn kX H) | ((fail_if_success have := kR); (with_reducible apply al_rec H); clear H; intro wn kR H) | ((with_reducible apply st_rec H); rfl; rfl; rfl; (repeat (first | with_reducible apply Upd.head | with_reducible apply Upd.tail)); (first | assumption | (refine Hid.out ?_; assumption)); (first | rfl | assumption | (refine Hid.out ?_; assumption)); clear H; intro wn H) | ((with_reducible apply ld_rec); rfl; rfl; (first | (focus (apply H.rc; (repeat (first | with_reducible exact mH | with_reducible apply mT)); done)) | (apply RecAt.bel (hb := H.bel); assumption) | assumption)) | (with_reducible apply bd_rec0) | (go_at_call 115; (with_reducible refine (rstget_m _ _ _ (Hd1.out.below H.bel) _ _ _ _ Hs.out).mono ?_); rintro e wn ⟨rfl, hb⟩; replace H := H.call hb; clear hb) | ((fail_if_success have := kS); (with_reducible apply al_stp H); clear H; intro wn kS H) | ((with_reducible apply st_stamp H); rfl; rfl; rfl; (repeat (first | with_reducible apply Upd.head | with_reducible apply Upd.tail)); clear H; intro wn H) | ((with_reducible apply ld_stp2); rfl; rfl; (focus (apply H.arr (t := 30); (repeat (first | with_reducible exact mH | with_reducible apply mT)); done))) | ((with_reducible apply st_dead H); rfl; rfl; rfl; (repeat (first | with_reducible apply Upd.head | with_reducible apply Upd.tail)); clear H; intro wn H) | ((with_reducible refine arm_addR Hw1.out ?_ ?_ ?_ ?_); rfl; rfl; rfl) | (go_at_call 79; (with_reducible refine (rget_no_c _ _ _ (Hd2.out.below H.bel) Hg.out).mono ?_); rintro e wn ⟨rfl, hb⟩; replace H := H.call hb; clear hb))
          all_goals first | (rw [Exit.noGoto_ret]) | skip
          have hX := (H.rc (b := kX) (r := ⟨(r0 key 0 0).id, N, R, (r0 key 0 0).f⟩) (s := .slice none 0 0) (by (repeat (first | with_reducible exact mH | with_reducible apply mT)))).1
          exact bodyPost_ret (results_cell_tmp2 Tryz.results80 _ _ kX _ _ _ rfl rfl rfl (run_load_sub _ kX 0 _ _ _ hX Tryz.underlying33 rfl (rA_info Hok.out))) rfl ⟨_, _, rfl, Hok.out, rfl, H.bel⟩
    · have Hg := Lib.hid hg
      have h8' : 8 < n8 := by omega
      clear hg hm hv hnb hl16 h8
      go_enter Tryz.func80, Tryz.ntmps80
      go_wp2_with (first | go_skip | ((fail_if_success have := kX); (with_reducible apply al_rec H); clear H; intro wn kX H) | ((fail_if_success have := kR); (with_reducible apply al_rec H); clear H; intro wn kR H) | ((with_reducible apply st_rec H); rfl; rfl; rfl; (repeat (first | with_reducible apply Upd.head | with_reducible apply Upd.tail)); (first | assumption | (refine Hid.out ?_; assumption)); (first | rfl | assumption | (refine Hid.out ?_; assumption)); clear H; intro wn H) | ((with_reducible apply ld_rec); rfl; rfl; (first | (focus (apply H.rc; (repeat (first | with_reducible exact mH | with_reducible apply mT)); done)) | (apply RecAt.bel (hb := H.bel); assumption) | assumption)) | (with_reducible apply bd_rec0))
      have hL0 := H
      clear hL0
      rw [← rk_zero bs] at H
      go_loopw [6] (fun i wr => ∃ (k : Nat), k ≤ 16 ∧ i = .int .i64 k ∧ St w wr [Res.rc kR (rk bs k) (.slice none 0 0), Res.rc kX (rk bs 0) (.slice none 0 0)]) (fun i _ => 16 - (intOf i).toNat)
      case atStart => exact ⟨0, by omega, rfl, H⟩
      case round =>
        clear H
        obtain ⟨k, hk, rfl, H⟩ := hrel
        by_cases hkl : k < 16
        · obtain ⟨c8, hc8⟩ : ∃ c, bs[k]? = some c := ⟨_, List.getElem?_eq_getElem (by rw [Hnb.out]; omega)⟩
          have Hc := Lib.hid hc8
          have Hk16 : Hid (k < 16) := Lib.hid hkl
          have hkn : k < nb := by omega
          clear hc8
          go_wp2_with (first | go_skip | ((fail_if_success have := kX); (with_reducible apply al_rec H); clear H; intro wn kX H) | ((fail_if_success have := kR); (with_reducible apply al_rec H); clear H; intro wn kR H) | ((with_reducible apply st_rec H); rfl; rfl; rfl; (repeat (first | with_reducible apply Upd.head | with_reducible apply Upd.tail)); (first | assumption | (refine Hid.out ?_; assumption)); (first | rfl | assumption | (refine Hid.out ?_; assumption)); clear H; intro wn H) | ((with_reducible apply ld_rec); rfl; rfl; (first | (focus (apply H.rc; (repeat (first | with_reducible exact mH | with_reducible apply mT)); done)) | (apply RecAt.bel (hb := H.bel); assumption) | assumption)) | (with_reducible apply bd_rec0) | ((with_reducible refine ld_one (ty := 5) Tryz.underlying5 rfl ?_ ?_ (byt_atk (Hv.out.below H.bel) Hc.out) ?_); rfl; rfl) | ((with_reducible apply st_id8b H (c := c8)); rfl; rfl; rfl; (repeat (first | with_reducible apply Upd.head | with_reducible apply Upd.tail)); (focus (exact Hk16.out; done)); clear H; intro wn H))
          go_roundw
          case rel => exact ⟨k + 1, by omega, by go_num, by rw [← rk_step Hc.out Hk16.out]; exact H⟩
          case measure => simp [intOf]; omega
        · have hkn : k = 16 := by omega
          subst hkn
          rw [rk_zero bs, rk_end hkey] at H
          go_wp2_with (first | go_skip | ((fail_if_success have := kX); (with_reducible apply al_rec H); clear H; intro wn kX H) | ((fail_if_success have := kR); (with_reducible apply al_rec H); clear H; intro wn kR H) | ((with_reducible apply st_rec H); rfl; rfl; rfl; (repeat (first | with_reducible apply Upd.head | with_reducible apply Upd.tail)); (first | assumption | (refine Hid.out ?_; assumption)); (first | rfl | assumption | (refine Hid.out ?_; assumption)); clear H; intro wn H) | ((with_reducible apply ld_rec); rfl; rfl; (first | (focus (apply H.rc; (repeat (first | with_reducible exact mH | with_reducible apply mT)); done)) | (apply RecAt.bel (hb := H.bel); assumption) | assumption)) | (with_reducible apply bd_rec0) | (go_at_call 115; (with_reducible refine (rstget_m _ _ _ (Hd1.out.below H.bel) _ _ _ _ Hs.out).mono ?_); rintro e wn ⟨rfl, hb⟩; replace H := H.call hb; clear hb) | ((fail_if_success have := kS); (with_reducible apply al_stp H); clear H; intro wn kS H) | ((with_reducible apply st_stamp H); rfl; rfl; rfl; (repeat (first | with_reducible apply Upd.head | with_reducible apply Upd.tail)); clear H; intro wn H) | ((with_reducible apply ld_stp2); rfl; rfl; (focus (apply H.arr (t := 30); (repeat (first | with_reducible exact mH | with_reducible apply mT)); done))) | ((with_reducible apply st_dead H); rfl; rfl; rfl; (repeat (first | with_reducible apply Upd.head | with_reducible apply Upd.tail)); clear H; intro wn H) | ((with_reducible refine arm_addR Hw1.out ?_ ?_ ?_ ?_); rfl; rfl; rfl) | (go_at_call 79; (with_reducible refine (rget_yes_c _ _ _ _ _ (Hd2.out.below H.bel) Hg.out).mono ?_); rintro e wn ⟨rfl, hb⟩; replace H := H.call hb; clear hb))
          all_goals first | (rw [Exit.noGoto_ret]) | skip
          have hX := (H.rc (b := kX) (r := ⟨(r0 key 0 0).id, N, R, (r0 key 0 0).f⟩) (s := .slice none 0 0) (by (repeat (first | with_reducible exact mH | with_reducible apply mT)))).1
          exact bodyPost_ret (results_cell_tmp2 Tryz.results80 _ _ kX _ _ _ rfl rfl rfl (run_load_sub _ kX 0 _ _ _ hX Tryz.underlying33 rfl (rA_info Hok.out))) rfl ⟨_, _, rfl, Hok.out, rfl, H.bel⟩
  | some p =>
    obtain ⟨nf, t2⟩ := p
    obtain ⟨u2, hg, hle8, rfl, hu2⟩ := gMany_some hm
    obtain ⟨o, ho⟩ : ∃ o, gList gField nf ((bs.drop A1).drop u2) = o := ⟨_, rfl⟩
    have hres : Hid (RRecP w bs (gRec bs) = RRecP w bs (o.map fun p => (⟨key.1, N, R, p.1⟩, p.2))) := Lib.hid (by rw [hge, hm, ← hkey]; simp only; rw [ho])
    rw [hres.out]; clear hres hge hm
    rw [List.length_drop] at hu2
    obtain ⟨A2, hA2⟩ : ∃ A, A1 + u2 = A := ⟨_, rfl⟩
    rw [List.drop_drop, hA2] at ho
    have Hw2 := Lib.hid (wR hA2 (by omega))
    have hA2b : A2 ≤ nb := by omega
    have Hg := Lib.hid hg; have Ho := Lib.hid ho
    have hc2 : ∀ W, (convert 101 3 (.int .u64 (nf : Int))).run Tryz.prog W = .ok (.int .i64 (nf : Int)) W := conv_i64 (by omega)
    have h8' : ¬ 8 < nf := by omega
    clear hg ho hnb hl16 hu2 hA2 hle8
    go_enter Tryz.func80, Tryz.ntmps80
    go_wp2_with (first | go_skip | ((fail_if_success have := kX); (with_reducible apply al_rec H); clear H; intro wn kX H) | ((fail_if_success have := kR); (with_reducible apply al_rec H); clear H; intro wn kR H) | ((with_reducible apply st_rec H); rfl; rfl; rfl; (repeat (first | with_reducible apply Upd.head | with_reducible apply Upd.tail)); (first | assumption | (refine Hid.out ?_; assumption)); (first | rfl | assumption | (refine Hid.out ?_; assumption)); clear H; intro wn H) | ((with_reducible apply ld_rec); rfl; rfl; (first | (focus (apply H.rc; (repeat (first | with_reducible exact mH | with_reducible apply mT)); done)) | (apply RecAt.bel (hb := H.bel); assumption) | assumption)) | (with_reducible apply bd_rec0))
    have hL0 := H
    clear hL0
    rw [← rk_zero bs] at H
    go_loopw [6] (fun i wr => ∃ (k : Nat), k ≤ 16 ∧ i = .int .i64 k ∧ St w wr [Res.rc kR (rk bs k) (.slice none 0 0), Res.rc kX (rk bs 0) (.slice none 0 0)]) (fun i _ => 16 - (intOf i).toNat)
    case atStart => exact ⟨0, by omega, rfl, H⟩
    case round =>
      clear H
      obtain ⟨k, hk, rfl, H⟩ := hrel
      by_cases hkl : k < 16
      · obtain ⟨c8, hc8⟩ : ∃ c, bs[k]? = some c := ⟨_, List.getElem?_eq_getElem (by rw [Hnb.out]; omega)⟩
        have Hc := Lib.hid hc8
        have Hk16 : Hid (k < 16) := Lib.hid hkl
        have hkn : k < nb := by omega
        clear hc8
        go_wp2_with (first | go_skip | ((fail_if_success have := kX); (with_reducible apply al_rec H); clear H; intro wn kX H) | ((fail_if_success have := kR); (with_reducible apply al_rec H); clear H; intro wn kR H) | ((with_reducible apply st_rec H); rfl; rfl; rfl; (repeat (first | with_reducible apply Upd.head | with_reducible apply Upd.tail)); (first | assumption | (refine Hid.out ?_; assumption)); (first | rfl | assumption | (refine Hid.out ?_; assumption)); clear H; intro wn H) | ((with_reducible apply ld_rec); rfl; rfl; (first | (focus (apply H.rc; (repeat (first | with_reducible exact mH | with_reducible apply mT)); done)) | (apply RecAt.bel (hb := H.bel); assumption) | assumption)) | (with_reducible apply bd_rec0) | ((with_reducible refine ld_one (ty := 5) Tryz.underlying5 rfl ?_ ?_ (byt_atk (Hv.out.below H.bel) Hc.out) ?_); rfl; rfl) | ((with_reducible apply st_id8b H (c := c8)); rfl; rfl; rfl; (repeat (first | with_reducible apply Upd.head | with_reducible apply Upd.tail)); (focus (exact Hk16.out; done)); clear H; intro wn H))
        go_roundw
        case rel => exact ⟨k + 1, by omega, by go_num, by rw [← rk_step Hc.out Hk16.out]; exact H⟩
        case measure => simp [intOf]; omega
      · have hkn : k = 16 := by omega
        subst hkn
        rw [rk_zero bs, rk_end hkey] at H
        have hcut := Lib.hid hv
        clear hv
        go_wp2_with (first | go_skip | ((fail_if_success have := kX); (with_reducible apply al_rec H); clear H; intro wn kX H) | ((fail_if_success have := kR); (with_reducible apply al_rec H); clear H; intro wn kR H) | ((with_reducible apply st_rec H); rfl; rfl; rfl; (repeat (first | with_reducible apply Upd.head | with_reducible apply Upd.tail)); (first | assumption | (refine Hid.out ?_; assumption)); (first | rfl | assumption | (refine Hid.out ?_; assumption)); clear H; intro wn H) | ((with_reducible apply ld_rec); rfl; rfl; (first | (focus (apply H.rc; (repeat (first | with_reducible exact mH | with_reducible apply mT)); done)) | (apply RecAt.bel (hb := H.bel); assumption) | assumption)) | (with_reducible apply bd_rec0) | (go_at_call 115; (with_reducible refine (rstget_m _ _ _ (Hd1.out.below H.bel) _ _ _ _ Hs.out).mono ?_); rintro e wn ⟨rfl, hb⟩; replace H := H.call hb; clear hb) | ((fail_if_success have := kS); (with_reducible apply al_stp H); clear H; intro wn kS H) | ((with_reducible apply st_stamp H); rfl; rfl; rfl; (repeat (first | with_reducible apply Upd.head | with_reducible apply Upd.tail)); clear H; intro wn H) | ((with_reducible apply ld_stp2); rfl; rfl; (focus (apply H.arr (t := 30); (repeat (first | with_reducible exact mH | with_reducible apply mT)); done))) | ((with_reducible apply st_dead H); rfl; rfl; rfl; (repeat (first | with_reducible apply Upd.head | with_reducible apply Upd.tail)); clear H; intro wn H) | ((with_reducible refine arm_addR Hw1.out ?_ ?_ ?_ ?_); rfl; rfl; rfl) | ((with_reducible refine arm_addR Hw2.out ?_ ?_ ?_ ?_); rfl; rfl; rfl) | (go_at_call 79; (with_reducible refine (rget_yes_c _ _ _ _ _ (Hd2.out.below H.bel) Hg.out).mono ?_); rintro e wn ⟨rfl, hb⟩; replace H := H.call hb; clear hb))
        rw [show (⟨(r0 key 0 0).id, N, R, (r0 key 0 0).f⟩ : RD) = r0 key N R from rfl] at H
        go_loopw [7, 14] (fun vx i wr => ∃ (k A : Nat) (acc : List F4) (s : Value), k ≤ nf ∧ i = .int .i64 k ∧ vx = .int .i64 A ∧ A ≤ nb ∧ Hid (acc.length = k) ∧ Hid (pre acc (gList gField (nf - k) (bs.drop A)) = o) ∧ St w wr [Res.row 82 4 s acc.length (fieldsL acc), Res.rc kR (r0 key N R) s, Res.rc kX noRD (.slice none 0 0)]) (fun _ i _ => nf - (intOf i).toNat)
        case atStart => exact ⟨0, A2, [], .slice none 0 0, by omega, rfl, rfl, hA2b, Lib.hid rfl, Lib.hid (by rw [pre_nil]; exact Ho.out), (H.sub (Γ' := [Res.rc kR (r0 key N R) (.slice none 0 0), Res.rc kX noRD (.slice none 0 0)]) (by (repeat (first | with_reducible exact List.Sublist.refl _ | with_reducible refine List.Sublist.cons_cons _ ?_ | refine List.Sublist.cons _ ?_)))).nilRow _ _⟩
        case round =>
          clear H
          obtain ⟨k, A, acc, s, hk, rfl, rfl, hA, hacc, I, H⟩ := hrel
          have Hone : Hid (s.oneCell' = true) := Lib.hid (by obtain ⟨_, _, _, rfl⟩ := H.rowSlice (n := acc.length) (cs := fieldsL acc) (by (repeat (first | with_reducible exact mH | with_reducible apply mT))); rfl)
          by_cases hlt : k < nf
          · obtain ⟨m, hm⟩ : ∃ m, nf - k = m + 1 := ⟨nf - k - 1, by omega⟩
            have HLn : Hid (acc.length ≤ 8) := Lib.hid (by have := hacc.out; omega)
            by_cases hAn : A < nb
            · obtain ⟨c8, hc8⟩ : ∃ c, bs[A]? = some c := ⟨_, List.getElem?_eq_getElem (by rw [Hnb.out]; exact hAn)⟩
              have hdr := drop_nf hc8
              obtain ⟨A3, hA3⟩ : ∃ z, A + 1 = z := ⟨_, rfl⟩
              rw [hA3] at hdr
              have Hw3 := Lib.hid (wR1 hA3 (by omega))
              obtain ⟨v3, hd3, hs3⟩ := byt_drop hcut.out A3 (by rw [Hnb.out]; omega)
              have Hd3 := Lib.hid hd3; have Hc := Lib.hid hc8
              have hcv : ∀ W, (convert 5 3 (.int .u8 (c8.toNat : Int))).run Tryz.prog W = .ok (.int .i64 (c8.toNat : Int)) W := conv_u8i
              have hA3b : A3 ≤ nb := by omega
              clear hd3 hc8
              rcases c_back2 (bs.drop A3) with hc | ⟨N2, R2, S2, k2, hc, _, hk2, _⟩
              · have ho : Hid (o = none) := Lib.hid (by rw [← I.out, hm, pre_none]; rw [hdr]; simp [gField, hc])
                have Hcg := Lib.hid hc
                clear hc hdr hA3
                go_wp2_with (first | go_skip | ((with_reducible apply ld_rec); rfl; rfl; (first | (focus (apply H.rc; (repeat (first | with_reducible exact mH | with_reducible apply mT)); done)) | (apply RecAt.bel (hb := H.bel); assumption) | assumption)) | ((with_reducible apply st_rec H); rfl; rfl; rfl; (repeat (first | with_reducible apply Upd.head | with_reducible apply Upd.tail)); (first | assumption | (refine Hid.out ?_; assumption)); (first | rfl | assumption | (refine Hid.out ?_; assumption)); clear H; intro wn H) | ((with_reducible refine ld_one (ty := 5) Tryz.underlying5 rfl ?_ ?_ (byt_atk (Hv.out.below H.bel) Hc.out) ?_); rfl; rfl) | ((with_reducible refine arm_addR Hw3.out ?_ ?_ ?_ ?_); rfl; rfl; rfl) | (go_at_call 116; (with_reducible refine (rcget_m8 _ _ _ (Hd3.out.below H.bel) Hcg.out).mono ?_); rintro e wn ⟨rfl, hb⟩; replace H := H.call hb; clear hb) | ((fail_if_success have := kC); (with_reducible apply al_cel H); clear H; intro wn kC H) | ((with_reducible apply st_cel H); rfl; rfl; rfl; (repeat (first | with_reducible apply Upd.head | with_reducible apply Upd.tail)); clear H; intro wn H) | ((with_reducible apply ld_F); rfl; rfl; (first | (focus (apply H.rc; (repeat (first | with_reducible exact mH | with_reducible apply mT)); done)) | (apply RecAt.bel (hb := H.bel); assumption))) | ((with_reducible apply ld_cel); rfl; rfl; (first | (focus (apply H.cel; (repeat (first | with_reducible exact mH | with_reducible apply mT)); done)) | (apply CelAt.bel (hb := H.bel); assumption))))
                all_goals first | (rw [Exit.noGoto_ret]) | skip
                have hX := (H.rc (b := kX) (r := r0 key N R) (s := s) (by (repeat (first | with_reducible exact mH | with_reducible apply mT)))).1
                exact bodyPost_ret (results_cell_tmp2 Tryz.results80 _ _ kX _ _ _ rfl rfl rfl (run_load_sub _ kX 0 _ _ _ hX Tryz.underlying33 rfl (rA_info Hok.out))) rfl (by rw [ho.out]; exact ⟨_, _, rfl, Hok.out, Hone.out, H.bel⟩)
              · rw [List.length_drop, Hnb.out] at hk2
                obtain ⟨A4, hA4⟩ : ∃ z, A3 + k2 = z := ⟨_, rfl⟩
                have Hw4 := Lib.hid (wR hA4 (by omega))
                have hA4b : A4 ≤ nb := by omega
                have I1 : Hid (pre (acc ++ [((c8.toNat : Int), N2, R2, S2)]) (gList gField (nf - (k + 1)) (bs.drop A4)) = o) := Lib.hid (by
                  rw [← I.out, hm, pre_some (a := ((c8.toNat : Int), N2, R2, S2)) (t' := bs.drop A4), show nf - (k + 1) = m by omega]
                  rw [hdr]
                  simp only [gField, hc, if_true, List.drop_drop, hA4])
                have Hcg := Lib.hid hc
                clear hc hdr hA3 hk2 hA4
                go_wp2_with (first | go_skip | ((with_reducible apply ld_rec); rfl; rfl; (first | (focus (apply H.rc; (repeat (first | with_reducible exact mH | with_reducible apply mT)); done)) | (apply RecAt.bel (hb := H.bel); assumption) | assumption)) | ((with_reducible apply st_rec H); rfl; rfl; rfl; (repeat (first | with_reducible apply Upd.head | with_reducible apply Upd.tail)); (first | assumption | (refine Hid.out ?_; assumption)); (first | rfl | assumption | (refine Hid.out ?_; assumption)); clear H; intro wn H) | ((with_reducible refine ld_one (ty := 5) Tryz.underlying5 rfl ?_ ?_ (byt_atk (Hv.out.below H.bel) Hc.out) ?_); rfl; rfl) | ((with_reducible refine arm_addR Hw3.out ?_ ?_ ?_ ?_); rfl; rfl; rfl) | (go_at_call 116; (with_reducible refine (rcget_m8 _ _ _ (Hd3.out.below H.bel) Hcg.out).mono ?_); rintro e wn ⟨rfl, hb⟩; replace H := H.call hb; clear hb) | ((fail_if_success have := kC); (with_reducible apply al_cel H); clear H; intro wn kC H) | ((with_reducible apply st_cel H); rfl; rfl; rfl; (repeat (first | with_reducible apply Upd.head | with_reducible apply Upd.tail)); clear H; intro wn H) | ((with_reducible apply ld_F); rfl; rfl; (first | (focus (apply H.rc; (repeat (first | with_reducible exact mH | with_reducible apply mT)); done)) | (apply RecAt.bel (hb := H.bel); assumption))) | ((with_reducible apply ld_cel); rfl; rfl; (first | (focus (apply H.cel; (repeat (first | with_reducible exact mH | with_reducible apply mT)); done)) | (apply CelAt.bel (hb := H.bel); assumption))) | ((fail_if_success have := kU); (with_reducible apply bs_fld3 H); rfl; clear H; intro wn kU H) | ((with_reducible apply arm_app H (ht := Tryz.underlying31) (hinfo := info_field) (hzs := rfl) (hsz := by decide)); (conv => lhs; whnf); (conv => lhs; whnf); (intro v; (repeat (first | with_reducible apply Upd.head | with_reducible apply Upd.tail))); (focus (apply H.rowRead; (repeat (first | with_reducible exact mH | with_reducible apply mT)); done)); (focus (exact fieldsL_one _; done)); (focus (have := HLn.out; unfold maxLen; omega; done)); (focus (have := HLn.out; omega; done)); clear H; intro wn vn H) | ((with_reducible apply st_F H); rfl; rfl; (conv => lhs; whnf); (repeat (first | with_reducible apply Upd.head | with_reducible apply Upd.tail)); (first | exact ⟨_, _, _, rfl⟩ | (focus (apply H.rowSlice; (repeat (first | with_reducible exact mH | with_reducible apply mT)); done))); clear H; intro wn H) | ((with_reducible refine arm_addR Hw4.out ?_ ?_ ?_ ?_); rfl; rfl; rfl))
                go_roundw
                case rel => exact ⟨k + 1, A4, acc ++ [((c8.toNat : Int), N2, R2, S2)], vn, by omega, by go_num, rfl, hA4b, Lib.hid (by rw [List.length_append, hacc.out]; rfl), I1, by
                  have HE : fieldsL acc ++ fieldsL [((c8.toNat : Int), N2, R2, S2)] = fieldsL (acc ++ [((c8.toNat : Int), N2, R2, S2)]) := by rw [fieldsL_append]
                  have HL : acc.length + 1 = (acc ++ [((c8.toNat : Int), N2, R2, S2)]).length := by simp
                  rw [HE, HL] at H
                  exact H.sub (by (repeat (first | with_reducible exact List.Sublist.refl _ | with_reducible refine List.Sublist.cons_cons _ ?_ | refine List.Sublist.cons _ ?_)))⟩
                case measure => simp [intOf]; omega
            · have hAe : nb ≤ A := by omega
              have ho : Hid (o = none) := Lib.hid (by rw [← I.out, hm, pre_none]; rw [List.drop_of_length_le (by rw [Hnb.out]; exact hAe)]; rfl)
              go_wp2_with (first | go_skip | ((with_reducible apply ld_rec); rfl; rfl; (first | (focus (apply H.rc; (repeat (first | with_reducible exact mH | with_reducible apply mT)); done)) | (apply RecAt.bel (hb := H.bel); assumption) | assumption)) | ((with_reducible apply st_rec H); rfl; rfl; rfl; (repeat (first | with_reducible apply Upd.head | with_reducible apply Upd.tail)); (first | assumption | (refine Hid.out ?_; assumption)); (first | rfl | assumption | (refine Hid.out ?_; assumption)); clear H; intro wn H) | ((with_reducible refine ld_one (ty := 5) Tryz.underlying5 rfl ?_ ?_ (byt_atk (Hv.out.below H.bel) Hc.out) ?_); rfl; rfl) | ((with_reducible refine arm_addR Hw3.out ?_ ?_ ?_ ?_); rfl; rfl; rfl) | (go_at_call 116; (with_reducible refine (rcget_m8 _ _ _ (Hd3.out.below H.bel) Hcg.out).mono ?_); rintro e wn ⟨rfl, hb⟩; replace H := H.call hb; clear hb) | ((fail_if_success have := kC); (with_reducible apply al_cel H); clear H; intro wn kC H) | ((with_reducible apply st_cel H); rfl; rfl; rfl; (repeat (first | with_reducible apply Upd.head | with_reducible apply Upd.tail)); clear H; intro wn H) | ((with_reducible apply ld_F); rfl; rfl; (first | (focus (apply H.rc; (repeat (first | with_reducible exact mH | with_reducible apply mT)); done)) | (apply RecAt.bel (hb := H.bel); assumption))) | ((with_reducible apply ld_cel); rfl; rfl; (first | (focus (apply H.cel; (repeat (first | with_reducible exact mH | with_reducible apply mT)); done)) | (apply CelAt.bel (hb := H.bel); assumption))))
              all_goals first | (rw [Exit.noGoto_ret]) | skip
              have hX := (H.rc (b := kX) (r := r0 key N R) (s := s) (by (repeat (first | with_reducible exact mH | with_reducible apply mT)))).1
              exact bodyPost_ret (results_cell_tmp2 Tryz.results80 _ _ kX _ _ _ rfl rfl rfl (run_load_sub _ kX 0 _ _ _ hX Tryz.underlying33 rfl (rA_info Hok.out))) rfl (by rw [ho.out]; exact ⟨_, _, rfl, Hok.out, Hone.out, H.bel⟩)
          · have hkn : k = nf := by omega
            subst hkn
            have ho : Hid (o = some (acc, bs.drop A)) := Lib.hid (by rw [← I.out, Nat.sub_self, pre_zero])
            have hAl : A ≤ bs.length := by rw [Hnb.out]; exact hA
            have HAl := Lib.hid hAl; clear hAl
            go_wp2_with (first | go_skip | ((with_reducible apply ld_rec); rfl; rfl; (first | (focus (apply H.rc; (repeat (first | with_reducible exact mH | with_reducible apply mT)); done)) | (apply RecAt.bel (hb := H.bel); assumption) | assumption)) | ((with_reducible apply st_rec H); rfl; rfl; rfl; (repeat (first | with_reducible apply Upd.head | with_reducible apply Upd.tail)); (first | assumption | (refine Hid.out ?_; assumption)); (first | rfl | assumption | (refine Hid.out ?_; assumption)); clear H; intro wn H) | ((with_reducible refine ld_one (ty := 5) Tryz.underlying5 rfl ?_ ?_ (byt_atk (Hv.out.below H.bel) Hc.out) ?_); rfl; rfl) | ((with_reducible refine arm_addR Hw3.out ?_ ?_ ?_ ?_); rfl; rfl; rfl) | (go_at_call 116; (with_reducible refine (rcget_m8 _ _ _ (Hd3.out.below H.bel) Hcg.out).mono ?_); rintro e wn ⟨rfl, hb⟩; replace H := H.call hb; clear hb) | ((fail_if_success have := kC); (with_reducible apply al_cel H); clear H; intro wn kC H) | ((with_reducible apply st_cel H); rfl; rfl; rfl; (repeat (first | with_reducible apply Upd.head | with_reducible apply Upd.tail)); clear H; intro wn H) | ((with_reducible apply ld_F); rfl; rfl; (first | (focus (apply H.rc; (repeat (first | with_reducible exact mH | with_reducible apply mT)); done)) | (apply RecAt.bel (hb := H.bel); assumption))) | ((with_reducible apply ld_cel); rfl; rfl; (first | (focus (apply H.cel; (repeat (first | with_reducible exact mH | with_reducible apply mT)); done)) | (apply CelAt.bel (hb := H.bel); assumption))))
            all_goals first | (rw [Exit.noGoto_ret]) | skip
            have hX := (H.rc (b := kX) (r := r0 key N R) (s := s) (by (repeat (first | with_reducible exact mH | with_reducible apply mT)))).1
            exact bodyPost_ret (results_cell_tmp2 Tryz.results80 _ _ kX _ _ _ rfl rfl rfl (run_load_sub _ kX 0 _ _ _ hX Tryz.underlying33 rfl (rA_info Hok.out))) rfl (by rw [ho.out]; exact ⟨s, A, rfl, rfl, HAl.out, Hone.out, H.sub (Γ' := [Res.row 82 4 s acc.length (fieldsL acc)]) (by (repeat (first | with_reducible exact List.Sublist.refl _ | with_reducible refine List.Sublist.cons_cons _ ?_ | refine List.Sublist.cons _ ?_)))⟩)
end Go.Proofs.YtolbmemogoojhaaGreat
