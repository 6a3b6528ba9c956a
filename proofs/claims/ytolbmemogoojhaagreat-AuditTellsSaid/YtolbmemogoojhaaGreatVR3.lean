/- rolodexref06.Join of two that are not joined. -/
import Derived.Test.YtolbmemogoojhaaGreatVR2
import Derived.Test.YtolbmemogoojhaaGreatVR1
import Derived.Test.YtolbmemogoojhaaGreatVN1
namespace Go.Proofs.YtolbmemogoojhaaGreat
open Go Go.RowKit Go.Deep
set_option linter.unusedVariables false
set_option linter.unusedSimpArgs false
set_option maxRecDepth 100000
theorem noA_i : (Tryz.prog.info? 33).map (·.size) = some noA.size := rA_info noRD_ok
theorem noA_o : noA.all (·.oneCell') = true := recA_one (encU_all _) rfl
set_option maxHeartbeats 6400000 in
theorem rfjoin_no (ra rb : RD) (sa sb : Value) (ha : ra.ok) (hb : rb.ok) (w : World) (hva : Flds w sa ra.f) (hvb : Flds w sb rb.f) (hno : rCan ra rb = false) : Calls Tryz.prog 92 #[.agg (rA ra sa), .agg (rA rb sb)] w fun e w' => e = .returned (.tuple #[.agg noA, .bool false]) ∧ Below w.heap.size w w' := by
  have hAc := @after_cell
  have hAf := @after_frozen
  have hSz := sz_facts
  obtain ⟨i, hi⟩ : ∃ i, (ra.id == rb.id) = i := ⟨_, rfl⟩
  have hq : ∀ W, (binOp .neq 26 (.agg (idA ra)) (.agg (idA rb))).run Tryz.prog W = .ok (.bool (!i)) W := fun W => by rw [← hi]; exact neq_id ra.id rb.id ha hb W
  obtain ⟨p, hma⟩ : ∃ p, Hid (rMay ra = p) := ⟨_, rfl⟩
  obtain ⟨q, hmb⟩ : ∃ p, Hid (rMay rb = p) := ⟨_, rfl⟩
  have hcase : p = false ∨ p = true ∧ q = false ∨ p = true ∧ q = true ∧ i = false := by
    unfold rCan at hno; rw [hma.out, hmb.out, hi] at hno; revert hno; cases p <;> cases q <;> cases i <;> simp
  have Ha := Lib.hid ha; have Hb := Lib.hid hb; have Hva := Lib.hid hva; have Hvb := Lib.hid hvb
  clear ha hb hva hvb hno hi
  rcases hcase with rfl | ⟨rfl, rfl⟩ | ⟨rfl, rfl, rfl⟩
  all_goals
    go_enter Tryz.func92, Tryz.ntmps92
    go_wp2_with (first | go_skip | ((fail_if_success have := Ka); refine wpList_box_blk rfl 33 _ rfl _ rfl (rA ra sa) rfl ?_; intro w1 Ka b1 s1; clear s1; obtain ⟨ya, rfl⟩ := after_of b1; obtain ⟨sAa, sIa, sDa, sFa⟩ := rA_subs Ka Ha.out) | ((fail_if_success have := Kb); refine wpList_box_blk rfl 33 _ rfl _ rfl (rA rb sb) rfl ?_; intro w1 Kb b1 s1; clear s1; obtain ⟨yb, rfl⟩ := after_of b1; obtain ⟨sAb, sIb, sDb, sFb⟩ := rA_subs Kb Hb.out) | (refine wpList_load_sub rfl 33 _ rfl _ rfl w.heap.size 0 rfl (rA ra sa) _ (by repeat (first | exact sAa | refine Sub.after ?_ _ | refine Sub.alloc ?_ _)) Tryz.underlying33 rfl (rA_info Ha.out) ?_) | (refine wpList_load_sub rfl 26 _ rfl _ rfl w.heap.size 0 rfl (idA ra) _ (by repeat (first | exact sIa | refine Sub.after ?_ _ | refine Sub.alloc ?_ _)) Tryz.underlying26 rfl (idA_info Ha.out) ?_) | (refine wpList_load_sub rfl 33 _ rfl _ rfl ya.w.heap.size 0 rfl (rA rb sb) _ (by repeat (first | exact sAb | refine Sub.after ?_ _ | refine Sub.alloc ?_ _)) Tryz.underlying33 rfl (rA_info Hb.out) ?_) | (refine wpList_load_sub rfl 26 _ rfl _ rfl ya.w.heap.size 0 rfl (idA rb) _ (by repeat (first | exact sIb | refine Sub.after ?_ _ | refine Sub.alloc ?_ _)) Tryz.underlying26 rfl (idA_info Hb.out) ?_) | ((fail_if_success have := KAr); have tg := Kb; refine wpList_alloc_blk rfl 33 rfl _ rfl (.agg noA) noA noA_zero rfl ?_; clear tg; intro w4 KAr b4 s4; clear s4; obtain ⟨yr, rfl⟩ := after_of b4) | ((fail_if_success have := tm1); go_at_call 55; (with_reducible refine (rfmay_v Ha.out hma.out _ (Hva.out.below (by (repeat (first | exact Below.refl _ _ | assumption | refine bel_alloc ?_ _ | refine bel_after _ ?_ | refine bel_drewN ?_ _ | refine bel_drew ?_ | refine bel_set ?_ (by first | omega | (simp only [World.size_alloc, World.size_drew, World.size_setCell]; omega) | (simp; omega)) _))))).mono ?_); rintro e w' ⟨rfl, hb⟩; obtain ⟨ym, rfl⟩ := after_of hb; clear hb; have tm1 := trivial) | ((fail_if_success have := tm2); have tg := tm1; go_at_call 55; (with_reducible refine (rfmay_v Hb.out hmb.out _ (Hvb.out.below (by (repeat (first | exact Below.refl _ _ | assumption | refine bel_alloc ?_ _ | refine bel_after _ ?_ | refine bel_drewN ?_ _ | refine bel_drew ?_ | refine bel_set ?_ (by first | omega | (simp only [World.size_alloc, World.size_drew, World.size_setCell]; omega) | (simp; omega)) _))))).mono ?_); clear tg; rintro e w' ⟨rfl, hb⟩; obtain ⟨yn, rfl⟩ := after_of hb; clear hb; have tm2 := trivial) | ((fail_if_success have := tb); have tg := tm2; refine wpList_build_to rfl 33 _ rfl _ rfl noA ?_ ?_; clear tg; (focus (first | (simp [Act.eval, noA_built]; done) | (simp [Act.eval]; exact noA_built))); have tb := trivial) | ((fail_if_success have := K2); have tg := tb; refine wpList_store_blk rfl 33 _ _ rfl yb.w.heap.size noA rfl rfl 33 noA ?_ noA_i rfl noA_o ?_; clear tg; exact ((KAr.after ym).after yn); intro w7 K2 b7 s7; clear s7; obtain ⟨y2, rfl⟩ := after_of (but_on2 (bel_after yn (bel_after ym yr.h)) b7 (Nat.le_refl _))))
    all_goals first | (rw [Exit.noGoto_ret]) | skip
    all_goals exact bodyPost_ret (results_cell_tmp Tryz.results92 _ _ yb.w.heap.size noA _ _ rfl rfl K2.subA Tryz.underlying33 rfl noA_i) rfl ⟨rfl, bel_after y2 (bel_after yb (bel_after ya (Below.refl _ _)))⟩
end Go.Proofs.YtolbmemogoojhaaGreat
/- rolodexref06.Join of two that are joined. -/
namespace Go.Proofs.YtolbmemogoojhaaGreat
open Go Go.RowKit Go.Deep
set_option linter.unusedVariables false
set_option linter.unusedSimpArgs false
set_option maxRecDepth 100000
section
variable {ops : Array Oper} {rest : List Oper} {a : Act} {w : World} {Q : Exit → Act → World → Prop} {dst : Option Tmp} {typ : TypeId} {x y : Operand} {pos : String} {af : Array Edge} {no N R : Int} {S : ByteArray}
theorem built_fld {no N R : Int} {S : ByteArray} : Tryz.prog.built 82 [(0, .int .i64 no), (1, .agg #[.int .i64 N, .int .i64 R, .string S])] = some #[.int .i64 no, .int .i64 N, .int .i64 R, .string S] := by kernel_rfl
theorem wpList_build_fld (hx : a.eval x = .int .i64 no) (hy : a.eval y = .agg #[.int .i64 N, .int .i64 R, .string S]) (h : wpList Tryz.prog ops Q rest (a.put dst (.agg #[.int .i64 no, .int .i64 N, .int .i64 R, .string S])) w) :
    wpList Tryz.prog ops Q (⟨dst, .build 82 #[(0, x), (1, y)], typ, pos, af, none⟩ :: rest) a w :=
  wpList_build_to rfl 82 #[(0, x), (1, y)] rfl dst rfl _ (by simp only [List.map_toArray, List.map_cons, List.map_nil, hx, hy]; exact built_fld) h
end
set_option maxHeartbeats 12800000 in
theorem rfjoin_yes (ra rb : RD) (sa sb : Value) (ha : ra.ok) (hb : rb.ok) (w : World) (hva : Flds w sa ra.f) (hvb : Flds w sb rb.f) (hcan : rCan ra rb = true) : Calls Tryz.prog 92 #[.agg (rA ra sa), .agg (rA rb sb)] w fun e w' => ∃ s, e = .returned (.tuple #[.agg (rA (rBoth ra rb) s), .bool true]) ∧ St w w' [Res.row 82 4 s (rBoth ra rb).f.length (fieldsL (rBoth ra rb).f)] := by
  obtain ⟨h1, h2, h3⟩ := can_iff.1 hcan
  have hq : ∀ W, (binOp .neq 26 (.agg (idA ra)) (.agg (idA rb))).run Tryz.prog W = .ok (.bool false) W := fun W => by
    have := neq_id ra.id rb.id ha hb W
    rw [h3, beq_self_eq_true] at this
    unfold idA; rw [h3]; exact this
  have hma := Lib.hid h1; have hmb := Lib.hid h2
  obtain ⟨rj, hrj⟩ : ∃ r, Hid (rBoth ra rb = r) := ⟨_, rfl⟩
  have HokR : Hid rj.ok := Lib.hid (by rw [← hrj.out]; exact ha)
  have Hf : Hid (rj.f = cn (jG ra rb) 0 8) := Lib.hid (by rw [← hrj.out]; exact both_jG h1 h2)
  rw [hrj.out]
  obtain ⟨X, hX⟩ : ∃ X, Hid (mxN ra.N ra.R rb.N rb.R = X) := ⟨_, rfl⟩
  obtain ⟨Y, hY⟩ : ∃ Y, Hid (mxR ra.N ra.R rb.N rb.R = Y) := ⟨_, rfl⟩
  obtain ⟨x0, hx0⟩ : ∃ x : RD, Hid (⟨ra.id, X, Y, []⟩ = x) := ⟨_, rfl⟩
  have Hx0 : Hid x0.ok := Lib.hid (by rw [← hx0.out]; exact ha)
  have Hbx : Hid (Tryz.prog.built 33 [(0, .agg (idA ra)), (1, .agg #[.int .i64 X, .int .i64 Y])] = some (rA x0 (.slice none 0 0))) := Lib.hid (by rw [← hx0.out]; exact built_id_dead (idA_size ha) X Y)
  have HxN : Hid (x0.N = X ∧ x0.R = Y) := Lib.hid (by rw [← hx0.out]; exact ⟨rfl, rfl⟩)
  have HxA : Hid (∀ s, rA x0 s = rA rj s) := Lib.hid (fun s => by rw [← hx0.out, ← hrj.out, ← hX.out, ← hY.out]; rfl)
  have Ha := Lib.hid ha; have Hb := Lib.hid hb; have Hva := Lib.hid hva; have Hvb := Lib.hid hvb
  clear ha hb hva hvb hcan h1 h2 h3
  have H := St.init w
  go_enter Tryz.func92, Tryz.ntmps92
  go_wp2_with (first | go_skip | ((fail_if_success have := kA); (with_reducible apply bx_rec H); rfl; (first | assumption | (refine Hid.out ?_; assumption)); clear H; intro wn kA H) | ((fail_if_success have := kB); (with_reducible apply bx_rec H); rfl; (first | assumption | (refine Hid.out ?_; assumption)); clear H; intro wn kB H) | ((fail_if_success have := kR); (with_reducible apply al_rec H); clear H; intro wn kR H) | ((with_reducible apply ld_rec); rfl; rfl; (first | (focus (apply H.rc; (repeat (first | with_reducible exact mH | with_reducible apply mT)); done)) | (apply RecAt.bel (hb := H.bel); assumption))) | ((with_reducible apply ld_id); rfl; rfl; (first | (focus (apply H.rc; (repeat (first | with_reducible exact mH | with_reducible apply mT)); done)) | (apply RecAt.bel (hb := H.bel); assumption))) | (go_at_call 55; first | ((with_reducible refine (rfmay_v Ha.out hma.out _ (Hva.out.below H.bel)).mono ?_); rintro e wn ⟨rfl, hb⟩; replace H := H.call hb; clear hb) | ((with_reducible refine (rfmay_v Hb.out hmb.out _ (Hvb.out.below H.bel)).mono ?_); rintro e wn ⟨rfl, hb⟩; replace H := H.call hb; clear hb) ))
  refine' wp_float_st H 8 33 8 _ (by kernel_rfl) (by kernel_rfl) rfl noA_zero rfl ?_ ?_
  case refine'_2 =>
    intro T
    simp only [strikeL, List.take_succ_cons, List.take_zero]
    repeat (first | go_big_quiet_skip | (go_big_quiet_want; (with_reducible apply qd_id); rfl; (rintro _ ⟨x, rfl⟩; have H := (H.call T.h).call x.h; (first | (focus (apply H.rc; (repeat (first | with_reducible exact mH | with_reducible apply mT)); done)) | (apply RecAt.bel (hb := H.bel); assumption))); (first | assumption | (refine Hid.out ?_; assumption)); (go_simp; go_big_quiet_on)) | (go_big_quiet_want; (with_reducible apply qd_dead); rfl; (rintro _ ⟨x, rfl⟩; have H := (H.call T.h).call x.h; (first | (focus (apply H.rc; (repeat (first | with_reducible exact mH | with_reducible apply mT)); done)) | (apply RecAt.bel (hb := H.bel); assumption))); (go_simp; go_big_quiet_on)) | (go_big_quiet_want; (refine quiet_build_to 33 _ rfl _ rfl (rA x0 (.slice none 0 0)) ?_ ?_; (focus (first | (simp [Act.eval, Hbx.out]; done) | (simp [Act.eval]; exact Hbx.out))); (go_simp; go_big_quiet_on))) | (go_big_quiet_step ((first | (go_at_call 103; with_reducible exact after_call _ (rsmax_v hX.out hY.out _))))))
    refine wpQuiet_nil ?_
    exact rfl
  clear H; intro wn g H
  replace H := H.recOf noRD_ok
  simp only [List.drop_succ_cons, List.drop_zero, Act.put, List.setIfInBounds_toArray, List.set_cons_zero, List.set_cons_succ]
  have HoneS : Hid (Value.oneCell' (.slice none 0 0) = true) := Lib.hid rfl
  go_wp2_with (first | go_skip | ((with_reducible apply st_rec H); rfl; rfl; rfl; (repeat (first | with_reducible apply Upd.head | with_reducible apply Upd.tail)); (first | assumption | (refine Hid.out ?_; assumption)); (first | rfl | assumption | (refine Hid.out ?_; assumption)); clear H; intro wn H))
  replace H := H.nilRow 82 4
  go_loopw [9] (fun i wr => ∃ (j : Nat) (s : Value), j ≤ 8 ∧ i = .int .i64 j ∧ St w wr [Res.row 82 4 s (cn (jG ra rb) 0 j).length (fieldsL (cn (jG ra rb) 0 j)), Res.rc g x0 s, Res.rc kR noRD (.slice none 0 0), Res.rc kB rb sb, Res.rc kA ra sa]) (fun i _ => 8 - (intOf i).toNat)
  case atStart => exact ⟨0, _, by omega, rfl, H⟩
  case round =>
    clear H
    obtain ⟨j, s, hj, rfl, H⟩ := hrel
    by_cases hlt : j < 8
    · obtain ⟨x, hx⟩ : ∃ x, Hid (fFind ra.f (j : Int) = x) := ⟨_, rfl⟩
      obtain ⟨y, hy⟩ : ∃ x, Hid (fFind rb.f (j : Int) = x) := ⟨_, rfl⟩
      have hXY := HxN.out
      obtain ⟨hXN, hXR⟩ := hXY
      have hl0 : ∀ a b l, stLess X Y a b = l → Hid (stLess x0.N x0.R a b = l) := fun a b l h => Lib.hid (by rw [hXN, hXR]; exact h)
      have HXL := Lib.hid hl0; clear hXN hXR hl0
      cases x with
      | none =>
        cases y with
        | none =>
          have hfx : Hid (fFindP ra.f (j : Int) = (0, 0, ⟨#[]⟩, false)) := Lib.hid (by rw [fFindP_eq, hx.out]; rfl)
          have hfy : Hid (fFindP rb.f (j : Int) = (0, 0, ⟨#[]⟩, false)) := Lib.hid (by rw [fFindP_eq, hy.out]; rfl)
          have hn : Hid (cn (jG ra rb) 0 (j + 1) = cn (jG ra rb) 0 j) := Lib.hid (jG_none hx.out hy.out)
          obtain ⟨l, hl1⟩ : ∃ l, Hid (stLess X Y 0 0 = l) := ⟨_, rfl⟩
          have hl := HXL.out _ _ _ hl1.out
          go_wp2_with (first | go_skip | ((fail_if_success have := TFx); go_at_call 133; (with_reducible refine (rffind_v Ha.out hfx.out _ (Hva.out.below H.bel)).mono ?_); rintro e wn ⟨rfl, hb⟩; replace H := H.call hb; clear hb; have TFx := trivial) | ((fail_if_success have := TFy); go_at_call 133; (with_reducible refine (rffind_v Hb.out hfy.out _ (Hvb.out.below H.bel)).mono ?_); rintro e wn ⟨rfl, hb⟩; replace H := H.call hb; clear hb; have TFy := trivial) | ((with_reducible apply al_cel H); clear H; intro wn b H) | ((with_reducible apply st_cel H); rfl; rfl; rfl; (repeat (first | with_reducible apply Upd.head | with_reducible apply Upd.tail)); clear H; intro wn H) | ((with_reducible apply ld_rec); rfl; rfl; (first | (focus (apply H.rc; (repeat (first | with_reducible exact mH | with_reducible apply mT)); done)) | (apply RecAt.bel (hb := H.bel); assumption))) | ((with_reducible apply ld_cel); rfl; rfl; (first | (focus (apply H.cel; (repeat (first | with_reducible exact mH | with_reducible apply mT)); done)) | (apply CelAt.bel (hb := H.bel); assumption))) | ((with_reducible apply ld_cstamp); rfl; rfl; (first | (focus (apply H.cel; (repeat (first | with_reducible exact mH | with_reducible apply mT)); done)) | (apply CelAt.bel (hb := H.bel); assumption))) | ((with_reducible apply ld_dead); rfl; rfl; (first | (focus (apply H.rc; (repeat (first | with_reducible exact mH | with_reducible apply mT)); done)) | (apply RecAt.bel (hb := H.bel); assumption))) | (go_at_call 134; (with_reducible refine (rcjoin_cv (a := (xN, xR, xS)) (b := (yN, yR, yS)) (c := (cN, cR, cS)) hcj.out hxs.out hys.out _).mono ?_); rintro e wn ⟨rfl, hb⟩; replace H := H.call hb; clear hb) | (go_at_call 95; (with_reducible refine (rsless_v hl.out _).mono ?_); rintro e wn ⟨rfl, hb⟩; replace H := H.call hb; clear hb))
          go_roundw
          case rel => exact ⟨j + 1, s, by omega, by go_num, by rw [hn.out]; exact H.sub (by (repeat (first | with_reducible exact List.Sublist.refl _ | with_reducible refine List.Sublist.cons_cons _ ?_ | refine List.Sublist.cons _ ?_)))⟩
          case measure => simp [intOf]; omega
        | some c =>
          obtain ⟨yN, yR, yS⟩ := c
          have hfx : Hid (fFindP ra.f (j : Int) = (0, 0, ⟨#[]⟩, false)) := Lib.hid (by rw [fFindP_eq, hx.out]; rfl)
          have hfy : Hid (fFindP rb.f (j : Int) = (yN, yR, yS, true)) := Lib.hid (by rw [fFindP_eq, hy.out]; rfl)
          obtain ⟨l, hl1⟩ : ∃ l, Hid (stLess X Y yN yR = l) := ⟨_, rfl⟩
          have hl := HXL.out _ _ _ hl1.out
          have hn : Hid (cn (jG ra rb) 0 (j + 1) = cn (jG ra rb) 0 j ++ (bif l then [((j : Int), (yN, yR, yS))] else [])) := Lib.hid (jG_some (by rw [hx.out, hy.out]; rfl) (by rw [hX.out, hY.out]; exact hl1.out))
          cases l
          · go_wp2_with (first | go_skip | ((fail_if_success have := TFx); go_at_call 133; (with_reducible refine (rffind_v Ha.out hfx.out _ (Hva.out.below H.bel)).mono ?_); rintro e wn ⟨rfl, hb⟩; replace H := H.call hb; clear hb; have TFx := trivial) | ((fail_if_success have := TFy); go_at_call 133; (with_reducible refine (rffind_v Hb.out hfy.out _ (Hvb.out.below H.bel)).mono ?_); rintro e wn ⟨rfl, hb⟩; replace H := H.call hb; clear hb; have TFy := trivial) | ((with_reducible apply al_cel H); clear H; intro wn b H) | ((with_reducible apply st_cel H); rfl; rfl; rfl; (repeat (first | with_reducible apply Upd.head | with_reducible apply Upd.tail)); clear H; intro wn H) | ((with_reducible apply ld_rec); rfl; rfl; (first | (focus (apply H.rc; (repeat (first | with_reducible exact mH | with_reducible apply mT)); done)) | (apply RecAt.bel (hb := H.bel); assumption))) | ((with_reducible apply ld_cel); rfl; rfl; (first | (focus (apply H.cel; (repeat (first | with_reducible exact mH | with_reducible apply mT)); done)) | (apply CelAt.bel (hb := H.bel); assumption))) | ((with_reducible apply ld_cstamp); rfl; rfl; (first | (focus (apply H.cel; (repeat (first | with_reducible exact mH | with_reducible apply mT)); done)) | (apply CelAt.bel (hb := H.bel); assumption))) | ((with_reducible apply ld_dead); rfl; rfl; (first | (focus (apply H.rc; (repeat (first | with_reducible exact mH | with_reducible apply mT)); done)) | (apply RecAt.bel (hb := H.bel); assumption))) | (go_at_call 134; (with_reducible refine (rcjoin_cv (a := (xN, xR, xS)) (b := (yN, yR, yS)) (c := (cN, cR, cS)) hcj.out hxs.out hys.out _).mono ?_); rintro e wn ⟨rfl, hb⟩; replace H := H.call hb; clear hb) | (go_at_call 95; (with_reducible refine (rsless_v hl.out _).mono ?_); rintro e wn ⟨rfl, hb⟩; replace H := H.call hb; clear hb))
            go_roundw
            case rel => exact ⟨j + 1, s, by omega, by go_num, by rw [hn.out]; simp only [cond_false, List.append_nil]; exact H.sub (by (repeat (first | with_reducible exact List.Sublist.refl _ | with_reducible refine List.Sublist.cons_cons _ ?_ | refine List.Sublist.cons _ ?_)))⟩
            case measure => simp [intOf]; omega
          · go_wp2_with (first | go_skip | ((fail_if_success have := TFx); go_at_call 133; (with_reducible refine (rffind_v Ha.out hfx.out _ (Hva.out.below H.bel)).mono ?_); rintro e wn ⟨rfl, hb⟩; replace H := H.call hb; clear hb; have TFx := trivial) | ((fail_if_success have := TFy); go_at_call 133; (with_reducible refine (rffind_v Hb.out hfy.out _ (Hvb.out.below H.bel)).mono ?_); rintro e wn ⟨rfl, hb⟩; replace H := H.call hb; clear hb; have TFy := trivial) | ((with_reducible apply al_cel H); clear H; intro wn b H) | ((with_reducible apply st_cel H); rfl; rfl; rfl; (repeat (first | with_reducible apply Upd.head | with_reducible apply Upd.tail)); clear H; intro wn H) | ((with_reducible apply ld_rec); rfl; rfl; (first | (focus (apply H.rc; (repeat (first | with_reducible exact mH | with_reducible apply mT)); done)) | (apply RecAt.bel (hb := H.bel); assumption))) | ((with_reducible apply ld_cel); rfl; rfl; (first | (focus (apply H.cel; (repeat (first | with_reducible exact mH | with_reducible apply mT)); done)) | (apply CelAt.bel (hb := H.bel); assumption))) | ((with_reducible apply ld_cstamp); rfl; rfl; (first | (focus (apply H.cel; (repeat (first | with_reducible exact mH | with_reducible apply mT)); done)) | (apply CelAt.bel (hb := H.bel); assumption))) | ((with_reducible apply ld_dead); rfl; rfl; (first | (focus (apply H.rc; (repeat (first | with_reducible exact mH | with_reducible apply mT)); done)) | (apply RecAt.bel (hb := H.bel); assumption))) | (go_at_call 134; (with_reducible refine (rcjoin_cv (a := (xN, xR, xS)) (b := (yN, yR, yS)) (c := (cN, cR, cS)) hcj.out hxs.out hys.out _).mono ?_); rintro e wn ⟨rfl, hb⟩; replace H := H.call hb; clear hb) | (go_at_call 95; (with_reducible refine (rsless_v hl.out _).mono ?_); rintro e wn ⟨rfl, hb⟩; replace H := H.call hb; clear hb) | ((with_reducible apply ld_F); rfl; rfl; (first | (focus (apply H.rc; (repeat (first | with_reducible exact mH | with_reducible apply mT)); done)) | (apply RecAt.bel (hb := H.bel); assumption))) | ((with_reducible apply wpList_build_fld); rfl; rfl) | ((with_reducible apply arm_bslice1 H (hu := Tryz.underlying31) (hinfo := info_field) (hzs := rfl) (hsz := by decide) (hsm := by decide)); (conv => lhs; whnf); (simp only [Value.cells]; rfl); rfl; clear H; intro wn b H) | ((with_reducible apply arm_app H (ht := Tryz.underlying31) (hinfo := info_field) (hzs := rfl) (hsz := by decide)); (conv => lhs; whnf); (conv => lhs; whnf); (intro v; (repeat (first | with_reducible apply Upd.head | with_reducible apply Upd.tail))); (focus (apply H.rowRead; (repeat (first | with_reducible exact mH | with_reducible apply mT)); done)); (focus (intro u hu; simp only [List.mem_cons, List.not_mem_nil, or_false] at hu; (try (rcases hu with rfl | rfl | rfl | rfl <;> rfl)); (try (subst hu; rfl)); done)); (focus (have h8 := cn_len (jG ra rb) j; unfold maxLen; omega; done)); (focus (have h8 := cn_len (jG ra rb) j; omega; done)); clear H; intro wn vn H) | ((with_reducible apply st_F H); rfl; rfl; (conv => lhs; whnf); (repeat (first | with_reducible apply Upd.head | with_reducible apply Upd.tail)); (first | exact ⟨_, _, _, rfl⟩ | (focus (apply H.rowSlice; (repeat (first | with_reducible exact mH | with_reducible apply mT)); done))); clear H; intro wn H))
            go_roundw
            case rel => exact ⟨j + 1, vn, by omega, by go_num, by rw [hn.out]; simp only [cond_true, fieldsL_append, fieldsL, List.length_append, List.length_cons, List.length_nil]; exact H.sub (by (repeat (first | with_reducible exact List.Sublist.refl _ | with_reducible refine List.Sublist.cons_cons _ ?_ | refine List.Sublist.cons _ ?_)))⟩
            case measure => simp [intOf]; omega
      | some c =>
        obtain ⟨xN, xR, xS⟩ := c
        cases y with
        | none =>
          have hfx : Hid (fFindP ra.f (j : Int) = (xN, xR, xS, true)) := Lib.hid (by rw [fFindP_eq, hx.out]; rfl)
          have hfy : Hid (fFindP rb.f (j : Int) = (0, 0, ⟨#[]⟩, false)) := Lib.hid (by rw [fFindP_eq, hy.out]; rfl)
          obtain ⟨l, hl1⟩ : ∃ l, Hid (stLess X Y xN xR = l) := ⟨_, rfl⟩
          have hl := HXL.out _ _ _ hl1.out
          have hn : Hid (cn (jG ra rb) 0 (j + 1) = cn (jG ra rb) 0 j ++ (bif l then [((j : Int), (xN, xR, xS))] else [])) := Lib.hid (jG_some (by rw [hx.out, hy.out]; rfl) (by rw [hX.out, hY.out]; exact hl1.out))
          cases l
          · go_wp2_with (first | go_skip | ((fail_if_success have := TFx); go_at_call 133; (with_reducible refine (rffind_v Ha.out hfx.out _ (Hva.out.below H.bel)).mono ?_); rintro e wn ⟨rfl, hb⟩; replace H := H.call hb; clear hb; have TFx := trivial) | ((fail_if_success have := TFy); go_at_call 133; (with_reducible refine (rffind_v Hb.out hfy.out _ (Hvb.out.below H.bel)).mono ?_); rintro e wn ⟨rfl, hb⟩; replace H := H.call hb; clear hb; have TFy := trivial) | ((with_reducible apply al_cel H); clear H; intro wn b H) | ((with_reducible apply st_cel H); rfl; rfl; rfl; (repeat (first | with_reducible apply Upd.head | with_reducible apply Upd.tail)); clear H; intro wn H) | ((with_reducible apply ld_rec); rfl; rfl; (first | (focus (apply H.rc; (repeat (first | with_reducible exact mH | with_reducible apply mT)); done)) | (apply RecAt.bel (hb := H.bel); assumption))) | ((with_reducible apply ld_cel); rfl; rfl; (first | (focus (apply H.cel; (repeat (first | with_reducible exact mH | with_reducible apply mT)); done)) | (apply CelAt.bel (hb := H.bel); assumption))) | ((with_reducible apply ld_cstamp); rfl; rfl; (first | (focus (apply H.cel; (repeat (first | with_reducible exact mH | with_reducible apply mT)); done)) | (apply CelAt.bel (hb := H.bel); assumption))) | ((with_reducible apply ld_dead); rfl; rfl; (first | (focus (apply H.rc; (repeat (first | with_reducible exact mH | with_reducible apply mT)); done)) | (apply RecAt.bel (hb := H.bel); assumption))) | (go_at_call 134; (with_reducible refine (rcjoin_cv (a := (xN, xR, xS)) (b := (yN, yR, yS)) (c := (cN, cR, cS)) hcj.out hxs.out hys.out _).mono ?_); rintro e wn ⟨rfl, hb⟩; replace H := H.call hb; clear hb) | (go_at_call 95; (with_reducible refine (rsless_v hl.out _).mono ?_); rintro e wn ⟨rfl, hb⟩; replace H := H.call hb; clear hb))
            go_roundw
            case rel => exact ⟨j + 1, s, by omega, by go_num, by rw [hn.out]; simp only [cond_false, List.append_nil]; exact H.sub (by (repeat (first | with_reducible exact List.Sublist.refl _ | with_reducible refine List.Sublist.cons_cons _ ?_ | refine List.Sublist.cons _ ?_)))⟩
            case measure => simp [intOf]; omega
          · go_wp2_with (first | go_skip | ((fail_if_success have := TFx); go_at_call 133; (with_reducible refine (rffind_v Ha.out hfx.out _ (Hva.out.below H.bel)).mono ?_); rintro e wn ⟨rfl, hb⟩; replace H := H.call hb; clear hb; have TFx := trivial) | ((fail_if_success have := TFy); go_at_call 133; (with_reducible refine (rffind_v Hb.out hfy.out _ (Hvb.out.below H.bel)).mono ?_); rintro e wn ⟨rfl, hb⟩; replace H := H.call hb; clear hb; have TFy := trivial) | ((with_reducible apply al_cel H); clear H; intro wn b H) | ((with_reducible apply st_cel H); rfl; rfl; rfl; (repeat (first | with_reducible apply Upd.head | with_reducible apply Upd.tail)); clear H; intro wn H) | ((with_reducible apply ld_rec); rfl; rfl; (first | (focus (apply H.rc; (repeat (first | with_reducible exact mH | with_reducible apply mT)); done)) | (apply RecAt.bel (hb := H.bel); assumption))) | ((with_reducible apply ld_cel); rfl; rfl; (first | (focus (apply H.cel; (repeat (first | with_reducible exact mH | with_reducible apply mT)); done)) | (apply CelAt.bel (hb := H.bel); assumption))) | ((with_reducible apply ld_cstamp); rfl; rfl; (first | (focus (apply H.cel; (repeat (first | with_reducible exact mH | with_reducible apply mT)); done)) | (apply CelAt.bel (hb := H.bel); assumption))) | ((with_reducible apply ld_dead); rfl; rfl; (first | (focus (apply H.rc; (repeat (first | with_reducible exact mH | with_reducible apply mT)); done)) | (apply RecAt.bel (hb := H.bel); assumption))) | (go_at_call 134; (with_reducible refine (rcjoin_cv (a := (xN, xR, xS)) (b := (yN, yR, yS)) (c := (cN, cR, cS)) hcj.out hxs.out hys.out _).mono ?_); rintro e wn ⟨rfl, hb⟩; replace H := H.call hb; clear hb) | (go_at_call 95; (with_reducible refine (rsless_v hl.out _).mono ?_); rintro e wn ⟨rfl, hb⟩; replace H := H.call hb; clear hb) | ((with_reducible apply ld_F); rfl; rfl; (first | (focus (apply H.rc; (repeat (first | with_reducible exact mH | with_reducible apply mT)); done)) | (apply RecAt.bel (hb := H.bel); assumption))) | ((with_reducible apply wpList_build_fld); rfl; rfl) | ((with_reducible apply arm_bslice1 H (hu := Tryz.underlying31) (hinfo := info_field) (hzs := rfl) (hsz := by decide) (hsm := by decide)); (conv => lhs; whnf); (simp only [Value.cells]; rfl); rfl; clear H; intro wn b H) | ((with_reducible apply arm_app H (ht := Tryz.underlying31) (hinfo := info_field) (hzs := rfl) (hsz := by decide)); (conv => lhs; whnf); (conv => lhs; whnf); (intro v; (repeat (first | with_reducible apply Upd.head | with_reducible apply Upd.tail))); (focus (apply H.rowRead; (repeat (first | with_reducible exact mH | with_reducible apply mT)); done)); (focus (intro u hu; simp only [List.mem_cons, List.not_mem_nil, or_false] at hu; (try (rcases hu with rfl | rfl | rfl | rfl <;> rfl)); (try (subst hu; rfl)); done)); (focus (have h8 := cn_len (jG ra rb) j; unfold maxLen; omega; done)); (focus (have h8 := cn_len (jG ra rb) j; omega; done)); clear H; intro wn vn H) | ((with_reducible apply st_F H); rfl; rfl; (conv => lhs; whnf); (repeat (first | with_reducible apply Upd.head | with_reducible apply Upd.tail)); (first | exact ⟨_, _, _, rfl⟩ | (focus (apply H.rowSlice; (repeat (first | with_reducible exact mH | with_reducible apply mT)); done))); clear H; intro wn H))
            go_roundw
            case rel => exact ⟨j + 1, vn, by omega, by go_num, by rw [hn.out]; simp only [cond_true, fieldsL_append, fieldsL, List.length_append, List.length_cons, List.length_nil]; exact H.sub (by (repeat (first | with_reducible exact List.Sublist.refl _ | with_reducible refine List.Sublist.cons_cons _ ?_ | refine List.Sublist.cons _ ?_)))⟩
            case measure => simp [intOf]; omega
        | some c =>
          obtain ⟨yN, yR, yS⟩ := c
          have hfx : Hid (fFindP ra.f (j : Int) = (xN, xR, xS, true)) := Lib.hid (by rw [fFindP_eq, hx.out]; rfl)
          have hfy : Hid (fFindP rb.f (j : Int) = (yN, yR, yS, true)) := Lib.hid (by rw [fFindP_eq, hy.out]; rfl)
          obtain ⟨⟨cN, cR, cS⟩, hcj⟩ : ∃ c : C3, Hid (cJ (xN, xR, xS) (yN, yR, yS) = c) := ⟨_, rfl⟩
          have hxs : Hid (xS.size ≤ 80000) := Lib.hid (recMay_small (N := ra.N) (R := ra.R) hma.out _ (fFind_mem hx.out))
          have hys : Hid (yS.size ≤ 80000) := Lib.hid (recMay_small (N := rb.N) (R := rb.R) hmb.out _ (fFind_mem hy.out))
          obtain ⟨l, hl1⟩ : ∃ l, Hid (stLess X Y cN cR = l) := ⟨_, rfl⟩
          have hl := HXL.out _ _ _ hl1.out
          have hn : Hid (cn (jG ra rb) 0 (j + 1) = cn (jG ra rb) 0 j ++ (bif l then [((j : Int), (cN, cR, cS))] else [])) := Lib.hid (jG_some (by rw [hx.out, hy.out]; show some (cJ _ _) = some _; rw [hcj.out]) (by rw [hX.out, hY.out]; exact hl1.out))
          cases l
          · go_wp2_with (first | go_skip | ((fail_if_success have := TFx); go_at_call 133; (with_reducible refine (rffind_v Ha.out hfx.out _ (Hva.out.below H.bel)).mono ?_); rintro e wn ⟨rfl, hb⟩; replace H := H.call hb; clear hb; have TFx := trivial) | ((fail_if_success have := TFy); go_at_call 133; (with_reducible refine (rffind_v Hb.out hfy.out _ (Hvb.out.below H.bel)).mono ?_); rintro e wn ⟨rfl, hb⟩; replace H := H.call hb; clear hb; have TFy := trivial) | ((with_reducible apply al_cel H); clear H; intro wn b H) | ((with_reducible apply st_cel H); rfl; rfl; rfl; (repeat (first | with_reducible apply Upd.head | with_reducible apply Upd.tail)); clear H; intro wn H) | ((with_reducible apply ld_rec); rfl; rfl; (first | (focus (apply H.rc; (repeat (first | with_reducible exact mH | with_reducible apply mT)); done)) | (apply RecAt.bel (hb := H.bel); assumption))) | ((with_reducible apply ld_cel); rfl; rfl; (first | (focus (apply H.cel; (repeat (first | with_reducible exact mH | with_reducible apply mT)); done)) | (apply CelAt.bel (hb := H.bel); assumption))) | ((with_reducible apply ld_cstamp); rfl; rfl; (first | (focus (apply H.cel; (repeat (first | with_reducible exact mH | with_reducible apply mT)); done)) | (apply CelAt.bel (hb := H.bel); assumption))) | ((with_reducible apply ld_dead); rfl; rfl; (first | (focus (apply H.rc; (repeat (first | with_reducible exact mH | with_reducible apply mT)); done)) | (apply RecAt.bel (hb := H.bel); assumption))) | (go_at_call 134; (with_reducible refine (rcjoin_cv (a := (xN, xR, xS)) (b := (yN, yR, yS)) (c := (cN, cR, cS)) hcj.out hxs.out hys.out _).mono ?_); rintro e wn ⟨rfl, hb⟩; replace H := H.call hb; clear hb) | (go_at_call 95; (with_reducible refine (rsless_v hl.out _).mono ?_); rintro e wn ⟨rfl, hb⟩; replace H := H.call hb; clear hb))
            go_roundw
            case rel => exact ⟨j + 1, s, by omega, by go_num, by rw [hn.out]; simp only [cond_false, List.append_nil]; exact H.sub (by (repeat (first | with_reducible exact List.Sublist.refl _ | with_reducible refine List.Sublist.cons_cons _ ?_ | refine List.Sublist.cons _ ?_)))⟩
            case measure => simp [intOf]; omega
          · go_wp2_with (first | go_skip | ((fail_if_success have := TFx); go_at_call 133; (with_reducible refine (rffind_v Ha.out hfx.out _ (Hva.out.below H.bel)).mono ?_); rintro e wn ⟨rfl, hb⟩; replace H := H.call hb; clear hb; have TFx := trivial) | ((fail_if_success have := TFy); go_at_call 133; (with_reducible refine (rffind_v Hb.out hfy.out _ (Hvb.out.below H.bel)).mono ?_); rintro e wn ⟨rfl, hb⟩; replace H := H.call hb; clear hb; have TFy := trivial) | ((with_reducible apply al_cel H); clear H; intro wn b H) | ((with_reducible apply st_cel H); rfl; rfl; rfl; (repeat (first | with_reducible apply Upd.head | with_reducible apply Upd.tail)); clear H; intro wn H) | ((with_reducible apply ld_rec); rfl; rfl; (first | (focus (apply H.rc; (repeat (first | with_reducible exact mH | with_reducible apply mT)); done)) | (apply RecAt.bel (hb := H.bel); assumption))) | ((with_reducible apply ld_cel); rfl; rfl; (first | (focus (apply H.cel; (repeat (first | with_reducible exact mH | with_reducible apply mT)); done)) | (apply CelAt.bel (hb := H.bel); assumption))) | ((with_reducible apply ld_cstamp); rfl; rfl; (first | (focus (apply H.cel; (repeat (first | with_reducible exact mH | with_reducible apply mT)); done)) | (apply CelAt.bel (hb := H.bel); assumption))) | ((with_reducible apply ld_dead); rfl; rfl; (first | (focus (apply H.rc; (repeat (first | with_reducible exact mH | with_reducible apply mT)); done)) | (apply RecAt.bel (hb := H.bel); assumption))) | (go_at_call 134; (with_reducible refine (rcjoin_cv (a := (xN, xR, xS)) (b := (yN, yR, yS)) (c := (cN, cR, cS)) hcj.out hxs.out hys.out _).mono ?_); rintro e wn ⟨rfl, hb⟩; replace H := H.call hb; clear hb) | (go_at_call 95; (with_reducible refine (rsless_v hl.out _).mono ?_); rintro e wn ⟨rfl, hb⟩; replace H := H.call hb; clear hb) | ((with_reducible apply ld_F); rfl; rfl; (first | (focus (apply H.rc; (repeat (first | with_reducible exact mH | with_reducible apply mT)); done)) | (apply RecAt.bel (hb := H.bel); assumption))) | ((with_reducible apply wpList_build_fld); rfl; rfl) | ((with_reducible apply arm_bslice1 H (hu := Tryz.underlying31) (hinfo := info_field) (hzs := rfl) (hsz := by decide) (hsm := by decide)); (conv => lhs; whnf); (simp only [Value.cells]; rfl); rfl; clear H; intro wn b H) | ((with_reducible apply arm_app H (ht := Tryz.underlying31) (hinfo := info_field) (hzs := rfl) (hsz := by decide)); (conv => lhs; whnf); (conv => lhs; whnf); (intro v; (repeat (first | with_reducible apply Upd.head | with_reducible apply Upd.tail))); (focus (apply H.rowRead; (repeat (first | with_reducible exact mH | with_reducible apply mT)); done)); (focus (intro u hu; simp only [List.mem_cons, List.not_mem_nil, or_false] at hu; (try (rcases hu with rfl | rfl | rfl | rfl <;> rfl)); (try (subst hu; rfl)); done)); (focus (have h8 := cn_len (jG ra rb) j; unfold maxLen; omega; done)); (focus (have h8 := cn_len (jG ra rb) j; omega; done)); clear H; intro wn vn H) | ((with_reducible apply st_F H); rfl; rfl; (conv => lhs; whnf); (repeat (first | with_reducible apply Upd.head | with_reducible apply Upd.tail)); (first | exact ⟨_, _, _, rfl⟩ | (focus (apply H.rowSlice; (repeat (first | with_reducible exact mH | with_reducible apply mT)); done))); clear H; intro wn H))
            go_roundw
            case rel => exact ⟨j + 1, vn, by omega, by go_num, by rw [hn.out]; simp only [cond_true, fieldsL_append, fieldsL, List.length_append, List.length_cons, List.length_nil]; exact H.sub (by (repeat (first | with_reducible exact List.Sublist.refl _ | with_reducible refine List.Sublist.cons_cons _ ?_ | refine List.Sublist.cons _ ?_)))⟩
            case measure => simp [intOf]; omega
    · have hj8 : j = 8 := by omega
      subst hj8
      rw [← Hf.out] at H
      have hone : s.oneCell' = true := by obtain ⟨_, _, _, rfl⟩ := H.rowSlice mH; rfl
      have Hone := Lib.hid hone; clear hone
      go_wp2_with (first | go_skip | ((with_reducible apply ld_rec); rfl; rfl; (first | (focus (apply H.rc; (repeat (first | with_reducible exact mH | with_reducible apply mT)); done)) | (apply RecAt.bel (hb := H.bel); assumption))) | ((with_reducible apply st_rec H); rfl; rfl; rfl; (repeat (first | with_reducible apply Upd.head | with_reducible apply Upd.tail)); (first | assumption | (refine Hid.out ?_; assumption)); (first | rfl | assumption | (refine Hid.out ?_; assumption)); clear H; intro wn H))
      all_goals first | (rw [Exit.noGoto_ret]) | skip
      have hR := (H.rc (b := kR) (r := x0) (s := s) (by (repeat (first | with_reducible exact mH | with_reducible apply mT)))).1
      rw [HxA.out s] at hR
      exact bodyPost_ret (results_cell_tmp Tryz.results92 _ _ kR (rA rj s) _ _ rfl rfl hR Tryz.underlying33 rfl (rA_info HokR.out)) rfl ⟨s, rfl, H.sub (by (repeat (first | with_reducible exact List.Sublist.refl _ | with_reducible refine List.Sublist.cons_cons _ ?_ | refine List.Sublist.cons _ ?_)))⟩
end Go.Proofs.YtolbmemogoojhaaGreat
/- rolodexref06.Join, Leq. -/
namespace Go.Proofs.YtolbmemogoojhaaGreat
open Go Go.RowKit Go.Deep
set_option linter.unusedVariables false
set_option linter.unusedSimpArgs false
set_option maxRecDepth 100000
theorem rfjoinS {r r' j : RD} {s s' : Value} {d : Bool} (hr : r.ok) (hr' : r'.ok) (h : rCan r r' = d) (hj : rJoin r r' = j) (w : World) (hv : Flds w s r.f) (hv' : Flds w s' r'.f) :
    Calls Tryz.prog 92 #[.agg (rA r s), .agg (rA r' s')] w fun e w' => ∃ sj, e = .returned (.tuple #[.agg (rA j sj), .bool d]) ∧ St w w' [Res.row 82 4 sj j.f.length (fieldsL j.f)] := by
  subst hj
  cases d with
  | true =>
    have e : rJoin r r' = rBoth r r' := by unfold rJoin; rw [if_pos h]
    rw [e]; exact rfjoin_yes r r' s s' hr hr' w hv hv' h
  | false =>
    have e : rJoin r r' = noRD := by unfold rJoin; rw [if_neg (by rw [h]; simp)]
    rw [e]
    refine (rfjoin_no r r' s s' hr hr' w hv hv' h).mono fun e w' ⟨he, hb⟩ => ⟨.slice none 0 0, he, ?_⟩
    exact ((St.init w).call hb).nilRow 82 4
end Go.Proofs.YtolbmemogoojhaaGreat
