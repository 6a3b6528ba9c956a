/- rolodexref06.Join of two that are not joined. -/
import Derived.Test.YtgckgbonhbabpaaRecV
import Derived.Test.YtgckgbonhbabpaaRefF
namespace Go.Proofs.Ytgckgbonhbabpaa
open Go Go.RowKit Go.Deep
set_option linter.unusedVariables false
set_option linter.unusedSimpArgs false
set_option maxRecDepth 100000
theorem noA_i : (Try.prog.info? 54).map (·.size) = some noA.size := rA_info noRD_ok
theorem noA_o : noA.all (·.oneCell') = true := recA_one (encU_all _) rfl
set_option maxHeartbeats 6400000 in
theorem rfjoin_no (ra rb : RD) (sa sb : Value) (ha : ra.ok) (hb : rb.ok) (w : World) (hva : Flds w sa ra.f) (hvb : Flds w sb rb.f) (hno : rCan ra rb = false) : Calls Try.prog 38 #[.agg (rA ra sa), .agg (rA rb sb)] w fun e w' => e = .returned (.tuple #[.agg noA, .bool false]) ∧ Below w.heap.size w w' := by
  have hAc := @after_cell
  have hAf := @after_frozen
  have hSz := sz_facts
  obtain ⟨i, hi⟩ : ∃ i, (ra.id == rb.id) = i := ⟨_, rfl⟩
  have hq : ∀ W, (binOp .neq 51 (.agg (idA ra)) (.agg (idA rb))).run Try.prog W = .ok (.bool (!i)) W := fun W => by rw [← hi]; exact neq_id ra.id rb.id ha hb W
  obtain ⟨p, hma⟩ : ∃ p, Hid (rMay ra = p) := ⟨_, rfl⟩
  obtain ⟨q, hmb⟩ : ∃ p, Hid (rMay rb = p) := ⟨_, rfl⟩
  have hcase : p = false ∨ p = true ∧ q = false ∨ p = true ∧ q = true ∧ i = false := by
    unfold rCan at hno; rw [hma.out, hmb.out, hi] at hno; revert hno; cases p <;> cases q <;> cases i <;> simp
  have Ha := Lib.hid ha; have Hb := Lib.hid hb; have Hva := Lib.hid hva; have Hvb := Lib.hid hvb
  clear ha hb hva hvb hno hi
  rcases hcase with rfl | ⟨rfl, rfl⟩ | ⟨rfl, rfl, rfl⟩
  all_goals
    go_enter Try.func38, Try.ntmps38
    go_wp2_with (first | go_skip | ((fail_if_success have := Ka); refine wpList_box_blk rfl 54 _ rfl _ rfl (rA ra sa) rfl ?_; intro w1 Ka b1 s1; clear s1; obtain ⟨ya, rfl⟩ := after_of b1; obtain ⟨sAa, sIa, sDa, sFa⟩ := rA_subs Ka Ha.out) | ((fail_if_success have := Kb); refine wpList_box_blk rfl 54 _ rfl _ rfl (rA rb sb) rfl ?_; intro w1 Kb b1 s1; clear s1; obtain ⟨yb, rfl⟩ := after_of b1; obtain ⟨sAb, sIb, sDb, sFb⟩ := rA_subs Kb Hb.out) | (refine wpList_load_sub rfl 54 _ rfl _ rfl w.heap.size 0 rfl (rA ra sa) _ (by repeat (first | exact sAa | refine Sub.after ?_ _ | refine Sub.alloc ?_ _)) Try.underlying54 rfl (rA_info Ha.out) ?_) | (refine wpList_load_sub rfl 51 _ rfl _ rfl w.heap.size 0 rfl (idA ra) _ (by repeat (first | exact sIa | refine Sub.after ?_ _ | refine Sub.alloc ?_ _)) Try.underlying51 rfl (idA_info Ha.out) ?_) | (refine wpList_load_sub rfl 54 _ rfl _ rfl ya.w.heap.size 0 rfl (rA rb sb) _ (by repeat (first | exact sAb | refine Sub.after ?_ _ | refine Sub.alloc ?_ _)) Try.underlying54 rfl (rA_info Hb.out) ?_) | (refine wpList_load_sub rfl 51 _ rfl _ rfl ya.w.heap.size 0 rfl (idA rb) _ (by repeat (first | exact sIb | refine Sub.after ?_ _ | refine Sub.alloc ?_ _)) Try.underlying51 rfl (idA_info Hb.out) ?_) | ((fail_if_success have := KAr); have tg := Kb; refine wpList_alloc_blk rfl 54 rfl _ rfl (.agg noA) noA noA_zero rfl ?_; clear tg; intro w4 KAr b4 s4; clear s4; obtain ⟨yr, rfl⟩ := after_of b4) | ((fail_if_success have := tm1); go_at_call 40; (with_reducible refine (rfmay_v Ha.out hma.out _ (Hva.out.below (by (repeat (first | exact Below.refl _ _ | assumption | refine bel_alloc ?_ _ | refine bel_after _ ?_ | refine bel_drewN ?_ _ | refine bel_drew ?_ | refine bel_set ?_ (by first | omega | (simp only [World.size_alloc, World.size_drew, World.size_setCell]; omega) | (simp; omega)) _))))).mono ?_); rintro e w' ⟨rfl, hb⟩; obtain ⟨ym, rfl⟩ := after_of hb; clear hb; have tm1 := trivial) | ((fail_if_success have := tm2); have tg := tm1; go_at_call 40; (with_reducible refine (rfmay_v Hb.out hmb.out _ (Hvb.out.below (by (repeat (first | exact Below.refl _ _ | assumption | refine bel_alloc ?_ _ | refine bel_after _ ?_ | refine bel_drewN ?_ _ | refine bel_drew ?_ | refine bel_set ?_ (by first | omega | (simp only [World.size_alloc, World.size_drew, World.size_setCell]; omega) | (simp; omega)) _))))).mono ?_); clear tg; rintro e w' ⟨rfl, hb⟩; obtain ⟨yn, rfl⟩ := after_of hb; clear hb; have tm2 := trivial) | ((fail_if_success have := tb); have tg := tm2; refine wpList_build_to rfl 54 _ rfl _ rfl noA ?_ ?_; clear tg; (focus (first | (simp [Act.eval, noA_built]; done) | (simp [Act.eval]; exact noA_built))); have tb := trivial) | ((fail_if_success have := K2); have tg := tb; refine wpList_store_blk rfl 54 _ _ rfl yb.w.heap.size noA rfl rfl 54 noA ?_ noA_i rfl noA_o ?_; clear tg; exact ((KAr.after ym).after yn); intro w7 K2 b7 s7; clear s7; obtain ⟨y2, rfl⟩ := after_of (but_on2 (bel_after yn (bel_after ym yr.h)) b7 (Nat.le_refl _))))
    all_goals first | (rw [Exit.noGoto_ret]) | skip
    all_goals exact bodyPost_ret (results_cell_tmp Try.results38 _ _ yb.w.heap.size noA _ _ rfl rfl K2.subA Try.underlying54 rfl noA_i) rfl ⟨rfl, bel_after y2 (bel_after yb (bel_after ya (Below.refl _ _)))⟩
end Go.Proofs.Ytgckgbonhbabpaa
