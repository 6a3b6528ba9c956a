/- The walk of RecOnly. -/
import Derived.Test.YtgckgbonhbabpaaRecK
import Derived.Test.YtgckgbonhbabpaaRecO
namespace Go.Proofs.Ytgckgbonhbabpaa
open Go Go.RowKit Go.Deep
set_option linter.unusedVariables false
set_option linter.unusedSimpArgs false
set_option maxRecDepth 100000
theorem noA_info : (Try.prog.info? 54).map (·.size) = some noA.size := rA_info noRD_ok
theorem noA_one : noA.all (·.oneCell') = true := recA_one (encU_all _) rfl
theorem but_on {y W wn : World} {g : Nat} (hb : Below y.heap.size y W) (h : But g W wn) (hg : y.heap.size ≤ g) : Below y.heap.size y wn := hb.trans (h.below hg hb.size)
theorem slice_flds {b off n c : Nat} {l : List F4} {w : World} (h : Flds w (.slice (some ⟨b, off, none⟩) n c) l) {j : Nat} (hj : j < n) {M : Int} (hM : (j : Int) + 1 = M) (W : World) :
    (Instr.slice 52 (.slice (some ⟨b, off, none⟩) n c) (some (.int .i64 (j : Int))) (some (.int .i64 M)) none).run Try.prog W = .ok (.slice (some ⟨b, off + j * 4, none⟩) 1 (c - j)) W := by
  have ht : Try.prog.underlying 52 = some (.slice (Try.prog.elem 52)) := by kernel_rfl
  have hsz : ∀ W, (sizeOf (Try.prog.elem 52)).run Try.prog W = .ok 4 W := fun W => by kernel_rfl
  obtain ⟨_, a, c', he, h1, h2, _⟩ := h
  injection he with e1 e2 e3
  rw [run_slice_lh W 52 _ n c ht .i64 .i64 (j : Int) M (by omega) (by omega) (by omega), hsz]
  have e : M.toNat - j = 1 := by omega
  have e2 : ¬ c = j := by omega
  simp [Result.andThen, sliced, e, e2, Addr.add_lit]
/-- What is gathered ahead of round j. -/
def gat (r : RD) (j : Nat) : RD := if j = 0 then noRD else ⟨r.id, r.N, r.R, r.f.take j⟩
theorem gat_pos {r : RD} {j : Nat} (h : 0 < j) : gat r j = ⟨r.id, r.N, r.R, r.f.take j⟩ := if_neg (by omega)
theorem gat_ok {r : RD} (h : r.ok) (j : Nat) : (gat r j).ok := by unfold gat; split; exact noRD_ok; exact h
set_option maxHeartbeats 12800000 in
theorem recOnly_walk (ra : RD) (sa : Value) (ha : ra.ok) (w : World) (hva : Flds w sa ra.f) : Calls Try.prog 15 #[.agg (rA ra sa)] w fun e w' => e = .returned (.bool true) ∧ Below w.heap.size w w' := by
  have hAc := @after_cell
  have hAf := @after_frozen
  have hSz := sz_facts
  have Hzz : ∀ r s, ∀ {r' : RD} {s' : Value}, r.ok → RD.ok r' → Hid ((rA r s).size = (rA r' s').size) := fun r s r' s' h h' => Lib.hid (by rw [rA_size h, rA_size h'])
  have hlena := len_row (ti := 0) hva Try.underlying52
  have Ha := Lib.hid ha; have Hva := Lib.hid hva; clear ha hva
  obtain ⟨p, hfa⟩ : ∃ p, Hid (rFew ra = p) := ⟨_, rfl⟩
  obtain ⟨ma, hma⟩ : ∃ u, Hid (rMay ra = u) := ⟨_, rfl⟩
  have hcase : (p = false ∨ p = true ∧ ma = false) ∨ (p = true ∧ ma = true) := by cases p <;> cases ma <;> simp
  rcases hcase with (rfl | ⟨rfl, rfl⟩) | ⟨rfl, rfl⟩
  iterate 2
    · go_enter Try.func15, Try.ntmps15
      go_wp2_with (first | go_skip | ((fail_if_success have := Ka); refine wpList_box_blk rfl 54 _ rfl _ rfl (rA ra sa) rfl ?_; intro w1 Ka b1 s1; clear s1; obtain ⟨ya, rfl⟩ := after_of b1; obtain ⟨sAa, sIa, sDa, sFa⟩ := rA_subs Ka Ha.out) | (refine wpList_load_sub rfl 54 _ rfl _ rfl w.heap.size 0 rfl (rA ra sa) _ (by repeat (first | exact sAa | refine Sub.after ?_ _ | refine Sub.alloc ?_ _)) Try.underlying54 rfl (rA_info Ha.out) ?_) | (refine wpList_load_sub rfl 51 _ rfl _ rfl w.heap.size 0 rfl (idA ra) _ (by repeat (first | exact sIa | refine Sub.after ?_ _ | refine Sub.alloc ?_ _)) Try.underlying51 rfl (idA_info Ha.out) ?_) | (refine wpList_load_sub rfl 23 _ rfl _ rfl w.heap.size 16 rfl #[.int .i64 (ra).N, .int .i64 (ra).R] _ (by repeat (first | exact sDa | refine Sub.after ?_ _ | refine Sub.alloc ?_ _)) Try.underlying23 rfl stamp_info ?_) | (refine wpList_load_one rfl 52 _ rfl _ rfl w.heap.size 18 rfl sa _ (by repeat (first | exact sFa | refine Sub.after ?_ _ | refine Sub.alloc ?_ _)) Try.underlying52 rfl ?_) | (go_at_call 33; (with_reducible refine (awake6_c _).mono ?_); rintro e w' ⟨rfl, hb⟩; obtain ⟨z, rfl⟩ := after_of hb; clear hb) | (go_at_call 34; (with_reducible refine (few6_v Ha.out hfa.out _ (Hva.out.below (by (repeat (first | exact Below.refl _ _ | assumption | refine bel_alloc ?_ _ | refine bel_after _ ?_ | refine bel_drewN ?_ _ | refine bel_drew ?_ | refine bel_set ?_ (by first | omega | (simp only [World.size_alloc, World.size_drew, World.size_setCell]; omega) | (simp; omega)) _))))).mono ?_); rintro e w' ⟨rfl, hb⟩; obtain ⟨yw, rfl⟩ := after_of hb; clear hb) | (go_at_call 42; (with_reducible refine (rmayD Ha.out hma.out _ (Hva.out.below (by (repeat (first | exact Below.refl _ _ | assumption | refine bel_alloc ?_ _ | refine bel_after _ ?_ | refine bel_drewN ?_ _ | refine bel_drew ?_ | refine bel_set ?_ (by first | omega | (simp only [World.size_alloc, World.size_drew, World.size_setCell]; omega) | (simp; omega)) _))))).mono ?_); rintro e w' ⟨rfl, hb⟩; obtain ⟨ym, rfl⟩ := after_of hb; clear hb))
      all_goals first | (rw [Exit.noGoto_ret]; go_ret) | go_ret
      all_goals exact ⟨rfl, by (repeat (first | exact Below.refl _ _ | assumption | refine bel_alloc ?_ _ | refine bel_after _ ?_ | refine bel_drewN ?_ _ | refine bel_drew ?_ | refine bel_set ?_ (by first | omega | (simp only [World.size_alloc, World.size_drew, World.size_setCell]; omega) | (simp; omega)) _))⟩
  obtain ⟨n, hn⟩ : ∃ n, ra.f.length = n := ⟨_, rfl⟩
  rw [hn] at hlena
  have Hn := Lib.hid hn; clear hn
  have Hsa : Hid (∃ aa c, sa = .slice aa n c ∧ n ≤ maxLen) := by
    obtain ⟨_, aa, c, e, q1, hm1, _⟩ := id Hva.out
    rw [Hn.out] at e
    exact Lib.hid ⟨aa, c, e, by have h := Hn.out; have := fieldsL_length ra.f; omega⟩
  go_enter Try.func15, Try.ntmps15
  go_wp2_with (first | go_skip | ((fail_if_success have := Ka); refine wpList_box_blk rfl 54 _ rfl _ rfl (rA ra sa) rfl ?_; intro w1 Ka b1 s1; clear s1; obtain ⟨ya, rfl⟩ := after_of b1; obtain ⟨sAa, sIa, sDa, sFa⟩ := rA_subs Ka Ha.out) | (refine wpList_load_sub rfl 54 _ rfl _ rfl w.heap.size 0 rfl (rA ra sa) _ (by repeat (first | exact sAa | refine Sub.after ?_ _ | refine Sub.alloc ?_ _)) Try.underlying54 rfl (rA_info Ha.out) ?_) | (refine wpList_load_sub rfl 51 _ rfl _ rfl w.heap.size 0 rfl (idA ra) _ (by repeat (first | exact sIa | refine Sub.after ?_ _ | refine Sub.alloc ?_ _)) Try.underlying51 rfl (idA_info Ha.out) ?_) | (refine wpList_load_sub rfl 23 _ rfl _ rfl w.heap.size 16 rfl #[.int .i64 (ra).N, .int .i64 (ra).R] _ (by repeat (first | exact sDa | refine Sub.after ?_ _ | refine Sub.alloc ?_ _)) Try.underlying23 rfl stamp_info ?_) | (refine wpList_load_one rfl 52 _ rfl _ rfl w.heap.size 18 rfl sa _ (by repeat (first | exact sFa | refine Sub.after ?_ _ | refine Sub.alloc ?_ _)) Try.underlying52 rfl ?_) | (go_at_call 33; (with_reducible refine (awake6_c _).mono ?_); rintro e w' ⟨rfl, hb⟩; obtain ⟨z, rfl⟩ := after_of hb; clear hb) | (go_at_call 34; (with_reducible refine (few6_v Ha.out hfa.out _ (Hva.out.below (by (repeat (first | exact Below.refl _ _ | assumption | refine bel_alloc ?_ _ | refine bel_after _ ?_ | refine bel_drewN ?_ _ | refine bel_drew ?_ | refine bel_set ?_ (by first | omega | (simp only [World.size_alloc, World.size_drew, World.size_setCell]; omega) | (simp; omega)) _))))).mono ?_); rintro e w' ⟨rfl, hb⟩; obtain ⟨yw, rfl⟩ := after_of hb; clear hb) | (go_at_call 42; (with_reducible refine (rmayD Ha.out hma.out _ (Hva.out.below (by (repeat (first | exact Below.refl _ _ | assumption | refine bel_alloc ?_ _ | refine bel_after _ ?_ | refine bel_drewN ?_ _ | refine bel_drew ?_ | refine bel_set ?_ (by first | omega | (simp only [World.size_alloc, World.size_drew, World.size_setCell]; omega) | (simp; omega)) _))))).mono ?_); rintro e w' ⟨rfl, hb⟩; obtain ⟨ym, rfl⟩ := after_of hb; clear hb) | ((fail_if_success have := tb); refine wpList_build_to rfl 54 _ rfl _ rfl noA ?_ ?_; (focus (first | (simp [Act.eval, noA_built]; done) | (simp [Act.eval]; exact noA_built))); have tb := trivial) | ((fail_if_success have := KAo); have tg := tb; refine wpList_alloc_blk rfl 54 rfl _ rfl (.agg noA) noA noA_zero rfl ?_; clear tg; intro w4 KAo b4 s4; clear s4; obtain ⟨yao, rfl⟩ := after_of b4) | ((fail_if_success have := Ko); have tg := KAo; refine wpList_store_blk rfl 54 _ _ rfl ym.w.heap.size noA rfl rfl 54 noA KAo noA_info rfl noA_one ?_; clear tg; intro w5 Ko b5 s5; clear s5; obtain ⟨yo, rfl⟩ := after_of (yao.h.trans (b5.below (Nat.le_refl _) yao.h.size))))
  have HL0 : Hid (Below ym.w.heap.size ym.w yo.w) := Lib.hid yo.h
  have Hwm : Hid (Below w.heap.size w ym.w) := Lib.hid (by (repeat (first | exact Below.refl _ _ | assumption | refine bel_alloc ?_ _ | refine bel_after _ ?_ | refine bel_drewN ?_ _ | refine bel_drew ?_ | refine bel_set ?_ (by first | omega | (simp only [World.size_alloc, World.size_drew, World.size_setCell]; omega) | (simp; omega)) _)))
  go_loopw [6] (fun i wr => ∃ j : Nat, j ≤ n ∧ i = .int .i64 j ∧ Hid (∃ so, Blk wr ym.w.heap.size 54 (rA (gat ra j) so) ∧ Flds wr so (gat ra j).f) ∧ Hid (Below ym.w.heap.size ym.w wr)) (fun i _ => n - (intOf i).toNat)
  case atStart => exact ⟨0, by omega, rfl, Lib.hid ⟨_, Ko, Flds.nil _⟩, HL0⟩
  case round =>
    obtain ⟨j, hj, rfl, I, B⟩ := hrel
    obtain ⟨xr, rfl⟩ := after_of B.out
    obtain ⟨so, kb, fb⟩ := I.out
    clear I
    obtain ⟨out, hout⟩ : ∃ o, Hid (gat ra j = o) := ⟨_, rfl⟩
    rw [hout.out] at kb fb
    have Hout : Hid out.ok := Lib.hid (by rw [← hout.out]; exact gat_ok Ha.out j)
    have Hso : Hid (∃ a n c, so = .slice a n c) := Lib.hid fb.slice
    have KbS := Lib.hid kb.subA
    have Kb := Lib.hid kb; have Fb := Lib.hid fb; clear kb fb
    have HWX : Hid (Below w.heap.size w xr.w) := Lib.hid (bel_after xr Hwm.out)
    by_cases hlt : j < n
    · obtain ⟨f, hf⟩ : ∃ f, ra.f[j]? = some f := ⟨_, List.getElem?_eq_getElem (by rw [Hn.out]; exact hlt)⟩
      obtain ⟨aa, c, esa, hnm⟩ := Hsa.out
      have hv := Hva.out
      rw [esa] at hv
      obtain ⟨bf, off, rfl, -, -, -, -, -⟩ := hv.at hf
      have hcut := flds_cut hv hf
      have hjm : j < maxLen := by omega
      unfold maxLen at hjm
      obtain ⟨M, hM⟩ : ∃ M : Int, (j : Int) + 1 = M := ⟨_, rfl⟩
      have hsl := slice_flds hv hlt hM
      rw [← esa] at hsl
      obtain ⟨ax, hax⟩ : ∃ ax, some (Addr.mk bf (off + j * 4) none) = ax := ⟨_, rfl⟩
      obtain ⟨cx, hcx⟩ : ∃ cx, c - j = cx := ⟨_, rfl⟩
      rw [hax, hcx] at hsl hcut
      clear hax hcx
      obtain ⟨x1, hx1⟩ : ∃ x : RD, Hid (⟨ra.id, ra.N, ra.R, [f]⟩ = x) := ⟨_, rfl⟩
      have Hx1 : Hid x1.ok := Lib.hid (by rw [← hx1.out]; exact Ha.out)
      have HV1 : Hid (Flds w (.slice ax 1 cx) x1.f) := Lib.hid (by rw [← hx1.out]; exact hcut)
      have Hz1 : Hid (noA.size = (rA x1 (.slice ax 1 cx)).size) := Lib.hid (by rw [noA_size, rA_size Hx1.out])
      have Hbx : Hid (Try.prog.built 54 [(0, .agg (idA ra)), (1, .agg #[.int .i64 ra.N, .int .i64 ra.R]), (2, .slice ax 1 cx)] = some (rA x1 (.slice ax 1 cx))) := Lib.hid (by rw [← hx1.out]; exact built_all (idA_size Ha.out) ra.N ra.R ax 1 cx)
      have hM1 : wrap64 ((j : Int) + 1) = M := by unfold wrap64; omega
      have hM2 : IntKind.i64.wrap ((j : Int) + 1) = M := by rw [IntWalk.i64_in _ (by omega)]; exact hM
      have HM := Lib.hid hM
      have Hf := Lib.hid hf; clear hf hcut hM hv hjm esa hnm
      go_wp2_with (first | go_skip | (refine wpList_load_one rfl 52 _ rfl _ rfl w.heap.size 18 rfl sa _ (by repeat (first | exact sFa | refine Sub.after ?_ _ | refine Sub.alloc ?_ _)) Try.underlying52 rfl ?_))
      refine' wp_float_tail (cs := noA) 11 54 7 _ (by kernel_rfl) (by kernel_rfl) rfl noA_zero rfl ?_ ?_
      case refine'_2 =>
        intro T
        simp only [strikeL, List.take_succ_cons, List.take_zero]
        repeat (first | go_big_quiet_skip | (go_big_quiet_want; (refine quiet_load_sub 51 _ rfl _ rfl w.heap.size 0 rfl (idA ra) _ ?_ Try.underlying51 rfl (idA_info Ha.out) ?_; rotate_left; (go_simp; go_big_quiet_on); rotate_left; (rintro _ ⟨x, rfl⟩; repeat (first | exact sIa | refine Sub.after ?_ _ | refine Sub.alloc ?_ _)))) | (go_big_quiet_want; (refine quiet_load_sub 23 _ rfl _ rfl w.heap.size 16 rfl #[.int .i64 (ra).N, .int .i64 (ra).R] _ ?_ Try.underlying23 rfl stamp_info ?_; rotate_left; (go_simp; go_big_quiet_on); rotate_left; (rintro _ ⟨x, rfl⟩; repeat (first | exact sDa | refine Sub.after ?_ _ | refine Sub.alloc ?_ _)))) | (go_big_quiet_want; (refine quiet_load_one 52 _ rfl _ rfl w.heap.size 18 rfl sa _ ?_ Try.underlying52 rfl ?_; rotate_left; (go_simp; go_big_quiet_on); rotate_left; (rintro _ ⟨x, rfl⟩; repeat (first | exact sFa | refine Sub.after ?_ _ | refine Sub.alloc ?_ _)))) | (go_big_quiet_want; (refine quiet_build_to 54 _ rfl _ rfl (rA x1 (.slice ax 1 cx)) ?_ ?_; (focus (first | (simp [Act.eval, Hbx.out]; done) | (simp [Act.eval]; exact Hbx.out))); (go_simp; go_big_quiet_on))) | (go_big_quiet_step (fail)))
        refine wpQuiet_nil ?_
        exact rfl
      intro g yg hgg kg
      simp only [List.drop_succ_cons, List.drop_zero, Act.put, List.setIfInBounds_toArray, List.set_cons_zero, List.set_cons_succ]
      by_cases hj0 : j = 0
      · have hz : ((j : Int) == 0) = true := beq_iff_eq.2 (by omega)
        have Hg : Hid (gat ra (j + 1) = x1) := Lib.hid (by
          rw [gat_pos (by omega), ← hx1.out]
          have h := Hf.out
          rw [hj0] at h ⊢
          rw [List.take_add_one, h]; rfl)
        have Hj0 := Lib.hid hj0; clear hj0
        go_wp2_with (first | go_skip | ((fail_if_success have := K1); refine wpList_store_blk rfl 54 _ _ rfl g (rA x1 (.slice ax 1 cx)) rfl rfl 54 noA kg (rA_info Hx1.out) Hz1.out (rA_one HV1.out) ?_; intro w6 K1 b6 s6; clear s6; obtain ⟨y1, rfl⟩ := after_of (yg.h.trans (b6.below hgg yg.h.size)); obtain ⟨sA1, sI1, sD1, sF1⟩ := rA_subs K1 Hx1.out) | (have tg := K1; refine wpList_load_sub rfl 54 _ rfl _ rfl g 0 rfl (rA x1 (.slice ax 1 cx)) _ (by repeat (first | exact sA1 | refine Sub.after ?_ _ | refine Sub.alloc ?_ _)) Try.underlying54 rfl (rA_info Hx1.out) ?_) | ((fail_if_success have := K2); have tg := K1; refine wpList_store_blk rfl 54 _ _ rfl ym.w.heap.size (rA x1 (.slice ax 1 cx)) rfl rfl 54 (rA out so) ?_ ?_ ?_ ?_ ?_; exact (by repeat (first | exact Kb.out | refine Blk.after ?_ _ | refine Blk.alloc ?_ _)); exact (rA_info Hx1.out); exact (Hzz _ _ Hout.out Hx1.out).out; exact (rA_one HV1.out); clear tg; intro w7 K2 b7 s7; clear s7; have HF2 := HV1; obtain ⟨y2, rfl⟩ := after_of (but_on (bel_after y1 xr.h) b7 (Nat.le_refl _))))
        go_roundw
        case rel => exact ⟨j + 1, by omega, by rw [← HM.out]; rfl, Lib.hid ⟨_, by rw [Hg.out]; exact K2, by rw [Hg.out]; exact HF2.out.below (bel_after y2 Hwm.out)⟩, Lib.hid y2.h⟩
        case measure => have hmM := HM.out; simp [intOf]; omega
      · have hz : ((j : Int) == 0) = false := by cases hc : ((j : Int) == 0) with | false => rfl | true => exact absurd (beq_iff_eq.1 hc) (by omega)
        obtain ⟨o1, o2⟩ := only_law hma.out Hf.out (by omega)
        rw [← gat_pos (by omega), hx1.out, hout.out] at o1 o2
        rw [← gat_pos (by omega)] at o2
        obtain ⟨jx, hjx⟩ : ∃ x, Hid (gat ra (j + 1) = x) := ⟨_, rfl⟩
        rw [hjx.out] at o2
        have Hokj : Hid jx.ok := Lib.hid (by rw [← hjx.out]; exact gat_ok Ha.out _)
        have hdj := Lib.hid o1; have hjj := Lib.hid o2
        have Hj0 := Lib.hid hj0; clear hj0 o1 o2
        go_wp2_with (first | go_skip | ((fail_if_success have := K1); refine wpList_store_blk rfl 54 _ _ rfl g (rA x1 (.slice ax 1 cx)) rfl rfl 54 noA kg (rA_info Hx1.out) Hz1.out (rA_one HV1.out) ?_; intro w6 K1 b6 s6; clear s6; obtain ⟨y1, rfl⟩ := after_of (yg.h.trans (b6.below hgg yg.h.size)); obtain ⟨sA1, sI1, sD1, sF1⟩ := rA_subs K1 Hx1.out) | (have tg := K1; refine wpList_load_sub rfl 54 _ rfl _ rfl g 0 rfl (rA x1 (.slice ax 1 cx)) _ (by repeat (first | exact sA1 | refine Sub.after ?_ _ | refine Sub.alloc ?_ _)) Try.underlying54 rfl (rA_info Hx1.out) ?_) | (have tg := K1; refine wpList_load_sub rfl 54 _ rfl _ rfl ym.w.heap.size 0 rfl (rA out so) _ (KbS.out.after y1) Try.underlying54 rfl (rA_info Hout.out) ?_) | ((fail_if_success have := HSj); go_at_call 37; (with_reducible refine (rjoinD Hx1.out Hout.out hdj.out hjj.out _ (HV1.out.below (bel_after y1 HWX.out)) (Fb.out.below y1.h)).mono ?_); rintro e w' ⟨sj, rfl, hs, hb⟩; obtain ⟨ycj, rfl⟩ := after_of hb; clear hb; have HSj := Lib.hid hs; clear hs) | ((fail_if_success have := KAj); have tg := HSj; refine wpList_alloc_blk rfl 54 rfl _ rfl (.agg noA) noA noA_zero rfl ?_; clear tg; intro w4 KAj b4 s4; clear s4; obtain ⟨yaj, rfl⟩ := after_of b4) | ((fail_if_success have := Kj); have tg := KAj; refine wpList_store_blk rfl 54 _ _ rfl ycj.w.heap.size (rA jx sj) rfl rfl 54 noA KAj (rA_info Hokj.out) (Hzz noRD (.slice none 0 0) noRD_ok Hokj.out).out (rA_one HSj.out) ?_; clear tg; intro w5 Kj b5 s5; clear s5; obtain ⟨yj, rfl⟩ := after_of (yaj.h.trans (b5.below (Nat.le_refl _) yaj.h.size)); obtain ⟨sAj, sIj, sDj, sFj⟩ := rA_subs Kj Hokj.out) | (have tg := Kj; refine wpList_load_sub rfl 54 _ rfl _ rfl ycj.w.heap.size 0 rfl (rA jx sj) _ (by repeat (first | exact sAj | refine Sub.after ?_ _ | refine Sub.alloc ?_ _)) Try.underlying54 rfl (rA_info Hokj.out) ?_) | ((fail_if_success have := K2); have tg := Kj; refine wpList_store_blk rfl 54 _ _ rfl ym.w.heap.size (rA jx sj) rfl rfl 54 (rA out so) ?_ ?_ ?_ ?_ ?_; exact (by repeat (first | exact Kb.out | refine Blk.after ?_ _ | refine Blk.alloc ?_ _)); exact (rA_info Hokj.out); exact (Hzz _ _ Hout.out Hokj.out).out; exact (rA_one HSj.out); clear tg; intro w7 K2 b7 s7; clear s7; have HF2 := Lib.hid (flds_but (HSj.out.below yj.h) (((Kb.out.after y1).after ycj).after yj) Hso.out b7); obtain ⟨y2, rfl⟩ := after_of (but_on (bel_after yj (bel_after ycj (bel_after y1 xr.h))) b7 (Nat.le_refl _))))
        go_roundw
        case rel => exact ⟨j + 1, by omega, by rw [← HM.out]; rfl, Lib.hid ⟨_, by rw [hjx.out]; exact K2, by rw [hjx.out]; exact HF2.out⟩, Lib.hid y2.h⟩
        case measure => have hmM := HM.out; simp [intOf]; omega
    · have hjn : j = n := by omega
      subst hjn
      have Hfin : Hid (ra.f.take j = ra.f) := Lib.hid (List.take_of_length_le (by rw [Hn.out]; exact Nat.le_refl _))
      by_cases hj0 : j = 0
      · have hz : ((j : Int) == 0) = true := beq_iff_eq.2 (by omega)
        have hqs : ∀ W, (binOp .neq 23 (.agg #[.int .i64 ra.N, .int .i64 ra.R]) (.agg #[.int .i64 0, .int .i64 0])).run Try.prog W = .ok (.bool true) W := fun W => by
          have hs : stEq ra.N ra.R 0 0 = false := by
            cases hc : stEq ra.N ra.R 0 0 with
            | false => rfl
            | true =>
              obtain ⟨e1, e2⟩ := (stEq_iff _ _ _ _).1 hc
              exact absurd ⟨List.eq_nil_of_length_eq_zero (by rw [Hn.out, hj0]), e1, e2⟩ (rMay_iff.1 hma.out).2.1
          rw [neq_stamp, hs]; rfl
        have Hj0 := Lib.hid hj0; clear hj0
        go_wp2_with (first | go_skip | (refine wpList_load_one rfl 52 _ rfl _ rfl w.heap.size 18 rfl sa _ (by repeat (first | exact sFa | refine Sub.after ?_ _ | refine Sub.alloc ?_ _)) Try.underlying52 rfl ?_) | (refine wpList_load_sub rfl 54 _ rfl _ rfl w.heap.size 0 rfl (rA ra sa) _ (by repeat (first | exact sAa | refine Sub.after ?_ _ | refine Sub.alloc ?_ _)) Try.underlying54 rfl (rA_info Ha.out) ?_) | (refine wpList_load_sub rfl 23 _ rfl _ rfl w.heap.size 16 rfl #[.int .i64 (ra).N, .int .i64 (ra).R] _ (by repeat (first | exact sDa | refine Sub.after ?_ _ | refine Sub.alloc ?_ _)) Try.underlying23 rfl stamp_info ?_) | (have tg := KbS; refine wpList_load_sub rfl 54 _ rfl _ rfl ym.w.heap.size 0 rfl (rA out so) _ KbS.out Try.underlying54 rfl (rA_info Hout.out) ?_) | (go_at_call 43; (with_reducible refine (rsameD Hout.out Ha.out hsm.out _ Fb.out (Hva.out.below HWX.out)).mono ?_); rintro e w' ⟨rfl, hb⟩; obtain ⟨z, rfl⟩ := after_of hb; clear hb))
        all_goals first | (rw [Exit.noGoto_ret]; go_ret) | go_ret
        all_goals exact ⟨rfl, HWX.out⟩
      · have hz : ((j : Int) == 0) = false := by cases hc : ((j : Int) == 0) with | false => rfl | true => exact absurd (beq_iff_eq.1 hc) (by omega)
        have hsm : Hid (rSame out ra = true) := Lib.hid (by
          rw [← hout.out, gat_pos (by omega), Hfin.out]
          exact (rSame_iff _ _).2 rfl)
        have Hj0 := Lib.hid hj0; clear hj0
        go_wp2_with (first | go_skip | (refine wpList_load_one rfl 52 _ rfl _ rfl w.heap.size 18 rfl sa _ (by repeat (first | exact sFa | refine Sub.after ?_ _ | refine Sub.alloc ?_ _)) Try.underlying52 rfl ?_) | (refine wpList_load_sub rfl 54 _ rfl _ rfl w.heap.size 0 rfl (rA ra sa) _ (by repeat (first | exact sAa | refine Sub.after ?_ _ | refine Sub.alloc ?_ _)) Try.underlying54 rfl (rA_info Ha.out) ?_) | (refine wpList_load_sub rfl 23 _ rfl _ rfl w.heap.size 16 rfl #[.int .i64 (ra).N, .int .i64 (ra).R] _ (by repeat (first | exact sDa | refine Sub.after ?_ _ | refine Sub.alloc ?_ _)) Try.underlying23 rfl stamp_info ?_) | (have tg := KbS; refine wpList_load_sub rfl 54 _ rfl _ rfl ym.w.heap.size 0 rfl (rA out so) _ KbS.out Try.underlying54 rfl (rA_info Hout.out) ?_) | (go_at_call 43; (with_reducible refine (rsameD Hout.out Ha.out hsm.out _ Fb.out (Hva.out.below HWX.out)).mono ?_); rintro e w' ⟨rfl, hb⟩; obtain ⟨z, rfl⟩ := after_of hb; clear hb))
        all_goals first | (rw [Exit.noGoto_ret]; go_ret) | go_ret
        all_goals (have hB := HWX.out; exact ⟨rfl, by (repeat (first | exact Below.refl _ _ | assumption | refine bel_alloc ?_ _ | refine bel_after _ ?_ | refine bel_drewN ?_ _ | refine bel_drew ?_ | refine bel_set ?_ (by first | omega | (simp only [World.size_alloc, World.size_drew, World.size_setCell]; omega) | (simp; omega)) _))⟩)
end Go.Proofs.Ytgckgbonhbabpaa
