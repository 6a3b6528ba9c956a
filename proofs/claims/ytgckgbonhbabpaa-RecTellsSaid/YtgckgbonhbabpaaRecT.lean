/- rolodexref06.Find: the same pure function. -/
import Derived.Test.YtgckgbonhbabpaaRecS
import Derived.Test.YtgckgbonhbabpaaRefF
namespace Go.Proofs.Ytgckgbonhbabpaa
open Go Go.RowKit Go.Deep
set_option linter.unusedVariables false
set_option linter.unusedSimpArgs false
set_option maxRecDepth 100000
theorem but_on2 {y W wn : World} {g : Nat} (hb : Below y.heap.size y W) (h : But g W wn) (hg : y.heap.size ≤ g) : Below y.heap.size y wn := hb.trans (h.below hg hb.size)
theorem fFind_step {l : List F4} {j : Nat} {f : F4} (no : Int) (h : l[j]? = some f) : fFind (l.drop j) no = if f.1 = no then some f.2 else fFind (l.drop (j + 1)) no := by
  obtain ⟨hj, rfl⟩ := List.getElem?_eq_some_iff.1 h
  rw [List.drop_eq_getElem_cons hj]; rfl
def pOf (x : Option C3) : Int × Int × ByteArray × Bool := match x with | some c => (c.1, c.2.1, c.2.2, true) | none => (0, 0, ⟨#[]⟩, false)
theorem fFindP_eq (l : List F4) (no : Int) : fFindP l no = pOf (fFind l no) := by unfold fFindP pOf; cases fFind l no <;> rfl
def pV (p : Int × Int × ByteArray × Bool) : Value := .tuple #[.agg #[.int .i64 p.1, .int .i64 p.2.1, .string p.2.2.1], .bool p.2.2.2]
set_option maxHeartbeats 6400000 in
theorem rffind_c (ra : RD) (sa : Value) (no : Int) (ha : ra.ok) (w : World) (hva : Flds w sa ra.f) : Calls Try.prog 36 #[.agg (rA ra sa), .int .i64 no] w fun e w' => e = .returned (pV (fFindP ra.f no)) ∧ Below w.heap.size w w' := by
  have hAc := @after_cell
  have hAf := @after_frozen
  have hSz := sz_facts
  have hlena := len_row (ti := 0) hva Try.underlying52
  obtain ⟨n, hn⟩ : ∃ n, ra.f.length = n := ⟨_, rfl⟩
  rw [hn] at hlena
  have Ha := Lib.hid ha; have Hva := Lib.hid hva; have Hn := Lib.hid hn
  clear ha hva hn
  have hS : Hid (∃ aa c, sa = .slice aa n c ∧ n ≤ maxLen) := by
    obtain ⟨_, aa, c, e, q1, hm1, _⟩ := id Hva.out
    rw [Hn.out] at e
    exact Lib.hid ⟨aa, c, e, by have h := Hn.out; have := fieldsL_length ra.f; omega⟩
  obtain ⟨aa, c, rfl, hm1⟩ := hS.out
  clear hS
  unfold maxLen at hm1
  go_enter Try.func36, Try.ntmps36
  go_wp2_with (first | go_skip | ((fail_if_success have := Ka); refine wpList_box_blk rfl 54 _ rfl _ rfl (rA ra (.slice aa n c)) rfl ?_; intro w1 Ka b1 s1; clear s1; obtain ⟨ya, rfl⟩ := after_of b1; obtain ⟨sAa, sIa, sDa, sFa⟩ := rA_subs Ka Ha.out) | ((fail_if_success have := KAc); have tg := Ka; refine wpList_alloc_blk rfl 25 rfl _ rfl (.agg #[.int .i64 0, .int .i64 0, .string ⟨#[]⟩]) _ cell_zero rfl ?_; clear tg; intro w4 KAc b4 s4; clear s4; obtain ⟨yc, rfl⟩ := after_of b4) | (refine wpList_load_one rfl 52 _ rfl _ rfl w.heap.size 18 rfl (.slice aa n c) _ (by repeat (first | exact sFa | refine Sub.after ?_ _ | refine Sub.alloc ?_ _)) Try.underlying52 rfl ?_))
  have Hwm : Hid (Below w.heap.size w yc.w) := Lib.hid (by (repeat (first | exact Below.refl _ _ | assumption | refine bel_alloc ?_ _ | refine bel_after _ ?_ | refine bel_drewN ?_ _ | refine bel_drew ?_ | refine bel_set ?_ (by first | omega | (simp only [World.size_alloc, World.size_drew, World.size_setCell]; omega) | (simp; omega)) _)))
  go_loopw [6] (fun i wr => ∃ j : Nat, j ≤ n ∧ i = .int .i64 j ∧ Hid (fFind ra.f no = fFind (ra.f.drop j) no) ∧ Hid (Below yc.w.heap.size yc.w wr)) (fun i _ => n - (intOf i).toNat)
  case atStart => exact ⟨0, by omega, rfl, Lib.hid rfl, Lib.hid (Below.refl _ _)⟩
  case round =>
    obtain ⟨j, hj, rfl, I, B⟩ := hrel
    obtain ⟨xr, rfl⟩ := after_of B.out
    have hwx : Below w.heap.size w xr.w := bel_after xr Hwm.out
    by_cases hlt : j < n
    · obtain ⟨⟨no', cN, cR, cS⟩, hf⟩ : ∃ f, ra.f[j]? = some f := ⟨_, List.getElem?_eq_getElem (by rw [Hn.out]; exact hlt)⟩
      obtain ⟨b, off, rfl, hbw, g0, g1, g2, g3⟩ := Hva.out.at hf
      have hst := fFind_step no hf
      dsimp only at hst
      have Hst := Lib.hid hst
      clear hf hst
      have g0 := cell_below (hwx) _ _ _ g0; have g1 := cell_below (hwx) _ _ _ g1; have g2 := cell_below (hwx) _ _ _ g2; have g3 := cell_below (hwx) _ _ _ g3
      dsimp only at g0 g1 g2 g3
      have hs1 := szf1 (a := b) (b := xr.w.heap.size) (by have := hwx.size; omega)
      have HWX := Lib.hid hwx; clear hwx
      obtain ⟨r, hr⟩ : ∃ r, (no' == no) = r := ⟨_, rfl⟩
      cases r
      · have Hend : Hid (fFind ra.f no = fFind (ra.f.drop (j + 1)) no) := Lib.hid (by rw [I.out, Hst.out, if_neg (by simpa using hr)])
        go_wp2_with (first | go_skip | (refine wpList_load_one rfl 52 _ rfl _ rfl w.heap.size 18 rfl (.slice (some ⟨b, off, none⟩) n c) _ (by repeat (first | exact sFa | refine Sub.after ?_ _ | refine Sub.alloc ?_ _)) Try.underlying52 rfl ?_) | ((fail_if_success have := K2); refine wpList_store_blk rfl 25 _ _ rfl ya.w.heap.size #[.int .i64 cN, .int .i64 cR, .string cS] rfl rfl 25 #[.int .i64 0, .int .i64 0, .string ⟨#[]⟩] ?_ cell_info rfl cell_one ?_; exact (KAc.after xr); intro w7 K2 b7 s7; clear s7; obtain ⟨y2, rfl⟩ := after_of (but_on2 (bel_after xr yc.h) b7 (Nat.le_refl _))))
        go_roundw
        case rel => exact ⟨j + 1, by omega, by go_num, Hend, B⟩
        case measure => simp [intOf]; omega
      · have Hend : Hid (pV (fFindP ra.f no) = .tuple #[.agg #[.int .i64 cN, .int .i64 cR, .string cS], .bool true]) := Lib.hid (by rw [fFindP_eq, I.out, Hst.out, if_pos (by simpa using hr)]; rfl)
        go_wp2_with (first | go_skip | (refine wpList_load_one rfl 52 _ rfl _ rfl w.heap.size 18 rfl (.slice (some ⟨b, off, none⟩) n c) _ (by repeat (first | exact sFa | refine Sub.after ?_ _ | refine Sub.alloc ?_ _)) Try.underlying52 rfl ?_) | ((fail_if_success have := K2); refine wpList_store_blk rfl 25 _ _ rfl ya.w.heap.size #[.int .i64 cN, .int .i64 cR, .string cS] rfl rfl 25 #[.int .i64 0, .int .i64 0, .string ⟨#[]⟩] ?_ cell_info rfl cell_one ?_; exact (KAc.after xr); intro w7 K2 b7 s7; clear s7; obtain ⟨y2, rfl⟩ := after_of (but_on2 (bel_after xr yc.h) b7 (Nat.le_refl _))))
        all_goals first | (rw [Exit.noGoto_ret]) | skip
        all_goals exact bodyPost_ret (results_cell_tmp Try.results36 _ _ ya.w.heap.size #[.int .i64 cN, .int .i64 cR, .string cS] _ _ rfl rfl K2.subA Try.underlying25 rfl cell_info) rfl ⟨by rw [Hend.out]; rfl, bel_after y2 (bel_after ya (Below.refl _ _))⟩
    · have hjn : j = n := by omega
      subst hjn
      have HWX := Lib.hid hwx; clear hwx
      have Hend : Hid (pV (fFindP ra.f no) = .tuple #[.agg #[.int .i64 0, .int .i64 0, .string ⟨#[]⟩], .bool false]) := Lib.hid (by rw [fFindP_eq, I.out, List.drop_of_length_le (by rw [Hn.out]; exact Nat.le_refl _)]; rfl)
      go_wp2_with (first | go_skip | (refine wpList_load_one rfl 52 _ rfl _ rfl w.heap.size 18 rfl (.slice aa j c) _ (by repeat (first | exact sFa | refine Sub.after ?_ _ | refine Sub.alloc ?_ _)) Try.underlying52 rfl ?_) | ((fail_if_success have := K2); refine wpList_store_blk rfl 25 _ _ rfl ya.w.heap.size #[.int .i64 0, .int .i64 0, .string ⟨#[]⟩] rfl rfl 25 #[.int .i64 0, .int .i64 0, .string ⟨#[]⟩] ?_ cell_info rfl cell_one ?_; exact (KAc.after xr); intro w7 K2 b7 s7; clear s7; obtain ⟨y2, rfl⟩ := after_of (but_on2 (bel_after xr yc.h) b7 (Nat.le_refl _))))
      all_goals first | (rw [Exit.noGoto_ret]) | skip
      all_goals exact bodyPost_ret (results_cell_tmp Try.results36 _ _ ya.w.heap.size #[.int .i64 0, .int .i64 0, .string ⟨#[]⟩] _ _ rfl rfl K2.subA Try.underlying25 rfl cell_info) rfl ⟨by rw [Hend.out]; rfl, bel_after y2 (bel_after ya (Below.refl _ _))⟩
end Go.Proofs.Ytgckgbonhbabpaa
