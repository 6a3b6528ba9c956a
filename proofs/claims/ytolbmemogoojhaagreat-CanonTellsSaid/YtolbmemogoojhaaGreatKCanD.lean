/- What the reader of a book's bytes reads: a field. -/
import Derived.Test.YtolbmemogoojhaaGreatKCanC
namespace Go.Proofs.YtolbmemogoojhaaGreat
open Go Go.RowKit Go.Deep
set_option linter.unusedVariables false
set_option linter.unusedSimpArgs false
set_option maxRecDepth 100000
theorem gField_some {bs : List UInt8} {f : F4} {t' : List UInt8} (h : gField bs = some (f, t')) : ∃ c t N R s k, bs = c :: t ∧ cGet t = (N, R, s, k, true) ∧ f = ((c.toNat : Int), N, R, s) ∧ t' = t.drop k ∧ k ≤ t.length := by
  cases bs with
  | nil => cases h
  | cons c b =>
    rw [gField] at h
    rcases c_back2 b with h0 | ⟨N, R, s, k, h1, h2, h3, h4⟩
    · rw [h0] at h; simp at h
    · rw [h1] at h
      simp only [if_true] at h
      injection h with h
      injection h with h5 h6
      exact ⟨c, b, N, R, s, k, rfl, h1, h5.symm, h6.symm, h3⟩
theorem gField_no {bs : List UInt8} (h : gField bs = none) : bs = [] ∨ ∃ c t, bs = c :: t ∧ cGet t = (0, 0, ⟨#[]⟩, 0, false) := by
  cases bs with
  | nil => exact .inl rfl
  | cons c b =>
    rw [gField] at h
    rcases c_back2 b with h0 | ⟨N, R, s, k, h1, h2, h3, h4⟩
    · exact .inr ⟨c, b, rfl, h0⟩
    · rw [h1] at h; simp at h
theorem conv_u8i {c : UInt8} (W : World) : (convert 5 3 (.int .u8 (c.toNat : Int))).run Tryz.prog W = .ok (.int .i64 (c.toNat : Int)) W := by
  have h1 := Tryz.underlying3
  have h2 := Tryz.underlying5
  have h3 := c.toNat_lt
  simp [go_sem, h1, h2]
  first | (rw [IntKind.wrap_i64]; omega) | (unfold wrap64; omega) | skip
def fldV8 (f : F4) : Value := .agg #[.int .i64 f.1, .int .i64 f.2.1, .int .i64 f.2.2.1, .string f.2.2.2]
set_option maxHeartbeats 12800000 in
theorem field_yes {w0 w : World} {Γ : List Res} {kr : Nat} {vs : Value} {bs t' : List UInt8} {f : F4} (h : gField bs = some (f, t')) (H : St w0 w (Res.blk kr 108 #[vs] :: Γ)) (hv : Byt w0 vs bs) :
    Calls Tryz.prog 114 #[.pointer (some ⟨kr, 0, none⟩)] w fun e w' => ∃ vd, e = .returned (fldV8 f) ∧ Byt w0 vd t' ∧ St w0 w' (Res.blk kr 108 #[vd] :: Γ) := by
  obtain ⟨c, t, N, R, s, k, rfl, hc, rfl, rfl, hk⟩ := gField_some h
  have hcv : ∀ W, (convert 5 3 (.int .u8 (c.toNat : Int))).run Tryz.prog W = .ok (.int .i64 (c.toNat : Int)) W := conv_u8i
  have Hv := Lib.hid hv; have Hc := Lib.hid hc; have Hk := Lib.hid hk
  have H1 : Hid (1 ≤ (c :: t).length) := Lib.hid (by simp)
  clear h hv hc hk
  go_enter Tryz.func114, Tryz.ntmps114
  go_wp2_with (first | go_skip | ((fail_if_success have := kF); (with_reducible apply al_fld H); clear H; intro wn kF H; replace H := H.swap) | (go_at_call 112; (fail_if_success have := Hd1); (with_reducible refine (must_at 1 z1 H Hv.out Nat.one_pos H1.out).mono ?_); rintro e wn ⟨pb, po, pc, vd1, rfl, hs, hd, H2⟩; have Hs1 := Lib.hid hs; have Hd1 : Hid (Byt w0 vd1 t) := Lib.hid hd; clear hs hd; replace H := H2; clear H2) | ((with_reducible refine ld_one (ty := 5) Tryz.underlying5 rfl ?_ ?_ (Hs1.out.keep H.bel) ?_); rfl; rfl) | ((with_reducible apply ld_one (ty := 58) Tryz.underlying58 rfl); rfl; rfl; (focus (apply H.one; (repeat (first | with_reducible exact mH | with_reducible apply mT)); done))) | (go_at_call 139; (with_reducible refine (cget_m _ _ _ (Hd1.out.below H.bel) Hc.out).mono ?_); rintro e wn ⟨rfl, hb⟩; replace H := H.call hb; clear hb) | ((fail_if_success have := kC); (with_reducible apply al_cel H); clear H; intro wn kC H; replace H := H.swap) | ((with_reducible apply st_cel H); rfl; rfl; rfl; (repeat (first | with_reducible apply Upd.head | with_reducible apply Upd.tail)); clear H; intro wn H) | (go_at_call 112; (fail_if_success have := Hd2); (with_reducible refine (must_yes k rfl H Hd1.out Hk.out).mono ?_); rintro e wn ⟨vt, vd, rfl, -, hd, H2⟩; have Hd2 := Lib.hid hd; clear hd; replace H := H2; clear H2) | ((with_reducible apply ld_cel); rfl; rfl; (first | (focus (apply H.cel; (repeat (first | with_reducible exact mH | with_reducible apply mT)); done)) | (apply CelAt.bel (hb := H.bel); assumption))) | ((with_reducible apply st_fld H); rfl; rfl; rfl; (repeat (first | with_reducible apply Upd.head | with_reducible apply Upd.tail)); clear H; intro wn H))
  all_goals first | (rw [Exit.noGoto_ret]) | skip
  have hR := H.blkOf (b := kF) (t := 82) (cs := #[.int .i64 (c.toNat : Int), .int .i64 N, .int .i64 R, .string s]) (by (repeat (first | with_reducible exact mH | with_reducible apply mT)))
  exact bodyPost_ret (results_cell_row Tryz.results114 _ _ kF _ _ _ _ rfl hR Tryz.underlying82 rfl field_info) rfl ⟨vd, rfl, Hd2.out, H.sub (by (repeat (first | with_reducible exact List.Sublist.refl _ | with_reducible refine List.Sublist.cons_cons _ ?_ | refine List.Sublist.cons _ ?_)))⟩
set_option maxHeartbeats 12800000 in
theorem field_no {w0 w : World} {Γ : List Res} {kr : Nat} {vs : Value} {bs : List UInt8} (h : gField bs = none) (H : St w0 w (Res.blk kr 108 #[vs] :: Γ)) (hv : Byt w0 vs bs) :
    Calls Tryz.prog 114 #[.pointer (some ⟨kr, 0, none⟩)] w fun e w' => e = .panicked [wrongP] ∧ St w0 w' Γ := by
  rcases gField_no h with rfl | ⟨c, t, rfl, hc⟩
  · have Hv := Lib.hid hv
    have H1 : Hid (([] : List UInt8).length < 1) := Lib.hid (by simp)
    clear h hv
    go_enter Tryz.func114, Tryz.ntmps114
    go_wp2_with (first | go_skip | ((fail_if_success have := kF); (with_reducible apply al_fld H); clear H; intro wn kF H; replace H := H.swap) | (go_at_call 112; (with_reducible refine (must_no 1 z1 true H Hv.out (.inr H1.out)).mono ?_); rintro e wn ⟨rfl, H2⟩; replace H := H2; clear H2))
    all_goals exact ⟨rfl, rfl, H.sub (by (repeat (first | with_reducible exact List.Sublist.refl _ | with_reducible refine List.Sublist.cons_cons _ ?_ | refine List.Sublist.cons _ ?_)))⟩
  · have hcv : ∀ W, (convert 5 3 (.int .u8 (c.toNat : Int))).run Tryz.prog W = .ok (.int .i64 (c.toNat : Int)) W := conv_u8i
    have Hv := Lib.hid hv; have Hc := Lib.hid hc
    have H1 : Hid (1 ≤ (c :: t).length) := Lib.hid (by simp)
    clear h hv hc
    go_enter Tryz.func114, Tryz.ntmps114
    go_wp2_with (first | go_skip | ((fail_if_success have := kF); (with_reducible apply al_fld H); clear H; intro wn kF H; replace H := H.swap) | (go_at_call 112; (fail_if_success have := Hd1); (with_reducible refine (must_at 1 z1 H Hv.out Nat.one_pos H1.out).mono ?_); rintro e wn ⟨pb, po, pc, vd1, rfl, hs, hd, H2⟩; have Hs1 := Lib.hid hs; have Hd1 : Hid (Byt w0 vd1 t) := Lib.hid hd; clear hs hd; replace H := H2; clear H2) | ((with_reducible refine ld_one (ty := 5) Tryz.underlying5 rfl ?_ ?_ (Hs1.out.keep H.bel) ?_); rfl; rfl) | ((with_reducible apply ld_one (ty := 58) Tryz.underlying58 rfl); rfl; rfl; (focus (apply H.one; (repeat (first | with_reducible exact mH | with_reducible apply mT)); done))) | (go_at_call 139; (with_reducible refine (cget_m _ _ _ (Hd1.out.below H.bel) Hc.out).mono ?_); rintro e wn ⟨rfl, hb⟩; replace H := H.call hb; clear hb) | ((fail_if_success have := kC); (with_reducible apply al_cel H); clear H; intro wn kC H; replace H := H.swap) | ((with_reducible apply st_cel H); rfl; rfl; rfl; (repeat (first | with_reducible apply Upd.head | with_reducible apply Upd.tail)); clear H; intro wn H) | (go_at_call 112; (with_reducible refine (must_no 0 z0 false H Hd1.out (.inl rfl)).mono ?_); rintro e wn ⟨rfl, H2⟩; replace H := H2; clear H2))
    all_goals exact ⟨rfl, rfl, H.sub (by (repeat (first | with_reducible exact List.Sublist.refl _ | with_reducible refine List.Sublist.cons_cons _ ?_ | refine List.Sublist.cons _ ?_)))⟩
end Go.Proofs.YtolbmemogoojhaaGreat
