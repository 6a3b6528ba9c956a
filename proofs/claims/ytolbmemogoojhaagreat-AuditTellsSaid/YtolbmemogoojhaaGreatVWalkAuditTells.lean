/- The walk of AuditTells. -/
import Derived.Test.YtolbmemogoojhaaGreatVRaE
namespace Go.Proofs.YtolbmemogoojhaaGreat
open Go Go.RowKit Go.Deep
set_option linter.unusedVariables false
set_option linter.unusedSimpArgs false
set_option maxRecDepth 100000
theorem texts_n {v : Value} {LL : List ByteArray} {n : Nat} {q : Bool} (h : txFew LL = q) (w : World) (hv : Row w 1 v n (strL LL)) : Calls Tryz.prog 28 #[v] w fun e w' => e = .returned (.bool q) ∧ Below w.heap.size w w' := by
  have e : n = LL.length := by have := hv.1; rw [strL_length] at this; omega
  subst e
  exact texts_v h w hv
theorem alike_t {v x : Value} {l : List ByteArray} (h : alkV (alkP l) = x) {n : Nat} (w : World) (hv : Row w 1 v n (strL l)) (hsz : ∀ s ∈ l, s.size ≤ 80000) (h40 : l.length ≤ 40) : Calls Tryz.prog 29 #[v] w fun e w' => e = .returned x ∧ Below w.heap.size w w' := by
  subst h
  exact (alike_q v l w hv hsz h40).mono fun e w' k => ⟨k.1.2, k.2⟩
theorem ralike_t {v x : Value} {l : List ByteArray} (h : alkV (alkP l) = x) {n : Nat} (w : World) (hv : Row w 1 v n (strL l)) (hsz : ∀ s ∈ l, s.size ≤ 80000) (h40 : l.length ≤ 40) : Calls Tryz.prog 30 #[v] w fun e w' => e = .returned x ∧ Below w.heap.size w w' := by
  subst h
  exact ralike_q v l w hv hsz h40
theorem ajoin_m {v zv : Value} {LL : List BK} {of : List Int} {dd : Int} {JJ : BK} {n : Nat} (h : auJ LL [] of = (dd, JJ)) (w : World) (hv : Bks w v LL) (hz : Row w 1 zv n (encZ of)) : Calls Tryz.prog 31 #[v, zv] w (JoinP w dd JJ) := by
  have e : n = of.length := by have := hz.1; rw [encZ_length] at this; omega
  subst e
  exact ajoin_c h w hv hz
theorem rajoin_n {v zv : Value} {LL : List BK} {of : List Int} {dd : Int} {JJ : BK} {n : Nat} (h : auJ LL [] of = (dd, JJ)) (w : World) (hv : Bks w v LL) (hz : Row w 1 zv n (encZ of)) : Calls Tryz.prog 32 #[v, zv] w (JoinP w dd JJ) := by
  have e : n = of.length := by have := hz.1; rw [encZ_length] at this; omega
  subst e
  exact rajoin_c h w hv hz
theorem parts_m {v : Value} {LL : List ByteArray} {n : Nat} (w : World) (hv : Row w 1 v n (strL LL)) (hb : mostL LL ≤ 90000) : Calls Tryz.prog 36 #[v] w fun e w' => ∃ v', e = .returned v' ∧ St w w' [Res.row 9 1 v' (auParts LL).length (strL (auParts LL))] := by
  have e : n = LL.length := by have := hv.1; rw [strL_length] at this; omega
  subst e
  exact parts_c v LL w hv hb
set_option maxHeartbeats 12800000 in
theorem auditTells_walk (va : Value) (A : List BK) (vs : Value) (S : List ByteArray) (vz : Value) (of : List Int) (h64 : ∀ n ∈ of, I64 n) (w : World) (ha : Bks w va A) (hs : Row w 1 vs S.length (strL S)) (hz : Row w 1 vz of.length (encZ of)) : Calls Tryz.prog 5 #[va, vs, vz] w fun e w' => e = .returned (.bool true) ∧ Below w.heap.size w w' := by
  obtain ⟨nz, hnz⟩ : ∃ n, of.length = n := ⟨_, rfl⟩
  rw [hnz] at hz
  obtain ⟨_, az, cz, rfl, hm2, hm3, _⟩ := id hz
  unfold maxLen at hm3
  clear h64
  have Ha := Lib.hid ha; have Hz := Lib.hid hz; have Hs := Lib.hid hs; clear ha hz hs
  obtain ⟨p, hfa⟩ : ∃ p, Hid (bksFew A = p) := ⟨_, rfl⟩
  obtain ⟨q, hfs⟩ : ∃ p, Hid (txFew S = p) := ⟨_, rfl⟩
  have H := St.init w
  obtain ⟨s, hs⟩ : ∃ s, decide ((20 : Int) < (nz : Int)) = s := ⟨_, rfl⟩
  have hcase : (p = false ∨ (p = true ∧ q = false) ∨ (p = true ∧ q = true ∧ s = true)) ∨ (p = true ∧ q = true ∧ s = false) := by cases p <;> cases q <;> cases s <;> simp
  rcases hcase with (rfl | ⟨rfl, rfl⟩ | ⟨rfl, rfl, rfl⟩) | ⟨rfl, rfl, rfl⟩
  iterate 3
    · go_enter Tryz.func5, Tryz.ntmps5
      go_wp2_with (first | go_skip | (go_at_call 26; (with_reducible refine (awake22_c _).mono ?_); rintro e wn ⟨rfl, hb⟩; replace H := H.call hb; clear hb) | (go_at_call 27; (with_reducible refine (books_v hfa.out _ (Ha.out.below H.bel)).mono ?_); rintro e wn ⟨rfl, hb⟩; replace H := H.call hb; clear hb) | (go_at_call 28; (with_reducible refine (texts_n hfs.out _ (Hs.out.below H.bel)).mono ?_); rintro e wn ⟨rfl, hb⟩; replace H := H.call hb; clear hb))
      all_goals first | (rw [Exit.noGoto_ret]; go_ret) | go_ret
      all_goals exact ⟨rfl, H.bel⟩
  · have hf := hfs.out
    have HB2 := Lib.hid (Nat.le_trans (txFew_most hf) (by decide : 12000 ≤ 90000))
    unfold txFew at hf
    rw [Bool.and_eq_true, decide_eq_true_eq] at hf
    have H40 := Lib.hid hf.1
    have HZ : Hid (∀ s ∈ S, s.size ≤ 80000) := Lib.hid fun s hs => Nat.le_trans (txFew_size hf.2 s hs) (by decide)
    clear hf
    have HB1 := Lib.hid (bksFew_vals hfa.out)
    obtain ⟨⟨d, J⟩, hA⟩ : ∃ x, auJ A [] of = x := ⟨_, rfl⟩
    have HA := Lib.hid hA
    have SJ : Hid (bSame J J = true) := Lib.hid ((bSame_iff _ _).2 rfl)
    obtain ⟨t1, t2, b, hal⟩ : ∃ t1 t2 b, alkV (alkP S) = .tuple #[.string t1, .string t2, .bool b] := by
      cases alkP S with
      | none => exact ⟨_, _, _, rfl⟩
      | some p => exact ⟨_, _, _, rfl⟩
    have Hal := Lib.hid hal
    have hb1 : (t1.toList == t1.toList) = true := beq_self_eq_true _
    have hb2 : (t2.toList == t2.toList) = true := beq_self_eq_true _
    clear hA hal
    go_enter Tryz.func5, Tryz.ntmps5
    go_wp2_with (first | go_skip | (go_at_call 26; (with_reducible refine (awake22_c _).mono ?_); rintro e wn ⟨rfl, hb⟩; replace H := H.call hb; clear hb) | (go_at_call 27; (with_reducible refine (books_v hfa.out _ (Ha.out.below H.bel)).mono ?_); rintro e wn ⟨rfl, hb⟩; replace H := H.call hb; clear hb) | (go_at_call 28; (with_reducible refine (texts_n hfs.out _ (Hs.out.below H.bel)).mono ?_); rintro e wn ⟨rfl, hb⟩; replace H := H.call hb; clear hb) | (go_at_call 29; (with_reducible refine (alike_t Hal.out _ (Hs.out.below H.bel) HZ.out H40.out).mono ?_); rintro e wn ⟨rfl, hb⟩; replace H := H.call hb; clear hb) | (go_at_call 30; (with_reducible refine (ralike_t Hal.out _ (Hs.out.below H.bel) HZ.out H40.out).mono ?_); rintro e wn ⟨rfl, hb⟩; replace H := H.call hb; clear hb) | ((fail_if_success have := kX); (with_reducible apply al_bk H); clear H; intro wn kX H) | ((fail_if_success have := kY); (with_reducible apply al_bk H); clear H; intro wn kY H) | ((with_reducible apply ld_bk); rfl; rfl; (focus (apply H.one; (repeat (first | with_reducible exact mH | with_reducible apply mT)); done))) | ((with_reducible apply st_bk H); rfl; rfl; rfl; (repeat (first | with_reducible apply Upd.head | with_reducible apply Upd.tail)); (first | rfl | assumption | (refine Hid.out ?_; assumption)); clear H; intro wn H) | (go_at_call 31; (fail_if_success have := Tx); (with_reducible refine (ajoin_m HA.out _ (Ha.out.below H.bel) (Hz.out.below H.bel)).mono ?_); rintro e wn ⟨vx, rx, rfl, hrj, hs⟩; replace H := H.comp hs; clear hs; simp only [List.cons_append, List.nil_append] at H; have Tx : Hid (vx.oneCell' = true) := Lib.hid (hrj _ (H.get (r := rx) (by (repeat (first | with_reducible exact mH | with_reducible apply mT))))).one; have Jx := Lib.hid hrj; clear hrj) | (go_at_call 32; (fail_if_success have := Ty); (with_reducible refine (rajoin_n HA.out _ (Ha.out.below H.bel) (Hz.out.below H.bel)).mono ?_); rintro e wn ⟨vy, ry, rfl, hrj, hs⟩; replace H := H.comp hs; clear hs; simp only [List.cons_append, List.nil_append] at H; have Ty : Hid (vy.oneCell' = true) := Lib.hid (hrj _ (H.get (r := ry) (by (repeat (first | with_reducible exact mH | with_reducible apply mT))))).one; have Jy := Lib.hid hrj; clear hrj) | (go_at_call 34; (with_reducible refine (values_c _ A _ (Ha.out.below H.bel) HB1.out).mono ?_); rintro e wn ⟨v1, rfl, hs⟩; replace H := H.comp hs; clear hs; simp only [List.cons_append, List.nil_append] at H) | (go_at_call 35; (with_reducible refine (rvalues_c _ A _ (Ha.out.below H.bel) HB1.out).mono ?_); rintro e wn ⟨v2, rfl, hs⟩; replace H := H.comp hs; clear hs; simp only [List.cons_append, List.nil_append] at H) | (go_at_call 36; (with_reducible refine (parts_m (LL := S) _ (Hs.out.below H.bel) HB2.out).mono ?_); rintro e wn ⟨v3, rfl, hs⟩; replace H := H.comp hs; clear hs; simp only [List.cons_append, List.nil_append] at H) | (go_at_call 37; (with_reducible refine (rparts_c _ S _ (Hs.out.below H.bel) HZ.out HB2.out).mono ?_); rintro e wn ⟨v4, rfl, hs⟩; replace H := H.comp hs; clear hs; simp only [List.cons_append, List.nil_append] at H) | (go_at_call 33; (with_reducible refine (rtsame_c _ (H.rowRead (e := 9) (by (repeat (first | with_reducible exact mH | with_reducible apply mT)))) (H.rowRead (e := 9) (by (repeat (first | with_reducible exact mH | with_reducible apply mT))))).mono ?_); rintro e wn ⟨rfl, hb⟩; replace H := H.call hb; clear hb) | (go_at_call 14; first | ((with_reducible refine (rbsame_v SJ.out _ (Jx.out _ (H.get (r := rx) (by (repeat (first | with_reducible exact mH | with_reducible apply mT))))) (Jy.out _ (H.get (r := ry) (by (repeat (first | with_reducible exact mH | with_reducible apply mT)))))).mono ?_); rintro e wn ⟨rfl, hb⟩; replace H := H.call hb; clear hb)))
    all_goals first | (rw [Exit.noGoto_ret]; go_ret) | go_ret
    all_goals exact ⟨by simp, H.bel⟩
end Go.Proofs.YtolbmemogoojhaaGreat
