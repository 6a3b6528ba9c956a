/- A book's digest; what the reader of a book's bytes reads: must, many. -/
import Derived.Test.YtolbmemogoojhaaGreatKCanB
namespace Go.Proofs.YtolbmemogoojhaaGreat
open Go Go.RowKit Go.Deep
set_option linter.unusedVariables false
set_option linter.unusedSimpArgs false
set_option maxRecDepth 100000
theorem bytes_info : (Tryz.prog.info? 58).map (·.size) = some 1 := by kernel_rfl
section
variable {ops : Array Oper} {rest : List Oper} {a : Act} {w0 w : World} {Q : Exit → Act → World → Prop} {Γ Γ' : List Res} {dst : Option Tmp} {typ t : TypeId} {x y : Operand} {pos : String} {af : Array Edge} {gd : Option (Nat × Bool)} {b : Nat}
theorem St.byt8 {e : TypeId} {v : Value} {bs : List UInt8} (H : St w0 w Γ) (hm : Res.row e 1 v bs.length (encU bs) ∈ Γ) : Byt w v bs := H.rowRead hm
theorem St.swap {r s : Res} (H : St w0 w (r :: s :: Γ)) : St w0 w (s :: r :: Γ) := H.perm (List.Perm.swap _ _ _)
theorem al_dg (H : St w0 w Γ) (h : ∀ w' b, St w0 w' (Res.blk b 64 zero32 :: Γ) → wpList Tryz.prog ops Q rest (a.put dst (.pointer (some ⟨b, 0, none⟩))) w') : wpList Tryz.prog ops Q (⟨dst, .alloc 64, typ, pos, af, none⟩ :: rest) a w := arm_alloc H zero32_info rfl h
theorem st_dg {D : Array Value} (H : St w0 w Γ) (hw : Region.wanted (⟨dst, .store 64 x y, typ, pos, af, gd⟩ : Oper) (yielded ops a.tmps) = true) (hx : a.eval x = .pointer (some ⟨b, 0, none⟩)) (hy : a.eval y = .agg D) (hs : D.size = 32) (h1 : D.all (·.oneCell') = true)
    (u : Upd Γ (Res.blk b t zero32) (Res.blk b t D) Γ') (h : ∀ w', St w0 w' Γ' → wpList Tryz.prog ops Q rest (a.put dst undef) w') : wpList Tryz.prog ops Q (⟨dst, .store 64 x y, typ, pos, af, gd⟩ :: rest) a w := by
  have hz : zero32.size = 32 := by rfl
  refine arm_st H hw hx hy u (by rw [hs]; exact size32_info) (by rw [hs, hz]; decide) h1 ?_ h
  rw [List.take_zero, List.nil_append, List.drop_of_length_le (by rw [Array.length_toList, hs, hz]; decide), List.append_nil]
end
/-- What goes wrong. -/
def wrongP : PanicEntry := { v := .iface 105 (.agg #[]), recovered := false }
theorem byt_slice {w : World} {v : Value} {bs : List UInt8} (h : Byt w v bs) : ∃ a c, v = .slice a bs.length c ∧ bs.length ≤ maxLen := by
  obtain ⟨_, a, c, rfl, h1, h2, _⟩ := h
  exact ⟨a, c, rfl, by omega⟩
theorem byt_head {w : World} {v : Value} {bs : List UInt8} (h : Byt w v bs) (h0 : 0 < bs.length) : ∃ b off c, v = .slice (some ⟨b, off, none⟩) bs.length c ∧ Sub w b off (encU bs).toArray := by
  obtain ⟨hl, a, c, rfl, h1, h2, h3, h4⟩ := h
  obtain ⟨b, off, rfl, hc⟩ := h4 (by rw [hl]; omega)
  exact ⟨b, off, c, rfl, fun j u hj => hc j u (by simpa using hj)⟩
theorem ge8 : 8 ≤ 1000 := by decide
theorem ge10 : 10 ≤ 1000 := by decide
theorem z0 : (0 : Int) = ((0 : Nat) : Int) := rfl
theorem z1 : (1 : Int) = ((1 : Nat) : Int) := rfl
theorem z8 : (8 : Int) = ((8 : Nat) : Int) := rfl
theorem z10 : (10 : Int) = ((10 : Nat) : Int) := rfl
theorem z16 : (16 : Int) = ((16 : Nat) : Int) := rfl
set_option maxHeartbeats 6400000 in
theorem must_yes {w0 w : World} {Γ : List Res} {kr : Nat} {vs : Value} {bs : List UInt8} (k : Nat) {z : Int} (hz : z = (k : Int)) (H : St w0 w (Res.blk kr 108 #[vs] :: Γ)) (hv : Byt w0 vs bs) (hk : k ≤ bs.length) :
    Calls Tryz.prog 112 #[.pointer (some ⟨kr, 0, none⟩), .int .i64 z, .bool true] w fun e w' => ∃ vt vd, e = .returned vt ∧ Byt w0 vt (bs.take k) ∧ Byt w0 vd (bs.drop k) ∧ St w0 w' (Res.blk kr 108 #[vd] :: Γ) := by
  subst hz
  obtain ⟨vd, hd, hsd⟩ := byt_drop hv k hk
  obtain ⟨vt, ht, hst⟩ := byt_take hv k hk
  obtain ⟨fa, fc, rfl, _⟩ := byt_slice hv
  obtain ⟨nb, hnb⟩ : ∃ n, bs.length = n := ⟨_, rfl⟩
  obtain ⟨da, dc, rfl, _⟩ := byt_slice hd
  obtain ⟨nd, hnd⟩ : ∃ n, (bs.drop k).length = n := ⟨_, rfl⟩
  rw [hnd] at hsd hd
  rw [hnb] at hsd hst hk H
  have hlt : ¬ nb < k := by omega
  have Hd := Lib.hid hd; have Ht := Lib.hid ht
  clear hd ht hv hnb hnd hk
  go_enter Tryz.func112, Tryz.ntmps112
  go_wp2_with (first | go_skip | ((with_reducible apply ld_one (ty := 58) Tryz.underlying58 rfl); rfl; rfl; (focus (apply H.one; (repeat (first | with_reducible exact mH | with_reducible apply mT)); done))) | ((with_reducible apply st_on bytes_info H); rfl; rfl; (conv => lhs; whnf); (repeat (first | with_reducible apply Upd.head | with_reducible apply Upd.tail)); rfl; (first | rfl | assumption | (refine Hid.out ?_; assumption)); clear H; intro wn H))
  all_goals first | (rw [Exit.noGoto_ret]; go_ret) | go_ret
  all_goals exact ⟨_, _, rfl, Ht.out, Hd.out, H⟩
set_option maxHeartbeats 6400000 in
theorem must_no {w0 w : World} {Γ : List Res} {kr : Nat} {vs : Value} {bs : List UInt8} (k : Nat) {z : Int} (hz : z = (k : Int)) (is : Bool) (H : St w0 w (Res.blk kr 108 #[vs] :: Γ)) (hv : Byt w0 vs bs) (hk : is = false ∨ bs.length < k) :
    Calls Tryz.prog 112 #[.pointer (some ⟨kr, 0, none⟩), .int .i64 z, .bool is] w fun e w' => e = .panicked [wrongP] ∧ St w0 w' Γ := by
  subst hz
  obtain ⟨fa, fc, rfl, _⟩ := byt_slice hv
  obtain ⟨nb, hnb⟩ : ∃ n, bs.length = n := ⟨_, rfl⟩
  rw [hnb] at hk H
  clear hnb hv
  cases is with
  | false =>
    clear hk
    go_enter Tryz.func112, Tryz.ntmps112
    go_wp2_with (first | go_skip | ((with_reducible apply ld_one (ty := 58) Tryz.underlying58 rfl); rfl; rfl; (focus (apply H.one; (repeat (first | with_reducible exact mH | with_reducible apply mT)); done))) | ((with_reducible apply st_on bytes_info H); rfl; rfl; (conv => lhs; whnf); (repeat (first | with_reducible apply Upd.head | with_reducible apply Upd.tail)); rfl; (first | rfl | assumption | (refine Hid.out ?_; assumption)); clear H; intro wn H))
    all_goals exact ⟨rfl, rfl, H.sub (List.sublist_cons_self _ _)⟩
  | true =>
    have hlt : nb < k := by
      rcases hk with hk | hk
      · cases hk
      · exact hk
    clear hk
    go_enter Tryz.func112, Tryz.ntmps112
    go_wp2_with (first | go_skip | ((with_reducible apply ld_one (ty := 58) Tryz.underlying58 rfl); rfl; rfl; (focus (apply H.one; (repeat (first | with_reducible exact mH | with_reducible apply mT)); done))) | ((with_reducible apply st_on bytes_info H); rfl; rfl; (conv => lhs; whnf); (repeat (first | with_reducible apply Upd.head | with_reducible apply Upd.tail)); rfl; (first | rfl | assumption | (refine Hid.out ?_; assumption)); clear H; intro wn H))
    all_goals exact ⟨rfl, rfl, H.sub (List.sublist_cons_self _ _)⟩
set_option maxHeartbeats 6400000 in
theorem must_at {w0 w : World} {Γ : List Res} {kr : Nat} {vs : Value} {bs : List UInt8} (k : Nat) {z : Int} (hz : z = (k : Int)) (H : St w0 w (Res.blk kr 108 #[vs] :: Γ)) (hv : Byt w0 vs bs) (h0 : 0 < k) (hk : k ≤ bs.length) :
    Calls Tryz.prog 112 #[.pointer (some ⟨kr, 0, none⟩), .int .i64 z, .bool true] w fun e w' => ∃ b off c vd, e = .returned (.slice (some ⟨b, off, none⟩) k c) ∧ Sub w0 b off (encU (bs.take k)).toArray ∧ Byt w0 vd (bs.drop k) ∧ St w0 w' (Res.blk kr 108 #[vd] :: Γ) :=
  (must_yes k hz H hv hk).mono fun e w' ⟨vt, vd, he, ht, hd, H'⟩ => by
    have hl : (bs.take k).length = k := by rw [List.length_take]; omega
    obtain ⟨b, off, c, hvt, hs⟩ := byt_head ht (by omega)
    rw [hl] at hvt
    exact ⟨b, off, c, vd, by rw [he, hvt], hs, hd, H'⟩
theorem gMany_some {most n : Nat} {bs t : List UInt8} (h : gMany most bs = some (n, t)) : ∃ u, getR bs = some (n, u) ∧ n ≤ most ∧ t = bs.drop u ∧ u ≤ bs.length := by
  unfold gMany at h
  cases h1 : getR bs with
  | none => rw [h1] at h; cases h
  | some p =>
    obtain ⟨n1, u⟩ := p
    rw [h1] at h
    simp only at h
    by_cases h2 : n1 ≤ most
    · rw [if_pos h2] at h
      injection h with h
      injection h with h3 h4
      subst h3 h4
      exact ⟨u, rfl, h2, rfl, (getR_some h1).2.2.1⟩
    · rw [if_neg h2] at h; cases h
theorem gMany_no {most : Nat} {bs : List UInt8} (h : gMany most bs = none) : getR bs = none ∨ ∃ n u, getR bs = some (n, u) ∧ ¬ n ≤ most ∧ n < 18446744073709551616 := by
  unfold gMany at h
  cases h1 : getR bs with
  | none => exact .inl rfl
  | some p =>
    obtain ⟨n1, u⟩ := p
    rw [h1] at h
    simp only at h
    by_cases h2 : n1 ≤ most
    · rw [if_pos h2] at h; cases h
    · exact .inr ⟨n1, u, rfl, h2, (getR_some h1).1⟩
theorem conv_i64 {n : Nat} (h : n ≤ 1000000) (W : World) : (convert 101 3 (.int .u64 (n : Int))).run Tryz.prog W = .ok (.int .i64 (n : Int)) W := by
  have h1 := Tryz.underlying3
  have h2 := Tryz.underlying101
  simp [go_sem, h1, h2]
  first | (rw [IntKind.wrap_i64]; omega) | (unfold wrap64; omega) | skip
set_option maxHeartbeats 6400000 in
theorem many_yes {w0 w : World} {Γ : List Res} {kr : Nat} {vs : Value} {bs t : List UInt8} {most n : Nat} {z : Int} (hz : z = (most : Int)) (hm : most ≤ 1000) (h : gMany most bs = some (n, t)) (H : St w0 w (Res.blk kr 108 #[vs] :: Γ)) (hv : Byt w0 vs bs) :
    Calls Tryz.prog 77 #[.pointer (some ⟨kr, 0, none⟩), .int .i64 z] w fun e w' => ∃ vd, e = .returned (.int .i64 (n : Int)) ∧ Byt w0 vd t ∧ St w0 w' (Res.blk kr 108 #[vd] :: Γ) := by
  subst hz
  obtain ⟨u, hg, hle, rfl, hu⟩ := gMany_some h
  have hc1 : ∀ W, (convert 3 101 (.int .i64 (most : Int))).run Tryz.prog W = .ok (.int .u64 (most : Int)) W := conv_u64 (by omega)
  have hc2 : ∀ W, (convert 101 3 (.int .u64 (n : Int))).run Tryz.prog W = .ok (.int .i64 (n : Int)) W := conv_i64 (by omega)
  have hcmp : n ≤ most := hle
  have Hg := Lib.hid hg; have Hv := Lib.hid hv; have Hu := Lib.hid hu
  clear h hg hle hv hu hm
  go_enter Tryz.func77, Tryz.ntmps77
  go_wp2_with (first | go_skip | ((with_reducible apply ld_one (ty := 58) Tryz.underlying58 rfl); rfl; rfl; (focus (apply H.one; (repeat (first | with_reducible exact mH | with_reducible apply mT)); done))) | (go_at_call 111; (with_reducible refine (get_yes_c _ bs n u _ (Hv.out.below H.bel) Hg.out).mono ?_); rintro e wn ⟨rfl, rfl⟩) | (go_at_call 112; (fail_if_success have := Hd); (with_reducible refine (must_yes u rfl H Hv.out Hu.out).mono ?_); rintro e wn ⟨vt, vd, rfl, -, hd, H2⟩; have Hd := Lib.hid hd; clear hd; replace H := H2; clear H2))
  all_goals first | (rw [Exit.noGoto_ret]; go_ret) | go_ret
  all_goals exact ⟨vd, rfl, Hd.out, H⟩
set_option maxHeartbeats 6400000 in
theorem many_no {w0 w : World} {Γ : List Res} {kr : Nat} {vs : Value} {bs : List UInt8} {most : Nat} {z : Int} (hz : z = (most : Int)) (hm : most ≤ 1000) (h : gMany most bs = none) (H : St w0 w (Res.blk kr 108 #[vs] :: Γ)) (hv : Byt w0 vs bs) :
    Calls Tryz.prog 77 #[.pointer (some ⟨kr, 0, none⟩), .int .i64 z] w fun e w' => e = .panicked [wrongP] ∧ St w0 w' Γ := by
  subst hz
  have Hv := Lib.hid hv
  rcases gMany_no h with hg | ⟨n, u, hg, hle, _⟩
  · have Hg := Lib.hid hg
    clear h hg hv hm
    go_enter Tryz.func77, Tryz.ntmps77
    go_wp2_with (first | go_skip | ((with_reducible apply ld_one (ty := 58) Tryz.underlying58 rfl); rfl; rfl; (focus (apply H.one; (repeat (first | with_reducible exact mH | with_reducible apply mT)); done))) | (go_at_call 111; (with_reducible refine (get_no_c _ bs _ (Hv.out.below H.bel) Hg.out).mono ?_); rintro e wn ⟨rfl, rfl⟩) | (go_at_call 112; (with_reducible refine (must_no 0 z0 false H Hv.out (.inl rfl)).mono ?_); rintro e wn ⟨rfl, H2⟩; replace H := H2; clear H2))
    all_goals exact ⟨rfl, rfl, H⟩
  · have hc1 : ∀ W, (convert 3 101 (.int .i64 (most : Int))).run Tryz.prog W = .ok (.int .u64 (most : Int)) W := conv_u64 (by omega)
    have hcmp : ¬ n ≤ most := hle
    have Hg := Lib.hid hg
    clear h hg hle hv hm
    go_enter Tryz.func77, Tryz.ntmps77
    go_wp2_with (first | go_skip | ((with_reducible apply ld_one (ty := 58) Tryz.underlying58 rfl); rfl; rfl; (focus (apply H.one; (repeat (first | with_reducible exact mH | with_reducible apply mT)); done))) | (go_at_call 111; (with_reducible refine (get_yes_c _ bs n u _ (Hv.out.below H.bel) Hg.out).mono ?_); rintro e wn ⟨rfl, rfl⟩) | (go_at_call 112; (with_reducible refine (must_no u rfl false H Hv.out (.inl rfl)).mono ?_); rintro e wn ⟨rfl, H2⟩; replace H := H2; clear H2))
    all_goals exact ⟨rfl, rfl, H⟩
set_option maxHeartbeats 6400000 in
theorem cndigest_c (va : Value) (L : BK) (w : World) (hv : Recs w va L) : Calls Tryz.prog 43 #[.agg #[va]] w fun e w' => e = .returned (.agg (encU (dig (bPutP L))).toArray) ∧ Below w.heap.size w w' := by
  obtain ⟨bs, hbs⟩ : ∃ bs, Hid (bPutP L = bs) := ⟨_, rfl⟩
  have Hl : Hid (bs.length ≤ 80000) := Lib.hid (by rw [← hbs.out]; exact bPutP_len hv.ok)
  obtain ⟨O, hO⟩ : ∃ O, Hid ((encU (dig bs)).toArray = O) := ⟨_, rfl⟩
  have HOs : Hid (O.size = 32) := Lib.hid (by rw [← hO.out]; simp [encU_length, dig, outs_length])
  have HO1 : Hid (O.all (·.oneCell') = true) := Lib.hid (by rw [← hO.out]; simp [encU, Value.oneCell'])
  rw [hbs.out, hO.out]
  obtain ⟨m, hm⟩ : ∃ m, bMay L = m := ⟨_, rfl⟩
  have Hm := Lib.hid hm
  have Ha := Lib.hid hv; clear hv hm
  have H := St.init w
  go_enter Tryz.func43, Tryz.ntmps43
  go_wp2_with (first | go_skip | ((fail_if_success have := kB); (with_reducible apply arm_box H); rfl; clear H; intro wn kB H) | ((with_reducible apply ld_bk); rfl; rfl; (focus (apply H.one; (repeat (first | with_reducible exact mH | with_reducible apply mT)); done))) | ((fail_if_success have := kR); (with_reducible apply al_dg H); clear H; intro wn kR H) | ((with_reducible apply st_dg H); rfl; rfl; rfl; exact HOs.out; exact HO1.out; (repeat (first | with_reducible apply Upd.head | with_reducible apply Upd.tail)); clear H; intro wn H) | (go_at_call 39; (with_reducible refine (cnput_c _ L _ (Ha.out.below H.bel)).mono ?_); rintro e wn ⟨v, rfl, hs⟩; rw [hbs.out] at hs; rw [Hm.out]; replace H := H.comp hs; clear hs; simp only [List.cons_append, List.nil_append] at H) | (go_at_call 69; (with_reducible refine (sum_c v bs Hl.out _ (H.byt8 (by (repeat (first | with_reducible exact mH | with_reducible apply mT))))).mono ?_); rw [hO.out]; rintro e wn ⟨rfl, hb⟩; replace H := H.call hb; clear hb))
  all_goals first | (rw [Exit.noGoto_ret]) | skip
  have hR := H.blkOf (b := kR) (t := 64) (cs := O) (by (repeat (first | with_reducible exact mH | with_reducible apply mT)))
  exact bodyPost_ret (results_cell_row Tryz.results43 _ _ kR _ O _ _ rfl hR Tryz.underlying64 rfl (by rw [HOs.out]; exact size32_info)) rfl ⟨rfl, H.bel⟩
end Go.Proofs.YtolbmemogoojhaaGreat
