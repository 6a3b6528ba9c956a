/- The reference's digest of bytes. -/
import Derived.Test.YtgckgbonhbabpaaRefB
namespace Go.Proofs.Ytgckgbonhbabpaa
open Go Go.RowKit Go.Deep
set_option linter.unusedVariables false
set_option linter.unusedSimpArgs false
set_option maxRecDepth 100000

theorem padded_length (bs : List UInt8) : (padded bs).length % 64 = 0 := by
  simp [padded, lenB, padN]; omega
/-- The state's words, copied behind nil. -/
theorem wpList_copyW {w w0 : World} {ops : Array Oper} {rest : List Oper} {o : Oper} {a : Act} {Q : Exit → Act → World → Prop} (hgd : o.guard = none) (s x : Operand)
    (ho : o.op = .call { callee := .builtin .append, args := #[s, x], argTypes := #[110, 110] }) (dst : Option Tmp) (hdst : o.dst = dst)
    (hs : a.eval s = .slice none 0 0) (xv : Value) (m : List Int) (hxv : a.eval x = xv) (hx : Row w 1 xv m.length (encWL m)) (hl : m.length ≤ 1000) (hb : Below w0.heap.size w0 w)
    (h : ∀ v' w', OwnW w0.heap.size w' v' m → Below w.heap.size w w' → wpList Try.prog ops Q rest (a.put dst v') w') : wpList Try.prog ops Q (o :: rest) a w := by
  subst hdst
  refine wpList_append_row hgd s x 110 ho w.heap.size 101 (.int .u32 0) 1 4 (by kernel_rfl) (by kernel_rfl) (by rfl) (by omega) _ 0 [] hs (World.ownsRow_nil _ _ _ _) xv m.length (encWL m) hxv hx (encWL_one m) (by unfold maxLen; omega) (by omega) (Nat.le_refl _) fun v' w' h1 h2 => h v' w' ?_ (bel_grown (base := 0) (Below.refl _ _) (World.ownsRow_nil w w.heap.size 101 1) h2)
  have h3 : w'.ownsRow w.heap.size 101 1 v' m.length (encWL m) := by simpa using h1
  exact own_lower h3 hb.size

theorem rT (z y x4 f g i8 : Int) : IntKind.u32.wrap (IntKind.u32.wrap (IntKind.u32.wrap (IntKind.u32.wrap (i8 + bits BinOp.xor IntKind.u32 (bits BinOp.xor IntKind.u32 (rr x4 6) (rr x4 11)) (rr x4 25)) + bits BinOp.or IntKind.u32 (bits BinOp.and IntKind.u32 x4 f) (bits BinOp.and IntKind.u32 (IntKind.u32.wrap (4294967295 - x4)) g)) + z) + y) = rndT z y x4 f g i8 := by
  unfold rndT
  rw [IntKind.wrap_u32 (4294967295 - x4), ch_eq]
  simp only [IntKind.wrap_u32]
  omega
theorem rU (a b c : Int) : (bits BinOp.xor IntKind.u32 (bits BinOp.xor IntKind.u32 (rr a 2) (rr a 13)) (rr a 22) + bits BinOp.or IntKind.u32 (bits BinOp.or IntKind.u32 (bits BinOp.and IntKind.u32 a b) (bits BinOp.and IntKind.u32 a c)) (bits BinOp.and IntKind.u32 b c)) % 4294967296 = rndU a b c := by
  unfold rndU; rw [maj_eq]
theorem rowW_blk {w : World} {b : Nat} {T : TypeId} {l : List Int} (h : Blk w b T (encW l)) (n c : Nat) (hn : l.length = n) (hc : n ≤ c) (hm : c ≤ maxLen) : Row w 1 (.slice (some ⟨b, 0, none⟩) n c) l.length (encWL l) := by
  refine ⟨by simp [encWL_length], _, _, by rw [hn], by rw [hn]; exact hc, hm, (fun h => by cases h), fun _ => ⟨b, 0, rfl, fun j u hj => ?_⟩⟩
  rw [Nat.zero_add, h.cell]
  simpa [encW, encWL] using hj
theorem addN_pos (st l : List Int) (h : ∀ v ∈ st, 0 ≤ v) : ∀ j, ∀ v ∈ addN st l j, 0 ≤ v
  | 0 => h
  | j + 1 => fun v hv => by
    rw [addN] at hv
    rcases List.mem_or_eq_of_mem_set hv with h1 | h1
    · exact addN_pos st l h j v h1
    · rw [h1]; omega
theorem states_pos (A : List UInt8) : ∀ m, ∀ v ∈ states A m, 0 ≤ v
  | 0 => by simp [states, begunL]
  | m + 1 => by rw [states, takeL]; exact addN_pos _ _ (states_pos A m) 8
theorem addN_lt (st l : List Int) (h : ∀ v ∈ st, v < 4294967296) : ∀ j, ∀ v ∈ addN st l j, v < 4294967296
  | 0 => h
  | j + 1 => fun v hv => by
    rw [addN] at hv
    rcases List.mem_or_eq_of_mem_set hv with h1 | h1
    · exact addN_lt st l h j v h1
    · rw [h1]; omega
theorem states_lt (A : List UInt8) : ∀ m, ∀ v ∈ states A m, v < 4294967296
  | 0 => by simp [states, begunL]
  | m + 1 => by rw [states, takeL]; exact addN_lt _ _ (states_lt A m) 8
theorem takeD {P : Program} {ops : Array Oper} {Q : Exit → Act → World → Prop} {md : Region.Mode} {S : World → Prop} {i : Nat} {oi : Oper} {v : Value} {fuel : Nat} {listed : Array Bool} {a : Act} {w : World} (d : Tmp) (hi : ops[i]? = some oi) (hd : oi.dst = some d)
    (hs : Region.noSelect ops = true) (hf : Region.free md ops listed i = true) (hr : (Region.ready md ops listed).contains i = true)
    (hQ : ∀ c a w, Q (.panic c) (a.put (some d) v) w → Q (.panic c) a w) (hy : YieldsIf P ops S oi v a) (hS : S w)
    (h : wpAnyH P md ops Q S fuel (listed.setIfInBounds i true) (a.put (some d) v) w) : wpAnyH P md ops Q S (fuel + 1) listed a w :=
  wpAnyH_take hi hs hf hr (by rw [hd]; exact hQ) hy hS (by rw [hd]; exact h)
set_option maxHeartbeats 6400000 in
theorem rsum_c (v : Value) (bs : List UInt8) (hl : bs.length ≤ 80000) (w : World) (hv : Byt w v bs) : Calls Try.prog 80 #[v] w fun e w' => e = .returned (.agg (encU (dig bs)).toArray) ∧ Below w.heap.size w w' := by
  have Hv := Lib.hid hv; clear hv
  go_enter Try.func80, Try.ntmps80
  go_wp2_with (first | ((fail_if_success have := k1); refine wpList_alloc_blk rfl 39 rfl _ rfl (.agg zero32) zero32 zero32_info rfl ?_; intro w1 k1 b1 s1) | (go_at_call 89; refine (message_c v bs hl _ (Hv.out.below (b1.trans ((bel_alloc (Below.refl w1.heap.size w1) _).mono (by omega))))).mono ?_; rintro e w3 ⟨va, rfl, own3, b3⟩; have k3 : Blk w3 w1.heap.size 101 (encW begunL) := Blk.below (Blk.new w1 101 (encW begunL)) b3 (by simp); have own3 := own3.lower (base' := w1.heap.size + 1) (by simp); have b3 := bel_step (bel_alloc (Below.refl w1.heap.size w1) _) b3))
  obtain ⟨A, hA⟩ : ∃ A, padded bs = A := ⟨_, rfl⟩
  have hAm := padded_length bs
  have hA9 : A.length ≠ 0 := by rw [← hA]; simp [padded]
  rw [hA] at own3 hAm
  obtain ⟨q, hq⟩ : ∃ q, A.length = 64 * q := ⟨A.length / 64, by omega⟩
  obtain ⟨ab, ca, rfl, a0, a1, a2, a3, ac⟩ := own3.open_ (by omega)
  rw [hq] at a2 ac ⊢
  have hlen80 : 64 * q ≤ 90000 := by rw [← hq, ← hA]; simp [padded, lenB, padN]; omega
  have hz3 := b3.size
  have K1 := Lib.hid k1
  rw [s1] at k3 b3 hz3 a0
  have hka := k3.lt
  have Ac := Lib.hid ac
  have A3 := Lib.hid a3
  have K3 := Lib.hid k3
  have HA := Lib.hid hA; have Hq := Lib.hid hq
  have HB1 := Lib.hid b1
  have HB3 : Hid (Below (w.heap.size + 1) w1 w3) := Lib.hid b3
  clear own3 k3 ac a3 k1 b1 b3 hA hq hAm hA9
  go_wp2
  go_loopw [5] (fun i wr => ∃ m : Nat, m ≤ q ∧ i = .int .i64 ((64 * m : Nat) : Int) ∧ Hid (Blk wr (w.heap.size + 1) 101 (encW (states A m))) ∧ Hid (But (w.heap.size + 1) w3 wr)) (fun i _ => 64 * q - (intOf i).toNat)
  case atStart => exact ⟨0, by omega, rfl, K3, Lib.hid (But.refl _ _)⟩
  case round =>
    obtain ⟨m, hm, rfl, K, B⟩ := hrel
    obtain ⟨o, ho⟩ : ∃ o, o = 64 * m := ⟨_, rfl⟩
    rw [← ho]
    by_cases hlt : m < q
    · have ho1 : o + 64 ≤ 64 * q := by omega
      have hz := B.out.size
      have hcells : ∀ j, j < 64 → wr.cell? ⟨ab, o + j, none⟩ = some (.int .u8 ((((A.drop (64 * m)).take 64).getD j 0).toNat : Int)) := fun j hj => by
        rw [(B.out.cell (p := ⟨ab, o + j, none⟩) a1 (by show ab ≠ _; omega)), Ac.out _ (by omega)]
        congr 3
        simp [List.getD_eq_getElem?_getD, List.getElem?_take, List.getElem?_drop, hj, ho]
      have hca := A3.out
      unfold maxLen at hca
      have hbyt : ∀ c', 64 ≤ c' → c' ≤ 9223372036854775807 → Byt wr (.slice (some ⟨ab, o, none⟩) 64 c') ((A.drop (64 * m)).take 64) := fun c' h1 h2 => byt_of _ _ _ _ _ _ (by have := Hq.out; simp; omega) h1 (by unfold maxLen; omega) hcells
      have Hbyt := Lib.hid hbyt
      have Ho := Lib.hid ho
      obtain ⟨CH, hCH⟩ : ∃ CH, CH = (A.drop (64 * m)).take 64 := ⟨_, rfl⟩
      have hCHl : CH.length = 64 := by have := Hq.out; rw [hCH]; simp; omega
      rw [← hCH] at Hbyt
      have HCH := Lib.hid hCH
      clear hcells hbyt ho hCH
      have hst8 := states_length A m
      have K' := Lib.hid K.out
      go_wp2_with (first | (go_at_call 90; refine (words_c _ CH hCHl _ (Hbyt.out _ (by omega) (by omega))).mono ?_; rintro e w4 ⟨wv, rfl, ownw, b4⟩; have K4 := Lib.hid (K.out.below b4 K.out.lt); obtain ⟨wb, cw, rfl, wb0, wb1, wb2, wb3, wbc⟩ := ownw.open_ (by rw [sched_length]; omega); rw [sched_length] at wb2 wbc ⊢; have Wbc := Lib.hid wbc; have Wb3 := Lib.hid wb3; clear ownw wbc wb3) | (at_builtin; refine wpList_copyW (w0 := w4) rfl _ _ rfl _ rfl rfl _ (states A m) rfl (rowW_blk K4.out 8 8 hst8 (by omega) (by decide)) (by omega) (Below.refl _ _) ?_; intro sv w5 owns b5; obtain ⟨sb, cs, rfl, sb0, sb1, sb2, sb3, sbc⟩ := owns.open_ (by omega); rw [hst8] at sb2 sbc ⊢; have Sbc := Lib.hid sbc; have Sb3 := Lib.hid sb3; clear owns sbc sb3))
      have hz4 := b4.size
      have hz5 := b5.size
      have HB5 : Hid (Below wr.heap.size wr w5) := Lib.hid (b4.trans (b5.mono hz4))
      have Hwc : Hid (∀ j, j < 64 → w5.cell? ⟨wb, j, none⟩ = some (.int .u32 ((sched CH 64).getD j 0))) := Lib.hid fun j hj => (b5.cell (p := ⟨wb, j, none⟩) wb1).trans (Wbc.out j hj)
      have hcs := Sb3.out
      have hcw := Wb3.out
      unfold maxLen at hcs hcw
      obtain ⟨st, hst⟩ : ∃ st, st = states A m := ⟨_, rfl⟩
      rw [← hst] at hst8 K' Sbc
      have Hst := Lib.hid hst
      obtain ⟨st0, st1, st2, st3, st4, st5, st6, st7, hst9⟩ := eight hst8
      have Hst9 := Lib.hid hst9
      have Sb0 : Hid (∀ j, j < 8 → w5.cell? ⟨sb, j, none⟩ = some (.int .u32 ([st0, st1, st2, st3, st4, st5, st6, st7].getD j 0))) := by rw [← hst9]; exact Sbc
      clear hst hst9 b4 b5 K K4 Sbc Wbc Sb3 Wb3
      go_loopw [8, 7] (fun i u wx => ∃ (j sb cs : Nat) (a b c d x4 f g i8 : Int), j ≤ 64 ∧ i = .int .i64 j ∧ u = .slice (some ⟨sb, 0, none⟩) 8 cs ∧ 8 ≤ cs ∧ cs ≤ 9223372036854775807 ∧ sb < wx.heap.size ∧ w.heap.size + 1 < sb ∧ Hid (rnds (sched CH 64) st j = [a, b, c, d, x4, f, g, i8]) ∧ Hid (∀ k, k < 8 → wx.cell? ⟨sb, k, none⟩ = some (.int .u32 ([a, b, c, d, x4, f, g, i8].getD k 0))) ∧ Hid (Below w5.heap.size w5 wx)) (fun i _ _ => 64 - (intOf i).toNat)
      case atStart => exact ⟨0, sb, cs, st0, st1, st2, st3, st4, st5, st6, st7, by omega, rfl, rfl, sb2, by omega, sb1, by omega, Lib.hid Hst9.out, Sb0, Lib.hid (Below.refl _ _)⟩
      case round =>
        obtain ⟨j, sb, cs, a, b, c, d, x4, f, g, i8, hj, rfl, rfl, hc8, hc9, hsb, hsb2, R, S, BB⟩ := hrel
        have hbz := BB.out.size
        by_cases h64 : j < 64
        · obtain ⟨y, hy⟩ : ∃ y : Int, Hid (y = (sched CH 64).getD j 0) := ⟨_, rfl⟩
          obtain ⟨z, hz'⟩ : ∃ z : Int, Hid (z = rootsL.getD j 0) := ⟨_, rfl⟩
          have cy : wr.cell? ⟨wb, j, none⟩ = some (.int .u32 y) := by rw [hy.out]; exact (BB.out.cell (p := ⟨wb, j, none⟩) (by show wb < _; omega)).trans (Hwc.out j h64)
          have c0 : wr.cell? ⟨sb, 0, none⟩ = some (.int .u32 a) := S.out 0 (by omega)
          have c1 : wr.cell? ⟨sb, 1, none⟩ = some (.int .u32 b) := S.out 1 (by omega)
          have c2 : wr.cell? ⟨sb, 2, none⟩ = some (.int .u32 c) := S.out 2 (by omega)
          have c3 : wr.cell? ⟨sb, 3, none⟩ = some (.int .u32 d) := S.out 3 (by omega)
          have c4 : wr.cell? ⟨sb, 4, none⟩ = some (.int .u32 x4) := S.out 4 (by omega)
          have c5 : wr.cell? ⟨sb, 5, none⟩ = some (.int .u32 f) := S.out 5 (by omega)
          have c6 : wr.cell? ⟨sb, 6, none⟩ = some (.int .u32 g) := S.out 6 (by omega)
          have c7 : wr.cell? ⟨sb, 7, none⟩ = some (.int .u32 i8) := S.out 7 (by omega)
          have l0 : ((j : Int) < 64) = True ∧ (j < 64) = True := by simp only [eq_iff_iff, iff_true]; omega
          have lsb : (sb < wr.heap.size) = True ∧ (wb < wr.heap.size) = True := by simp only [eq_iff_iff, iff_true]; omega
          have Hcy := Lib.hid cy
          go_wp2
          refine wp_region_held_drew (S := (fun w' => w'.cell? ⟨sb, 7, none⟩ = some (.int .u32 i8) ∧ w'.cell? ⟨sb, 5, none⟩ = some (.int .u32 f) ∧ w'.cell? ⟨sb, 6, none⟩ = some (.int .u32 g) ∧ w'.cell? ⟨wb, j, none⟩ = some (.int .u32 y))) (by kernel_rfl) ?_ (fun hHeld => ?_)
          (focus ((try dsimp only); exact ⟨c7, c5, c6, cy⟩))
          (refine takeD 45 (i := 0) (v := ?_) rfl rfl (by kernel_rfl) (by kernel_rfl) (by kernel_rfl) (fun _ _ _ h => h) (Or.inl ⟨by rfl, ?_⟩) (by assumption) ?_; rotate_left; (focus ((intro w hSw; (try dsimp only at hSw); go_simp); (try with_reducible rfl); done)); (try simp only [Act.put, List.setIfInBounds_toArray, List.set_cons_zero, List.set_cons_succ]))
          (refine takeD 46 (i := 1) (v := ?_) rfl rfl (by kernel_rfl) (by kernel_rfl) (by kernel_rfl) (fun _ _ _ h => h) (Or.inl ⟨by rfl, ?_⟩) (by assumption) ?_; rotate_left; (focus ((intro w hSw; (try dsimp only at hSw); go_simp); (try with_reducible rfl); done)); (try simp only [Act.put, List.setIfInBounds_toArray, List.set_cons_zero, List.set_cons_succ]))
          (refine takeD 47 (i := 2) (v := ?_) rfl rfl (by kernel_rfl) (by kernel_rfl) (by kernel_rfl) (fun _ _ _ h => h) (Or.inl ⟨by rfl, ?_⟩) (by assumption) ?_; rotate_left; (focus ((intro w hSw; (try dsimp only at hSw); go_simp); (try with_reducible rfl); done)); (try simp only [Act.put, List.setIfInBounds_toArray, List.set_cons_zero, List.set_cons_succ]))
          (refine takeD 48 (i := 3) (v := ?_) rfl rfl (by kernel_rfl) (by kernel_rfl) (by kernel_rfl) (fun _ _ _ h => h) (Or.inl ⟨by rfl, ?_⟩) (by assumption) ?_; rotate_left; (focus ((intro w hSw; (try dsimp only at hSw); go_simp); (try with_reducible rfl); done)); (try simp only [Act.put, List.setIfInBounds_toArray, List.set_cons_zero, List.set_cons_succ]))
          (refine takeD 50 (i := 5) (v := ?_) rfl rfl (by kernel_rfl) (by kernel_rfl) (by kernel_rfl) (fun _ _ _ h => h) (Or.inl ⟨by rfl, ?_⟩) (by assumption) ?_; rotate_left; (focus ((intro w hSw; (try dsimp only at hSw); go_simp); (try with_reducible rfl); done)); (try simp only [Act.put, List.setIfInBounds_toArray, List.set_cons_zero, List.set_cons_succ]))
          (refine takeD 53 (i := 8) (v := ?_) rfl rfl (by kernel_rfl) (by kernel_rfl) (by kernel_rfl) (fun _ _ _ h => h) (Or.inl ⟨by rfl, ?_⟩) (by assumption) ?_; rotate_left; (focus ((intro w hSw; (try dsimp only at hSw); go_simp); (try with_reducible rfl); done)); (try simp only [Act.put, List.setIfInBounds_toArray, List.set_cons_zero, List.set_cons_succ]))
          (refine takeD 57 (i := 12) (v := ?_) rfl rfl (by kernel_rfl) (by kernel_rfl) (by kernel_rfl) (fun _ _ _ h => h) (Or.inl ⟨by rfl, ?_⟩) (by assumption) ?_; rotate_left; (focus ((intro w hSw; (try dsimp only at hSw); go_simp); (try with_reducible rfl); done)); (try simp only [Act.put, List.setIfInBounds_toArray, List.set_cons_zero, List.set_cons_succ]))
          (refine takeD 58 (i := 13) (v := ?_) rfl rfl (by kernel_rfl) (by kernel_rfl) (by kernel_rfl) (fun _ _ _ h => h) (Or.inl ⟨by rfl, ?_⟩) (by assumption) ?_; rotate_left; (focus ((intro w hSw; (try dsimp only at hSw); go_simp); (try with_reducible rfl); done)); (try simp only [Act.put, List.setIfInBounds_toArray, List.set_cons_zero, List.set_cons_succ]))
          (refine takeD 59 (i := 14) (v := ?_) rfl rfl (by kernel_rfl) (by kernel_rfl) (by kernel_rfl) (fun _ _ _ h => h) (Or.inl ⟨by rfl, ?_⟩) (by assumption) ?_; rotate_left; (focus ((intro w hSw; (try dsimp only at hSw); go_simp); (try with_reducible rfl); done)); (try simp only [Act.put, List.setIfInBounds_toArray, List.set_cons_zero, List.set_cons_succ]))
          (refine takeD 60 (i := 15) (v := ?_) rfl rfl (by kernel_rfl) (by kernel_rfl) (by kernel_rfl) (fun _ _ _ h => h) (Or.inl ⟨by rfl, ?_⟩) (by assumption) ?_; rotate_left; (focus ((intro w hSw; (try dsimp only at hSw); go_simp); (try with_reducible rfl); done)); (try simp only [Act.put, List.setIfInBounds_toArray, List.set_cons_zero, List.set_cons_succ]))
          (refine takeD 61 (i := 16) (v := ?_) rfl rfl (by kernel_rfl) (by kernel_rfl) (by kernel_rfl) (fun _ _ _ h => h) (Or.inl ⟨by rfl, ?_⟩) (by assumption) ?_; rotate_left; (focus ((intro w hSw; (try dsimp only at hSw); go_simp); (try with_reducible rfl); done)); (try simp only [Act.put, List.setIfInBounds_toArray, List.set_cons_zero, List.set_cons_succ]))
          (refine takeD 62 (i := 17) (v := ?_) rfl rfl (by kernel_rfl) (by kernel_rfl) (by kernel_rfl) (fun _ _ _ h => h) (Or.inl ⟨by rfl, ?_⟩) (by assumption) ?_; rotate_left; (focus ((intro w hSw; (try dsimp only at hSw); go_simp); (try with_reducible rfl); done)); (try simp only [Act.put, List.setIfInBounds_toArray, List.set_cons_zero, List.set_cons_succ]))
          (refine takeD 63 (i := 18) (v := ?_) rfl rfl (by kernel_rfl) (by kernel_rfl) (by kernel_rfl) (fun _ _ _ h => h) (Or.inl ⟨by rfl, ?_⟩) (by assumption) ?_; rotate_left; (focus ((intro w hSw; (try dsimp only at hSw); go_simp); (try with_reducible rfl); done)); (try simp only [Act.put, List.setIfInBounds_toArray, List.set_cons_zero, List.set_cons_succ]))
          (refine takeD 64 (i := 19) (v := ?_) rfl rfl (by kernel_rfl) (by kernel_rfl) (by kernel_rfl) (fun _ _ _ h => h) (Or.inl ⟨by rfl, ?_⟩) (by assumption) ?_; rotate_left; (focus ((intro w hSw; (try dsimp only at hSw); go_simp); (try with_reducible rfl); done)); (try simp only [Act.put, List.setIfInBounds_toArray, List.set_cons_zero, List.set_cons_succ]))
          (refine takeD 65 (i := 20) (v := ?_) rfl rfl (by kernel_rfl) (by kernel_rfl) (by kernel_rfl) (fun _ _ _ h => h) (Or.inl ⟨by rfl, ?_⟩) (by assumption) ?_; rotate_left; (focus ((intro w hSw; (try dsimp only at hSw); go_simp); (try with_reducible rfl); done)); (try simp only [Act.put, List.setIfInBounds_toArray, List.set_cons_zero, List.set_cons_succ]))
          (refine takeD 66 (i := 21) (v := ?_) rfl rfl (by kernel_rfl) (by kernel_rfl) (by kernel_rfl) (fun _ _ _ h => h) (Or.inl ⟨by rfl, ?_⟩) (by assumption) ?_; rotate_left; (focus ((intro w hSw; (try dsimp only at hSw); go_simp); (try with_reducible rfl); done)); (try simp only [Act.put, List.setIfInBounds_toArray, List.set_cons_zero, List.set_cons_succ]))
          (refine takeD 67 (i := 22) (v := ?_) rfl rfl (by kernel_rfl) (by kernel_rfl) (by kernel_rfl) (fun _ _ _ h => h) (Or.inl ⟨by rfl, ?_⟩) (by assumption) ?_; rotate_left; (focus ((intro w hSw; (try dsimp only at hSw); go_simp); (try with_reducible rfl); done)); (try simp only [Act.put, List.setIfInBounds_toArray, List.set_cons_zero, List.set_cons_succ]))
          (refine takeD 68 (i := 23) (v := ?_) rfl rfl (by kernel_rfl) (by kernel_rfl) (by kernel_rfl) (fun _ _ _ h => h) (Or.inl ⟨by rfl, ?_⟩) (by assumption) ?_; rotate_left; (focus ((intro w hSw; (try dsimp only at hSw); go_simp); (try with_reducible rfl); done)); (try simp only [Act.put, List.setIfInBounds_toArray, List.set_cons_zero, List.set_cons_succ]))
          (refine takeD 71 (i := 26) (v := ?_) rfl rfl (by kernel_rfl) (by kernel_rfl) (by kernel_rfl) (fun _ _ _ h => h) (Or.inl ⟨by rfl, ?_⟩) (by assumption) ?_; rotate_left; (focus ((intro w hSw; (try dsimp only at hSw); go_simp); (try with_reducible rfl); done)); (try simp only [Act.put, List.setIfInBounds_toArray, List.set_cons_zero, List.set_cons_succ]))
          (refine takeD 75 (i := 30) (v := ?_) rfl rfl (by kernel_rfl) (by kernel_rfl) (by kernel_rfl) (fun _ _ _ h => h) (Or.inl ⟨by rfl, ?_⟩) (by assumption) ?_; rotate_left; (focus ((intro w hSw; (try dsimp only at hSw); go_simp); (try with_reducible rfl); done)); (try simp only [Act.put, List.setIfInBounds_toArray, List.set_cons_zero, List.set_cons_succ]))
          (refine takeD 76 (i := 31) (v := ?_) rfl rfl (by kernel_rfl) (by kernel_rfl) (by kernel_rfl) (fun _ _ _ h => h) (Or.inl ⟨by rfl, ?_⟩) (by assumption) ?_; rotate_left; (focus ((intro w hSw; (try dsimp only at hSw); go_simp); (try with_reducible rfl); done)); (try simp only [Act.put, List.setIfInBounds_toArray, List.set_cons_zero, List.set_cons_succ]))
          (refine takeD 77 (i := 32) (v := ?_) rfl rfl (by kernel_rfl) (by kernel_rfl) (by kernel_rfl) (fun _ _ _ h => h) (Or.inl ⟨by rfl, ?_⟩) (by assumption) ?_; rotate_left; (focus ((intro w hSw; (try dsimp only at hSw); go_simp); (try with_reducible rfl); done)); (try simp only [Act.put, List.setIfInBounds_toArray, List.set_cons_zero, List.set_cons_succ]))
          (refine takeD 78 (i := 33) (v := ?_) rfl rfl (by kernel_rfl) (by kernel_rfl) (by kernel_rfl) (fun _ _ _ h => h) (Or.inl ⟨by rfl, ?_⟩) (by assumption) ?_; rotate_left; (focus ((intro w hSw; (try dsimp only at hSw); go_simp); (try with_reducible rfl); done)); (try simp only [Act.put, List.setIfInBounds_toArray, List.set_cons_zero, List.set_cons_succ]))
          (refine wpAnyH_ready (rs := [4]) (by kernel_rfl) (by simp) ?_; refine AllReadyH.cons rfl (fun K hK => ?_) AllReadyH.nil; go_simp; go_at_call 91; (with_reducible refine (turned_i _ _ (by decide) (by decide) _).mono ?_); rintro e' w' ⟨rfl, rfl⟩; refine hK.out _ _ ?_ (fun hHeld => ?_); (focus ((try dsimp only); (first | exact ⟨c7, c5, c6, cy⟩ | (refine ⟨cell_below (w := wr) ?_ _ _ _ c7, cell_below (w := wr) ?_ _ _ _ c5, cell_below (w := wr) ?_ _ _ _ c6, cell_below (w := wr) ?_ _ _ _ cy⟩ <;> (repeat (first | exact Below.refl _ _ | assumption | refine bel_alloc ?_ _ | refine bel_drew ?_)))); done)); clear hK K; (try simp only [Act.put, List.setIfInBounds_toArray, List.set_cons_zero, List.set_cons_succ]))
          (refine wpAnyH_ready (rs := [6]) (by kernel_rfl) (by simp) ?_; refine AllReadyH.cons rfl (fun K hK => ?_) AllReadyH.nil; go_simp; go_at_call 91; (with_reducible refine (turned_i _ _ (by decide) (by decide) _).mono ?_); rintro e' w' ⟨rfl, rfl⟩; refine hK.out _ _ ?_ (fun hHeld => ?_); (focus ((try dsimp only); (first | exact ⟨c7, c5, c6, cy⟩ | (refine ⟨cell_below (w := wr) ?_ _ _ _ c7, cell_below (w := wr) ?_ _ _ _ c5, cell_below (w := wr) ?_ _ _ _ c6, cell_below (w := wr) ?_ _ _ _ cy⟩ <;> (repeat (first | exact Below.refl _ _ | assumption | refine bel_alloc ?_ _ | refine bel_drew ?_)))); done)); clear hK K; (try simp only [Act.put, List.setIfInBounds_toArray, List.set_cons_zero, List.set_cons_succ]))
          (refine takeD 52 (i := 7) (v := ?_) rfl rfl (by kernel_rfl) (by kernel_rfl) (by kernel_rfl) (fun _ _ _ h => h) (Or.inl ⟨by rfl, ?_⟩) (by assumption) ?_; rotate_left; (focus ((intro w hSw; (try dsimp only at hSw); go_simp); (try with_reducible rfl); done)); (try simp only [Act.put, List.setIfInBounds_toArray, List.set_cons_zero, List.set_cons_succ]))
          (refine wpAnyH_ready (rs := [9]) (by kernel_rfl) (by simp) ?_; refine AllReadyH.cons rfl (fun K hK => ?_) AllReadyH.nil; go_simp; go_at_call 91; (with_reducible refine (turned_i _ _ (by decide) (by decide) _).mono ?_); rintro e' w' ⟨rfl, rfl⟩; refine hK.out _ _ ?_ (fun hHeld => ?_); (focus ((try dsimp only); (first | exact ⟨c7, c5, c6, cy⟩ | (refine ⟨cell_below (w := wr) ?_ _ _ _ c7, cell_below (w := wr) ?_ _ _ _ c5, cell_below (w := wr) ?_ _ _ _ c6, cell_below (w := wr) ?_ _ _ _ cy⟩ <;> (repeat (first | exact Below.refl _ _ | assumption | refine bel_alloc ?_ _ | refine bel_drew ?_)))); done)); clear hK K; (try simp only [Act.put, List.setIfInBounds_toArray, List.set_cons_zero, List.set_cons_succ]))
          (refine takeD 55 (i := 10) (v := ?_) rfl rfl (by kernel_rfl) (by kernel_rfl) (by kernel_rfl) (fun _ _ _ h => h) (Or.inl ⟨by rfl, ?_⟩) (by assumption) ?_; rotate_left; (focus ((intro w hSw; (try dsimp only at hSw); go_simp); (try with_reducible rfl); done)); (try simp only [Act.put, List.setIfInBounds_toArray, List.set_cons_zero, List.set_cons_succ]))
          (refine takeD 56 (i := 11) (v := ?_) rfl rfl (by kernel_rfl) (by kernel_rfl) (by kernel_rfl) (fun _ _ _ h => h) (Or.inl ⟨by rfl, ?_⟩) (by assumption) ?_; rotate_left; (focus ((intro w hSw; (try dsimp only at hSw); go_simp); (try with_reducible rfl); done)); (try simp only [Act.put, List.setIfInBounds_toArray, List.set_cons_zero, List.set_cons_succ]))
          (refine takeD 69 (i := 24) (v := ?_) rfl rfl (by kernel_rfl) (by kernel_rfl) (by kernel_rfl) (fun _ _ _ h => h) (Or.inl ⟨by rfl, ?_⟩) (by assumption) ?_; rotate_left; (focus ((intro w hSw; (try dsimp only at hSw); go_simp); (try with_reducible rfl); done)); (try simp only [Act.put, List.setIfInBounds_toArray, List.set_cons_zero, List.set_cons_succ]))
          (refine wpAnyH_ready (rs := [25]) (by kernel_rfl) (by simp) ?_; refine AllReadyH.cons rfl (fun K hK => ?_) AllReadyH.nil; go_simp; go_at_call 92; refine (k_c _).mono ?_; rintro e' w6 ⟨rfl, kb, hb6⟩; have b6 : Below wr.heap.size wr w6 := bel_step (bel_drew (Below.refl _ _)) hb6; have kc : w6.cell? ⟨wr.heap.size, j, none⟩ = some (.int .u32 z) := (kb.cell j).trans (by rw [hz'.out]; exact encW_at rootsL j h64); refine hK.out _ _ ?_ (fun hHeld => ?_); (focus ((try dsimp only); (first | exact ⟨c7, c5, c6, cy⟩ | (refine ⟨cell_below (w := wr) ?_ _ _ _ c7, cell_below (w := wr) ?_ _ _ _ c5, cell_below (w := wr) ?_ _ _ _ c6, cell_below (w := wr) ?_ _ _ _ cy⟩ <;> (repeat (first | exact Below.refl _ _ | assumption | refine bel_alloc ?_ _ | refine bel_drew ?_)))); done)); clear hK K; (try simp only [Act.put, List.setIfInBounds_toArray, List.set_cons_zero, List.set_cons_succ]))
          (refine takeD 72 (i := 27) (v := ?_) rfl rfl (by kernel_rfl) (by kernel_rfl) (by kernel_rfl) (fun _ _ _ h => h) (Or.inl ⟨by rfl, ?_⟩) (by assumption) ?_; rotate_left; (focus ((intro w hSw; (try dsimp only at hSw); go_simp); (try with_reducible rfl); done)); (try simp only [Act.put, List.setIfInBounds_toArray, List.set_cons_zero, List.set_cons_succ]))
          (refine wpAnyH_ready (rs := [28]) (by kernel_rfl) (by simp) ?_; refine AllReadyH.cons rfl (fun K hK => ?_) AllReadyH.nil; go_simp; refine hK.out _ _ ?_ (fun hHeld => ?_); (focus ((try dsimp only); (first | exact ⟨c7, c5, c6, cy⟩ | (refine ⟨cell_below (w := wr) ?_ _ _ _ c7, cell_below (w := wr) ?_ _ _ _ c5, cell_below (w := wr) ?_ _ _ _ c6, cell_below (w := wr) ?_ _ _ _ cy⟩ <;> (repeat (first | exact Below.refl _ _ | assumption | refine bel_alloc ?_ _ | refine bel_drew ?_)))); done)); clear hK K; (try simp only [Act.put, List.setIfInBounds_toArray, List.set_cons_zero, List.set_cons_succ]))
          (refine takeD 74 (i := 29) (v := ?_) rfl rfl (by kernel_rfl) (by kernel_rfl) (by kernel_rfl) (fun _ _ _ h => h) (Or.inl ⟨by rfl, ?_⟩) (by assumption) ?_; rotate_left; (focus ((intro w hSw; (try dsimp only at hSw); go_simp); (try with_reducible rfl); done)); (try simp only [Act.put, List.setIfInBounds_toArray, List.set_cons_zero, List.set_cons_succ]))
          (refine takeD 79 (i := 34) (v := ?_) rfl rfl (by kernel_rfl) (by kernel_rfl) (by kernel_rfl) (fun _ _ _ h => h) (Or.inl ⟨by rfl, ?_⟩) (by assumption) ?_; rotate_left; (focus ((intro w hSw; (try dsimp only at hSw); go_simp); (try with_reducible rfl); done)); (try simp only [Act.put, List.setIfInBounds_toArray, List.set_cons_zero, List.set_cons_succ]))
          (refine takeD 11 (i := 35) (v := ?_) rfl rfl (by kernel_rfl) (by kernel_rfl) (by kernel_rfl) (fun _ _ _ h => h) (Or.inl ⟨by rfl, ?_⟩) (by assumption) ?_; rotate_left; (focus ((intro w hSw; (try dsimp only at hSw); go_simp); (try with_reducible rfl); done)); (try simp only [Act.put, List.setIfInBounds_toArray, List.set_cons_zero, List.set_cons_succ]))
          refine wpAnyH_done (by kernel_rfl) ?_ _
          rw [rT]
          obtain ⟨T, hT⟩ : ∃ T, rndT z y x4 f g i8 = T := ⟨_, rfl⟩
          rw [hT]
          have HT := Lib.hid hT; clear hT kc kb
          have d0 := cell_below b6 _ _ _ c0
          have d1 := cell_below b6 _ _ _ c1
          have d2 := cell_below b6 _ _ _ c2
          have d3 := cell_below b6 _ _ _ c3
          have d4 := cell_below b6 _ _ _ c4
          have d5 := cell_below b6 _ _ _ c5
          have d6 := cell_below b6 _ _ _ c6
          have d7 := cell_below b6 _ _ _ c7
          have hz6 := b6.size
          have lsc : (sb < w6.heap.size) = True := by simp only [eq_iff_iff, iff_true]; omega
          clear c0 c1 c2 c3 c4 c5 c6 c7 cy
          go_wp2
          refine wp_quiet_all (C := fun w' => ∃ x : After _, w' = x.w) (by kernel_rfl) (by kernel_rfl) (since_drew _) ?_
          have hA := @after_cell
          repeat (go_big_quiet_step ((go_at_call 91; exact after_call_same _ (turned_i _ _ (by decide) (by decide) _))))
          refine wpQuiet_nil ?_
          rintro _ ⟨x7, rfl⟩
          have hz7 := after_size x7
          rw [rU]
          obtain ⟨U, hU⟩ : ∃ U, rndU a b c = U := ⟨_, rfl⟩
          rw [hU]
          have HU := Lib.hid hU; clear hU
          have e0 := cell_below x7.h _ _ _ d0
          have e1 := cell_below x7.h _ _ _ d1
          have e2 := cell_below x7.h _ _ _ d2
          have e3 := cell_below x7.h _ _ _ d3
          have e4 := cell_below x7.h _ _ _ d4
          have e5 := cell_below x7.h _ _ _ d5
          have e6 := cell_below x7.h _ _ _ d6
          have e7 := cell_below x7.h _ _ _ d7
          clear d0 d1 d2 d3 d4 d5 d6 d7
          have lsd : (sb < x7.w.heap.size) = True := by simp only [eq_iff_iff, iff_true]; omega
          go_wp2
          go_region_held3 (fun w' => w'.cell? ⟨sb, 1, none⟩ = some (.int .u32 b) ∧ w'.cell? ⟨sb, 2, none⟩ = some (.int .u32 c) ∧ w'.cell? ⟨sb, 3, none⟩ = some (.int .u32 d) ∧ w'.cell? ⟨sb, 5, none⟩ = some (.int .u32 f) ∧ w'.cell? ⟨sb, 6, none⟩ = some (.int .u32 g)) ((first | exact ⟨e1, e2, e3, e5, e6⟩ | (refine ⟨cell_below (w := x7.w) ?_ _ _ _ e1, cell_below (w := x7.w) ?_ _ _ _ e2, cell_below (w := x7.w) ?_ _ _ _ e3, cell_below (w := x7.w) ?_ _ _ _ e5, cell_below (w := x7.w) ?_ _ _ _ e6⟩ <;> (repeat (first | exact Below.refl _ _ | assumption | refine bel_alloc ?_ _ | refine bel_drew ?_))))) (fail)
          have HBn : Hid (Below w5.heap.size w5 (x7.w.drew.alloc (.cells (encW [IntKind.u32.wrap (T + U), a, b, c, IntKind.u32.wrap (d + T), x4, f, g]) 101))) := Lib.hid ((bel_step BB.out (bel_step b6 x7.h)).drew.alloc (by show w5.heap.size ≤ x7.w.heap.size; omega) _)
          have Kn := Lib.hid (Blk.new x7.w.drew 101 (encW [IntKind.u32.wrap (T + U), a, b, c, IntKind.u32.wrap (d + T), x4, f, g]))
          clear e0 e1 e2 e3 e4 e5 e6 e7
          go_wp2
          go_roundw
          case rel =>
            refine ⟨j + 1, x7.w.heap.size, 8, IntKind.u32.wrap (T + U), a, b, c, IntKind.u32.wrap (d + T), x4, f, g, by omega, by go_num, rfl, by omega, by omega, by simp, by omega, ?_, ?_, HBn⟩
            · refine Lib.hid ?_
              rw [rnds, R.out, ← hz'.out, ← hy.out, IntKind.wrap_u32, IntKind.wrap_u32]
              show [(rndT z y x4 f g i8 + rndU a b c) % 4294967296, a, b, c, (d + rndT z y x4 f g i8) % 4294967296, x4, f, g] = _
              rw [show rndT z y x4 f g i8 = T from HT.out, show rndU a b c = U from HU.out]
            · exact Lib.hid fun k hk => (Kn.out.cell k).trans (encW_at _ _ (by exact hk))
          case measure => simp [intOf]; omega
        · have hj64 : j = 64 := by omega
          subst hj64
          rw [show (((64 : Nat) : Int)) = 64 from rfl]
          obtain ⟨L, hL⟩ : ∃ L, L = [a, b, c, d, x4, f, g, i8] := ⟨_, rfl⟩
          have hL8 : L.length = 8 := by rw [hL]; rfl
          rw [← hL] at R S
          have hKs : Blk wr (w.heap.size + 1) 101 (encW st) := K'.out.below (HB5.out.trans (BB.out.mono HB5.out.size)) K'.out.lt
          have HKs := Lib.hid hKs
          clear hL hKs
          have hstz : w.heap.size + 1 < wr.heap.size := HKs.out.lt
          have HBW := Lib.hid (HB5.out.trans (BB.out.mono HB5.out.size))
          go_wp2
          go_loopw [13] (fun i wx => ∃ (k : Nat) (M : List Int), k ≤ 8 ∧ i = .int .i64 k ∧ M.length = 8 ∧ Hid (M = addN st L k) ∧ Hid (Blk wx (w.heap.size + 1) 101 (encW M)) ∧ Hid (But (w.heap.size + 1) wr wx)) (fun i _ => 8 - (intOf i).toNat)
          case atStart => exact ⟨0, st, by omega, rfl, hst8, Lib.hid rfl, HKs, Lib.hid (But.refl _ _)⟩
          case round =>
            obtain ⟨k, M, hk, rfl, hM8, AM, Ks, Bs⟩ := hrel
            have hzz := Bs.out.size
            by_cases hk8 : k < 8
            · obtain ⟨p, hp⟩ : ∃ p : Int, Hid (p = M.getD k 0) := ⟨_, rfl⟩
              obtain ⟨r, hr⟩ : ∃ r : Int, Hid (r = L.getD k 0) := ⟨_, rfl⟩
              have cp : wr.cell? ⟨w.heap.size + 1, k, none⟩ = some (.int .u32 p) := by rw [hp.out, Ks.out.cell]; exact encW_at _ _ (by omega)
              have cf := Ks.out.frozen k
              have cr : wr.cell? ⟨sb, k, none⟩ = some (.int .u32 r) := by rw [hr.out]; exact (Bs.out.cell (p := ⟨sb, k, none⟩) hsb (by show sb ≠ _; omega)).trans (S.out k hk8)
              have t1 : (sb < wr.heap.size) = True ∧ (w.heap.size + 1 < wr.heap.size) = True := by simp only [eq_iff_iff, iff_true]; omega
              have hA := @after_cell
              have hF := @after_frozen
              go_wp2
              refine wp_quiet_tail (C := fun w' => ∃ x : After _, w' = x.w) 12 (by kernel_rfl) (by kernel_rfl) (since_drew _) ?_
              simp only [List.take_succ_cons, List.take_zero, List.drop_succ_cons, List.drop_zero]
              repeat (go_big_quiet_step (fail))
              refine wpQuiet_nil ?_
              rintro _ ⟨x0, rfl⟩
              have hz0 := after_size x0
              have t3 : (w.heap.size + 1 < x0.w.heap.size) = True := by simp only [eq_iff_iff, iff_true]; omega
              go_wp2
              go_roundw
              case rel =>
                refine ⟨k + 1, M.set k ((p + r) % 4294967296), by omega, by go_num, by rw [List.length_set]; exact hM8, ?_, ?_, ?_⟩
                · exact Lib.hid (by rw [addN, ← AM.out, hp.out, hr.out])
                · have := (Ks.out.after x0).set k (.int .u32 ((p + r) % 4294967296))
                  rw [encW_set] at this
                  exact Lib.hid this
                · exact Lib.hid ((Bs.out.after x0).set k _)
              case measure => simp [intOf]; omega
            · have hk8' : k = 8 := by omega
              subst hk8'
              have hfin : M = states A (m + 1) := by rw [AM.out, states, takeL, ← R.out, Hst.out, HCH.out]
              have HKf : Hid (Blk wr (w.heap.size + 1) 101 (encW (states A (m + 1)))) := by rw [← hfin]; exact Ks
              have HBf : Hid (But (w.heap.size + 1) w3 wr) := Lib.hid ((B.out.trans (But.of_below HBW.out)).trans Bs.out)
              have hoo := Ho.out
              go_wp2
              go_roundw
              case rel => exact ⟨m + 1, by omega, by congr 1, HKf, HBf⟩
              case measure => simp [intOf]; omega
    · have hmq : m = q := by omega
      subst hmq
      obtain ⟨S, hS⟩ : ∃ S, S = states A m := ⟨_, rfl⟩
      have hSl : S.length = 8 := by rw [hS]; exact states_length A m
      have hSp : ∀ v ∈ S, 0 ≤ v ∧ v < 4294967296 := by rw [hS]; exact fun v hv => ⟨states_pos A m v hv, states_lt A m v hv⟩
      rw [← hS] at K
      have HS := Lib.hid hS; have HSp := Lib.hid hSp; clear hS hSp
      have hzs := B.out.size
      obtain ⟨ob, hob⟩ : ∃ ob, wr.heap.size = ob := ⟨_, rfl⟩
      have hge : 64 * m ≤ o := by omega
      clear ho
      go_wp2_with (first | (refine wpList_build_to rfl 39 _ rfl _ rfl zero32 (by kernel_rfl) ?_) | (refine wpList_alloc_blk rfl 39 rfl _ rfl (.agg zero32) zero32 zero32_info rfl ?_; intro w12 k12 b12 s12) | (refine wpList_store_blk rfl 39 _ _ rfl _ zero32 rfl rfl _ _ k12 (by kernel_rfl) (by kernel_rfl) (by kernel_rfl) ?_; intro w13 k13 b13 s13))
      rw [hob] at k13 s12 b12 hzs b13
      have Ks := Lib.hid ((K.out.below b12 (by rw [← hob]; exact K.out.lt)).but b13 (by omega))
      have K13 := Lib.hid k13
      have B12 := Lib.hid b12; have B13 := Lib.hid b13
      clear k12 k13 b12 b13
      go_wp2
      go_loopw [15] (fun i wq => ∃ j : Nat, j ≤ 32 ∧ i = .int .i64 j ∧ Hid (Blk wq ob 39 (encU (outs S j)).toArray) ∧ Hid (But ob w13 wq)) (fun i _ => 32 - (intOf i).toNat)
      case atStart => exact ⟨0, by omega, rfl, K13, Lib.hid (But.refl _ _)⟩
      case round =>
        obtain ⟨j, hj, rfl, KO, BO⟩ := hrel
        have hoz := BO.out.size
        by_cases h32 : j < 32
        · obtain ⟨x, hx, hxb⟩ : ∃ x : Nat, Hid ((x : Int) = S.getD (j / 4) 0) ∧ x < 4294967296 := ⟨(S.getD (j / 4) 0).toNat, Lib.hid (by
            have h1 : j / 4 < S.length := by omega
            have := HSp.out (S[j / 4]) (List.getElem_mem h1)
            rw [List.getD_eq_getElem?_getD, List.getElem?_eq_getElem h1]
            simp only [Option.getD_some]; omega), by
            have h1 : j / 4 < S.length := by omega
            have := HSp.out (S[j / 4]) (List.getElem_mem h1)
            rw [List.getD_eq_getElem?_getD, List.getElem?_eq_getElem h1]
            simp only [Option.getD_some]; omega⟩
          have cx : wr.cell? ⟨w.heap.size + 1, j / 4, none⟩ = some (.int .u32 (x : Int)) := by rw [hx.out, (Ks.out.but BO.out (by omega)).cell]; exact encW_at _ _ (by omega)
          obtain ⟨v0, hv0⟩ : ∃ v0, wr.cell? ⟨ob, j, none⟩ = some v0 := ⟨_, by rw [KO.out.cell]; exact Array.getElem?_eq_getElem (by simp [encU_length, outs_length]; omega)⟩
          have hf0 := KO.out.frozen j
          have Hv0 := Lib.hid hv0; have Hf0 := Lib.hid hf0; clear hv0 hf0
          go_wp2
          go_loopw [17, 16] (fun n u wz => ∃ k : Nat, k ≤ 3 - j % 4 ∧ n = .int .i64 ((j % 4 + k : Nat) : Int) ∧ u = .int .u32 ((x / 256 ^ k : Nat) : Int) ∧ wz = wr) (fun n _ _ => 3 - (intOf n).toNat)
          case atStart => exact ⟨0, by omega, by simp, by simp, rfl⟩
          case round =>
            obtain ⟨k, hk, rfl, rfl, rfl⟩ := hrel
            obtain ⟨nk, hnk⟩ : ∃ nk, nk = j % 4 + k := ⟨_, rfl⟩
            obtain ⟨X, hX⟩ : ∃ X, X = x / 256 ^ k := ⟨_, rfl⟩
            rw [← hnk, ← hX]
            have hXb : X < 4294967296 := by rw [hX]; exact Nat.lt_of_le_of_lt (Nat.div_le_self _ _) hxb
            have HX := Lib.hid hX; clear hX
            by_cases hk3 : nk < 3
            · have Hnk := Lib.hid hnk; clear hnk
              go_wp2
              go_roundw
              case rel =>
                have := Hnk.out
                refine ⟨k + 1, by omega, by go_num, ?_, trivial⟩
                rw [Nat.pow_succ, ← Nat.div_div_eq_div_mul, ← HX.out]
                first | rfl | (congr 1; omega)
              case measure => simp [intOf]; omega
            · have hk3' : nk = 3 := by omega
              have Hk3 : Hid (k = 3 - j % 4) := Lib.hid (by omega)
              subst hk3'
              clear hnk
              have hv0 := Hv0.out
              have hf0 := Hf0.out
              go_wp2
              go_roundw
              case rel =>
                refine ⟨j + 1, by omega, by go_num, ?_, Lib.hid (BO.out.set j _)⟩
                have := KO.out.set j (.int .u8 ((X : Int) % 256))
                have e : (encU (outs S j)).toArray.setIfInBounds j (.int .u8 ((X : Int) % 256)) = (encU (outs S (j + 1))).toArray := by
                  rw [outs, ← hx.out]
                  have e1 : (x : Int) / 2 ^ (24 - 8 * (j % 4)) % 256 = (X : Int) % 256 := by
                    rw [HX.out, Hk3.out, show (256 : Nat) = 2 ^ 8 from rfl, ← Nat.pow_mul, show 8 * (3 - j % 4) = 24 - 8 * (j % 4) by omega]
                    rw [Int.natCast_ediv, Int.natCast_pow]; rfl
                  rw [e1]
                  simp only [encU, List.setIfInBounds_toArray, List.map_set]
                  rw [byte_int]
                rw [e] at this
                exact Lib.hid this
              case measure => simp [intOf]; omega
        · have hj32 : j = 32 := by omega
          subst hj32
          obtain ⟨O, hO⟩ : ∃ O, O = (encU (outs S 32)).toArray := ⟨_, rfl⟩
          have hOs : O.size = 32 := by rw [hO]; simp [encU_length, outs_length]
          have hO1 : O.all (·.oneCell') = true := by rw [hO]; simp [encU, Value.oneCell']
          have KO' := KO.out
          rw [← hO] at KO'
          have HO := Lib.hid hO; clear hO
          have hw3 := K1.out.lt
          have KT : Blk wr w.heap.size 39 zero32 := ((((K1.out.below HB3.out (by omega)).but B.out (by omega)).below B12.out (by omega)).but B13.out (by omega)).but BO.out (by omega)
          have hbel : Below w.heap.size w wr :=
            HB1.out.trans ((HB3.out.mono (by omega)).trans ((B.out.below (by omega) (by omega)).trans ((B12.out.mono (by omega)).trans ((B13.out.below (by omega) (by omega)).trans (BO.out.below (by omega) (by omega))))))
          have HKO := Lib.hid KO'; have HKT := Lib.hid KT; have Hbel := Lib.hid hbel
          have HAq : Hid ((padded bs).length / 64 = m) := Lib.hid (by rw [HA.out, Hq.out]; omega)
          clear KO' KT hbel K1 B B12 B13 BO KO K HB1 HB3
          go_wp2_with (first | (refine wpList_load_row rfl 39 _ rfl _ rfl _ O _ _ HKO.out Try.underlying39 rfl (by rw [hOs]; exact size32_info) ?_) | (refine wpList_store_blk rfl 39 _ _ rfl _ O rfl rfl _ _ HKT.out (by rw [hOs]; exact size32_info) (by rw [hOs]; rfl) hO1 ?_; intro w14 k14 b14 s14))
          exact bodyPost_ret (results_cell_row Try.results80 _ _ w.heap.size _ O _ _ rfl k14 Try.underlying39 rfl (by rw [hOs]; exact size32_info)) rfl ⟨by rw [HO.out, HS.out, dig, HAq.out, HA.out], Hbel.out.trans (b14.below (Nat.le_refl _) (by have := Hbel.out.size; omega))⟩
end Go.Proofs.Ytgckgbonhbabpaa
