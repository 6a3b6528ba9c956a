/- A chunk is taken. -/
import Derived.Test.YtgckgbonhbabpaaShaB
namespace Go.Proofs.Ytgckgbonhbabpaa
open Go Go.RowKit Go.Deep
set_option linter.unusedVariables false
set_option linter.unusedSimpArgs false
set_option maxRecDepth 100000

def zero8 : Array Value := encW (List.replicate 8 0)
theorem zero8_info : (Try.prog.info? 103).map (·.zero) = some (some (.agg zero8)) := by kernel_rfl
theorem size8_info : (Try.prog.info? 103).map (·.size) = some 8 := by kernel_rfl
def rndT (k w e f g h : Int) : Int := (h + bits BinOp.xor IntKind.u32 (bits BinOp.xor IntKind.u32 (rr e 6) (rr e 11)) (rr e 25) + bits BinOp.xor IntKind.u32 (bits BinOp.and IntKind.u32 e f) (bits BinOp.and IntKind.u32 (bits BinOp.xor IntKind.u32 IntKind.u32.max e) g) + k + w) % 4294967296
def rndU (a b c : Int) : Int := (bits BinOp.xor IntKind.u32 (bits BinOp.xor IntKind.u32 (rr a 2) (rr a 13)) (rr a 22) + bits BinOp.xor IntKind.u32 (bits BinOp.xor IntKind.u32 (bits BinOp.and IntKind.u32 a b) (bits BinOp.and IntKind.u32 a c)) (bits BinOp.and IntKind.u32 b c)) % 4294967296
def rnd (k w : Int) : List Int → List Int
  | [a, b, c, d, e, f, g, h] => [(rndT k w e f g h + rndU a b c) % 4294967296, a, b, c, (d + rndT k w e f g h) % 4294967296, e, f, g]
  | l => l
def rnds (W st : List Int) : Nat → List Int
  | 0 => st
  | i + 1 => rnd (rootsL.getD i 0) (W.getD i 0) (rnds W st i)
/-- The first j words, added. -/
def addN (st l : List Int) : Nat → List Int
  | 0 => st
  | j + 1 => (addN st l j).set j (((addN st l j).getD j 0 + l.getD j 0) % 4294967296)
theorem addN_length (st l : List Int) : ∀ j, (addN st l j).length = st.length
  | 0 => rfl
  | j + 1 => by rw [addN, List.length_set, addN_length st l j]
theorem eight {l : List Int} (h : l.length = 8) : ∃ a b c d e f g i, l = [a, b, c, d, e, f, g, i] := by
  match l, h with
  | [a, b, c, d, e, f, g, i], _ => exact ⟨a, b, c, d, e, f, g, i, rfl⟩
theorem rnd_length (k w : Int) {l : List Int} (h : l.length = 8) : (rnd k w l).length = 8 := by
  obtain ⟨a, b, c, d, e, f, g, i, rfl⟩ := eight h; rfl
theorem rnds_length (W : List Int) {st : List Int} (h : st.length = 8) : ∀ i, (rnds W st i).length = 8
  | 0 => h
  | i + 1 => rnd_length _ _ (rnds_length W h i)
/-- What a chunk makes of a state. -/
def takeL (bs : List UInt8) (st : List Int) : List Int := addN st (rnds (sched bs 64) st 64) 8

set_option maxHeartbeats 3200000 in
theorem take_c (v : Value) (bs : List UInt8) (hl : bs.length = 64) (sb kb : Nat) (hne : kb ≠ sb) (st : List Int) (h8 : st.length = 8) (w : World) (hv : Byt w v bs) (hs : Blk w sb 103 (encW st)) (hk : Blk w kb 105 rootsA) :
    Calls Try.prog 85 #[.pointer (some ⟨sb, 0, none⟩), v, .pointer (some ⟨kb, 0, none⟩)] w fun e w' => e = .returned (.tuple #[]) ∧ Blk w' sb 103 (encW (takeL bs st)) ∧ But sb w w' := by
  have hsb := hs.lt
  have hkb := hk.lt
  have Hv := Lib.hid hv; clear hv
  obtain ⟨S, hS⟩ : ∃ S, S = encW (sched bs 64) := ⟨_, rfl⟩
  have hSs : S.size = 64 := by rw [hS, encW_size, sched_length]
  have hS1 : S.all (·.oneCell') = true := by rw [hS]; exact encW_one _
  have HS := Lib.hid hS; clear hS
  obtain ⟨X, hX⟩ : ∃ X, X = encW st := ⟨_, rfl⟩
  have hXs : X.size = 8 := by rw [hX, encW_size, h8]
  have hX1 : X.all (·.oneCell') = true := by rw [hX]; exact encW_one _
  rw [← hX] at hs
  have HX := Lib.hid hX; clear hX
  have Hsch : Hid (∀ w, Byt w v bs → Calls Try.prog 93 #[v] w fun e w' => e = .returned (.agg S) ∧ Below w.heap.size w w') := by rw [HS.out]; exact Lib.hid fun w h => schedule_c v bs hl w h
  go_enter Try.func85, Try.ntmps85
  go_wp2_with (first | (go_at_call 93; refine (Hsch.out _ Hv.out).mono ?_; rintro e w1 ⟨rfl, b1⟩; have hs1 := hs.below b1 hsb; have hk1 := hk.below b1 hkb) | (refine wpList_alloc_blk rfl 105 rfl _ rfl (.agg zeroA) zeroA zero_info rfl ?_; intro w2 k2 b2 s2) | (refine wpList_store_blk rfl 105 _ _ rfl _ S rfl rfl _ _ k2 (by rw [hSs]; exact size_info) (by rw [hSs]; rfl) hS1 ?_; intro w3 k3 b3 s3; have hs3 := (hs1.below b2 hs1.lt).but b3 (by have := hs1.lt; omega); have hk3 := (hk1.below b2 hk1.lt).but b3 (by have := hk1.lt; omega)) | (refine wpList_load_row rfl 103 _ rfl _ rfl _ X _ _ hs3 Try.underlying103 rfl (by rw [hXs]; exact size8_info) ?_) | (refine wpList_alloc_blk rfl 103 rfl _ rfl (.agg zero8) zero8 zero8_info rfl ?_; intro w4 k4 b4 s4) | (refine wpList_store_blk rfl 103 _ _ rfl _ X rfl rfl _ _ k4 (by rw [hXs]; exact size8_info) (by rw [hXs]; rfl) hX1 ?_; intro w5 k5 b5 s5))
  have hk5 : Blk w5 kb 105 rootsA := (hk3.below b4 hk3.lt).but b5 (by have := hk1.lt; omega)
  have hs5 : Blk w5 sb 103 X := (hs3.below b4 hs3.lt).but b5 (by have := hs1.lt; omega)
  have hw5 : Blk w5 w1.heap.size 105 S := (k3.below b4 k3.lt).but b5 (by omega)
  have hb5 : Below w.heap.size w w5 := by
    have := b1.size
    exact b1.trans ((b2.mono (by omega)).trans ((b3.below (by omega) (by omega)).trans ((b4.mono (by omega)).trans (b5.below (by omega) (by omega)))))
  have l1 := b1.size
  have l5 := k5.lt
  rw [HX.out] at k5
  clear hs hs1 hs3 hk hk1 hk3 k2 k3 k4 b1 b2 b3 b4 b5 Hsch Hv hX1 hS1
  have hA := @after_cell
  have hF := @after_frozen
  have HK := Lib.hid hk5; have HB := Lib.hid hs5; have HW := Lib.hid hw5; have HL := Lib.hid hb5; have H5 := Lib.hid k5
  clear hk5 hs5 hw5 hb5 k5
  rw [s3, s2] at H5
  go_loopw [19] (fun i wr => ∃ (j : Nat) (a b c d e f g i8 : Int), j ≤ 64 ∧ i = .int .i64 j ∧ Hid (rnds (sched bs 64) st j = [a, b, c, d, e, f, g, i8]) ∧ Hid (Blk wr (w1.heap.size + 1) 103 (encW [a, b, c, d, e, f, g, i8])) ∧ Hid (But (w1.heap.size + 1) w5 wr)) (fun i _ => 64 - (intOf i).toNat)
  case atStart =>
    obtain ⟨a, b, c, d, e, f, g, i8, rfl⟩ := eight h8
    exact ⟨0, a, b, c, d, e, f, g, i8, by omega, rfl, Lib.hid rfl, H5, Lib.hid (But.refl _ _)⟩
  case round =>
    obtain ⟨j, a, b, c, d, e, f, g, i8, hj, rfl, R, K, B⟩ := hrel
    have hz := B.out.size
    by_cases h64 : j < 64
    · obtain ⟨y, hy⟩ : ∃ y : Int, Hid (y = (sched bs 64).getD j 0) := ⟨_, rfl⟩
      obtain ⟨z, hz'⟩ : ∃ z : Int, Hid (z = rootsL.getD j 0) := ⟨_, rfl⟩
      have cy : wr.cell? ⟨w1.heap.size, j, none⟩ = some (.int .u32 y) := by
        rw [hy.out, (HW.out.but B.out (by omega)).cell, HS.out]; exact encW_at _ _ (by rw [sched_length]; exact h64)
      have cz : wr.cell? ⟨kb, j, none⟩ = some (.int .u32 z) := by
        rw [hz'.out, (HK.out.but B.out (by omega)).cell]; exact encW_at _ _ (by exact h64)
      have c0 : wr.cell? ⟨w1.heap.size + 1, 0, none⟩ = some (.int .u32 a) := K.out.cell 0
      have c1 : wr.cell? ⟨w1.heap.size + 1, 1, none⟩ = some (.int .u32 b) := K.out.cell 1
      have c2 : wr.cell? ⟨w1.heap.size + 1, 2, none⟩ = some (.int .u32 c) := K.out.cell 2
      have c3 : wr.cell? ⟨w1.heap.size + 1, 3, none⟩ = some (.int .u32 d) := K.out.cell 3
      have c4 : wr.cell? ⟨w1.heap.size + 1, 4, none⟩ = some (.int .u32 e) := K.out.cell 4
      have c5 : wr.cell? ⟨w1.heap.size + 1, 5, none⟩ = some (.int .u32 f) := K.out.cell 5
      have c6 : wr.cell? ⟨w1.heap.size + 1, 6, none⟩ = some (.int .u32 g) := K.out.cell 6
      have c7 : wr.cell? ⟨w1.heap.size + 1, 7, none⟩ = some (.int .u32 i8) := K.out.cell 7
      have srx : (w1.heap.size + 1 < wr.heap.size) = True := by simp only [eq_iff_iff, iff_true]; omega
      have srw : (w1.heap.size < wr.heap.size) = True := by simp only [eq_iff_iff, iff_true]; omega
      have srk : (kb < wr.heap.size) = True := by simp only [eq_iff_iff, iff_true]; omega
      go_wp2
      refine wp_quiet_all (C := fun w' => ∃ x : After _, w' = x.w) (by kernel_rfl) (by kernel_rfl) (since_drew _) ?_
      repeat (go_big_quiet_step (fail))
      refine wpQuiet_nil ?_
      rintro _ ⟨x0, rfl⟩
      have hz0 := after_size x0
      have sx0x : (w1.heap.size + 1 < x0.w.heap.size) = True := by simp only [eq_iff_iff, iff_true]; omega
      have sx0w : (w1.heap.size < x0.w.heap.size) = True := by simp only [eq_iff_iff, iff_true]; omega
      have sx0k : (kb < x0.w.heap.size) = True := by simp only [eq_iff_iff, iff_true]; omega
      go_wp2
      refine wp_quiet_all (C := fun w' => ∃ x : After _, w' = x.w) (by kernel_rfl) (by kernel_rfl) (since_drew _) ?_
      repeat (go_big_quiet_step ((go_at_call 94; exact after_call_same _ (right_i _ _ (by decide) (by decide) _))))
      refine wpQuiet_nil ?_
      rintro _ ⟨x1, rfl⟩
      have hz1 := after_size x1
      have sx1x : (w1.heap.size + 1 < x1.w.heap.size) = True := by simp only [eq_iff_iff, iff_true]; omega
      have sx1w : (w1.heap.size < x1.w.heap.size) = True := by simp only [eq_iff_iff, iff_true]; omega
      have sx1k : (kb < x1.w.heap.size) = True := by simp only [eq_iff_iff, iff_true]; omega
      go_wp2
      refine wp_quiet_all (C := fun w' => ∃ x : After _, w' = x.w) (by kernel_rfl) (by kernel_rfl) (since_drew _) ?_
      repeat (go_big_quiet_step ((go_at_call 94; exact after_call_same _ (right_i _ _ (by decide) (by decide) _))))
      refine wpQuiet_nil ?_
      rintro _ ⟨x2, rfl⟩
      have hz2 := after_size x2
      have sx2x : (w1.heap.size + 1 < x2.w.heap.size) = True := by simp only [eq_iff_iff, iff_true]; omega
      have sx2w : (w1.heap.size < x2.w.heap.size) = True := by simp only [eq_iff_iff, iff_true]; omega
      have sx2k : (kb < x2.w.heap.size) = True := by simp only [eq_iff_iff, iff_true]; omega
      go_wp2
      generalize hT : (i8 + bits BinOp.xor IntKind.u32 (bits BinOp.xor IntKind.u32 (rr e 6) (rr e 11)) (rr e 25) + bits BinOp.xor IntKind.u32 (bits BinOp.and IntKind.u32 e f) (bits BinOp.and IntKind.u32 (bits BinOp.xor IntKind.u32 IntKind.u32.max e) g) + z + y) % 4294967296 = T
      generalize hU : (bits BinOp.xor IntKind.u32 (bits BinOp.xor IntKind.u32 (rr a 2) (rr a 13)) (rr a 22) + bits BinOp.xor IntKind.u32 (bits BinOp.xor IntKind.u32 (bits BinOp.and IntKind.u32 a b) (bits BinOp.and IntKind.u32 a c)) (bits BinOp.and IntKind.u32 b c)) % 4294967296 = U
      have HT := Lib.hid hT; clear hT
      have HU := Lib.hid hU; clear hU
      have K2 := ((K.out.after x0).after x1).after x2
      refine wp_quiet_tail (C := fun w' => ∃ x : After _, w' = x.w) 2 (by kernel_rfl) (by kernel_rfl) (since_drew _) ?_
      simp only [List.take_succ_cons, List.take_zero, List.drop_succ_cons, List.drop_zero]
      repeat (go_big_quiet_step (fail))
      refine wpQuiet_nil ?_
      rintro _ ⟨x3, rfl⟩
      have hz3 := after_size x3
      have K3 := K2.after x3
      have hsrc : ∀ (m : Nat) (u : Value), [Value.int .u32 a, .int .u32 b, .int .u32 c, .int .u32 d, .int .u32 e, .int .u32 f, .int .u32 g][m]? = some u → x3.w.cell? ((⟨w1.heap.size + 1, 0, none⟩ : Addr).add m) = some u := by
        intro m u hm
        rw [Addr.add_lit, Nat.zero_add, K3.cell]
        have hm7 : m < 7 := (List.getElem?_eq_some_iff.1 hm).1
        match m, hm7 with
        | 0, _ | 1, _ | 2, _ | 3, _ | 4, _ | 5, _ | 6, _ => exact hm
      have hfit : 1 + [Value.int .u32 a, .int .u32 b, .int .u32 c, .int .u32 d, .int .u32 e, .int .u32 f, .int .u32 g].length ≤ (encW [a, b, c, d, e, f, g, i8]).size := by simp [encW]
      have hone : ∀ u ∈ [Value.int .u32 a, .int .u32 b, .int .u32 c, .int .u32 d, .int .u32 e, .int .u32 f, .int .u32 g], u.oneCell' = true := by simp [Value.oneCell']
      have Hsrc := Lib.hid hsrc; have Hfit := Lib.hid hfit; have Hone := Lib.hid hone; have HK3 := Lib.hid K3
      clear hsrc hfit hone K3 K2
      go_wp2_with (refine wpList_copy_blk rfl _ _ 110 110 101 rfl _ rfl (w1.heap.size + 1) 1 7 7 ⟨w1.heap.size + 1, 0, none⟩ 7 8 rfl rfl _ _ _ Try.underlying110 (by kernel_rfl) HK3.out rfl Hsrc.out Hfit.out Hone.out (encW [a, a, b, c, d, e, f, g]) rfl ?_; intro w6 k6 b6 s6; have d0 := k6.cell 0; have d4 := k6.cell 4; have f0 := k6.frozen 0; have f4 := k6.frozen 4; simp [encW] at d0 d4; have K6 := Lib.hid k6; clear k6)
      go_roundw
      case rel =>
        refine ⟨j + 1, (T + U) % 4294967296, a, b, c, (d + T) % 4294967296, e, f, g, by omega, by go_num, ?_, ?_, ?_⟩
        · refine Lib.hid ?_
          rw [rnds, R.out, ← hz'.out, ← hy.out]
          show [(rndT z y e f g i8 + rndU a b c) % 4294967296, a, b, c, (d + rndT z y e f g i8) % 4294967296, e, f, g] = _
          rw [show rndT z y e f g i8 = T from HT.out, show rndU a b c = U from HU.out]
        · have := (K6.out.set 0 (.int .u32 ((T + U) % 4294967296))).set 4 (.int .u32 ((d + T) % 4294967296))
          rw [encW_set, encW_set] at this
          exact Lib.hid this
        · exact Lib.hid ((((((B.out.after x0).after x1).after x2).after x3).trans b6).set 0 _ |>.set 4 _)
      case measure => simp [intOf]; omega
    · have hj64 : j = 64 := by omega
      subst hj64
      obtain ⟨L, hL⟩ : ∃ L, L = [a, b, c, d, e, f, g, i8] := ⟨_, rfl⟩
      have hL8 : L.length = 8 := by rw [hL]; rfl
      rw [← hL] at R K
      clear hL
      have hBs := (HB.out.but B.out (by omega))
      rw [HX.out] at hBs
      have HBs := Lib.hid hBs; clear hBs
      go_wp2
      go_loopw [95] (fun i wq => ∃ (j : Nat) (M : List Int), j ≤ 8 ∧ i = .int .i64 j ∧ M.length = 8 ∧ Hid (M = addN st L j) ∧ Hid (Blk wq sb 103 (encW M)) ∧ Hid (But sb wr wq)) (fun i _ => 8 - (intOf i).toNat)
      case atStart => exact ⟨0, st, by omega, rfl, h8, Lib.hid rfl, HBs, Lib.hid (But.refl _ _)⟩
      case round =>
        obtain ⟨j, M, hj, rfl, hM8, A, Ks, Bs⟩ := hrel
        have hz := Bs.out.size
        by_cases h8' : j < 8
        · obtain ⟨p, hp⟩ : ∃ p : Int, Hid (p = M.getD j 0) := ⟨_, rfl⟩
          obtain ⟨q, hq⟩ : ∃ q : Int, Hid (q = L.getD j 0) := ⟨_, rfl⟩
          have cp : wr.cell? ⟨sb, j, none⟩ = some (.int .u32 p) := by rw [hp.out, Ks.out.cell]; exact encW_at _ _ (by omega)
          have cf := Ks.out.frozen j
          have cq : wr.cell? ⟨w1.heap.size + 1, j, none⟩ = some (.int .u32 q) := by rw [hq.out, (K.out.but Bs.out (by omega)).cell]; exact encW_at _ _ (by omega)
          have s1 : (sb < wr.heap.size) = True := by simp only [eq_iff_iff, iff_true]; omega
          have s2 : (w1.heap.size + 1 < wr.heap.size) = True := by simp only [eq_iff_iff, iff_true]; omega
          go_wp2
          refine wp_quiet_tail (C := fun w' => ∃ x : After _, w' = x.w) 11 (by kernel_rfl) (by kernel_rfl) (since_drew _) ?_
          simp only [List.take_succ_cons, List.take_zero, List.drop_succ_cons, List.drop_zero]
          repeat (go_big_quiet_step (fail))
          refine wpQuiet_nil ?_
          rintro _ ⟨x0, rfl⟩
          have hz0 := after_size x0
          have s3 : (sb < x0.w.heap.size) = True := by simp only [eq_iff_iff, iff_true]; omega
          go_wp2
          go_roundw
          case rel =>
            refine ⟨j + 1, M.set j ((p + q) % 4294967296), by omega, by go_num, by rw [List.length_set]; exact hM8, ?_, ?_, ?_⟩
            · exact Lib.hid (by rw [addN, ← A.out, hp.out, hq.out])
            · have := (Ks.out.after x0).set j (.int .u32 ((p + q) % 4294967296))
              rw [encW_set] at this
              exact Lib.hid this
            · exact Lib.hid ((Bs.out.after x0).set j _)
          case measure => simp [intOf]; omega
        · have hj8 : j = 8 := by omega
          subst hj8
          go_wp2
          have hfin : M = takeL bs st := by rw [A.out, takeL, R.out]
          refine bodyPost_end (v := .tuple #[]) (by simp [results, Try.results85]) rfl ⟨rfl, ?_, ?_⟩
          · rw [← hfin]; exact Ks.out
          · exact (But.of_below (HL.out.trans (B.out.below (by omega) (by omega)))).trans Bs.out
end Go.Proofs.Ytgckgbonhbabpaa
