/- The reference's words: turning them, its table, its message. -/
import Derived.Test.YtgckgbonhbabpaaShaD
import Derived.Test.YtgckgbonhbabpaaApp
import Derived.Great.BuildSlice
namespace Go.Proofs.Ytgckgbonhbabpaa
open Go Go.RowKit Go.Deep
set_option linter.unusedVariables false
set_option linter.unusedSimpArgs false
set_option maxRecDepth 100000

/-! Words of 32 bits, through bit vectors. -/
def W32 (x : Int) : BitVec 32 := BitVec.ofInt 32 x
theorem w32_nat (v : BitVec 32) : W32 (v.toNat : Int) = v := by
  apply BitVec.eq_of_toNat_eq
  exact ofInt_u32 v.toNat v.isLt
theorem wrap_w (v : BitVec 32) : IntKind.u32.wrap (v.toNat : Int) = (v.toNat : Int) := by
  rw [IntKind.wrap_u32]; have := v.isLt; omega
theorem bx (x y : Int) : bits .xor .u32 x y = ((W32 x ^^^ W32 y).toNat : Int) := wrap_w _
theorem ba (x y : Int) : bits .and .u32 x y = ((W32 x &&& W32 y).toNat : Int) := wrap_w _
theorem bo (x y : Int) : bits .or .u32 x y = ((W32 x ||| W32 y).toNat : Int) := wrap_w _
theorem w32_mod (x : Int) : W32 (x % 4294967296) = W32 x := by
  unfold W32
  apply BitVec.eq_of_toNat_eq
  rw [BitVec.toNat_ofInt, BitVec.toNat_ofInt]
  congr 1
  have : ((2 ^ 32 : Nat) : Int) = 4294967296 := by decide
  rw [this]; omega
theorem w32_not (x : Int) : W32 ((4294967295 - x) % 4294967296) = W32 IntKind.u32.max ^^^ W32 x := by
  rw [w32_mod]
  have hm : W32 IntKind.u32.max = BitVec.allOnes 32 := by decide
  rw [hm]
  apply BitVec.eq_of_toNat_eq
  have e : BitVec.allOnes 32 ^^^ W32 x = ~~~ W32 x := by rw [BitVec.allOnes_xor]
  rw [e, BitVec.toNat_not]
  unfold W32
  rw [BitVec.toNat_ofInt, BitVec.toNat_ofInt]
  have : ((2 ^ 32 : Nat) : Int) = 4294967296 := by decide
  rw [this]; omega
theorem ch_eq (e f g : Int) : bits BinOp.or IntKind.u32 (bits BinOp.and IntKind.u32 e f) (bits BinOp.and IntKind.u32 ((4294967295 - e) % 4294967296) g) = bits BinOp.xor IntKind.u32 (bits BinOp.and IntKind.u32 e f) (bits BinOp.and IntKind.u32 (bits BinOp.xor IntKind.u32 IntKind.u32.max e) g) := by
  simp only [bx, ba, bo, w32_nat, w32_not]
  congr 2
  have hm : W32 IntKind.u32.max = BitVec.allOnes 32 := by decide
  rw [hm, BitVec.allOnes_xor]
  ext i hi
  simp only [BitVec.getElem_or, BitVec.getElem_and, BitVec.getElem_xor, BitVec.getElem_not]
  cases (W32 e)[i] <;> cases (W32 f)[i] <;> cases (W32 g)[i] <;> rfl
theorem maj_eq (a b c : Int) : bits BinOp.or IntKind.u32 (bits BinOp.or IntKind.u32 (bits BinOp.and IntKind.u32 a b) (bits BinOp.and IntKind.u32 a c)) (bits BinOp.and IntKind.u32 b c) = bits BinOp.xor IntKind.u32 (bits BinOp.xor IntKind.u32 (bits BinOp.and IntKind.u32 a b) (bits BinOp.and IntKind.u32 a c)) (bits BinOp.and IntKind.u32 b c) := by
  simp only [bx, ba, bo, w32_nat]
  congr 2
  ext i hi
  simp only [BitVec.getElem_or, BitVec.getElem_and, BitVec.getElem_xor]
  cases (W32 a)[i] <;> cases (W32 b)[i] <;> cases (W32 c)[i] <;> rfl
theorem or_comm_w (x y : Int) : bits BinOp.or IntKind.u32 x y = bits BinOp.or IntKind.u32 y x := by
  rw [bo, bo, BitVec.or_comm]
set_option maxHeartbeats 800000 in
theorem turned_c (x : Int) (n : Nat) (h1 : 1 ≤ n) (h2 : n < 32) (w : World) : Calls Try.prog 91 #[.int .u32 x, .int .u32 (n : Int)] w fun e w' => e = .returned (.int .u32 (rr x n)) ∧ w = w' := by
  go_enter Try.func91, Try.ntmps91
  go_wp2
  go_ret
  refine ⟨?_, rfl⟩
  show Ending.returned (.int .u32 (bits BinOp.or IntKind.u32 (x / 2 ^ n) (x * 2 ^ (32 - n) % 4294967296))) = _
  rw [or_comm_w]
  unfold rr
  rw [show 32 - (32 - n) = n by omega]
theorem w16_eq (c0 c1 c2 c3 : UInt8) : w16 c0 c1 c2 c3 = ((16777216 * c0.toNat + 65536 * c1.toNat + 256 * c2.toNat + c3.toNat : Nat) : Int) := by
  have h0 := c0.toNat_lt; have h1 := c1.toNat_lt; have h2 := c2.toNat_lt; have h3 := c3.toNat_lt
  unfold w16
  have e0 : ((c0.toNat : Int) % 4294967296 * 16777216 % 4294967296) = ((16777216 * c0.toNat : Nat) : Int) := by omega
  have e1 : ((c1.toNat : Int) % 4294967296 * 65536 % 4294967296) = ((65536 * c1.toNat : Nat) : Int) := by omega
  have e2 : ((c2.toNat : Int) % 4294967296 * 256 % 4294967296) = ((256 * c2.toNat : Nat) : Int) := by omega
  have e3 : ((c3.toNat : Int) % 4294967296) = ((c3.toNat : Nat) : Int) := by omega
  rw [e0, e1, e2, e3, u32_or_nat _ _ (by omega) (by omega), nat_join 24 _ _ (by omega) (by omega), u32_or_nat _ _ (by omega) (by omega), nat_join 16 _ _ (by omega) (by omega), u32_or_nat _ _ (by omega) (by omega), nat_join 8 _ _ (by omega) (by omega)]

theorem turned_i (x N : Int) (h1 : 1 ≤ N) (h2 : N < 32) (w : World) : Calls Try.prog 91 #[.int .u32 x, .int .u32 N] w fun e w' => e = .returned (.int .u32 (rr x N.toNat)) ∧ w = w' := by
  obtain ⟨n, rfl⟩ := Int.eq_ofNat_of_zero_le (show 0 ≤ N by omega)
  exact turned_c x n (by omega) (by omega) w
set_option maxHeartbeats 800000 in
theorem k_c (w : World) : Calls Try.prog 92 #[] w fun e w' => e = .returned (.slice (some ⟨w.heap.size, 0, none⟩) 64 64) ∧ Blk w' w.heap.size 101 rootsA ∧ Below w.heap.size w w' := by
  go_enter Try.func92, Try.ntmps92
  go_wp2_with (refine wpList_buildFlat rfl 110 101 64 _ rfl .u32 rootsL (by kernel_rfl) (by kernel_rfl) (by kernel_rfl) (by kernel_rfl) (by decide) (by decide) (by kernel_rfl) ?_; have kb : Blk (w.alloc (.cells (rootsL.map (Value.int .u32)).toArray 101)) w.heap.size 101 rootsA := Blk.new _ _ _; have bb := bel_alloc (Below.refl w.heap.size w) (.cells (rootsL.map (Value.int .u32)).toArray 101); generalize w.alloc (.cells (rootsL.map (Value.int .u32)).toArray 101) = w1 at kb bb ⊢)
  go_ret
  exact ⟨rfl, kb, bb⟩

/-- The reference's message is the padded text. -/
theorem byte_div (n : Nat) (j : Nat) (hj : j < 8) : 256 ^ (7 - j) = 2 ^ (8 * (7 - j)) := by rw [Nat.pow_mul]
set_option maxHeartbeats 3200000 in
theorem message_c (v : Value) (bs : List UInt8) (hl : bs.length ≤ 80000) (w : World) (hv : Byt w v bs) : Calls Try.prog 89 #[v] w (MadeU 5 (padded bs) w) := by
  have hlen0 := fun W => len_of hv W
  have Hv := Lib.hid hv; clear hv
  obtain ⟨N, hN⟩ : ∃ N, N = bs.length := ⟨_, rfl⟩
  rw [← hN] at hlen0 hl
  have HN := Lib.hid hN; clear hN
  go_enter Try.func89, Try.ntmps89
  go_wp2_with (first | (at_builtin; refine wpList_app (w0 := w) rfl _ _ 26 rfl _ rfl 5 (by kernel_rfl) (by kernel_rfl) _ [] rfl (ownU_nil _ _ _) _ bs rfl Hv.out (by simp; rw [← HN.out]; omega) (Below.refl _ _) ?_; intro v2 w2 own2 b2) | (at_builtin; refine wpList_app (w0 := w) rfl _ _ 26 rfl _ rfl 5 (by kernel_rfl) (by kernel_rfl) _ _ rfl (own2.below (bel_alloc (Below.refl _ _) _)) _ [128] rfl (byt_one _ _ 128 _ rfl) (by simp; rw [← HN.out]; omega) (bel_alloc b2 _) ?_; intro v3 w3 own3 b3))
  rw [List.nil_append] at own3
  have Own3 := Lib.hid own3; have B3 := Lib.hid b3
  clear own2 b2 own3 b3
  go_loopw [3] (fun u wr => ∃ M : Nat, M ≤ padN N ∧ Hid (OwnU w.heap.size wr 5 u (bs ++ [128] ++ List.replicate M 0)) ∧ Hid (Below w.heap.size w wr)) (fun u _ => N + 66 - lenV u)
  case atStart => exact ⟨0, Nat.zero_le _, Lib.hid (by simpa using Own3.out), B3⟩
  case round =>
    obtain ⟨M, hM, O, B⟩ := hrel
    have hP : padN N ≤ 63 := by unfold padN; omega
    obtain ⟨L, hL⟩ : ∃ L, L = N + 1 + M := ⟨_, rfl⟩
    have hl2 : (bs ++ [128] ++ List.replicate M 0).length = L := by simp [hL, HN.out]; omega
    have hlen := fun W => len_of O.out.byt W
    have hlv := lenV_of O.out.byt
    rw [hl2] at hlen hlv
    have Hl2 := Lib.hid hl2; clear hl2
    by_cases h56 : L % 64 = 56
    · have hMP : M = padN N := by unfold padN; unfold padN at hM; omega
      subst hMP
      obtain ⟨pre, hpre⟩ : ∃ pre, pre = bs ++ [128] ++ List.replicate (padN N) 0 := ⟨_, rfl⟩
      rw [← hpre] at O Hl2
      have Hpre := Lib.hid hpre; clear hpre
      clear hlv
      have hq : ((L : Int) % 64 != 56) = false := by simp; omega
      have HLN := Lib.hid hL
      clear hL h56
      go_wp2
      clear hq hlen
      go_loopw [5, 6, 3] (fun pl i u wr => ∃ j : Nat, j ≤ 8 ∧ i = .int .i64 j ∧ (∃ P : Nat, pl = .int .u64 P ∧ (j < 8 → P = 256 ^ (7 - j))) ∧ Hid (OwnU w.heap.size wr 5 u (pre ++ lenB N j)) ∧ Hid (Below w.heap.size w wr)) (fun _ i _ _ => 8 - (intOf i).toNat)
      case atStart => exact ⟨0, by omega, rfl, ⟨72057594037927936, rfl, fun _ => by decide⟩, Lib.hid (by simpa [lenB] using O.out), B⟩
      case round =>
        obtain ⟨j, hj, rfl, ⟨P, rfl, hPl⟩, O2, B2⟩ := hrel
        by_cases h8 : j < 8
        · have hPj := hPl h8
          clear hPl
          have hP0 : 0 < P := by rw [hPj]; exact Nat.pow_pos (by omega)
          have hPb : P < 18446744073709551616 := by rw [hPj]; exact Nat.lt_of_le_of_lt (Nat.pow_le_pow_right (n := 256) (by omega) (show 7 - j ≤ 7 by omega)) (by decide)
          have HP := Lib.hid hPj; clear hPj
          obtain ⟨c, hc, hcb⟩ : ∃ c : UInt8, Hid (c = UInt8.ofNat (8 * N / 2 ^ (8 * (7 - j)))) ∧ (c.toNat : Int) = (8 * (N : Int) / (P : Int)).tmod 256 % 256 := by
            refine ⟨_, Lib.hid rfl, ?_⟩
            rw [byte_of, ← byte_div N j h8, ← HP.out]
            have e : (8 * (N : Int) / (P : Int)) = ((8 * N / P : Nat) : Int) := by rw [Int.natCast_ediv, Int.natCast_mul]; rfl
            rw [e, show (256 : Int) = ((256 : Nat) : Int) from rfl, ← Int.ofNat_tmod]
            omega
          have Hcb := Lib.hid hcb; clear hcb
          have hlb : (pre ++ lenB N j).length + [c].length ≤ 100000 := by rw [List.length_append, Hl2.out]; have := HLN.out; simp [lenB]; omega
          go_wp2_with (at_builtin; refine wpList_app (w0 := w) rfl _ _ 26 rfl _ rfl 5 (by kernel_rfl) (by kernel_rfl) _ _ rfl (O2.out.below (bel_alloc (Below.refl _ _) _)) _ [c] rfl (byt_one _ _ c _ Hcb.out) hlb (bel_alloc B2.out _) ?_; intro v4 w4 own4 b4)
          go_roundw
          case rel =>
            refine ⟨j + 1, by omega, by go_num, ⟨P / 256, by go_num, fun hj1 => ?_⟩, ?_, Lib.hid b4⟩
            · rw [HP.out, show 7 - j = (7 - (j + 1)) + 1 by omega, Nat.pow_succ, Nat.mul_div_cancel _ (by omega)]
            have e : lenB N (j + 1) = lenB N j ++ [c] := by rw [hc.out]; simp [lenB, List.range_succ]
            rw [e, ← List.append_assoc]
            exact Lib.hid own4
          case measure => simp [intOf]; omega
        · have hj8 : j = 8 := by omega
          subst hj8
          clear hPl
          have HO := Lib.hid O2.out
          have HB2 := Lib.hid B2.out
          go_wp2
          go_ret
          refine ⟨_, rfl, ?_, HB2.out⟩
          have := HO.out
          rwa [show pre ++ lenB N 8 = padded bs by rw [padded, Hpre.out, HN.out]] at this
    · have hMP : M < padN N := by unfold padN; unfold padN at hM; omega
      have hq : ((L : Int) % 64 == 56) = false := by rw [beq_eq_false_iff_ne]; omega
      have hlb : (bs ++ [128] ++ List.replicate M 0).length + [0].length ≤ 100000 := by rw [Hl2.out]; simp; omega
      go_wp2_with (at_builtin; refine wpList_app (w0 := w) rfl _ _ 26 rfl _ rfl 5 (by kernel_rfl) (by kernel_rfl) _ _ rfl (O.out.below (bel_alloc (Below.refl _ _) _)) _ [0] rfl (byt_one _ _ 0 _ rfl) hlb (bel_alloc B.out _) ?_; intro v4 w4 own4 b4)
      go_roundw
      case rel =>
        refine ⟨M + 1, hMP, ?_, Lib.hid b4⟩
        rw [List.append_assoc (bs ++ [128]), ← List.replicate_succ'] at own4
        exact Lib.hid own4
      case measure =>
        rw [lenV_of own4.byt]
        rw [List.length_append, Hl2.out]
        simp
        omega
end Go.Proofs.Ytgckgbonhbabpaa
