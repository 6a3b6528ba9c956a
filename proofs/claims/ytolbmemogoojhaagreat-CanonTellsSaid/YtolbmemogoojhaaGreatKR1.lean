/- The reference's words: turning them, its table, its message. -/
import Derived.Test.YtolbmemogoojhaaGreatKM4
import Derived.Test.YtolbmemogoojhaaGreatKM3
import Derived.Great.BuildSlice
import Derived.Deep.RegionHeld3
import Derived.Test.YtolbmemogoojhaaGreatKM6
namespace Go.Proofs.YtolbmemogoojhaaGreat
open Go Go.RowKit Go.Deep
set_option linter.unusedVariables false
set_option linter.unusedSimpArgs false
set_option maxRecDepth 100000

/-! Words of 32 bits, through bit vectors. -/
def W32 (x : Int) : BitVec 32 := BitVec.ofInt 32 x
theorem w32_nat (v : BitVec 32) : W32 (v.toNat : Int) = v := by
  apply BitVec.eq_of_toNat_eq
  exact ofInt_u32 v.toNat v.isLt
theorem wrap_w (v : BitVec 32) : IntKind.u32.wrap (v.toNat : Int) = (v.toNat : Int) := by
  rw [IntKind.wrap_u32]; have := v.isLt; omega
theorem bx (x y : Int) : bits .xor .u32 x y = ((W32 x ^^^ W32 y).toNat : Int) := wrap_w _
theorem ba (x y : Int) : bits .and .u32 x y = ((W32 x &&& W32 y).toNat : Int) := wrap_w _
theorem bo (x y : Int) : bits .or .u32 x y = ((W32 x ||| W32 y).toNat : Int) := wrap_w _
theorem w32_mod (x : Int) : W32 (x % 4294967296) = W32 x := by
  unfold W32
  apply BitVec.eq_of_toNat_eq
  rw [BitVec.toNat_ofInt, BitVec.toNat_ofInt]
  congr 1
  have : ((2 ^ 32 : Nat) : Int) = 4294967296 := by decide
  rw [this]; omega
theorem w32_not (x : Int) : W32 ((4294967295 - x) % 4294967296) = W32 IntKind.u32.max ^^^ W32 x := by
  rw [w32_mod]
  have hm : W32 IntKind.u32.max = BitVec.allOnes 32 := by decide
  rw [hm]
  apply BitVec.eq_of_toNat_eq
  have e : BitVec.allOnes 32 ^^^ W32 x = ~~~ W32 x := by rw [BitVec.allOnes_xor]
  rw [e, BitVec.toNat_not]
  unfold W32
  rw [BitVec.toNat_ofInt, BitVec.toNat_ofInt]
  have : ((2 ^ 32 : Nat) : Int) = 4294967296 := by decide
  rw [this]; omega
theorem ch_eq (e f g : Int) : bits BinOp.or IntKind.u32 (bits BinOp.and IntKind.u32 e f) (bits BinOp.and IntKind.u32 ((4294967295 - e) % 4294967296) g) = bits BinOp.xor IntKind.u32 (bits BinOp.and IntKind.u32 e f) (bits BinOp.and IntKind.u32 (bits BinOp.xor IntKind.u32 IntKind.u32.max e) g) := by
  simp only [bx, ba, bo, w32_nat, w32_not]
  congr 2
  have hm : W32 IntKind.u32.max = BitVec.allOnes 32 := by decide
  rw [hm, BitVec.allOnes_xor]
  ext i hi
  simp only [BitVec.getElem_or, BitVec.getElem_and, BitVec.getElem_xor, BitVec.getElem_not]
  cases (W32 e)[i] <;> cases (W32 f)[i] <;> cases (W32 g)[i] <;> rfl
theorem maj_eq (a b c : Int) : bits BinOp.or IntKind.u32 (bits BinOp.or IntKind.u32 (bits BinOp.and IntKind.u32 a b) (bits BinOp.and IntKind.u32 a c)) (bits BinOp.and IntKind.u32 b c) = bits BinOp.xor IntKind.u32 (bits BinOp.xor IntKind.u32 (bits BinOp.and IntKind.u32 a b) (bits BinOp.and IntKind.u32 a c)) (bits BinOp.and IntKind.u32 b c) := by
  simp only [bx, ba, bo, w32_nat]
  congr 2
  ext i hi
  simp only [BitVec.getElem_or, BitVec.getElem_and, BitVec.getElem_xor]
  cases (W32 a)[i] <;> cases (W32 b)[i] <;> cases (W32 c)[i] <;> rfl
theorem or_comm_w (x y : Int) : bits BinOp.or IntKind.u32 x y = bits BinOp.or IntKind.u32 y x := by
  rw [bo, bo, BitVec.or_comm]
set_option maxHeartbeats 800000 in
theorem turned_c (x : Int) (n : Nat) (h1 : 1 ≤ n) (h2 : n < 32) (w : World) : Calls Tryz.prog 119 #[.int .u32 x, .int .u32 (n : Int)] w fun e w' => e = .returned (.int .u32 (rr x n)) ∧ w = w' := by
  go_enter Tryz.func119, Tryz.ntmps119
  go_wp2
  go_ret
  refine ⟨?_, rfl⟩
  show Ending.returned (.int .u32 (bits BinOp.or IntKind.u32 (x / 2 ^ n) (x * 2 ^ (32 - n) % 4294967296))) = _
  rw [or_comm_w]
  unfold rr
  rw [show 32 - (32 - n) = n by omega]
theorem w16_eq (c0 c1 c2 c3 : UInt8) : w16 c0 c1 c2 c3 = ((16777216 * c0.toNat + 65536 * c1.toNat + 256 * c2.toNat + c3.toNat : Nat) : Int) := by
  have h0 := c0.toNat_lt; have h1 := c1.toNat_lt; have h2 := c2.toNat_lt; have h3 := c3.toNat_lt
  unfold w16
  have e0 : ((c0.toNat : Int) % 4294967296 * 16777216 % 4294967296) = ((16777216 * c0.toNat : Nat) : Int) := by omega
  have e1 : ((c1.toNat : Int) % 4294967296 * 65536 % 4294967296) = ((65536 * c1.toNat : Nat) : Int) := by omega
  have e2 : ((c2.toNat : Int) % 4294967296 * 256 % 4294967296) = ((256 * c2.toNat : Nat) : Int) := by omega
  have e3 : ((c3.toNat : Int) % 4294967296) = ((c3.toNat : Nat) : Int) := by omega
  rw [e0, e1, e2, e3, u32_or_nat _ _ (by omega) (by omega), nat_join 24 _ _ (by omega) (by omega), u32_or_nat _ _ (by omega) (by omega), nat_join 16 _ _ (by omega) (by omega), u32_or_nat _ _ (by omega) (by omega), nat_join 8 _ _ (by omega) (by omega)]

theorem turned_i (x N : Int) (h1 : 1 ≤ N) (h2 : N < 32) (w : World) : Calls Tryz.prog 119 #[.int .u32 x, .int .u32 N] w fun e w' => e = .returned (.int .u32 (rr x N.toNat)) ∧ w = w' := by
  obtain ⟨n, rfl⟩ := Int.eq_ofNat_of_zero_le (show 0 ≤ N by omega)
  exact turned_c x n (by omega) (by omega) w
set_option maxHeartbeats 800000 in
theorem k_c (w : World) : Calls Tryz.prog 120 #[] w fun e w' => e = .returned (.slice (some ⟨w.heap.size, 0, none⟩) 64 64) ∧ Blk w' w.heap.size 135 rootsA ∧ Below w.heap.size w w' := by
  go_enter Tryz.func120, Tryz.ntmps120
  go_wp2_with (refine wpList_buildFlat rfl 151 135 64 _ rfl .u32 rootsL (by kernel_rfl) (by kernel_rfl) (by kernel_rfl) (by kernel_rfl) (by decide) (by decide) (by kernel_rfl) ?_; have kb : Blk (w.alloc (.cells (rootsL.map (Value.int .u32)).toArray 135)) w.heap.size 135 rootsA := Blk.new _ _ _; have bb := bel_alloc (Below.refl w.heap.size w) (.cells (rootsL.map (Value.int .u32)).toArray 135); generalize w.alloc (.cells (rootsL.map (Value.int .u32)).toArray 135) = w1 at kb bb ⊢)
  go_ret
  exact ⟨rfl, kb, bb⟩

/-- The reference's message is the padded text. -/
theorem byte_div (n : Nat) (j : Nat) (hj : j < 8) : 256 ^ (7 - j) = 2 ^ (8 * (7 - j)) := by rw [Nat.pow_mul]
set_option maxHeartbeats 3200000 in
theorem message_c (v : Value) (bs : List UInt8) (hl : bs.length ≤ 80000) (w : World) (hv : Byt w v bs) : Calls Tryz.prog 117 #[v] w (MadeU 5 (padded bs) w) := by
  have hlen0 := fun W => len_of hv W
  have Hv := Lib.hid hv; clear hv
  obtain ⟨N, hN⟩ : ∃ N, N = bs.length := ⟨_, rfl⟩
  rw [← hN] at hlen0 hl
  have HN := Lib.hid hN; clear hN
  go_enter Tryz.func117, Tryz.ntmps117
  go_wp2_with (first | (at_builtin; refine wpList_app (w0 := w) rfl _ _ 58 rfl _ rfl 5 (by kernel_rfl) (by kernel_rfl) _ [] rfl (ownU_nil _ _ _) _ bs rfl Hv.out (by simp; rw [← HN.out]; omega) (Below.refl _ _) ?_; intro v2 w2 own2 b2) | (at_builtin; refine wpList_app (w0 := w) rfl _ _ 58 rfl _ rfl 5 (by kernel_rfl) (by kernel_rfl) _ _ rfl (own2.below (bel_alloc (Below.refl _ _) _)) _ [128] rfl (byt_one _ _ 128 _ rfl) (by simp; rw [← HN.out]; omega) (bel_alloc b2 _) ?_; intro v3 w3 own3 b3))
  rw [List.nil_append] at own3
  have Own3 := Lib.hid own3; have B3 := Lib.hid b3
  clear own2 b2 own3 b3
  go_loopw [3] (fun u wr => ∃ M : Nat, M ≤ padN N ∧ Hid (OwnU w.heap.size wr 5 u (bs ++ [128] ++ List.replicate M 0)) ∧ Hid (Below w.heap.size w wr)) (fun u _ => N + 66 - lenV u)
  case atStart => exact ⟨0, Nat.zero_le _, Lib.hid (by simpa using Own3.out), B3⟩
  case round =>
    obtain ⟨M, hM, O, B⟩ := hrel
    have hP : padN N ≤ 63 := by unfold padN; omega
    obtain ⟨L, hL⟩ : ∃ L, L = N + 1 + M := ⟨_, rfl⟩
    have hl2 : (bs ++ [128] ++ List.replicate M 0).length = L := by simp [hL, HN.out]; omega
    have hlen := fun W => len_of O.out.byt W
    have hlv := lenV_of O.out.byt
    rw [hl2] at hlen hlv
    have Hl2 := Lib.hid hl2; clear hl2
    by_cases h56 : L % 64 = 56
    · have hMP : M = padN N := by unfold padN; unfold padN at hM; omega
      subst hMP
      obtain ⟨pre, hpre⟩ : ∃ pre, pre = bs ++ [128] ++ List.replicate (padN N) 0 := ⟨_, rfl⟩
      rw [← hpre] at O Hl2
      have Hpre := Lib.hid hpre; clear hpre
      clear hlv
      have hq : ((L : Int) % 64 != 56) = false := by simp; omega
      have HLN := Lib.hid hL
      clear hL h56
      go_wp2
      clear hq hlen
      go_loopw [5, 6, 3] (fun pl i u wr => ∃ j : Nat, j ≤ 8 ∧ i = .int .i64 j ∧ (∃ P : Nat, pl = .int .u64 P ∧ (j < 8 → P = 256 ^ (7 - j))) ∧ Hid (OwnU w.heap.size wr 5 u (pre ++ lenB N j)) ∧ Hid (Below w.heap.size w wr)) (fun _ i _ _ => 8 - (intOf i).toNat)
      case atStart => exact ⟨0, by omega, rfl, ⟨72057594037927936, rfl, fun _ => by decide⟩, Lib.hid (by simpa [lenB] using O.out), B⟩
      case round =>
        obtain ⟨j, hj, rfl, ⟨P, rfl, hPl⟩, O2, B2⟩ := hrel
        by_cases h8 : j < 8
        · have hPj := hPl h8
          clear hPl
          have hP0 : 0 < P := by rw [hPj]; exact Nat.pow_pos (by omega)
          have hPb : P < 18446744073709551616 := by rw [hPj]; exact Nat.lt_of_le_of_lt (Nat.pow_le_pow_right (n := 256) (by omega) (show 7 - j ≤ 7 by omega)) (by decide)
          have HP := Lib.hid hPj; clear hPj
          obtain ⟨c, hc, hcb⟩ : ∃ c : UInt8, Hid (c = UInt8.ofNat (8 * N / 2 ^ (8 * (7 - j)))) ∧ (c.toNat : Int) = (8 * (N : Int) / (P : Int)).tmod 256 % 256 := by
            refine ⟨_, Lib.hid rfl, ?_⟩
            rw [byte_of, ← byte_div N j h8, ← HP.out]
            have e : (8 * (N : Int) / (P : Int)) = ((8 * N / P : Nat) : Int) := by rw [Int.natCast_ediv, Int.natCast_mul]; rfl
            rw [e, show (256 : Int) = ((256 : Nat) : Int) from rfl, ← Int.ofNat_tmod]
            omega
          have Hcb := Lib.hid hcb; clear hcb
          have hlb : (pre ++ lenB N j).length + [c].length ≤ 100000 := by rw [List.length_append, Hl2.out]; have := HLN.out; simp [lenB]; omega
          go_wp2_with (at_builtin; refine wpList_app (w0 := w) rfl _ _ 58 rfl _ rfl 5 (by kernel_rfl) (by kernel_rfl) _ _ rfl (O2.out.below (bel_alloc (Below.refl _ _) _)) _ [c] rfl (byt_one _ _ c _ Hcb.out) hlb (bel_alloc B2.out _) ?_; intro v4 w4 own4 b4)
          go_roundw
          case rel =>
            refine ⟨j + 1, by omega, by go_num, ⟨P / 256, by go_num, fun hj1 => ?_⟩, ?_, Lib.hid b4⟩
            · rw [HP.out, show 7 - j = (7 - (j + 1)) + 1 by omega, Nat.pow_succ, Nat.mul_div_cancel _ (by omega)]
            have e : lenB N (j + 1) = lenB N j ++ [c] := by rw [hc.out]; simp [lenB, List.range_succ]
            rw [e, ← List.append_assoc]
            exact Lib.hid own4
          case measure => simp [intOf]; omega
        · have hj8 : j = 8 := by omega
          subst hj8
          clear hPl
          have HO := Lib.hid O2.out
          have HB2 := Lib.hid B2.out
          go_wp2
          go_ret
          refine ⟨_, rfl, ?_, HB2.out⟩
          have := HO.out
          rwa [show pre ++ lenB N 8 = padded bs by rw [padded, Hpre.out, HN.out]] at this
    · have hMP : M < padN N := by unfold padN; unfold padN at hM; omega
      have hq : ((L : Int) % 64 == 56) = false := by rw [beq_eq_false_iff_ne]; omega
      have hlb : (bs ++ [128] ++ List.replicate M 0).length + [0].length ≤ 100000 := by rw [Hl2.out]; simp; omega
      go_wp2_with (at_builtin; refine wpList_app (w0 := w) rfl _ _ 58 rfl _ rfl 5 (by kernel_rfl) (by kernel_rfl) _ _ rfl (O.out.below (bel_alloc (Below.refl _ _) _)) _ [0] rfl (byt_one _ _ 0 _ rfl) hlb (bel_alloc B.out _) ?_; intro v4 w4 own4 b4)
      go_roundw
      case rel =>
        refine ⟨M + 1, hMP, ?_, Lib.hid b4⟩
        rw [List.append_assoc (bs ++ [128]), ← List.replicate_succ'] at own4
        exact Lib.hid own4
      case measure =>
        rw [lenV_of own4.byt]
        rw [List.length_append, Hl2.out]
        simp
        omega
end Go.Proofs.YtolbmemogoojhaaGreat
/- The reference's words of a chunk. -/
namespace Go.Proofs.YtolbmemogoojhaaGreat
open Go Go.RowKit Go.Deep
set_option linter.unusedVariables false
set_option linter.unusedSimpArgs false
set_option maxRecDepth 100000

def encWL (l : List Int) : List Value := l.map (Value.int .u32)
theorem encWL_length (l : List Int) : (encWL l).length = l.length := by simp [encWL]
theorem encWL_append (a b : List Int) : encWL (a ++ b) = encWL a ++ encWL b := by simp [encWL]
theorem encWL_one (l : List Int) : ∀ u ∈ encWL l, u.oneCell' = true := by
  intro u hu
  obtain ⟨b, _, rfl⟩ := List.mem_map.1 hu
  rfl
/-- A slice of words that the call owns. -/
def OwnW (base : Nat) (w : World) (v : Value) (l : List Int) : Prop := w.ownsRow base 135 1 v l.length (encWL l)
theorem OwnW.below {base : Nat} {w w' : World} {v : Value} {l : List Int} (h : OwnW base w v l) (hb : Below w.heap.size w w') : OwnW base w' v l := own_below h hb
theorem OwnW.lower {base base' : Nat} {w : World} {v : Value} {l : List Int} (h : OwnW base w v l) (hb : base' ≤ base) : OwnW base' w v l := own_lower h hb
theorem ownW_nil (base : Nat) (w : World) : OwnW base w (.slice none 0 0) [] := World.ownsRow_nil _ _ _ _
theorem OwnW.open_ {base : Nat} {w : World} {v : Value} {l : List Int} (h : OwnW base w v l) (h0 : 0 < l.length) :
    ∃ g c, v = .slice (some ⟨g, 0, none⟩) l.length c ∧ base ≤ g ∧ g < w.heap.size ∧ l.length ≤ c ∧ c ≤ maxLen ∧ ∀ j, j < l.length → w.cell? ⟨g, j, none⟩ = some (.int .u32 (l.getD j 0)) := by
  have hc := fun g => World.ownsRow.cells (g := g) h
  obtain ⟨hl, ⟨rfl, hn0⟩ | ⟨g, cap, cur, rfl, hb0, hg, h1, h2, h3, h4⟩⟩ := id h
  · omega
  · refine ⟨g, cap, rfl, hb0, (Array.getElem?_eq_some_iff.1 hg).1, h1, h2, fun j hj => ?_⟩
    have := hc g rfl j (.int .u32 (l.getD j 0)) (by rw [encWL, List.getElem?_map, List.getElem?_eq_getElem hj, List.getD_eq_getElem?_getD, List.getElem?_eq_getElem hj]; rfl)
    rwa [Addr.add_lit, Nat.zero_add] at this
/-- A word appended, as the walk of a region that draws meets it; what the old row held is there still. -/
theorem wp_appW {w w0 : World} {o : Oper} {a : Act} {K : Act → World → Prop} {Q : Exit → Act → World → Prop} (s x : Operand)
    (ho : o.op = .call { callee := .builtin .append, args := #[s, x], argTypes := #[151, 151] }) (dst : Option Tmp) (hdst : o.dst = dst)
    (v : Value) (l : List Int) (hs : a.eval s = v) (hown : OwnW w0.heap.size w v l) (b : Nat) (y : Int) (hxv : a.eval x = .slice (some ⟨b, 0, none⟩) 1 1) (hx : w.cell? ⟨b, 0, none⟩ = some (.int .u32 y))
    (hl : l.length + 1 ≤ 1000) (hb : Below w0.heap.size w0 w)
    (h : ∀ v' w', OwnW w0.heap.size w' v' (l ++ [y]) → Below w0.heap.size w0 w' → (∀ g, v.ownBlock = some g → ∀ j, j < l.length → w'.cell? ⟨g, j, none⟩ = some (.int .u32 (l.getD j 0))) → K (a.put dst v') w') : o.wp Tryz.prog a w K Q := by
  subst hdst
  have hinfo : (Tryz.prog.info? 135).map (fun i => (i.zero, i.size, i.bytes)) = some (some (.int .u32 0), 1, 4) := by kernel_rfl
  obtain ⟨i, hi, hzz⟩ := Option.map_eq_some_iff.1 hinfo
  simp only [Prod.mk.injEq] at hzz
  obtain ⟨hz, hsi, hby⟩ := hzz
  have ht : Tryz.prog.underlying 151 = some (.slice 135) := by kernel_rfl
  have hnews : ∀ j u, [Value.int .u32 y][j]? = some u → w.cell? ((⟨b, 0, none⟩ : Addr).add j) = some u := fun j u hj => by
    rw [Addr.add_lit, Nat.zero_add]
    have h0 : j = 0 := by have := (List.getElem?_eq_some_iff.1 hj).1; simpa using this
    subst h0
    rw [hx]; simpa using hj
  have h1 : ∀ u ∈ [Value.int .u32 y], u.oneCell' = true := by simp [Value.oneCell']
  obtain ⟨v', w', hr, h2, h3, _⟩ := run_append_own (P := Tryz.prog) w w0.heap.size 151 o.type 135 i (.int .u32 0) 1 4 ht hi hz hsi hby (by rfl) (by omega)
    v l.length (encWL l) hown ⟨b, 0, none⟩ 1 1 [.int .u32 y] (by simp) hnews h1 (by unfold maxLen; omega) (by omega) hb.size
  have hcells := fun g => World.ownsRow.cells (g := g) hown
  have hkeep : ∀ g, v.ownBlock = some g → ∀ j, j < l.length → w'.cell? ⟨g, j, none⟩ = some (.int .u32 (l.getD j 0)) := by
    intro g hg j hj
    have hget : (encWL l)[j]? = some (.int .u32 (l.getD j 0)) := by rw [encWL, List.getElem?_map, List.getElem?_eq_getElem hj, List.getD_eq_getElem?_getD, List.getElem?_eq_getElem hj]; rfl
    rcases hown.2 with ⟨rfl, h0⟩ | ⟨g', cap, cur, rfl, hbg, hgc, hnc, hcm, hcs, htake⟩
    · omega
    · have e : g' = g := by simpa [Value.ownBlock] using hg
      subst e
      by_cases hroom : l.length + 1 ≤ cap
      · have hfit : l.length * i.size + [Value.int .u32 y].length ≤ cur.size := by rw [hsi, hcs]; simp; omega
        have hr2 := run_append_room (P := Tryz.prog) w 151 o.type 135 i ht hi g' l.length cap cur hgc ⟨b, 0, none⟩ 1 1 [.int .u32 y] (by rw [hsi]; simp) hnews h1 hroom hfit
        rw [hr] at hr2
        injection hr2 with e1 e2
        have := World.ownsRow.cells (g := g') h2 (by rw [e1]; rfl) j (.int .u32 (l.getD j 0)) (by rw [List.getElem?_append_left (by rw [encWL_length]; exact hj)]; exact hget)
        rwa [Addr.add_lit, Nat.zero_add] at this
      · have holds := hcells g' rfl
        have hr2 := run_append_grow (P := Tryz.prog) w 151 o.type 135 i (.int .u32 0) ht hi hz ⟨g', 0, none⟩ l.length cap (encWL l) (by rw [hsi]; exact hown.1) holds ⟨b, 0, none⟩ 1 1 [.int .u32 y] (by rw [hsi]; simp) hnews (by omega) (by omega) (growslice_fits (by omega) (by rw [hby]; omega))
        rw [hr] at hr2
        injection hr2 with e1 e2
        rw [e2, World.cell?_of_block (w := w) (Below.heap_alloc w.drew _ _ (Array.getElem?_eq_some_iff.1 hgc).1)]
        have := holds j _ hget
        rwa [Addr.add_lit, Nat.zero_add] at this
  unfold Oper.wp execOp
  simp only [ho, resolve, invoke, builtin, Sem.run_bind, Sem.run_pure, Result.andThen_ok, List.map_toArray, List.map_cons, List.map_nil, hs, hxv, hr]
  refine h v' w' ?_ (bel_grown (base := 0) hb hown h3) hkeep
  unfold OwnW
  rw [List.length_append, encWL_append]
  exact h2
/-- What words gives: the j words ahead, and those put behind them. -/
theorem sched_take (bs : List UInt8) (j : Nat) (hj : j < 64) (x : Int) (hx : x = if j < 16 then w16 (bs.getD (4 * j) 0) (bs.getD (4 * j + 1) 0) (bs.getD (4 * j + 2) 0) (bs.getD (4 * j + 3) 0) else wNew ((sched bs j).getD (j - 16) 0) ((sched bs j).getD (j - 7) 0) ((sched bs j).getD (j - 15) 0) ((sched bs j).getD (j - 2) 0)) :
    (sched bs (j + 1)).take (j + 1) = (sched bs j).take j ++ [x] := by
  have hl := sched_length bs j
  rw [sched, schedStep, ← hx]
  rw [List.take_add_one, List.take_set_of_le (Nat.le_refl _)]
  simp [hl, hj]
theorem getD_take (l : List Int) (j i : Nat) (h : i < j) : (l.take j).getD i 0 = l.getD i 0 := by
  simp [List.getD_eq_getElem?_getD, List.getElem?_take, h]
set_option maxHeartbeats 6400000 in
theorem words_c (v : Value) (bs : List UInt8) (hl : bs.length = 64) (w : World) (hv : Byt w v bs) : Calls Tryz.prog 118 #[v] w fun e w' => ∃ u, e = .returned u ∧ OwnW w.heap.size w' u (sched bs 64) ∧ Below w.heap.size w w' := by
  obtain ⟨a, c, rfl, _, hm, _, hcell⟩ := hv.open_
  obtain ⟨bb, off, rfl, hc⟩ := hcell (by omega)
  have hbb : bb < w.heap.size := World.block_lt_of_cell? w _ (hc 0 (by omega))
  rw [hl] at hc hcell ⊢
  clear hm hcell
  have Hc := Lib.hid hc; clear hc hv
  go_enter Tryz.func118, Tryz.ntmps118
  go_wp2
  go_loopw [4, 3] (fun i u wr => ∃ j : Nat, j ≤ 16 ∧ i = .int .i64 j ∧ Hid (OwnW w.heap.size wr u ((sched bs j).take j)) ∧ Hid (Below w.heap.size w wr)) (fun i _ _ => 16 - (intOf i).toNat)
  case atStart => exact ⟨0, by omega, rfl, Lib.hid (by simpa using ownW_nil _ _), Lib.hid (Below.refl _ _)⟩
  case round =>
    obtain ⟨j, hj, rfl, O, B⟩ := hrel
    by_cases h16 : j < 16
    · have hbr : (bb < wr.heap.size) = True := by have := B.out.size; simp only [eq_iff_iff, iff_true]; omega
      obtain ⟨m0, hm0⟩ : ∃ m0, m0 = 4 * j := ⟨_, rfl⟩
      obtain ⟨m1, hm1⟩ : ∃ m1, m1 = 4 * j + 1 := ⟨_, rfl⟩
      obtain ⟨m2, hm2⟩ : ∃ m2, m2 = 4 * j + 2 := ⟨_, rfl⟩
      obtain ⟨m3, hm3⟩ : ∃ m3, m3 = 4 * j + 3 := ⟨_, rfl⟩
      have q0 : wrap64 (4 * (j : Int)) = (m0 : Int) := by unfold wrap64; omega
      have q0' : IntKind.i64.wrap (4 * (j : Int)) = (m0 : Int) := by rw [IntWalk.i64_in _ (by omega)]; omega
      have q1 : wrap64 ((m0 : Int) + 1) = (m1 : Int) := by unfold wrap64; omega
      have q1' : IntKind.i64.wrap ((m0 : Int) + 1) = (m1 : Int) := by rw [IntWalk.i64_in _ (by omega)]; omega
      have q2 : wrap64 ((m0 : Int) + 2) = (m2 : Int) := by unfold wrap64; omega
      have q2' : IntKind.i64.wrap ((m0 : Int) + 2) = (m2 : Int) := by rw [IntWalk.i64_in _ (by omega)]; omega
      have q3 : wrap64 ((m0 : Int) + 3) = (m3 : Int) := by unfold wrap64; omega
      have q3' : IntKind.i64.wrap ((m0 : Int) + 3) = (m3 : Int) := by rw [IntWalk.i64_in _ (by omega)]; omega
      have l0 : ((m0 : Int) < 64) = True ∧ ((m1 : Int) < 64) = True ∧ ((m2 : Int) < 64) = True ∧ ((m3 : Int) < 64) = True := by simp only [eq_iff_iff, iff_true]; omega
      have l1 : (m0 < 64) = True ∧ (m1 < 64) = True ∧ (m2 < 64) = True ∧ (m3 < 64) = True := by simp only [eq_iff_iff, iff_true]; omega
      obtain ⟨c0, hd0, hc0⟩ : ∃ c0 : UInt8, Hid (c0 = bs.getD (4 * j) 0) ∧ w.cell? ⟨bb, off + m0, none⟩ = some (.int .u8 (c0.toNat : Int)) := ⟨_, Lib.hid rfl, by rw [hm0]; exact Hc.out (4 * j) (by omega)⟩
      obtain ⟨c1, hd1, hc1⟩ : ∃ c1 : UInt8, Hid (c1 = bs.getD (4 * j + 1) 0) ∧ w.cell? ⟨bb, off + m1, none⟩ = some (.int .u8 (c1.toNat : Int)) := ⟨_, Lib.hid rfl, by rw [hm1]; exact Hc.out (4 * j + 1) (by omega)⟩
      obtain ⟨c2, hd2, hc2⟩ : ∃ c2 : UInt8, Hid (c2 = bs.getD (4 * j + 2) 0) ∧ w.cell? ⟨bb, off + m2, none⟩ = some (.int .u8 (c2.toNat : Int)) := ⟨_, Lib.hid rfl, by rw [hm2]; exact Hc.out (4 * j + 2) (by omega)⟩
      obtain ⟨c3, hd3, hc3⟩ : ∃ c3 : UInt8, Hid (c3 = bs.getD (4 * j + 3) 0) ∧ w.cell? ⟨bb, off + m3, none⟩ = some (.int .u8 (c3.toNat : Int)) := ⟨_, Lib.hid rfl, by rw [hm3]; exact Hc.out (4 * j + 3) (by omega)⟩
      clear hm0 hm1 hm2 hm3
      have Hc0 := Lib.hid hc0; have Hc1 := Lib.hid hc1; have Hc2 := Lib.hid hc2; have Hc3 := Lib.hid hc3
      clear hc0 hc1 hc2 hc3
      have hln : ((sched bs j).take j).length = j := by rw [List.length_take, sched_length]; omega
      have Hln := Lib.hid hln; clear hln
      obtain ⟨x, hx⟩ : ∃ x, Hid (x = w16 c0 c1 c2 c3) := ⟨_, rfl⟩
      go_wp2
      go_region_held3 (fun w' => w'.cell? ⟨bb, off + m0, none⟩ = some (.int .u8 (c0.toNat : Int)) ∧ w'.cell? ⟨bb, off + m1, none⟩ = some (.int .u8 (c1.toNat : Int)) ∧ w'.cell? ⟨bb, off + m2, none⟩ = some (.int .u8 (c2.toNat : Int)) ∧ w'.cell? ⟨bb, off + m3, none⟩ = some (.int .u8 (c3.toNat : Int))) ((refine ⟨cell_below' ?_ hbb Hc0.out, cell_below' ?_ hbb Hc1.out, cell_below' ?_ hbb Hc2.out, cell_below' ?_ hbb Hc3.out⟩ <;> (repeat (first | exact B.out | assumption | refine bel_alloc ?_ _ | refine bel_drew ?_)))) ((rw [if_pos (by rfl)]; refine wp_appW (w0 := w) _ _ rfl _ rfl _ _ rfl (O.out.below (bel_alloc (bel_drew (Below.refl _ _)) _)) _ _ rfl ((Blk.new _ _ _).cell 0) (by rw [Hln.out]; omega) (bel_alloc (bel_drew B.out) _) ?_; intro v4 w4 own4 b4 kp4))
      obtain ⟨X, hX, own5⟩ : ∃ X, X = w16 c0 c1 c2 c3 ∧ OwnW w.heap.size w4 v4 ((sched bs j).take j ++ [X]) := ⟨_, by rw [w16_eq]; simp only [IntKind.wrap_u32]; have := c0.toNat_lt; have := c1.toNat_lt; have := c2.toNat_lt; have := c3.toNat_lt; omega, own4⟩
      rw [← sched_take bs j (by omega) X (by rw [if_pos h16, hX, hd0.out, hd1.out, hd2.out, hd3.out])] at own5
      clear own4
      have Own5 := Lib.hid own5; have B4 := Lib.hid b4; clear own5 b4 hX
      go_wp2
      go_roundw
      case rel => exact ⟨j + 1, by omega, by go_num, Own5, B4⟩
      case measure => simp [intOf]; omega
    · have hj16 : j = 16 := by omega
      subst hj16
      rw [show (((16 : Nat) : Int)) = 16 from rfl]
      go_wp2
      go_loopw [5, 3] (fun i u wr => ∃ j : Nat, 16 ≤ j ∧ j ≤ 64 ∧ i = .int .i64 j ∧ Hid (OwnW w.heap.size wr u ((sched bs j).take j)) ∧ Hid (Below w.heap.size w wr)) (fun i _ _ => 64 - (intOf i).toNat)
      case atStart => exact ⟨16, by omega, by omega, rfl, O, B⟩
      case round =>
        obtain ⟨j, hj0, hj, rfl, O, B⟩ := hrel
        by_cases h64 : j < 64
        · have hln : ((sched bs j).take j).length = j := by rw [List.length_take, sched_length]; omega
          obtain ⟨g, cp, rfl, g0, g1, g2, g3, gc⟩ := O.out.open_ (by omega)
          rw [hln] at g2 gc ⊢
          have HO : Hid (OwnW w.heap.size wr (.slice (some ⟨g, 0, none⟩) j cp) ((sched bs j).take j)) := by have := O.out; rw [hln] at this; exact Lib.hid this
          have Hln := Lib.hid hln; clear hln
          have hcp := g3
          unfold maxLen at hcp
          obtain ⟨i15, hi15⟩ : ∃ i, i = j - 15 := ⟨_, rfl⟩
          obtain ⟨i2, hi2⟩ : ∃ i, i = j - 2 := ⟨_, rfl⟩
          obtain ⟨i16, hi16⟩ : ∃ i, i = j - 16 := ⟨_, rfl⟩
          obtain ⟨i7, hi7⟩ : ∃ i, i = j - 7 := ⟨_, rfl⟩
          obtain ⟨y15, hy15⟩ : ∃ y : Int, Hid (y = (sched bs j).getD (j - 15) 0) := ⟨_, rfl⟩
          obtain ⟨y2, hy2⟩ : ∃ y : Int, Hid (y = (sched bs j).getD (j - 2) 0) := ⟨_, rfl⟩
          obtain ⟨y16, hy16⟩ : ∃ y : Int, Hid (y = (sched bs j).getD (j - 16) 0) := ⟨_, rfl⟩
          obtain ⟨y7, hy7⟩ : ∃ y : Int, Hid (y = (sched bs j).getD (j - 7) 0) := ⟨_, rfl⟩
          have k15 : wr.cell? ⟨g, j - 15, none⟩ = some (.int .u32 y15) := by rw [gc _ (by omega), hy15.out, getD_take _ _ _ (by omega)]
          have k2 : wr.cell? ⟨g, j - 2, none⟩ = some (.int .u32 y2) := by rw [gc _ (by omega), hy2.out, getD_take _ _ _ (by omega)]
          have k16 : wr.cell? ⟨g, i16, none⟩ = some (.int .u32 y16) := by rw [hi16, gc _ (by omega), hy16.out, getD_take _ _ _ (by omega)]
          have k7 : wr.cell? ⟨g, i7, none⟩ = some (.int .u32 y7) := by rw [hi7, gc _ (by omega), hy7.out, getD_take _ _ _ (by omega)]
          have HK16 : Hid (some (Value.int .u32 (((sched bs j).take j).getD i16 0)) = some (.int .u32 y16)) := Lib.hid (by rw [hi16, hy16.out, getD_take _ _ _ (by omega)])
          have HK7 : Hid (some (Value.int .u32 (((sched bs j).take j).getD i7 0)) = some (.int .u32 y7)) := Lib.hid (by rw [hi7, hy7.out, getD_take _ _ _ (by omega)])
          have K16 := Lib.hid k16; have K7 := Lib.hid k7
          have q16 : wrap64 ((j : Int) - 16) = (i16 : Int) := by unfold wrap64; omega
          have q16' : IntKind.i64.wrap ((j : Int) - 16) = (i16 : Int) := by rw [IntWalk.i64_in _ (by omega)]; omega
          have q7 : wrap64 ((j : Int) - 7) = (i7 : Int) := by unfold wrap64; omega
          have q7' : IntKind.i64.wrap ((j : Int) - 7) = (i7 : Int) := by rw [IntWalk.i64_in _ (by omega)]; omega
          have l0 : ((i16 : Int) < (j : Int)) = True ∧ ((i7 : Int) < (j : Int)) = True ∧ (i16 < j) = True ∧ (i7 < j) = True := by simp only [eq_iff_iff, iff_true]; omega
          have Hq := Lib.hid (And.intro q16 (And.intro q16' (And.intro q7 (And.intro q7' l0))))
          clear q16 q16' q7 q7' l0 hi15 hi2 hi16 hi7 k16 k7 gc i15 i2 g3
          have hgr : (g < wr.heap.size) = True := by simp only [eq_iff_iff, iff_true]; exact g1
          go_wp2_with (go_at_call 119; (with_reducible refine (turned_i _ _ (by decide) (by decide) _).mono ?_); rintro e w' ⟨rfl, rfl⟩)
          obtain ⟨q16, q16', q7, q7', l0⟩ := Hq.out
          have k16 := K16.out
          have k7 := K7.out
          go_region_held3 (fun w' => w'.cell? ⟨g, i16, none⟩ = some (.int .u32 y16) ∧ w'.cell? ⟨g, i7, none⟩ = some (.int .u32 y7)) ((first | exact ⟨k16, k7⟩ | exact ⟨(kp4 g rfl i16 (by rw [Hln.out]; exact of_eq_true Hq.out.2.2.2.2.2.2.1)).trans HK16.out, (kp4 g rfl i7 (by rw [Hln.out]; exact of_eq_true Hq.out.2.2.2.2.2.2.2)).trans HK7.out⟩ | (refine ⟨cell_below (w := wr) ?_ _ _ _ k16, cell_below (w := wr) ?_ _ _ _ k7⟩ <;> (repeat (first | exact Below.refl _ _ | refine bel_alloc ?_ _ | refine bel_drew ?_))))) ((rw [if_pos (by rfl)]; refine wp_appW (w0 := w) _ _ rfl _ rfl _ _ rfl (HO.out.below (bel_alloc (bel_drew (Below.refl _ _)) _)) _ _ rfl ((Blk.new _ _ _).cell 0) (by rw [Hln.out]; omega) (bel_alloc (bel_drew B.out) _) ?_; intro v4 w4 own4 b4 kp4))
          obtain ⟨X, hX, own5⟩ : ∃ X, X = wNew y16 y7 y15 y2 ∧ OwnW w.heap.size w4 v4 ((sched bs j).take j ++ [X]) := ⟨_, by unfold wNew; simp only [IntKind.wrap_u32]; omega, own4⟩
          rw [← sched_take bs j h64 X (by rw [if_neg (by omega), hX, hy16.out, hy7.out, hy15.out, hy2.out])] at own5
          clear own4 kp4
          have Own5 := Lib.hid own5; have B4 := Lib.hid b4; clear own5 b4 hX
          go_wp2
          go_roundw
          case rel => exact ⟨j + 1, by omega, by omega, by go_num, Own5, B4⟩
          case measure => simp [intOf]; omega
        · have hj64 : j = 64 := by omega
          subst hj64
          have hO := O.out
          rw [List.take_of_length_le (by rw [sched_length]; exact Nat.le_refl _)] at hO
          have HO := Lib.hid hO; have HB := Lib.hid B.out
          clear hO
          go_wp2
          go_ret
          exact ⟨_, rfl, HO.out, HB.out⟩
end Go.Proofs.YtolbmemogoojhaaGreat
/- The reference's digest of bytes. -/
namespace Go.Proofs.YtolbmemogoojhaaGreat
open Go Go.RowKit Go.Deep
set_option linter.unusedVariables false
set_option linter.unusedSimpArgs false
set_option maxRecDepth 100000

theorem padded_length (bs : List UInt8) : (padded bs).length % 64 = 0 := by
  simp [padded, lenB, padN]; omega
/-- The state's words, copied behind nil. -/
theorem wpList_copyW {w w0 : World} {ops : Array Oper} {rest : List Oper} {o : Oper} {a : Act} {Q : Exit → Act → World → Prop} (hgd : o.guard = none) (s x : Operand)
    (ho : o.op = .call { callee := .builtin .append, args := #[s, x], argTypes := #[151, 151] }) (dst : Option Tmp) (hdst : o.dst = dst)
    (hs : a.eval s = .slice none 0 0) (xv : Value) (m : List Int) (hxv : a.eval x = xv) (hx : Row w 1 xv m.length (encWL m)) (hl : m.length ≤ 1000) (hb : Below w0.heap.size w0 w)
    (h : ∀ v' w', OwnW w0.heap.size w' v' m → Below w.heap.size w w' → wpList Tryz.prog ops Q rest (a.put dst v') w') : wpList Tryz.prog ops Q (o :: rest) a w := by
  subst hdst
  refine wpList_append_row hgd s x 151 ho w.heap.size 135 (.int .u32 0) 1 4 (by kernel_rfl) (by kernel_rfl) (by rfl) (by omega) _ 0 [] hs (World.ownsRow_nil _ _ _ _) xv m.length (encWL m) hxv hx (encWL_one m) (by unfold maxLen; omega) (by omega) (Nat.le_refl _) fun v' w' h1 h2 => h v' w' ?_ (bel_grown (base := 0) (Below.refl _ _) (World.ownsRow_nil w w.heap.size 135 1) h2)
  have h3 : w'.ownsRow w.heap.size 135 1 v' m.length (encWL m) := by simpa using h1
  exact own_lower h3 hb.size

theorem rT (z y x4 f g i8 : Int) : IntKind.u32.wrap (IntKind.u32.wrap (IntKind.u32.wrap (IntKind.u32.wrap (i8 + bits BinOp.xor IntKind.u32 (bits BinOp.xor IntKind.u32 (rr x4 6) (rr x4 11)) (rr x4 25)) + bits BinOp.or IntKind.u32 (bits BinOp.and IntKind.u32 x4 f) (bits BinOp.and IntKind.u32 (IntKind.u32.wrap (4294967295 - x4)) g)) + z) + y) = rndT z y x4 f g i8 := by
  unfold rndT
  rw [IntKind.wrap_u32 (4294967295 - x4), ch_eq]
  simp only [IntKind.wrap_u32]
  omega
theorem rU (a b c : Int) : (bits BinOp.xor IntKind.u32 (bits BinOp.xor IntKind.u32 (rr a 2) (rr a 13)) (rr a 22) + bits BinOp.or IntKind.u32 (bits BinOp.or IntKind.u32 (bits BinOp.and IntKind.u32 a b) (bits BinOp.and IntKind.u32 a c)) (bits BinOp.and IntKind.u32 b c)) % 4294967296 = rndU a b c := by
  unfold rndU; rw [maj_eq]
theorem rowW_blk {w : World} {b : Nat} {T : TypeId} {l : List Int} (h : Blk w b T (encW l)) (n c : Nat) (hn : l.length = n) (hc : n ≤ c) (hm : c ≤ maxLen) : Row w 1 (.slice (some ⟨b, 0, none⟩) n c) l.length (encWL l) := by
  refine ⟨by simp [encWL_length], _, _, by rw [hn], by rw [hn]; exact hc, hm, (fun h => by cases h), fun _ => ⟨b, 0, rfl, fun j u hj => ?_⟩⟩
  rw [Nat.zero_add, h.cell]
  simpa [encW, encWL] using hj
theorem addN_pos (st l : List Int) (h : ∀ v ∈ st, 0 ≤ v) : ∀ j, ∀ v ∈ addN st l j, 0 ≤ v
  | 0 => h
  | j + 1 => fun v hv => by
    rw [addN] at hv
    rcases List.mem_or_eq_of_mem_set hv with h1 | h1
    · exact addN_pos st l h j v h1
    · rw [h1]; omega
theorem states_pos (A : List UInt8) : ∀ m, ∀ v ∈ states A m, 0 ≤ v
  | 0 => by simp [states, begunL]
  | m + 1 => by rw [states, takeL]; exact addN_pos _ _ (states_pos A m) 8
theorem addN_lt (st l : List Int) (h : ∀ v ∈ st, v < 4294967296) : ∀ j, ∀ v ∈ addN st l j, v < 4294967296
  | 0 => h
  | j + 1 => fun v hv => by
    rw [addN] at hv
    rcases List.mem_or_eq_of_mem_set hv with h1 | h1
    · exact addN_lt st l h j v h1
    · rw [h1]; omega
theorem states_lt (A : List UInt8) : ∀ m, ∀ v ∈ states A m, v < 4294967296
  | 0 => by simp [states, begunL]
  | m + 1 => by rw [states, takeL]; exact addN_lt _ _ (states_lt A m) 8
theorem takeD {P : Program} {ops : Array Oper} {Q : Exit → Act → World → Prop} {md : Region.Mode} {S : World → Prop} {i : Nat} {oi : Oper} {v : Value} {fuel : Nat} {listed : Array Bool} {a : Act} {w : World} (d : Tmp) (hi : ops[i]? = some oi) (hd : oi.dst = some d)
    (hs : Region.noSelect ops = true) (hf : Region.free md ops listed i = true) (hr : (Region.ready md ops listed).contains i = true)
    (hQ : ∀ c a w, Q (.panic c) (a.put (some d) v) w → Q (.panic c) a w) (hy : YieldsIf P ops S oi v a) (hS : S w)
    (h : wpAnyH P md ops Q S fuel (listed.setIfInBounds i true) (a.put (some d) v) w) : wpAnyH P md ops Q S (fuel + 1) listed a w :=
  wpAnyH_take hi hs hf hr (by rw [hd]; exact hQ) hy hS (by rw [hd]; exact h)
set_option maxHeartbeats 6400000 in
theorem rsum_c (v : Value) (bs : List UInt8) (hl : bs.length ≤ 80000) (w : World) (hv : Byt w v bs) : Calls Tryz.prog 81 #[v] w fun e w' => e = .returned (.agg (encU (dig bs)).toArray) ∧ Below w.heap.size w w' := by
  have Hv := Lib.hid hv; clear hv
  go_enter Tryz.func81, Tryz.ntmps81
  go_wp2_with (first | ((fail_if_success have := k1); refine wpList_alloc_blk rfl 64 rfl _ rfl (.agg zero32) zero32 zero32_info rfl ?_; intro w1 k1 b1 s1) | (go_at_call 117; refine (message_c v bs hl _ (Hv.out.below (b1.trans ((bel_alloc (Below.refl w1.heap.size w1) _).mono (by omega))))).mono ?_; rintro e w3 ⟨va, rfl, own3, b3⟩; have k3 : Blk w3 w1.heap.size 135 (encW begunL) := Blk.below (Blk.new w1 135 (encW begunL)) b3 (by simp); have own3 := own3.lower (base' := w1.heap.size + 1) (by simp); have b3 := bel_step (bel_alloc (Below.refl w1.heap.size w1) _) b3))
  obtain ⟨A, hA⟩ : ∃ A, padded bs = A := ⟨_, rfl⟩
  have hAm := padded_length bs
  have hA9 : A.length ≠ 0 := by rw [← hA]; simp [padded]
  rw [hA] at own3 hAm
  obtain ⟨q, hq⟩ : ∃ q, A.length = 64 * q := ⟨A.length / 64, by omega⟩
  obtain ⟨ab, ca, rfl, a0, a1, a2, a3, ac⟩ := own3.open_ (by omega)
  rw [hq] at a2 ac ⊢
  have hlen80 : 64 * q ≤ 90000 := by rw [← hq, ← hA]; simp [padded, lenB, padN]; omega
  have hz3 := b3.size
  have K1 := Lib.hid k1
  rw [s1] at k3 b3 hz3 a0
  have hka := k3.lt
  have Ac := Lib.hid ac
  have A3 := Lib.hid a3
  have K3 := Lib.hid k3
  have HA := Lib.hid hA; have Hq := Lib.hid hq
  have HB1 := Lib.hid b1
  have HB3 : Hid (Below (w.heap.size + 1) w1 w3) := Lib.hid b3
  clear own3 k3 ac a3 k1 b1 b3 hA hq hAm hA9
  go_wp2
  go_loopw [5] (fun i wr => ∃ m : Nat, m ≤ q ∧ i = .int .i64 ((64 * m : Nat) : Int) ∧ Hid (Blk wr (w.heap.size + 1) 135 (encW (states A m))) ∧ Hid (But (w.heap.size + 1) w3 wr)) (fun i _ => 64 * q - (intOf i).toNat)
  case atStart => exact ⟨0, by omega, rfl, K3, Lib.hid (But.refl _ _)⟩
  case round =>
    obtain ⟨m, hm, rfl, K, B⟩ := hrel
    obtain ⟨o, ho⟩ : ∃ o, o = 64 * m := ⟨_, rfl⟩
    rw [← ho]
    by_cases hlt : m < q
    · have ho1 : o + 64 ≤ 64 * q := by omega
      have hz := B.out.size
      have hcells : ∀ j, j < 64 → wr.cell? ⟨ab, o + j, none⟩ = some (.int .u8 ((((A.drop (64 * m)).take 64).getD j 0).toNat : Int)) := fun j hj => by
        rw [(B.out.cell (p := ⟨ab, o + j, none⟩) a1 (by show ab ≠ _; omega)), Ac.out _ (by omega)]
        congr 3
        simp [List.getD_eq_getElem?_getD, List.getElem?_take, List.getElem?_drop, hj, ho]
      have hca := A3.out
      unfold maxLen at hca
      have hbyt : ∀ c', 64 ≤ c' → c' ≤ 9223372036854775807 → Byt wr (.slice (some ⟨ab, o, none⟩) 64 c') ((A.drop (64 * m)).take 64) := fun c' h1 h2 => byt_of _ _ _ _ _ _ (by have := Hq.out; simp; omega) h1 (by unfold maxLen; omega) hcells
      have Hbyt := Lib.hid hbyt
      have Ho := Lib.hid ho
      obtain ⟨CH, hCH⟩ : ∃ CH, CH = (A.drop (64 * m)).take 64 := ⟨_, rfl⟩
      have hCHl : CH.length = 64 := by have := Hq.out; rw [hCH]; simp; omega
      rw [← hCH] at Hbyt
      have HCH := Lib.hid hCH
      clear hcells hbyt ho hCH
      have hst8 := states_length A m
      have K' := Lib.hid K.out
      go_wp2_with (first | (go_at_call 118; refine (words_c _ CH hCHl _ (Hbyt.out _ (by omega) (by omega))).mono ?_; rintro e w4 ⟨wv, rfl, ownw, b4⟩; have K4 := Lib.hid (K.out.below b4 K.out.lt); obtain ⟨wb, cw, rfl, wb0, wb1, wb2, wb3, wbc⟩ := ownw.open_ (by rw [sched_length]; omega); rw [sched_length] at wb2 wbc ⊢; have Wbc := Lib.hid wbc; have Wb3 := Lib.hid wb3; clear ownw wbc wb3) | (at_builtin; refine wpList_copyW (w0 := w4) rfl _ _ rfl _ rfl rfl _ (states A m) rfl (rowW_blk K4.out 8 8 hst8 (by omega) (by decide)) (by omega) (Below.refl _ _) ?_; intro sv w5 owns b5; obtain ⟨sb, cs, rfl, sb0, sb1, sb2, sb3, sbc⟩ := owns.open_ (by omega); rw [hst8] at sb2 sbc ⊢; have Sbc := Lib.hid sbc; have Sb3 := Lib.hid sb3; clear owns sbc sb3))
      have hz4 := b4.size
      have hz5 := b5.size
      have HB5 : Hid (Below wr.heap.size wr w5) := Lib.hid (b4.trans (b5.mono hz4))
      have Hwc : Hid (∀ j, j < 64 → w5.cell? ⟨wb, j, none⟩ = some (.int .u32 ((sched CH 64).getD j 0))) := Lib.hid fun j hj => (b5.cell (p := ⟨wb, j, none⟩) wb1).trans (Wbc.out j hj)
      have hcs := Sb3.out
      have hcw := Wb3.out
      unfold maxLen at hcs hcw
      obtain ⟨st, hst⟩ : ∃ st, st = states A m := ⟨_, rfl⟩
      rw [← hst] at hst8 K' Sbc
      have Hst := Lib.hid hst
      obtain ⟨st0, st1, st2, st3, st4, st5, st6, st7, hst9⟩ := eight hst8
      have Hst9 := Lib.hid hst9
      have Sb0 : Hid (∀ j, j < 8 → w5.cell? ⟨sb, j, none⟩ = some (.int .u32 ([st0, st1, st2, st3, st4, st5, st6, st7].getD j 0))) := by rw [← hst9]; exact Sbc
      clear hst hst9 b4 b5 K K4 Sbc Wbc Sb3 Wb3
      go_loopw [8, 7] (fun i u wx => ∃ (j sb cs : Nat) (a b c d x4 f g i8 : Int), j ≤ 64 ∧ i = .int .i64 j ∧ u = .slice (some ⟨sb, 0, none⟩) 8 cs ∧ 8 ≤ cs ∧ cs ≤ 9223372036854775807 ∧ sb < wx.heap.size ∧ w.heap.size + 1 < sb ∧ Hid (rnds (sched CH 64) st j = [a, b, c, d, x4, f, g, i8]) ∧ Hid (∀ k, k < 8 → wx.cell? ⟨sb, k, none⟩ = some (.int .u32 ([a, b, c, d, x4, f, g, i8].getD k 0))) ∧ Hid (Below w5.heap.size w5 wx)) (fun i _ _ => 64 - (intOf i).toNat)
      case atStart => exact ⟨0, sb, cs, st0, st1, st2, st3, st4, st5, st6, st7, by omega, rfl, rfl, sb2, by omega, sb1, by omega, Lib.hid Hst9.out, Sb0, Lib.hid (Below.refl _ _)⟩
      case round =>
        obtain ⟨j, sb, cs, a, b, c, d, x4, f, g, i8, hj, rfl, rfl, hc8, hc9, hsb, hsb2, R, S, BB⟩ := hrel
        have hbz := BB.out.size
        by_cases h64 : j < 64
        · obtain ⟨y, hy⟩ : ∃ y : Int, Hid (y = (sched CH 64).getD j 0) := ⟨_, rfl⟩
          obtain ⟨z, hz'⟩ : ∃ z : Int, Hid (z = rootsL.getD j 0) := ⟨_, rfl⟩
          have cy : wr.cell? ⟨wb, j, none⟩ = some (.int .u32 y) := by rw [hy.out]; exact (BB.out.cell (p := ⟨wb, j, none⟩) (by show wb < _; omega)).trans (Hwc.out j h64)
          have c0 : wr.cell? ⟨sb, 0, none⟩ = some (.int .u32 a) := S.out 0 (by omega)
          have c1 : wr.cell? ⟨sb, 1, none⟩ = some (.int .u32 b) := S.out 1 (by omega)
          have c2 : wr.cell? ⟨sb, 2, none⟩ = some (.int .u32 c) := S.out 2 (by omega)
          have c3 : wr.cell? ⟨sb, 3, none⟩ = some (.int .u32 d) := S.out 3 (by omega)
          have c4 : wr.cell? ⟨sb, 4, none⟩ = some (.int .u32 x4) := S.out 4 (by omega)
          have c5 : wr.cell? ⟨sb, 5, none⟩ = some (.int .u32 f) := S.out 5 (by omega)
          have c6 : wr.cell? ⟨sb, 6, none⟩ = some (.int .u32 g) := S.out 6 (by omega)
          have c7 : wr.cell? ⟨sb, 7, none⟩ = some (.int .u32 i8) := S.out 7 (by omega)
          have l0 : ((j : Int) < 64) = True ∧ (j < 64) = True := by simp only [eq_iff_iff, iff_true]; omega
          have lsb : (sb < wr.heap.size) = True ∧ (wb < wr.heap.size) = True := by simp only [eq_iff_iff, iff_true]; omega
          have Hcy := Lib.hid cy
          go_wp2
          refine wp_region_held_drew (S := (fun w' => w'.cell? ⟨sb, 7, none⟩ = some (.int .u32 i8) ∧ w'.cell? ⟨sb, 5, none⟩ = some (.int .u32 f) ∧ w'.cell? ⟨sb, 6, none⟩ = some (.int .u32 g) ∧ w'.cell? ⟨wb, j, none⟩ = some (.int .u32 y))) (by kernel_rfl) ?_ (fun hHeld => ?_)
          (focus ((try dsimp only); exact ⟨c7, c5, c6, cy⟩))
          (refine takeD 45 (i := 0) (v := ?_) rfl rfl (by kernel_rfl) (by kernel_rfl) (by kernel_rfl) (fun _ _ _ h => h) (Or.inl ⟨by rfl, ?_⟩) (by assumption) ?_; rotate_left; (focus ((intro w hSw; (try dsimp only at hSw); go_simp); (try with_reducible rfl); done)); (try simp only [Act.put, List.setIfInBounds_toArray, List.set_cons_zero, List.set_cons_succ]))
          (refine takeD 46 (i := 1) (v := ?_) rfl rfl (by kernel_rfl) (by kernel_rfl) (by kernel_rfl) (fun _ _ _ h => h) (Or.inl ⟨by rfl, ?_⟩) (by assumption) ?_; rotate_left; (focus ((intro w hSw; (try dsimp only at hSw); go_simp); (try with_reducible rfl); done)); (try simp only [Act.put, List.setIfInBounds_toArray, List.set_cons_zero, List.set_cons_succ]))
          (refine takeD 47 (i := 2) (v := ?_) rfl rfl (by kernel_rfl) (by kernel_rfl) (by kernel_rfl) (fun _ _ _ h => h) (Or.inl ⟨by rfl, ?_⟩) (by assumption) ?_; rotate_left; (focus ((intro w hSw; (try dsimp only at hSw); go_simp); (try with_reducible rfl); done)); (try simp only [Act.put, List.setIfInBounds_toArray, List.set_cons_zero, List.set_cons_succ]))
          (refine takeD 48 (i := 3) (v := ?_) rfl rfl (by kernel_rfl) (by kernel_rfl) (by kernel_rfl) (fun _ _ _ h => h) (Or.inl ⟨by rfl, ?_⟩) (by assumption) ?_; rotate_left; (focus ((intro w hSw; (try dsimp only at hSw); go_simp); (try with_reducible rfl); done)); (try simp only [Act.put, List.setIfInBounds_toArray, List.set_cons_zero, List.set_cons_succ]))
          (refine takeD 50 (i := 5) (v := ?_) rfl rfl (by kernel_rfl) (by kernel_rfl) (by kernel_rfl) (fun _ _ _ h => h) (Or.inl ⟨by rfl, ?_⟩) (by assumption) ?_; rotate_left; (focus ((intro w hSw; (try dsimp only at hSw); go_simp); (try with_reducible rfl); done)); (try simp only [Act.put, List.setIfInBounds_toArray, List.set_cons_zero, List.set_cons_succ]))
          (refine takeD 53 (i := 8) (v := ?_) rfl rfl (by kernel_rfl) (by kernel_rfl) (by kernel_rfl) (fun _ _ _ h => h) (Or.inl ⟨by rfl, ?_⟩) (by assumption) ?_; rotate_left; (focus ((intro w hSw; (try dsimp only at hSw); go_simp); (try with_reducible rfl); done)); (try simp only [Act.put, List.setIfInBounds_toArray, List.set_cons_zero, List.set_cons_succ]))
          (refine takeD 57 (i := 12) (v := ?_) rfl rfl (by kernel_rfl) (by kernel_rfl) (by kernel_rfl) (fun _ _ _ h => h) (Or.inl ⟨by rfl, ?_⟩) (by assumption) ?_; rotate_left; (focus ((intro w hSw; (try dsimp only at hSw); go_simp); (try with_reducible rfl); done)); (try simp only [Act.put, List.setIfInBounds_toArray, List.set_cons_zero, List.set_cons_succ]))
          (refine takeD 58 (i := 13) (v := ?_) rfl rfl (by kernel_rfl) (by kernel_rfl) (by kernel_rfl) (fun _ _ _ h => h) (Or.inl ⟨by rfl, ?_⟩) (by assumption) ?_; rotate_left; (focus ((intro w hSw; (try dsimp only at hSw); go_simp); (try with_reducible rfl); done)); (try simp only [Act.put, List.setIfInBounds_toArray, List.set_cons_zero, List.set_cons_succ]))
          (refine takeD 59 (i := 14) (v := ?_) rfl rfl (by kernel_rfl) (by kernel_rfl) (by kernel_rfl) (fun _ _ _ h => h) (Or.inl ⟨by rfl, ?_⟩) (by assumption) ?_; rotate_left; (focus ((intro w hSw; (try dsimp only at hSw); go_simp); (try with_reducible rfl); done)); (try simp only [Act.put, List.setIfInBounds_toArray, List.set_cons_zero, List.set_cons_succ]))
          (refine takeD 60 (i := 15) (v := ?_) rfl rfl (by kernel_rfl) (by kernel_rfl) (by kernel_rfl) (fun _ _ _ h => h) (Or.inl ⟨by rfl, ?_⟩) (by assumption) ?_; rotate_left; (focus ((intro w hSw; (try dsimp only at hSw); go_simp); (try with_reducible rfl); done)); (try simp only [Act.put, List.setIfInBounds_toArray, List.set_cons_zero, List.set_cons_succ]))
          (refine takeD 61 (i := 16) (v := ?_) rfl rfl (by kernel_rfl) (by kernel_rfl) (by kernel_rfl) (fun _ _ _ h => h) (Or.inl ⟨by rfl, ?_⟩) (by assumption) ?_; rotate_left; (focus ((intro w hSw; (try dsimp only at hSw); go_simp); (try with_reducible rfl); done)); (try simp only [Act.put, List.setIfInBounds_toArray, List.set_cons_zero, List.set_cons_succ]))
          (refine takeD 62 (i := 17) (v := ?_) rfl rfl (by kernel_rfl) (by kernel_rfl) (by kernel_rfl) (fun _ _ _ h => h) (Or.inl ⟨by rfl, ?_⟩) (by assumption) ?_; rotate_left; (focus ((intro w hSw; (try dsimp only at hSw); go_simp); (try with_reducible rfl); done)); (try simp only [Act.put, List.setIfInBounds_toArray, List.set_cons_zero, List.set_cons_succ]))
          (refine takeD 63 (i := 18) (v := ?_) rfl rfl (by kernel_rfl) (by kernel_rfl) (by kernel_rfl) (fun _ _ _ h => h) (Or.inl ⟨by rfl, ?_⟩) (by assumption) ?_; rotate_left; (focus ((intro w hSw; (try dsimp only at hSw); go_simp); (try with_reducible rfl); done)); (try simp only [Act.put, List.setIfInBounds_toArray, List.set_cons_zero, List.set_cons_succ]))
          (refine takeD 64 (i := 19) (v := ?_) rfl rfl (by kernel_rfl) (by kernel_rfl) (by kernel_rfl) (fun _ _ _ h => h) (Or.inl ⟨by rfl, ?_⟩) (by assumption) ?_; rotate_left; (focus ((intro w hSw; (try dsimp only at hSw); go_simp); (try with_reducible rfl); done)); (try simp only [Act.put, List.setIfInBounds_toArray, List.set_cons_zero, List.set_cons_succ]))
          (refine takeD 65 (i := 20) (v := ?_) rfl rfl (by kernel_rfl) (by kernel_rfl) (by kernel_rfl) (fun _ _ _ h => h) (Or.inl ⟨by rfl, ?_⟩) (by assumption) ?_; rotate_left; (focus ((intro w hSw; (try dsimp only at hSw); go_simp); (try with_reducible rfl); done)); (try simp only [Act.put, List.setIfInBounds_toArray, List.set_cons_zero, List.set_cons_succ]))
          (refine takeD 66 (i := 21) (v := ?_) rfl rfl (by kernel_rfl) (by kernel_rfl) (by kernel_rfl) (fun _ _ _ h => h) (Or.inl ⟨by rfl, ?_⟩) (by assumption) ?_; rotate_left; (focus ((intro w hSw; (try dsimp only at hSw); go_simp); (try with_reducible rfl); done)); (try simp only [Act.put, List.setIfInBounds_toArray, List.set_cons_zero, List.set_cons_succ]))
          (refine takeD 67 (i := 22) (v := ?_) rfl rfl (by kernel_rfl) (by kernel_rfl) (by kernel_rfl) (fun _ _ _ h => h) (Or.inl ⟨by rfl, ?_⟩) (by assumption) ?_; rotate_left; (focus ((intro w hSw; (try dsimp only at hSw); go_simp); (try with_reducible rfl); done)); (try simp only [Act.put, List.setIfInBounds_toArray, List.set_cons_zero, List.set_cons_succ]))
          (refine takeD 68 (i := 23) (v := ?_) rfl rfl (by kernel_rfl) (by kernel_rfl) (by kernel_rfl) (fun _ _ _ h => h) (Or.inl ⟨by rfl, ?_⟩) (by assumption) ?_; rotate_left; (focus ((intro w hSw; (try dsimp only at hSw); go_simp); (try with_reducible rfl); done)); (try simp only [Act.put, List.setIfInBounds_toArray, List.set_cons_zero, List.set_cons_succ]))
          (refine takeD 71 (i := 26) (v := ?_) rfl rfl (by kernel_rfl) (by kernel_rfl) (by kernel_rfl) (fun _ _ _ h => h) (Or.inl ⟨by rfl, ?_⟩) (by assumption) ?_; rotate_left; (focus ((intro w hSw; (try dsimp only at hSw); go_simp); (try with_reducible rfl); done)); (try simp only [Act.put, List.setIfInBounds_toArray, List.set_cons_zero, List.set_cons_succ]))
          (refine takeD 75 (i := 30) (v := ?_) rfl rfl (by kernel_rfl) (by kernel_rfl) (by kernel_rfl) (fun _ _ _ h => h) (Or.inl ⟨by rfl, ?_⟩) (by assumption) ?_; rotate_left; (focus ((intro w hSw; (try dsimp only at hSw); go_simp); (try with_reducible rfl); done)); (try simp only [Act.put, List.setIfInBounds_toArray, List.set_cons_zero, List.set_cons_succ]))
          (refine takeD 76 (i := 31) (v := ?_) rfl rfl (by kernel_rfl) (by kernel_rfl) (by kernel_rfl) (fun _ _ _ h => h) (Or.inl ⟨by rfl, ?_⟩) (by assumption) ?_; rotate_left; (focus ((intro w hSw; (try dsimp only at hSw); go_simp); (try with_reducible rfl); done)); (try simp only [Act.put, List.setIfInBounds_toArray, List.set_cons_zero, List.set_cons_succ]))
          (refine takeD 77 (i := 32) (v := ?_) rfl rfl (by kernel_rfl) (by kernel_rfl) (by kernel_rfl) (fun _ _ _ h => h) (Or.inl ⟨by rfl, ?_⟩) (by assumption) ?_; rotate_left; (focus ((intro w hSw; (try dsimp only at hSw); go_simp); (try with_reducible rfl); done)); (try simp only [Act.put, List.setIfInBounds_toArray, List.set_cons_zero, List.set_cons_succ]))
          (refine takeD 78 (i := 33) (v := ?_) rfl rfl (by kernel_rfl) (by kernel_rfl) (by kernel_rfl) (fun _ _ _ h => h) (Or.inl ⟨by rfl, ?_⟩) (by assumption) ?_; rotate_left; (focus ((intro w hSw; (try dsimp only at hSw); go_simp); (try with_reducible rfl); done)); (try simp only [Act.put, List.setIfInBounds_toArray, List.set_cons_zero, List.set_cons_succ]))
          (refine wpAnyH_ready (rs := [4]) (by kernel_rfl) (by simp) ?_; refine AllReadyH.cons rfl (fun K hK => ?_) AllReadyH.nil; go_simp; go_at_call 119; (with_reducible refine (turned_i _ _ (by decide) (by decide) _).mono ?_); rintro e' w' ⟨rfl, rfl⟩; refine hK.out _ _ ?_ (fun hHeld => ?_); (focus ((try dsimp only); (first | exact ⟨c7, c5, c6, cy⟩ | (refine ⟨cell_below (w := wr) ?_ _ _ _ c7, cell_below (w := wr) ?_ _ _ _ c5, cell_below (w := wr) ?_ _ _ _ c6, cell_below (w := wr) ?_ _ _ _ cy⟩ <;> (repeat (first | exact Below.refl _ _ | assumption | refine bel_alloc ?_ _ | refine bel_drew ?_)))); done)); clear hK K; (try simp only [Act.put, List.setIfInBounds_toArray, List.set_cons_zero, List.set_cons_succ]))
          (refine wpAnyH_ready (rs := [6]) (by kernel_rfl) (by simp) ?_; refine AllReadyH.cons rfl (fun K hK => ?_) AllReadyH.nil; go_simp; go_at_call 119; (with_reducible refine (turned_i _ _ (by decide) (by decide) _).mono ?_); rintro e' w' ⟨rfl, rfl⟩; refine hK.out _ _ ?_ (fun hHeld => ?_); (focus ((try dsimp only); (first | exact ⟨c7, c5, c6, cy⟩ | (refine ⟨cell_below (w := wr) ?_ _ _ _ c7, cell_below (w := wr) ?_ _ _ _ c5, cell_below (w := wr) ?_ _ _ _ c6, cell_below (w := wr) ?_ _ _ _ cy⟩ <;> (repeat (first | exact Below.refl _ _ | assumption | refine bel_alloc ?_ _ | refine bel_drew ?_)))); done)); clear hK K; (try simp only [Act.put, List.setIfInBounds_toArray, List.set_cons_zero, List.set_cons_succ]))
          (refine takeD 52 (i := 7) (v := ?_) rfl rfl (by kernel_rfl) (by kernel_rfl) (by kernel_rfl) (fun _ _ _ h => h) (Or.inl ⟨by rfl, ?_⟩) (by assumption) ?_; rotate_left; (focus ((intro w hSw; (try dsimp only at hSw); go_simp); (try with_reducible rfl); done)); (try simp only [Act.put, List.setIfInBounds_toArray, List.set_cons_zero, List.set_cons_succ]))
          (refine wpAnyH_ready (rs := [9]) (by kernel_rfl) (by simp) ?_; refine AllReadyH.cons rfl (fun K hK => ?_) AllReadyH.nil; go_simp; go_at_call 119; (with_reducible refine (turned_i _ _ (by decide) (by decide) _).mono ?_); rintro e' w' ⟨rfl, rfl⟩; refine hK.out _ _ ?_ (fun hHeld => ?_); (focus ((try dsimp only); (first | exact ⟨c7, c5, c6, cy⟩ | (refine ⟨cell_below (w := wr) ?_ _ _ _ c7, cell_below (w := wr) ?_ _ _ _ c5, cell_below (w := wr) ?_ _ _ _ c6, cell_below (w := wr) ?_ _ _ _ cy⟩ <;> (repeat (first | exact Below.refl _ _ | assumption | refine bel_alloc ?_ _ | refine bel_drew ?_)))); done)); clear hK K; (try simp only [Act.put, List.setIfInBounds_toArray, List.set_cons_zero, List.set_cons_succ]))
          (refine takeD 55 (i := 10) (v := ?_) rfl rfl (by kernel_rfl) (by kernel_rfl) (by kernel_rfl) (fun _ _ _ h => h) (Or.inl ⟨by rfl, ?_⟩) (by assumption) ?_; rotate_left; (focus ((intro w hSw; (try dsimp only at hSw); go_simp); (try with_reducible rfl); done)); (try simp only [Act.put, List.setIfInBounds_toArray, List.set_cons_zero, List.set_cons_succ]))
          (refine takeD 56 (i := 11) (v := ?_) rfl rfl (by kernel_rfl) (by kernel_rfl) (by kernel_rfl) (fun _ _ _ h => h) (Or.inl ⟨by rfl, ?_⟩) (by assumption) ?_; rotate_left; (focus ((intro w hSw; (try dsimp only at hSw); go_simp); (try with_reducible rfl); done)); (try simp only [Act.put, List.setIfInBounds_toArray, List.set_cons_zero, List.set_cons_succ]))
          (refine takeD 69 (i := 24) (v := ?_) rfl rfl (by kernel_rfl) (by kernel_rfl) (by kernel_rfl) (fun _ _ _ h => h) (Or.inl ⟨by rfl, ?_⟩) (by assumption) ?_; rotate_left; (focus ((intro w hSw; (try dsimp only at hSw); go_simp); (try with_reducible rfl); done)); (try simp only [Act.put, List.setIfInBounds_toArray, List.set_cons_zero, List.set_cons_succ]))
          (refine wpAnyH_ready (rs := [25]) (by kernel_rfl) (by simp) ?_; refine AllReadyH.cons rfl (fun K hK => ?_) AllReadyH.nil; go_simp; go_at_call 120; refine (k_c _).mono ?_; rintro e' w6 ⟨rfl, kb, hb6⟩; have b6 : Below wr.heap.size wr w6 := bel_step (bel_drew (Below.refl _ _)) hb6; have kc : w6.cell? ⟨wr.heap.size, j, none⟩ = some (.int .u32 z) := (kb.cell j).trans (by rw [hz'.out]; exact encW_at rootsL j h64); refine hK.out _ _ ?_ (fun hHeld => ?_); (focus ((try dsimp only); (first | exact ⟨c7, c5, c6, cy⟩ | (refine ⟨cell_below (w := wr) ?_ _ _ _ c7, cell_below (w := wr) ?_ _ _ _ c5, cell_below (w := wr) ?_ _ _ _ c6, cell_below (w := wr) ?_ _ _ _ cy⟩ <;> (repeat (first | exact Below.refl _ _ | assumption | refine bel_alloc ?_ _ | refine bel_drew ?_)))); done)); clear hK K; (try simp only [Act.put, List.setIfInBounds_toArray, List.set_cons_zero, List.set_cons_succ]))
          (refine takeD 72 (i := 27) (v := ?_) rfl rfl (by kernel_rfl) (by kernel_rfl) (by kernel_rfl) (fun _ _ _ h => h) (Or.inl ⟨by rfl, ?_⟩) (by assumption) ?_; rotate_left; (focus ((intro w hSw; (try dsimp only at hSw); go_simp); (try with_reducible rfl); done)); (try simp only [Act.put, List.setIfInBounds_toArray, List.set_cons_zero, List.set_cons_succ]))
          (refine wpAnyH_ready (rs := [28]) (by kernel_rfl) (by simp) ?_; refine AllReadyH.cons rfl (fun K hK => ?_) AllReadyH.nil; go_simp; refine hK.out _ _ ?_ (fun hHeld => ?_); (focus ((try dsimp only); (first | exact ⟨c7, c5, c6, cy⟩ | (refine ⟨cell_below (w := wr) ?_ _ _ _ c7, cell_below (w := wr) ?_ _ _ _ c5, cell_below (w := wr) ?_ _ _ _ c6, cell_below (w := wr) ?_ _ _ _ cy⟩ <;> (repeat (first | exact Below.refl _ _ | assumption | refine bel_alloc ?_ _ | refine bel_drew ?_)))); done)); clear hK K; (try simp only [Act.put, List.setIfInBounds_toArray, List.set_cons_zero, List.set_cons_succ]))
          (refine takeD 74 (i := 29) (v := ?_) rfl rfl (by kernel_rfl) (by kernel_rfl) (by kernel_rfl) (fun _ _ _ h => h) (Or.inl ⟨by rfl, ?_⟩) (by assumption) ?_; rotate_left; (focus ((intro w hSw; (try dsimp only at hSw); go_simp); (try with_reducible rfl); done)); (try simp only [Act.put, List.setIfInBounds_toArray, List.set_cons_zero, List.set_cons_succ]))
          (refine takeD 79 (i := 34) (v := ?_) rfl rfl (by kernel_rfl) (by kernel_rfl) (by kernel_rfl) (fun _ _ _ h => h) (Or.inl ⟨by rfl, ?_⟩) (by assumption) ?_; rotate_left; (focus ((intro w hSw; (try dsimp only at hSw); go_simp); (try with_reducible rfl); done)); (try simp only [Act.put, List.setIfInBounds_toArray, List.set_cons_zero, List.set_cons_succ]))
          (refine takeD 11 (i := 35) (v := ?_) rfl rfl (by kernel_rfl) (by kernel_rfl) (by kernel_rfl) (fun _ _ _ h => h) (Or.inl ⟨by rfl, ?_⟩) (by assumption) ?_; rotate_left; (focus ((intro w hSw; (try dsimp only at hSw); go_simp); (try with_reducible rfl); done)); (try simp only [Act.put, List.setIfInBounds_toArray, List.set_cons_zero, List.set_cons_succ]))
          refine wpAnyH_done (by kernel_rfl) ?_ _
          rw [rT]
          obtain ⟨T, hT⟩ : ∃ T, rndT z y x4 f g i8 = T := ⟨_, rfl⟩
          rw [hT]
          have HT := Lib.hid hT; clear hT kc kb
          have d0 := cell_below b6 _ _ _ c0
          have d1 := cell_below b6 _ _ _ c1
          have d2 := cell_below b6 _ _ _ c2
          have d3 := cell_below b6 _ _ _ c3
          have d4 := cell_below b6 _ _ _ c4
          have d5 := cell_below b6 _ _ _ c5
          have d6 := cell_below b6 _ _ _ c6
          have d7 := cell_below b6 _ _ _ c7
          have hz6 := b6.size
          have lsc : (sb < w6.heap.size) = True := by simp only [eq_iff_iff, iff_true]; omega
          clear c0 c1 c2 c3 c4 c5 c6 c7 cy
          go_wp2
          refine wp_quiet_all (C := fun w' => ∃ x : After _, w' = x.w) (by kernel_rfl) (by kernel_rfl) (since_drew _) ?_
          have hA := @after_cell
          repeat (go_big_quiet_step ((go_at_call 119; exact after_call_same _ (turned_i _ _ (by decide) (by decide) _))))
          refine wpQuiet_nil ?_
          rintro _ ⟨x7, rfl⟩
          have hz7 := after_size x7
          rw [rU]
          obtain ⟨U, hU⟩ : ∃ U, rndU a b c = U := ⟨_, rfl⟩
          rw [hU]
          have HU := Lib.hid hU; clear hU
          have e0 := cell_below x7.h _ _ _ d0
          have e1 := cell_below x7.h _ _ _ d1
          have e2 := cell_below x7.h _ _ _ d2
          have e3 := cell_below x7.h _ _ _ d3
          have e4 := cell_below x7.h _ _ _ d4
          have e5 := cell_below x7.h _ _ _ d5
          have e6 := cell_below x7.h _ _ _ d6
          have e7 := cell_below x7.h _ _ _ d7
          clear d0 d1 d2 d3 d4 d5 d6 d7
          have lsd : (sb < x7.w.heap.size) = True := by simp only [eq_iff_iff, iff_true]; omega
          go_wp2
          go_region_held3 (fun w' => w'.cell? ⟨sb, 1, none⟩ = some (.int .u32 b) ∧ w'.cell? ⟨sb, 2, none⟩ = some (.int .u32 c) ∧ w'.cell? ⟨sb, 3, none⟩ = some (.int .u32 d) ∧ w'.cell? ⟨sb, 5, none⟩ = some (.int .u32 f) ∧ w'.cell? ⟨sb, 6, none⟩ = some (.int .u32 g)) ((first | exact ⟨e1, e2, e3, e5, e6⟩ | (refine ⟨cell_below (w := x7.w) ?_ _ _ _ e1, cell_below (w := x7.w) ?_ _ _ _ e2, cell_below (w := x7.w) ?_ _ _ _ e3, cell_below (w := x7.w) ?_ _ _ _ e5, cell_below (w := x7.w) ?_ _ _ _ e6⟩ <;> (repeat (first | exact Below.refl _ _ | assumption | refine bel_alloc ?_ _ | refine bel_drew ?_))))) (fail)
          have HBn : Hid (Below w5.heap.size w5 (x7.w.drew.alloc (.cells (encW [IntKind.u32.wrap (T + U), a, b, c, IntKind.u32.wrap (d + T), x4, f, g]) 135))) := Lib.hid ((bel_step BB.out (bel_step b6 x7.h)).drew.alloc (by show w5.heap.size ≤ x7.w.heap.size; omega) _)
          have Kn := Lib.hid (Blk.new x7.w.drew 135 (encW [IntKind.u32.wrap (T + U), a, b, c, IntKind.u32.wrap (d + T), x4, f, g]))
          clear e0 e1 e2 e3 e4 e5 e6 e7
          go_wp2
          go_roundw
          case rel =>
            refine ⟨j + 1, x7.w.heap.size, 8, IntKind.u32.wrap (T + U), a, b, c, IntKind.u32.wrap (d + T), x4, f, g, by omega, by go_num, rfl, by omega, by omega, by simp, by omega, ?_, ?_, HBn⟩
            · refine Lib.hid ?_
              rw [rnds, R.out, ← hz'.out, ← hy.out, IntKind.wrap_u32, IntKind.wrap_u32]
              show [(rndT z y x4 f g i8 + rndU a b c) % 4294967296, a, b, c, (d + rndT z y x4 f g i8) % 4294967296, x4, f, g] = _
              rw [show rndT z y x4 f g i8 = T from HT.out, show rndU a b c = U from HU.out]
            · exact Lib.hid fun k hk => (Kn.out.cell k).trans (encW_at _ _ (by exact hk))
          case measure => simp [intOf]; omega
        · have hj64 : j = 64 := by omega
          subst hj64
          rw [show (((64 : Nat) : Int)) = 64 from rfl]
          obtain ⟨L, hL⟩ : ∃ L, L = [a, b, c, d, x4, f, g, i8] := ⟨_, rfl⟩
          have hL8 : L.length = 8 := by rw [hL]; rfl
          rw [← hL] at R S
          have hKs : Blk wr (w.heap.size + 1) 135 (encW st) := K'.out.below (HB5.out.trans (BB.out.mono HB5.out.size)) K'.out.lt
          have HKs := Lib.hid hKs
          clear hL hKs
          have hstz : w.heap.size + 1 < wr.heap.size := HKs.out.lt
          have HBW := Lib.hid (HB5.out.trans (BB.out.mono HB5.out.size))
          go_wp2
          go_loopw [13] (fun i wx => ∃ (k : Nat) (M : List Int), k ≤ 8 ∧ i = .int .i64 k ∧ M.length = 8 ∧ Hid (M = addN st L k) ∧ Hid (Blk wx (w.heap.size + 1) 135 (encW M)) ∧ Hid (But (w.heap.size + 1) wr wx)) (fun i _ => 8 - (intOf i).toNat)
          case atStart => exact ⟨0, st, by omega, rfl, hst8, Lib.hid rfl, HKs, Lib.hid (But.refl _ _)⟩
          case round =>
            obtain ⟨k, M, hk, rfl, hM8, AM, Ks, Bs⟩ := hrel
            have hzz := Bs.out.size
            by_cases hk8 : k < 8
            · obtain ⟨p, hp⟩ : ∃ p : Int, Hid (p = M.getD k 0) := ⟨_, rfl⟩
              obtain ⟨r, hr⟩ : ∃ r : Int, Hid (r = L.getD k 0) := ⟨_, rfl⟩
              have cp : wr.cell? ⟨w.heap.size + 1, k, none⟩ = some (.int .u32 p) := by rw [hp.out, Ks.out.cell]; exact encW_at _ _ (by omega)
              have cf := Ks.out.frozen k
              have cr : wr.cell? ⟨sb, k, none⟩ = some (.int .u32 r) := by rw [hr.out]; exact (Bs.out.cell (p := ⟨sb, k, none⟩) hsb (by show sb ≠ _; omega)).trans (S.out k hk8)
              have t1 : (sb < wr.heap.size) = True ∧ (w.heap.size + 1 < wr.heap.size) = True := by simp only [eq_iff_iff, iff_true]; omega
              have hA := @after_cell
              have hF := @after_frozen
              go_wp2
              refine wp_quiet_tail (C := fun w' => ∃ x : After _, w' = x.w) 12 (by kernel_rfl) (by kernel_rfl) (since_drew _) ?_
              simp only [List.take_succ_cons, List.take_zero, List.drop_succ_cons, List.drop_zero]
              repeat (go_big_quiet_step (fail))
              refine wpQuiet_nil ?_
              rintro _ ⟨x0, rfl⟩
              have hz0 := after_size x0
              have t3 : (w.heap.size + 1 < x0.w.heap.size) = True := by simp only [eq_iff_iff, iff_true]; omega
              go_wp2
              go_roundw
              case rel =>
                refine ⟨k + 1, M.set k ((p + r) % 4294967296), by omega, by go_num, by rw [List.length_set]; exact hM8, ?_, ?_, ?_⟩
                · exact Lib.hid (by rw [addN, ← AM.out, hp.out, hr.out])
                · have := (Ks.out.after x0).set k (.int .u32 ((p + r) % 4294967296))
                  rw [encW_set] at this
                  exact Lib.hid this
                · exact Lib.hid ((Bs.out.after x0).set k _)
              case measure => simp [intOf]; omega
            · have hk8' : k = 8 := by omega
              subst hk8'
              have hfin : M = states A (m + 1) := by rw [AM.out, states, takeL, ← R.out, Hst.out, HCH.out]
              have HKf : Hid (Blk wr (w.heap.size + 1) 135 (encW (states A (m + 1)))) := by rw [← hfin]; exact Ks
              have HBf : Hid (But (w.heap.size + 1) w3 wr) := Lib.hid ((B.out.trans (But.of_below HBW.out)).trans Bs.out)
              have hoo := Ho.out
              go_wp2
              go_roundw
              case rel => exact ⟨m + 1, by omega, by congr 1, HKf, HBf⟩
              case measure => simp [intOf]; omega
    · have hmq : m = q := by omega
      subst hmq
      obtain ⟨S, hS⟩ : ∃ S, S = states A m := ⟨_, rfl⟩
      have hSl : S.length = 8 := by rw [hS]; exact states_length A m
      have hSp : ∀ v ∈ S, 0 ≤ v ∧ v < 4294967296 := by rw [hS]; exact fun v hv => ⟨states_pos A m v hv, states_lt A m v hv⟩
      rw [← hS] at K
      have HS := Lib.hid hS; have HSp := Lib.hid hSp; clear hS hSp
      have hzs := B.out.size
      obtain ⟨ob, hob⟩ : ∃ ob, wr.heap.size = ob := ⟨_, rfl⟩
      have hge : 64 * m ≤ o := by omega
      clear ho
      go_wp2_with (first | (refine wpList_build_to rfl 64 _ rfl _ rfl zero32 (by kernel_rfl) ?_) | (refine wpList_alloc_blk rfl 64 rfl _ rfl (.agg zero32) zero32 zero32_info rfl ?_; intro w12 k12 b12 s12) | (refine wpList_store_blk rfl 64 _ _ rfl _ zero32 rfl rfl _ _ k12 (by kernel_rfl) (by kernel_rfl) (by kernel_rfl) ?_; intro w13 k13 b13 s13))
      rw [hob] at k13 s12 b12 hzs b13
      have Ks := Lib.hid ((K.out.below b12 (by rw [← hob]; exact K.out.lt)).but b13 (by omega))
      have K13 := Lib.hid k13
      have B12 := Lib.hid b12; have B13 := Lib.hid b13
      clear k12 k13 b12 b13
      go_wp2
      go_loopw [15] (fun i wq => ∃ j : Nat, j ≤ 32 ∧ i = .int .i64 j ∧ Hid (Blk wq ob 64 (encU (outs S j)).toArray) ∧ Hid (But ob w13 wq)) (fun i _ => 32 - (intOf i).toNat)
      case atStart => exact ⟨0, by omega, rfl, K13, Lib.hid (But.refl _ _)⟩
      case round =>
        obtain ⟨j, hj, rfl, KO, BO⟩ := hrel
        have hoz := BO.out.size
        by_cases h32 : j < 32
        · obtain ⟨x, hx, hxb⟩ : ∃ x : Nat, Hid ((x : Int) = S.getD (j / 4) 0) ∧ x < 4294967296 := ⟨(S.getD (j / 4) 0).toNat, Lib.hid (by
            have h1 : j / 4 < S.length := by omega
            have := HSp.out (S[j / 4]) (List.getElem_mem h1)
            rw [List.getD_eq_getElem?_getD, List.getElem?_eq_getElem h1]
            simp only [Option.getD_some]; omega), by
            have h1 : j / 4 < S.length := by omega
            have := HSp.out (S[j / 4]) (List.getElem_mem h1)
            rw [List.getD_eq_getElem?_getD, List.getElem?_eq_getElem h1]
            simp only [Option.getD_some]; omega⟩
          have cx : wr.cell? ⟨w.heap.size + 1, j / 4, none⟩ = some (.int .u32 (x : Int)) := by rw [hx.out, (Ks.out.but BO.out (by omega)).cell]; exact encW_at _ _ (by omega)
          obtain ⟨v0, hv0⟩ : ∃ v0, wr.cell? ⟨ob, j, none⟩ = some v0 := ⟨_, by rw [KO.out.cell]; exact Array.getElem?_eq_getElem (by simp [encU_length, outs_length]; omega)⟩
          have hf0 := KO.out.frozen j
          have Hv0 := Lib.hid hv0; have Hf0 := Lib.hid hf0; clear hv0 hf0
          go_wp2
          go_loopw [17, 16] (fun n u wz => ∃ k : Nat, k ≤ 3 - j % 4 ∧ n = .int .i64 ((j % 4 + k : Nat) : Int) ∧ u = .int .u32 ((x / 256 ^ k : Nat) : Int) ∧ wz = wr) (fun n _ _ => 3 - (intOf n).toNat)
          case atStart => exact ⟨0, by omega, by simp, by simp, rfl⟩
          case round =>
            obtain ⟨k, hk, rfl, rfl, rfl⟩ := hrel
            obtain ⟨nk, hnk⟩ : ∃ nk, nk = j % 4 + k := ⟨_, rfl⟩
            obtain ⟨X, hX⟩ : ∃ X, X = x / 256 ^ k := ⟨_, rfl⟩
            rw [← hnk, ← hX]
            have hXb : X < 4294967296 := by rw [hX]; exact Nat.lt_of_le_of_lt (Nat.div_le_self _ _) hxb
            have HX := Lib.hid hX; clear hX
            by_cases hk3 : nk < 3
            · have Hnk := Lib.hid hnk; clear hnk
              go_wp2
              go_roundw
              case rel =>
                have := Hnk.out
                refine ⟨k + 1, by omega, by go_num, ?_, trivial⟩
                rw [Nat.pow_succ, ← Nat.div_div_eq_div_mul, ← HX.out]
                first | rfl | (congr 1; omega)
              case measure => simp [intOf]; omega
            · have hk3' : nk = 3 := by omega
              have Hk3 : Hid (k = 3 - j % 4) := Lib.hid (by omega)
              subst hk3'
              clear hnk
              have hv0 := Hv0.out
              have hf0 := Hf0.out
              go_wp2
              go_roundw
              case rel =>
                refine ⟨j + 1, by omega, by go_num, ?_, Lib.hid (BO.out.set j _)⟩
                have := KO.out.set j (.int .u8 ((X : Int) % 256))
                have e : (encU (outs S j)).toArray.setIfInBounds j (.int .u8 ((X : Int) % 256)) = (encU (outs S (j + 1))).toArray := by
                  rw [outs, ← hx.out]
                  have e1 : (x : Int) / 2 ^ (24 - 8 * (j % 4)) % 256 = (X : Int) % 256 := by
                    rw [HX.out, Hk3.out, show (256 : Nat) = 2 ^ 8 from rfl, ← Nat.pow_mul, show 8 * (3 - j % 4) = 24 - 8 * (j % 4) by omega]
                    rw [Int.natCast_ediv, Int.natCast_pow]; rfl
                  rw [e1]
                  simp only [encU, List.setIfInBounds_toArray, List.map_set]
                  rw [byte_int]
                rw [e] at this
                exact Lib.hid this
              case measure => simp [intOf]; omega
        · have hj32 : j = 32 := by omega
          subst hj32
          obtain ⟨O, hO⟩ : ∃ O, O = (encU (outs S 32)).toArray := ⟨_, rfl⟩
          have hOs : O.size = 32 := by rw [hO]; simp [encU_length, outs_length]
          have hO1 : O.all (·.oneCell') = true := by rw [hO]; simp [encU, Value.oneCell']
          have KO' := KO.out
          rw [← hO] at KO'
          have HO := Lib.hid hO; clear hO
          have hw3 := K1.out.lt
          have KT : Blk wr w.heap.size 64 zero32 := ((((K1.out.below HB3.out (by omega)).but B.out (by omega)).below B12.out (by omega)).but B13.out (by omega)).but BO.out (by omega)
          have hbel : Below w.heap.size w wr :=
            HB1.out.trans ((HB3.out.mono (by omega)).trans ((B.out.below (by omega) (by omega)).trans ((B12.out.mono (by omega)).trans ((B13.out.below (by omega) (by omega)).trans (BO.out.below (by omega) (by omega))))))
          have HKO := Lib.hid KO'; have HKT := Lib.hid KT; have Hbel := Lib.hid hbel
          have HAq : Hid ((padded bs).length / 64 = m) := Lib.hid (by rw [HA.out, Hq.out]; omega)
          clear KO' KT hbel K1 B B12 B13 BO KO K HB1 HB3
          go_wp2_with (first | (refine wpList_load_row rfl 64 _ rfl _ rfl _ O _ _ HKO.out Tryz.underlying64 rfl (by rw [hOs]; exact size32_info) ?_) | (refine wpList_store_blk rfl 64 _ _ rfl _ O rfl rfl _ _ HKT.out (by rw [hOs]; exact size32_info) (by rw [hOs]; rfl) hO1 ?_; intro w14 k14 b14 s14))
          exact bodyPost_ret (results_cell_row Tryz.results81 _ _ w.heap.size _ O _ _ rfl k14 Tryz.underlying64 rfl (by rw [hOs]; exact size32_info)) rfl ⟨by rw [HO.out, HS.out, dig, HAq.out, HA.out], Hbel.out.trans (b14.below (Nat.le_refl _) (by have := Hbel.out.size; omega))⟩
end Go.Proofs.YtolbmemogoojhaaGreat
/- The reference's Of, Less, and its cells' May. -/
namespace Go.Proofs.YtolbmemogoojhaaGreat
open Go Go.RowKit Go.Deep
set_option linter.unusedVariables false
set_option linter.unusedSimpArgs false
set_option maxRecDepth 100000

set_option maxHeartbeats 1600000 in
theorem rcmay_c (N R : Int) (s : ByteArray) (w : World) : Calls Tryz.prog 94 #[.agg (cellA N R s)] w fun e w' => e = .returned (.bool (cMay N R s)) ∧ Below w.heap.size w w' := by
  have hAc := @after_cell
  have hAf := @after_frozen
  have hSz := sz_facts
  obtain ⟨n, hn⟩ : ∃ n, n = s.size := ⟨_, rfl⟩
  have hlen : ∀ W, (Builtin.len_ #[9] 3 #[.string s]).run Tryz.prog W = .ok (.int .i64 (n : Int)) W := fun W => by
    rw [run_len_string W 9 3 s (by kernel_rfl), hn]; rfl
  have Hn := Lib.hid hn; clear hn
  have Hm : Hid (cMay N R s = (!stEq N R 0 0 && stMay N R && decide (n ≤ 200))) := by rw [Hn.out]; exact Lib.hid rfl
  have hpos : stMay N R = true → (!stEq N R 0 0) = decide (0 < N) := fun h => by
    rw [Bool.eq_iff_iff]
    simp only [stMay, Bool.or_eq_true, decide_eq_true_eq] at h
    simp only [stEq, Bool.not_eq_true', decide_eq_false_iff_not, decide_eq_true_eq]; omega
  cases h2 : stMay N R
  · have H2 := Lib.hid h2
    rw [h2] at Hm
    clear h2 hpos
    go_enter Tryz.func94, Tryz.ntmps94
    go_wp2_with (go_at_call 93; refine (rmay_c N R _).mono ?_; rw [H2.out]; rintro e w' ⟨rfl, hb⟩; (first | ((fail_if_success revert x1); obtain ⟨x1, rfl⟩ := after_of hb; clear hb; have hz1 := after_size x1; (try (simp only [zYA, zYD, zYC] at hz1)); (try (have f1gA := zY1 gA x1.w.heap.size)); (try (have f1gB := zY1 gB x1.w.heap.size)); (try (have f1gC := zY1 gC x1.w.heap.size)); (first | have f10 := zY6 w.heap.size x1.w.heap.size | have f10 := zY5 w.heap.size x1.w.heap.size | have f10 := zY4 w.heap.size x1.w.heap.size | have f10 := zY3 w.heap.size x1.w.heap.size | have f10 := zY2 w.heap.size x1.w.heap.size | have f10 := zY1 w.heap.size x1.w.heap.size | skip)) | ((fail_if_success revert x2); obtain ⟨x2, rfl⟩ := after_of hb; clear hb; have hz2 := after_size x2; (try (simp only [zYA, zYD, zYC] at hz2)); (try (have f2gA := zY1 gA x2.w.heap.size)); (try (have f2gB := zY1 gB x2.w.heap.size)); (try (have f2gC := zY1 gC x2.w.heap.size)); (first | have f20 := zY6 w.heap.size x2.w.heap.size | have f20 := zY5 w.heap.size x2.w.heap.size | have f20 := zY4 w.heap.size x2.w.heap.size | have f20 := zY3 w.heap.size x2.w.heap.size | have f20 := zY2 w.heap.size x2.w.heap.size | have f20 := zY1 w.heap.size x2.w.heap.size | skip); (first | have f21 := zY4 x1.w.heap.size x2.w.heap.size | have f21 := zY3 x1.w.heap.size x2.w.heap.size | have f21 := zY2 x1.w.heap.size x2.w.heap.size | have f21 := zY1 x1.w.heap.size x2.w.heap.size | skip)) | ((fail_if_success revert x3); obtain ⟨x3, rfl⟩ := after_of hb; clear hb; have hz3 := after_size x3; (try (simp only [zYA, zYD, zYC] at hz3)); (try (have f3gA := zY1 gA x3.w.heap.size)); (try (have f3gB := zY1 gB x3.w.heap.size)); (try (have f3gC := zY1 gC x3.w.heap.size)); (first | have f30 := zY6 w.heap.size x3.w.heap.size | have f30 := zY5 w.heap.size x3.w.heap.size | have f30 := zY4 w.heap.size x3.w.heap.size | have f30 := zY3 w.heap.size x3.w.heap.size | have f30 := zY2 w.heap.size x3.w.heap.size | have f30 := zY1 w.heap.size x3.w.heap.size | skip); (first | have f31 := zY4 x1.w.heap.size x3.w.heap.size | have f31 := zY3 x1.w.heap.size x3.w.heap.size | have f31 := zY2 x1.w.heap.size x3.w.heap.size | have f31 := zY1 x1.w.heap.size x3.w.heap.size | skip); (first | have f32 := zY4 x2.w.heap.size x3.w.heap.size | have f32 := zY3 x2.w.heap.size x3.w.heap.size | have f32 := zY2 x2.w.heap.size x3.w.heap.size | have f32 := zY1 x2.w.heap.size x3.w.heap.size | skip)) | ((fail_if_success revert x4); obtain ⟨x4, rfl⟩ := after_of hb; clear hb; have hz4 := after_size x4; (try (simp only [zYA, zYD, zYC] at hz4)); (try (have f4gA := zY1 gA x4.w.heap.size)); (try (have f4gB := zY1 gB x4.w.heap.size)); (try (have f4gC := zY1 gC x4.w.heap.size)); (first | have f40 := zY6 w.heap.size x4.w.heap.size | have f40 := zY5 w.heap.size x4.w.heap.size | have f40 := zY4 w.heap.size x4.w.heap.size | have f40 := zY3 w.heap.size x4.w.heap.size | have f40 := zY2 w.heap.size x4.w.heap.size | have f40 := zY1 w.heap.size x4.w.heap.size | skip); (first | have f41 := zY4 x1.w.heap.size x4.w.heap.size | have f41 := zY3 x1.w.heap.size x4.w.heap.size | have f41 := zY2 x1.w.heap.size x4.w.heap.size | have f41 := zY1 x1.w.heap.size x4.w.heap.size | skip); (first | have f42 := zY4 x2.w.heap.size x4.w.heap.size | have f42 := zY3 x2.w.heap.size x4.w.heap.size | have f42 := zY2 x2.w.heap.size x4.w.heap.size | have f42 := zY1 x2.w.heap.size x4.w.heap.size | skip); (first | have f43 := zY4 x3.w.heap.size x4.w.heap.size | have f43 := zY3 x3.w.heap.size x4.w.heap.size | have f43 := zY2 x3.w.heap.size x4.w.heap.size | have f43 := zY1 x3.w.heap.size x4.w.heap.size | skip)) | ((fail_if_success revert x5); obtain ⟨x5, rfl⟩ := after_of hb; clear hb; have hz5 := after_size x5; (try (simp only [zYA, zYD, zYC] at hz5)); (try (have f5gA := zY1 gA x5.w.heap.size)); (try (have f5gB := zY1 gB x5.w.heap.size)); (try (have f5gC := zY1 gC x5.w.heap.size)); (first | have f50 := zY6 w.heap.size x5.w.heap.size | have f50 := zY5 w.heap.size x5.w.heap.size | have f50 := zY4 w.heap.size x5.w.heap.size | have f50 := zY3 w.heap.size x5.w.heap.size | have f50 := zY2 w.heap.size x5.w.heap.size | have f50 := zY1 w.heap.size x5.w.heap.size | skip); (first | have f51 := zY4 x1.w.heap.size x5.w.heap.size | have f51 := zY3 x1.w.heap.size x5.w.heap.size | have f51 := zY2 x1.w.heap.size x5.w.heap.size | have f51 := zY1 x1.w.heap.size x5.w.heap.size | skip); (first | have f52 := zY4 x2.w.heap.size x5.w.heap.size | have f52 := zY3 x2.w.heap.size x5.w.heap.size | have f52 := zY2 x2.w.heap.size x5.w.heap.size | have f52 := zY1 x2.w.heap.size x5.w.heap.size | skip); (first | have f53 := zY4 x3.w.heap.size x5.w.heap.size | have f53 := zY3 x3.w.heap.size x5.w.heap.size | have f53 := zY2 x3.w.heap.size x5.w.heap.size | have f53 := zY1 x3.w.heap.size x5.w.heap.size | skip); (first | have f54 := zY4 x4.w.heap.size x5.w.heap.size | have f54 := zY3 x4.w.heap.size x5.w.heap.size | have f54 := zY2 x4.w.heap.size x5.w.heap.size | have f54 := zY1 x4.w.heap.size x5.w.heap.size | skip)) | ((fail_if_success revert x6); obtain ⟨x6, rfl⟩ := after_of hb; clear hb; have hz6 := after_size x6; (try (simp only [zYA, zYD, zYC] at hz6)); (try (have f6gA := zY1 gA x6.w.heap.size)); (try (have f6gB := zY1 gB x6.w.heap.size)); (try (have f6gC := zY1 gC x6.w.heap.size)); (first | have f60 := zY6 w.heap.size x6.w.heap.size | have f60 := zY5 w.heap.size x6.w.heap.size | have f60 := zY4 w.heap.size x6.w.heap.size | have f60 := zY3 w.heap.size x6.w.heap.size | have f60 := zY2 w.heap.size x6.w.heap.size | have f60 := zY1 w.heap.size x6.w.heap.size | skip); (first | have f61 := zY4 x1.w.heap.size x6.w.heap.size | have f61 := zY3 x1.w.heap.size x6.w.heap.size | have f61 := zY2 x1.w.heap.size x6.w.heap.size | have f61 := zY1 x1.w.heap.size x6.w.heap.size | skip); (first | have f62 := zY4 x2.w.heap.size x6.w.heap.size | have f62 := zY3 x2.w.heap.size x6.w.heap.size | have f62 := zY2 x2.w.heap.size x6.w.heap.size | have f62 := zY1 x2.w.heap.size x6.w.heap.size | skip); (first | have f63 := zY4 x3.w.heap.size x6.w.heap.size | have f63 := zY3 x3.w.heap.size x6.w.heap.size | have f63 := zY2 x3.w.heap.size x6.w.heap.size | have f63 := zY1 x3.w.heap.size x6.w.heap.size | skip); (first | have f64 := zY4 x4.w.heap.size x6.w.heap.size | have f64 := zY3 x4.w.heap.size x6.w.heap.size | have f64 := zY2 x4.w.heap.size x6.w.heap.size | have f64 := zY1 x4.w.heap.size x6.w.heap.size | skip); (first | have f65 := zY4 x5.w.heap.size x6.w.heap.size | have f65 := zY3 x5.w.heap.size x6.w.heap.size | have f65 := zY2 x5.w.heap.size x6.w.heap.size | have f65 := zY1 x5.w.heap.size x6.w.heap.size | skip)) | ((fail_if_success revert x7); obtain ⟨x7, rfl⟩ := after_of hb; clear hb; have hz7 := after_size x7; (try (simp only [zYA, zYD, zYC] at hz7)); (try (have f7gA := zY1 gA x7.w.heap.size)); (try (have f7gB := zY1 gB x7.w.heap.size)); (try (have f7gC := zY1 gC x7.w.heap.size)); (first | have f70 := zY6 w.heap.size x7.w.heap.size | have f70 := zY5 w.heap.size x7.w.heap.size | have f70 := zY4 w.heap.size x7.w.heap.size | have f70 := zY3 w.heap.size x7.w.heap.size | have f70 := zY2 w.heap.size x7.w.heap.size | have f70 := zY1 w.heap.size x7.w.heap.size | skip); (first | have f71 := zY4 x1.w.heap.size x7.w.heap.size | have f71 := zY3 x1.w.heap.size x7.w.heap.size | have f71 := zY2 x1.w.heap.size x7.w.heap.size | have f71 := zY1 x1.w.heap.size x7.w.heap.size | skip); (first | have f72 := zY4 x2.w.heap.size x7.w.heap.size | have f72 := zY3 x2.w.heap.size x7.w.heap.size | have f72 := zY2 x2.w.heap.size x7.w.heap.size | have f72 := zY1 x2.w.heap.size x7.w.heap.size | skip); (first | have f73 := zY4 x3.w.heap.size x7.w.heap.size | have f73 := zY3 x3.w.heap.size x7.w.heap.size | have f73 := zY2 x3.w.heap.size x7.w.heap.size | have f73 := zY1 x3.w.heap.size x7.w.heap.size | skip); (first | have f74 := zY4 x4.w.heap.size x7.w.heap.size | have f74 := zY3 x4.w.heap.size x7.w.heap.size | have f74 := zY2 x4.w.heap.size x7.w.heap.size | have f74 := zY1 x4.w.heap.size x7.w.heap.size | skip); (first | have f75 := zY4 x5.w.heap.size x7.w.heap.size | have f75 := zY3 x5.w.heap.size x7.w.heap.size | have f75 := zY2 x5.w.heap.size x7.w.heap.size | have f75 := zY1 x5.w.heap.size x7.w.heap.size | skip); (first | have f76 := zY4 x6.w.heap.size x7.w.heap.size | have f76 := zY3 x6.w.heap.size x7.w.heap.size | have f76 := zY2 x6.w.heap.size x7.w.heap.size | have f76 := zY1 x6.w.heap.size x7.w.heap.size | skip)) | ((fail_if_success revert x8); obtain ⟨x8, rfl⟩ := after_of hb; clear hb; have hz8 := after_size x8; (try (simp only [zYA, zYD, zYC] at hz8)); (try (have f8gA := zY1 gA x8.w.heap.size)); (try (have f8gB := zY1 gB x8.w.heap.size)); (try (have f8gC := zY1 gC x8.w.heap.size)); (first | have f80 := zY6 w.heap.size x8.w.heap.size | have f80 := zY5 w.heap.size x8.w.heap.size | have f80 := zY4 w.heap.size x8.w.heap.size | have f80 := zY3 w.heap.size x8.w.heap.size | have f80 := zY2 w.heap.size x8.w.heap.size | have f80 := zY1 w.heap.size x8.w.heap.size | skip); (first | have f81 := zY4 x1.w.heap.size x8.w.heap.size | have f81 := zY3 x1.w.heap.size x8.w.heap.size | have f81 := zY2 x1.w.heap.size x8.w.heap.size | have f81 := zY1 x1.w.heap.size x8.w.heap.size | skip); (first | have f82 := zY4 x2.w.heap.size x8.w.heap.size | have f82 := zY3 x2.w.heap.size x8.w.heap.size | have f82 := zY2 x2.w.heap.size x8.w.heap.size | have f82 := zY1 x2.w.heap.size x8.w.heap.size | skip); (first | have f83 := zY4 x3.w.heap.size x8.w.heap.size | have f83 := zY3 x3.w.heap.size x8.w.heap.size | have f83 := zY2 x3.w.heap.size x8.w.heap.size | have f83 := zY1 x3.w.heap.size x8.w.heap.size | skip); (first | have f84 := zY4 x4.w.heap.size x8.w.heap.size | have f84 := zY3 x4.w.heap.size x8.w.heap.size | have f84 := zY2 x4.w.heap.size x8.w.heap.size | have f84 := zY1 x4.w.heap.size x8.w.heap.size | skip); (first | have f85 := zY4 x5.w.heap.size x8.w.heap.size | have f85 := zY3 x5.w.heap.size x8.w.heap.size | have f85 := zY2 x5.w.heap.size x8.w.heap.size | have f85 := zY1 x5.w.heap.size x8.w.heap.size | skip); (first | have f86 := zY4 x6.w.heap.size x8.w.heap.size | have f86 := zY3 x6.w.heap.size x8.w.heap.size | have f86 := zY2 x6.w.heap.size x8.w.heap.size | have f86 := zY1 x6.w.heap.size x8.w.heap.size | skip); (first | have f87 := zY4 x7.w.heap.size x8.w.heap.size | have f87 := zY3 x7.w.heap.size x8.w.heap.size | have f87 := zY2 x7.w.heap.size x8.w.heap.size | have f87 := zY1 x7.w.heap.size x8.w.heap.size | skip))))
    go_ret
    exact ⟨by rw [Hm.out]; simp, by (repeat (first | exact Below.refl _ _ | assumption | refine bel_alloc ?_ _ | refine bel_after _ ?_ | refine bel_drewN ?_ _ | refine bel_drew ?_ | refine bel_set ?_ (by first | omega | (simp only [zYA, zYD, zYC]; omega) | (simp; omega)) _))⟩
  · have H2 := Lib.hid h2
    rw [h2, hpos h2] at Hm
    clear h2 hpos
    by_cases h0 : 0 < N
    all_goals
      go_enter Tryz.func94, Tryz.ntmps94
      go_wp2_with (go_at_call 93; refine (rmay_c N R _).mono ?_; rw [H2.out]; rintro e w' ⟨rfl, hb⟩; (first | ((fail_if_success revert x1); obtain ⟨x1, rfl⟩ := after_of hb; clear hb; have hz1 := after_size x1; (try (simp only [zYA, zYD, zYC] at hz1)); (try (have f1gA := zY1 gA x1.w.heap.size)); (try (have f1gB := zY1 gB x1.w.heap.size)); (try (have f1gC := zY1 gC x1.w.heap.size)); (first | have f10 := zY6 w.heap.size x1.w.heap.size | have f10 := zY5 w.heap.size x1.w.heap.size | have f10 := zY4 w.heap.size x1.w.heap.size | have f10 := zY3 w.heap.size x1.w.heap.size | have f10 := zY2 w.heap.size x1.w.heap.size | have f10 := zY1 w.heap.size x1.w.heap.size | skip)) | ((fail_if_success revert x2); obtain ⟨x2, rfl⟩ := after_of hb; clear hb; have hz2 := after_size x2; (try (simp only [zYA, zYD, zYC] at hz2)); (try (have f2gA := zY1 gA x2.w.heap.size)); (try (have f2gB := zY1 gB x2.w.heap.size)); (try (have f2gC := zY1 gC x2.w.heap.size)); (first | have f20 := zY6 w.heap.size x2.w.heap.size | have f20 := zY5 w.heap.size x2.w.heap.size | have f20 := zY4 w.heap.size x2.w.heap.size | have f20 := zY3 w.heap.size x2.w.heap.size | have f20 := zY2 w.heap.size x2.w.heap.size | have f20 := zY1 w.heap.size x2.w.heap.size | skip); (first | have f21 := zY4 x1.w.heap.size x2.w.heap.size | have f21 := zY3 x1.w.heap.size x2.w.heap.size | have f21 := zY2 x1.w.heap.size x2.w.heap.size | have f21 := zY1 x1.w.heap.size x2.w.heap.size | skip)) | ((fail_if_success revert x3); obtain ⟨x3, rfl⟩ := after_of hb; clear hb; have hz3 := after_size x3; (try (simp only [zYA, zYD, zYC] at hz3)); (try (have f3gA := zY1 gA x3.w.heap.size)); (try (have f3gB := zY1 gB x3.w.heap.size)); (try (have f3gC := zY1 gC x3.w.heap.size)); (first | have f30 := zY6 w.heap.size x3.w.heap.size | have f30 := zY5 w.heap.size x3.w.heap.size | have f30 := zY4 w.heap.size x3.w.heap.size | have f30 := zY3 w.heap.size x3.w.heap.size | have f30 := zY2 w.heap.size x3.w.heap.size | have f30 := zY1 w.heap.size x3.w.heap.size | skip); (first | have f31 := zY4 x1.w.heap.size x3.w.heap.size | have f31 := zY3 x1.w.heap.size x3.w.heap.size | have f31 := zY2 x1.w.heap.size x3.w.heap.size | have f31 := zY1 x1.w.heap.size x3.w.heap.size | skip); (first | have f32 := zY4 x2.w.heap.size x3.w.heap.size | have f32 := zY3 x2.w.heap.size x3.w.heap.size | have f32 := zY2 x2.w.heap.size x3.w.heap.size | have f32 := zY1 x2.w.heap.size x3.w.heap.size | skip)) | ((fail_if_success revert x4); obtain ⟨x4, rfl⟩ := after_of hb; clear hb; have hz4 := after_size x4; (try (simp only [zYA, zYD, zYC] at hz4)); (try (have f4gA := zY1 gA x4.w.heap.size)); (try (have f4gB := zY1 gB x4.w.heap.size)); (try (have f4gC := zY1 gC x4.w.heap.size)); (first | have f40 := zY6 w.heap.size x4.w.heap.size | have f40 := zY5 w.heap.size x4.w.heap.size | have f40 := zY4 w.heap.size x4.w.heap.size | have f40 := zY3 w.heap.size x4.w.heap.size | have f40 := zY2 w.heap.size x4.w.heap.size | have f40 := zY1 w.heap.size x4.w.heap.size | skip); (first | have f41 := zY4 x1.w.heap.size x4.w.heap.size | have f41 := zY3 x1.w.heap.size x4.w.heap.size | have f41 := zY2 x1.w.heap.size x4.w.heap.size | have f41 := zY1 x1.w.heap.size x4.w.heap.size | skip); (first | have f42 := zY4 x2.w.heap.size x4.w.heap.size | have f42 := zY3 x2.w.heap.size x4.w.heap.size | have f42 := zY2 x2.w.heap.size x4.w.heap.size | have f42 := zY1 x2.w.heap.size x4.w.heap.size | skip); (first | have f43 := zY4 x3.w.heap.size x4.w.heap.size | have f43 := zY3 x3.w.heap.size x4.w.heap.size | have f43 := zY2 x3.w.heap.size x4.w.heap.size | have f43 := zY1 x3.w.heap.size x4.w.heap.size | skip)) | ((fail_if_success revert x5); obtain ⟨x5, rfl⟩ := after_of hb; clear hb; have hz5 := after_size x5; (try (simp only [zYA, zYD, zYC] at hz5)); (try (have f5gA := zY1 gA x5.w.heap.size)); (try (have f5gB := zY1 gB x5.w.heap.size)); (try (have f5gC := zY1 gC x5.w.heap.size)); (first | have f50 := zY6 w.heap.size x5.w.heap.size | have f50 := zY5 w.heap.size x5.w.heap.size | have f50 := zY4 w.heap.size x5.w.heap.size | have f50 := zY3 w.heap.size x5.w.heap.size | have f50 := zY2 w.heap.size x5.w.heap.size | have f50 := zY1 w.heap.size x5.w.heap.size | skip); (first | have f51 := zY4 x1.w.heap.size x5.w.heap.size | have f51 := zY3 x1.w.heap.size x5.w.heap.size | have f51 := zY2 x1.w.heap.size x5.w.heap.size | have f51 := zY1 x1.w.heap.size x5.w.heap.size | skip); (first | have f52 := zY4 x2.w.heap.size x5.w.heap.size | have f52 := zY3 x2.w.heap.size x5.w.heap.size | have f52 := zY2 x2.w.heap.size x5.w.heap.size | have f52 := zY1 x2.w.heap.size x5.w.heap.size | skip); (first | have f53 := zY4 x3.w.heap.size x5.w.heap.size | have f53 := zY3 x3.w.heap.size x5.w.heap.size | have f53 := zY2 x3.w.heap.size x5.w.heap.size | have f53 := zY1 x3.w.heap.size x5.w.heap.size | skip); (first | have f54 := zY4 x4.w.heap.size x5.w.heap.size | have f54 := zY3 x4.w.heap.size x5.w.heap.size | have f54 := zY2 x4.w.heap.size x5.w.heap.size | have f54 := zY1 x4.w.heap.size x5.w.heap.size | skip)) | ((fail_if_success revert x6); obtain ⟨x6, rfl⟩ := after_of hb; clear hb; have hz6 := after_size x6; (try (simp only [zYA, zYD, zYC] at hz6)); (try (have f6gA := zY1 gA x6.w.heap.size)); (try (have f6gB := zY1 gB x6.w.heap.size)); (try (have f6gC := zY1 gC x6.w.heap.size)); (first | have f60 := zY6 w.heap.size x6.w.heap.size | have f60 := zY5 w.heap.size x6.w.heap.size | have f60 := zY4 w.heap.size x6.w.heap.size | have f60 := zY3 w.heap.size x6.w.heap.size | have f60 := zY2 w.heap.size x6.w.heap.size | have f60 := zY1 w.heap.size x6.w.heap.size | skip); (first | have f61 := zY4 x1.w.heap.size x6.w.heap.size | have f61 := zY3 x1.w.heap.size x6.w.heap.size | have f61 := zY2 x1.w.heap.size x6.w.heap.size | have f61 := zY1 x1.w.heap.size x6.w.heap.size | skip); (first | have f62 := zY4 x2.w.heap.size x6.w.heap.size | have f62 := zY3 x2.w.heap.size x6.w.heap.size | have f62 := zY2 x2.w.heap.size x6.w.heap.size | have f62 := zY1 x2.w.heap.size x6.w.heap.size | skip); (first | have f63 := zY4 x3.w.heap.size x6.w.heap.size | have f63 := zY3 x3.w.heap.size x6.w.heap.size | have f63 := zY2 x3.w.heap.size x6.w.heap.size | have f63 := zY1 x3.w.heap.size x6.w.heap.size | skip); (first | have f64 := zY4 x4.w.heap.size x6.w.heap.size | have f64 := zY3 x4.w.heap.size x6.w.heap.size | have f64 := zY2 x4.w.heap.size x6.w.heap.size | have f64 := zY1 x4.w.heap.size x6.w.heap.size | skip); (first | have f65 := zY4 x5.w.heap.size x6.w.heap.size | have f65 := zY3 x5.w.heap.size x6.w.heap.size | have f65 := zY2 x5.w.heap.size x6.w.heap.size | have f65 := zY1 x5.w.heap.size x6.w.heap.size | skip)) | ((fail_if_success revert x7); obtain ⟨x7, rfl⟩ := after_of hb; clear hb; have hz7 := after_size x7; (try (simp only [zYA, zYD, zYC] at hz7)); (try (have f7gA := zY1 gA x7.w.heap.size)); (try (have f7gB := zY1 gB x7.w.heap.size)); (try (have f7gC := zY1 gC x7.w.heap.size)); (first | have f70 := zY6 w.heap.size x7.w.heap.size | have f70 := zY5 w.heap.size x7.w.heap.size | have f70 := zY4 w.heap.size x7.w.heap.size | have f70 := zY3 w.heap.size x7.w.heap.size | have f70 := zY2 w.heap.size x7.w.heap.size | have f70 := zY1 w.heap.size x7.w.heap.size | skip); (first | have f71 := zY4 x1.w.heap.size x7.w.heap.size | have f71 := zY3 x1.w.heap.size x7.w.heap.size | have f71 := zY2 x1.w.heap.size x7.w.heap.size | have f71 := zY1 x1.w.heap.size x7.w.heap.size | skip); (first | have f72 := zY4 x2.w.heap.size x7.w.heap.size | have f72 := zY3 x2.w.heap.size x7.w.heap.size | have f72 := zY2 x2.w.heap.size x7.w.heap.size | have f72 := zY1 x2.w.heap.size x7.w.heap.size | skip); (first | have f73 := zY4 x3.w.heap.size x7.w.heap.size | have f73 := zY3 x3.w.heap.size x7.w.heap.size | have f73 := zY2 x3.w.heap.size x7.w.heap.size | have f73 := zY1 x3.w.heap.size x7.w.heap.size | skip); (first | have f74 := zY4 x4.w.heap.size x7.w.heap.size | have f74 := zY3 x4.w.heap.size x7.w.heap.size | have f74 := zY2 x4.w.heap.size x7.w.heap.size | have f74 := zY1 x4.w.heap.size x7.w.heap.size | skip); (first | have f75 := zY4 x5.w.heap.size x7.w.heap.size | have f75 := zY3 x5.w.heap.size x7.w.heap.size | have f75 := zY2 x5.w.heap.size x7.w.heap.size | have f75 := zY1 x5.w.heap.size x7.w.heap.size | skip); (first | have f76 := zY4 x6.w.heap.size x7.w.heap.size | have f76 := zY3 x6.w.heap.size x7.w.heap.size | have f76 := zY2 x6.w.heap.size x7.w.heap.size | have f76 := zY1 x6.w.heap.size x7.w.heap.size | skip)) | ((fail_if_success revert x8); obtain ⟨x8, rfl⟩ := after_of hb; clear hb; have hz8 := after_size x8; (try (simp only [zYA, zYD, zYC] at hz8)); (try (have f8gA := zY1 gA x8.w.heap.size)); (try (have f8gB := zY1 gB x8.w.heap.size)); (try (have f8gC := zY1 gC x8.w.heap.size)); (first | have f80 := zY6 w.heap.size x8.w.heap.size | have f80 := zY5 w.heap.size x8.w.heap.size | have f80 := zY4 w.heap.size x8.w.heap.size | have f80 := zY3 w.heap.size x8.w.heap.size | have f80 := zY2 w.heap.size x8.w.heap.size | have f80 := zY1 w.heap.size x8.w.heap.size | skip); (first | have f81 := zY4 x1.w.heap.size x8.w.heap.size | have f81 := zY3 x1.w.heap.size x8.w.heap.size | have f81 := zY2 x1.w.heap.size x8.w.heap.size | have f81 := zY1 x1.w.heap.size x8.w.heap.size | skip); (first | have f82 := zY4 x2.w.heap.size x8.w.heap.size | have f82 := zY3 x2.w.heap.size x8.w.heap.size | have f82 := zY2 x2.w.heap.size x8.w.heap.size | have f82 := zY1 x2.w.heap.size x8.w.heap.size | skip); (first | have f83 := zY4 x3.w.heap.size x8.w.heap.size | have f83 := zY3 x3.w.heap.size x8.w.heap.size | have f83 := zY2 x3.w.heap.size x8.w.heap.size | have f83 := zY1 x3.w.heap.size x8.w.heap.size | skip); (first | have f84 := zY4 x4.w.heap.size x8.w.heap.size | have f84 := zY3 x4.w.heap.size x8.w.heap.size | have f84 := zY2 x4.w.heap.size x8.w.heap.size | have f84 := zY1 x4.w.heap.size x8.w.heap.size | skip); (first | have f85 := zY4 x5.w.heap.size x8.w.heap.size | have f85 := zY3 x5.w.heap.size x8.w.heap.size | have f85 := zY2 x5.w.heap.size x8.w.heap.size | have f85 := zY1 x5.w.heap.size x8.w.heap.size | skip); (first | have f86 := zY4 x6.w.heap.size x8.w.heap.size | have f86 := zY3 x6.w.heap.size x8.w.heap.size | have f86 := zY2 x6.w.heap.size x8.w.heap.size | have f86 := zY1 x6.w.heap.size x8.w.heap.size | skip); (first | have f87 := zY4 x7.w.heap.size x8.w.heap.size | have f87 := zY3 x7.w.heap.size x8.w.heap.size | have f87 := zY2 x7.w.heap.size x8.w.heap.size | have f87 := zY1 x7.w.heap.size x8.w.heap.size | skip))))
      go_ret
      exact ⟨by rw [Hm.out]; simp [h0] <;> omega, by (repeat (first | exact Below.refl _ _ | assumption | refine bel_alloc ?_ _ | refine bel_after _ ?_ | refine bel_drewN ?_ _ | refine bel_drew ?_ | refine bel_set ?_ (by first | omega | (simp only [zYA, zYD, zYC]; omega) | (simp; omega)) _))⟩
end Go.Proofs.YtolbmemogoojhaaGreat
/- The reference's cells: Less and Join. -/
namespace Go.Proofs.YtolbmemogoojhaaGreat
open Go Go.RowKit Go.Deep
set_option linter.unusedVariables false
set_option linter.unusedSimpArgs false
set_option maxRecDepth 100000

end Go.Proofs.YtolbmemogoojhaaGreat
/- The reference's texts and cells: Text, Read, Join, Put, Get. -/
namespace Go.Proofs.YtolbmemogoojhaaGreat
open Go Go.RowKit Go.Deep
set_option linter.unusedVariables false
set_option linter.unusedSimpArgs false
set_option maxRecDepth 100000

set_option maxHeartbeats 800000 in
theorem rtext_c (s : ByteArray) (hs : s.size ≤ 90000) (w : World) : Calls Tryz.prog 110 #[.string s] w (MadeU 5 (textL s) w) := by
  obtain ⟨n, hn⟩ : ∃ n, n = s.size := ⟨_, rfl⟩
  have hlen : ∀ W, (Builtin.len_ #[9] 3 #[.string s]).run Tryz.prog W = .ok (.int .i64 (n : Int)) W := fun W => by
    rw [run_len_string W 9 3 s (by kernel_rfl), hn]; rfl
  have hpl := (putL_le n (by omega)).2
  have Hn := Lib.hid hn; clear hn
  have hn9 : n ≤ 90000 := by rw [Hn.out]; exact hs
  go_enter Tryz.func110, Tryz.ntmps110
  go_wp2_with (first | (go_at_call 73; refine (rput_c n (by omega) _).mono ?_; rintro e w1 ⟨v1, rfl, own1, b1⟩) | (at_builtin; refine wpList_app_str (w0 := w) rfl _ _ 58 9 rfl _ rfl 5 (by kernel_rfl) (by kernel_rfl) (by kernel_rfl) _ _ rfl own1 s rfl (by rw [← Hn.out]; omega) b1 ?_; intro v2 w2 own2 b2))
  go_ret
  exact ⟨_, rfl, by rw [textL, ← Hn.out]; exact own2, b2⟩

set_option maxHeartbeats 1600000 in
theorem rread_c (v : Value) (bs : List UInt8) (M : Nat) (hM : M ≤ 100000) (w : World) (hv : Byt w v bs) : Calls Tryz.prog 140 #[v, .int .i64 (M : Int)] w fun e w' => e = .returned (ReadIs (readR bs M)) ∧ Below w.heap.size w w' := by
  obtain ⟨a, c, rfl, hc, hm, hn0, hcell⟩ := hv.open_
  unfold maxLen at hm
  cases hg : getR bs with
  | none =>
    have Hr : Hid (readR bs M = none) := by unfold readR; rw [hg]; exact Lib.hid rfl
    have Hget := Lib.hid (rget_no_c _ bs w hv hg); clear hv hg hcell hn0
    go_enter Tryz.func140, Tryz.ntmps140
    go_wp2_with (go_at_call 79; refine Hget.out.mono ?_; rintro e w' ⟨rfl, hb⟩; (first | ((fail_if_success revert x1); obtain ⟨x1, rfl⟩ := after_of hb; clear hb; have hz1 := after_size x1; (try (simp only [zYA, zYD, zYC] at hz1)); (try (have f1gA := zY1 gA x1.w.heap.size)); (first | have f10 := zY3 w.heap.size x1.w.heap.size | have f10 := zY2 w.heap.size x1.w.heap.size | have f10 := zY1 w.heap.size x1.w.heap.size | skip)) | ((fail_if_success revert x2); obtain ⟨x2, rfl⟩ := after_of hb; clear hb; have hz2 := after_size x2; (try (simp only [zYA, zYD, zYC] at hz2)); (try (have f2gA := zY1 gA x2.w.heap.size)); (first | have f20 := zY3 w.heap.size x2.w.heap.size | have f20 := zY2 w.heap.size x2.w.heap.size | have f20 := zY1 w.heap.size x2.w.heap.size | skip); (first | have f21 := zY2 x1.w.heap.size x2.w.heap.size | have f21 := zY1 x1.w.heap.size x2.w.heap.size | skip)) | ((fail_if_success revert x3); obtain ⟨x3, rfl⟩ := after_of hb; clear hb; have hz3 := after_size x3; (try (simp only [zYA, zYD, zYC] at hz3)); (try (have f3gA := zY1 gA x3.w.heap.size)); (first | have f30 := zY3 w.heap.size x3.w.heap.size | have f30 := zY2 w.heap.size x3.w.heap.size | have f30 := zY1 w.heap.size x3.w.heap.size | skip); (first | have f31 := zY2 x1.w.heap.size x3.w.heap.size | have f31 := zY1 x1.w.heap.size x3.w.heap.size | skip); (first | have f32 := zY2 x2.w.heap.size x3.w.heap.size | have f32 := zY1 x2.w.heap.size x3.w.heap.size | skip)) | ((fail_if_success revert x4); obtain ⟨x4, rfl⟩ := after_of hb; clear hb; have hz4 := after_size x4; (try (simp only [zYA, zYD, zYC] at hz4)); (try (have f4gA := zY1 gA x4.w.heap.size)); (first | have f40 := zY3 w.heap.size x4.w.heap.size | have f40 := zY2 w.heap.size x4.w.heap.size | have f40 := zY1 w.heap.size x4.w.heap.size | skip); (first | have f41 := zY2 x1.w.heap.size x4.w.heap.size | have f41 := zY1 x1.w.heap.size x4.w.heap.size | skip); (first | have f42 := zY2 x2.w.heap.size x4.w.heap.size | have f42 := zY1 x2.w.heap.size x4.w.heap.size | skip); (first | have f43 := zY2 x3.w.heap.size x4.w.heap.size | have f43 := zY1 x3.w.heap.size x4.w.heap.size | skip)) | ((fail_if_success revert x5); obtain ⟨x5, rfl⟩ := after_of hb; clear hb; have hz5 := after_size x5; (try (simp only [zYA, zYD, zYC] at hz5)); (try (have f5gA := zY1 gA x5.w.heap.size)); (first | have f50 := zY3 w.heap.size x5.w.heap.size | have f50 := zY2 w.heap.size x5.w.heap.size | have f50 := zY1 w.heap.size x5.w.heap.size | skip); (first | have f51 := zY2 x1.w.heap.size x5.w.heap.size | have f51 := zY1 x1.w.heap.size x5.w.heap.size | skip); (first | have f52 := zY2 x2.w.heap.size x5.w.heap.size | have f52 := zY1 x2.w.heap.size x5.w.heap.size | skip); (first | have f53 := zY2 x3.w.heap.size x5.w.heap.size | have f53 := zY1 x3.w.heap.size x5.w.heap.size | skip); (first | have f54 := zY2 x4.w.heap.size x5.w.heap.size | have f54 := zY1 x4.w.heap.size x5.w.heap.size | skip))); (try have hcv := Hcv.out _ x1.h))
    all_goals first | (rw [Exit.noGoto_ret]; go_ret3) | go_ret3
    all_goals exact ⟨read_none Hr.out, by (repeat (first | exact Below.refl _ _ | assumption | refine bel_alloc ?_ _ | refine bel_after _ ?_ | refine bel_drewN ?_ _ | refine bel_drew ?_ | refine bel_set ?_ (by first | omega | (simp only [zYA, zYD, zYC]; omega) | (simp; omega)) _))⟩
  | some q =>
    obtain ⟨n, u⟩ := q
    obtain ⟨hn, hu0, hu1, hu2, _⟩ := getR_some hg
    obtain ⟨b, off, rfl, hcc⟩ := hcell (by omega)
    have Hget := Lib.hid (rget_yes_c _ bs n u w hv hg)
    have Hv := Lib.hid hv
    clear hv hcell hcc hn0
    obtain ⟨L, hL⟩ : ∃ L, L = bs.length := ⟨_, rfl⟩
    rw [← hL] at Hget hu1 hc ⊢
    have HL := Lib.hid hL; clear hL
    have Hg := Lib.hid hg; clear hg
    by_cases hk : n ≤ min M (L - u)
    · obtain ⟨str, hstr⟩ : ∃ str, str = bstr ((bs.drop u).take n) := ⟨_, rfl⟩
      have Hr : Hid (readR bs M = some (str, u + n)) := by unfold readR; rw [Hg.out]; simp only; rw [if_pos (by rw [← HL.out]; exact hk), hstr]; exact Lib.hid rfl
      have hby := byt_cut (w := w) (b := b) (off := off) (c := c) (bs := bs) Hv.out u n (by rw [← HL.out]; omega)
      by_cases hcu : c = u
      · subst hcu
        have hn0 : n = 0 := by omega
        have hLu : L = c := by omega
        subst hn0
        subst hLu
        have hcv : ∀ W, Below w.heap.size w W → (convert 58 9 (.slice (some ⟨b, off, none⟩) 0 0)).run Tryz.prog W = .ok (.string str) W := fun W hW => by
          have hb0 : Byt W (.slice (some ⟨b, off, none⟩) 0 0) [] := ⟨by simp [encU], some ⟨b, off, none⟩, 0, rfl, by simp, by unfold maxLen; omega, (fun h => by cases h), fun h => by simp [encU] at h⟩
          have := conv_bytes (P := Tryz.prog) 58 9 5 (by kernel_rfl) (by kernel_rfl) (by kernel_rfl) hb0
          rw [hstr, List.take_zero]; exact this
        have Hcv := Lib.hid hcv; clear hcv hby hstr
        go_enter Tryz.func140, Tryz.ntmps140
        go_wp2_with (go_at_call 79; refine Hget.out.mono ?_; rintro e w' ⟨rfl, hb⟩; (first | ((fail_if_success revert x1); obtain ⟨x1, rfl⟩ := after_of hb; clear hb; have hz1 := after_size x1; (try (simp only [zYA, zYD, zYC] at hz1)); (try (have f1gA := zY1 gA x1.w.heap.size)); (first | have f10 := zY3 w.heap.size x1.w.heap.size | have f10 := zY2 w.heap.size x1.w.heap.size | have f10 := zY1 w.heap.size x1.w.heap.size | skip)) | ((fail_if_success revert x2); obtain ⟨x2, rfl⟩ := after_of hb; clear hb; have hz2 := after_size x2; (try (simp only [zYA, zYD, zYC] at hz2)); (try (have f2gA := zY1 gA x2.w.heap.size)); (first | have f20 := zY3 w.heap.size x2.w.heap.size | have f20 := zY2 w.heap.size x2.w.heap.size | have f20 := zY1 w.heap.size x2.w.heap.size | skip); (first | have f21 := zY2 x1.w.heap.size x2.w.heap.size | have f21 := zY1 x1.w.heap.size x2.w.heap.size | skip)) | ((fail_if_success revert x3); obtain ⟨x3, rfl⟩ := after_of hb; clear hb; have hz3 := after_size x3; (try (simp only [zYA, zYD, zYC] at hz3)); (try (have f3gA := zY1 gA x3.w.heap.size)); (first | have f30 := zY3 w.heap.size x3.w.heap.size | have f30 := zY2 w.heap.size x3.w.heap.size | have f30 := zY1 w.heap.size x3.w.heap.size | skip); (first | have f31 := zY2 x1.w.heap.size x3.w.heap.size | have f31 := zY1 x1.w.heap.size x3.w.heap.size | skip); (first | have f32 := zY2 x2.w.heap.size x3.w.heap.size | have f32 := zY1 x2.w.heap.size x3.w.heap.size | skip)) | ((fail_if_success revert x4); obtain ⟨x4, rfl⟩ := after_of hb; clear hb; have hz4 := after_size x4; (try (simp only [zYA, zYD, zYC] at hz4)); (try (have f4gA := zY1 gA x4.w.heap.size)); (first | have f40 := zY3 w.heap.size x4.w.heap.size | have f40 := zY2 w.heap.size x4.w.heap.size | have f40 := zY1 w.heap.size x4.w.heap.size | skip); (first | have f41 := zY2 x1.w.heap.size x4.w.heap.size | have f41 := zY1 x1.w.heap.size x4.w.heap.size | skip); (first | have f42 := zY2 x2.w.heap.size x4.w.heap.size | have f42 := zY1 x2.w.heap.size x4.w.heap.size | skip); (first | have f43 := zY2 x3.w.heap.size x4.w.heap.size | have f43 := zY1 x3.w.heap.size x4.w.heap.size | skip)) | ((fail_if_success revert x5); obtain ⟨x5, rfl⟩ := after_of hb; clear hb; have hz5 := after_size x5; (try (simp only [zYA, zYD, zYC] at hz5)); (try (have f5gA := zY1 gA x5.w.heap.size)); (first | have f50 := zY3 w.heap.size x5.w.heap.size | have f50 := zY2 w.heap.size x5.w.heap.size | have f50 := zY1 w.heap.size x5.w.heap.size | skip); (first | have f51 := zY2 x1.w.heap.size x5.w.heap.size | have f51 := zY1 x1.w.heap.size x5.w.heap.size | skip); (first | have f52 := zY2 x2.w.heap.size x5.w.heap.size | have f52 := zY1 x2.w.heap.size x5.w.heap.size | skip); (first | have f53 := zY2 x3.w.heap.size x5.w.heap.size | have f53 := zY1 x3.w.heap.size x5.w.heap.size | skip); (first | have f54 := zY2 x4.w.heap.size x5.w.heap.size | have f54 := zY1 x4.w.heap.size x5.w.heap.size | skip))); (try have hcv := Hcv.out _ x1.h))
        all_goals first | (rw [Exit.noGoto_ret]; go_ret3) | go_ret3
        all_goals exact ⟨read_some Hr.out (by first | rfl | omega | simp), by (repeat (first | exact Below.refl _ _ | assumption | refine bel_alloc ?_ _ | refine bel_after _ ?_ | refine bel_drewN ?_ _ | refine bel_drew ?_ | refine bel_set ?_ (by first | omega | (simp only [zYA, zYD, zYC]; omega) | (simp; omega)) _))⟩
      · have hcv : ∀ W, Below w.heap.size w W → (convert 58 9 (.slice (some ⟨b, off + u, none⟩) n (c - u))).run Tryz.prog W = .ok (.string str) W := fun W hW => by
          rw [hstr]; exact conv_bytes _ _ 5 (by kernel_rfl) (by kernel_rfl) (by kernel_rfl) (hby.below hW)
        have Hcv := Lib.hid hcv; clear hcv hby hstr
        go_enter Tryz.func140, Tryz.ntmps140
        go_wp2_with (go_at_call 79; refine Hget.out.mono ?_; rintro e w' ⟨rfl, hb⟩; (first | ((fail_if_success revert x1); obtain ⟨x1, rfl⟩ := after_of hb; clear hb; have hz1 := after_size x1; (try (simp only [zYA, zYD, zYC] at hz1)); (try (have f1gA := zY1 gA x1.w.heap.size)); (first | have f10 := zY3 w.heap.size x1.w.heap.size | have f10 := zY2 w.heap.size x1.w.heap.size | have f10 := zY1 w.heap.size x1.w.heap.size | skip)) | ((fail_if_success revert x2); obtain ⟨x2, rfl⟩ := after_of hb; clear hb; have hz2 := after_size x2; (try (simp only [zYA, zYD, zYC] at hz2)); (try (have f2gA := zY1 gA x2.w.heap.size)); (first | have f20 := zY3 w.heap.size x2.w.heap.size | have f20 := zY2 w.heap.size x2.w.heap.size | have f20 := zY1 w.heap.size x2.w.heap.size | skip); (first | have f21 := zY2 x1.w.heap.size x2.w.heap.size | have f21 := zY1 x1.w.heap.size x2.w.heap.size | skip)) | ((fail_if_success revert x3); obtain ⟨x3, rfl⟩ := after_of hb; clear hb; have hz3 := after_size x3; (try (simp only [zYA, zYD, zYC] at hz3)); (try (have f3gA := zY1 gA x3.w.heap.size)); (first | have f30 := zY3 w.heap.size x3.w.heap.size | have f30 := zY2 w.heap.size x3.w.heap.size | have f30 := zY1 w.heap.size x3.w.heap.size | skip); (first | have f31 := zY2 x1.w.heap.size x3.w.heap.size | have f31 := zY1 x1.w.heap.size x3.w.heap.size | skip); (first | have f32 := zY2 x2.w.heap.size x3.w.heap.size | have f32 := zY1 x2.w.heap.size x3.w.heap.size | skip)) | ((fail_if_success revert x4); obtain ⟨x4, rfl⟩ := after_of hb; clear hb; have hz4 := after_size x4; (try (simp only [zYA, zYD, zYC] at hz4)); (try (have f4gA := zY1 gA x4.w.heap.size)); (first | have f40 := zY3 w.heap.size x4.w.heap.size | have f40 := zY2 w.heap.size x4.w.heap.size | have f40 := zY1 w.heap.size x4.w.heap.size | skip); (first | have f41 := zY2 x1.w.heap.size x4.w.heap.size | have f41 := zY1 x1.w.heap.size x4.w.heap.size | skip); (first | have f42 := zY2 x2.w.heap.size x4.w.heap.size | have f42 := zY1 x2.w.heap.size x4.w.heap.size | skip); (first | have f43 := zY2 x3.w.heap.size x4.w.heap.size | have f43 := zY1 x3.w.heap.size x4.w.heap.size | skip)) | ((fail_if_success revert x5); obtain ⟨x5, rfl⟩ := after_of hb; clear hb; have hz5 := after_size x5; (try (simp only [zYA, zYD, zYC] at hz5)); (try (have f5gA := zY1 gA x5.w.heap.size)); (first | have f50 := zY3 w.heap.size x5.w.heap.size | have f50 := zY2 w.heap.size x5.w.heap.size | have f50 := zY1 w.heap.size x5.w.heap.size | skip); (first | have f51 := zY2 x1.w.heap.size x5.w.heap.size | have f51 := zY1 x1.w.heap.size x5.w.heap.size | skip); (first | have f52 := zY2 x2.w.heap.size x5.w.heap.size | have f52 := zY1 x2.w.heap.size x5.w.heap.size | skip); (first | have f53 := zY2 x3.w.heap.size x5.w.heap.size | have f53 := zY1 x3.w.heap.size x5.w.heap.size | skip); (first | have f54 := zY2 x4.w.heap.size x5.w.heap.size | have f54 := zY1 x4.w.heap.size x5.w.heap.size | skip))); (try have hcv := Hcv.out _ x1.h))
        all_goals first | (rw [Exit.noGoto_ret]; go_ret3) | go_ret3
        all_goals exact ⟨read_some Hr.out (by first | rfl | omega | simp), by (repeat (first | exact Below.refl _ _ | assumption | refine bel_alloc ?_ _ | refine bel_after _ ?_ | refine bel_drewN ?_ _ | refine bel_drew ?_ | refine bel_set ?_ (by first | omega | (simp only [zYA, zYD, zYC]; omega) | (simp; omega)) _))⟩
    · have Hr : Hid (readR bs M = none) := by unfold readR; rw [Hg.out]; simp only; rw [if_neg (by rw [← HL.out]; exact hk)]; exact Lib.hid rfl
      go_enter Tryz.func140, Tryz.ntmps140
      go_wp2_with (go_at_call 79; refine Hget.out.mono ?_; rintro e w' ⟨rfl, hb⟩; (first | ((fail_if_success revert x1); obtain ⟨x1, rfl⟩ := after_of hb; clear hb; have hz1 := after_size x1; (try (simp only [zYA, zYD, zYC] at hz1)); (try (have f1gA := zY1 gA x1.w.heap.size)); (first | have f10 := zY3 w.heap.size x1.w.heap.size | have f10 := zY2 w.heap.size x1.w.heap.size | have f10 := zY1 w.heap.size x1.w.heap.size | skip)) | ((fail_if_success revert x2); obtain ⟨x2, rfl⟩ := after_of hb; clear hb; have hz2 := after_size x2; (try (simp only [zYA, zYD, zYC] at hz2)); (try (have f2gA := zY1 gA x2.w.heap.size)); (first | have f20 := zY3 w.heap.size x2.w.heap.size | have f20 := zY2 w.heap.size x2.w.heap.size | have f20 := zY1 w.heap.size x2.w.heap.size | skip); (first | have f21 := zY2 x1.w.heap.size x2.w.heap.size | have f21 := zY1 x1.w.heap.size x2.w.heap.size | skip)) | ((fail_if_success revert x3); obtain ⟨x3, rfl⟩ := after_of hb; clear hb; have hz3 := after_size x3; (try (simp only [zYA, zYD, zYC] at hz3)); (try (have f3gA := zY1 gA x3.w.heap.size)); (first | have f30 := zY3 w.heap.size x3.w.heap.size | have f30 := zY2 w.heap.size x3.w.heap.size | have f30 := zY1 w.heap.size x3.w.heap.size | skip); (first | have f31 := zY2 x1.w.heap.size x3.w.heap.size | have f31 := zY1 x1.w.heap.size x3.w.heap.size | skip); (first | have f32 := zY2 x2.w.heap.size x3.w.heap.size | have f32 := zY1 x2.w.heap.size x3.w.heap.size | skip)) | ((fail_if_success revert x4); obtain ⟨x4, rfl⟩ := after_of hb; clear hb; have hz4 := after_size x4; (try (simp only [zYA, zYD, zYC] at hz4)); (try (have f4gA := zY1 gA x4.w.heap.size)); (first | have f40 := zY3 w.heap.size x4.w.heap.size | have f40 := zY2 w.heap.size x4.w.heap.size | have f40 := zY1 w.heap.size x4.w.heap.size | skip); (first | have f41 := zY2 x1.w.heap.size x4.w.heap.size | have f41 := zY1 x1.w.heap.size x4.w.heap.size | skip); (first | have f42 := zY2 x2.w.heap.size x4.w.heap.size | have f42 := zY1 x2.w.heap.size x4.w.heap.size | skip); (first | have f43 := zY2 x3.w.heap.size x4.w.heap.size | have f43 := zY1 x3.w.heap.size x4.w.heap.size | skip)) | ((fail_if_success revert x5); obtain ⟨x5, rfl⟩ := after_of hb; clear hb; have hz5 := after_size x5; (try (simp only [zYA, zYD, zYC] at hz5)); (try (have f5gA := zY1 gA x5.w.heap.size)); (first | have f50 := zY3 w.heap.size x5.w.heap.size | have f50 := zY2 w.heap.size x5.w.heap.size | have f50 := zY1 w.heap.size x5.w.heap.size | skip); (first | have f51 := zY2 x1.w.heap.size x5.w.heap.size | have f51 := zY1 x1.w.heap.size x5.w.heap.size | skip); (first | have f52 := zY2 x2.w.heap.size x5.w.heap.size | have f52 := zY1 x2.w.heap.size x5.w.heap.size | skip); (first | have f53 := zY2 x3.w.heap.size x5.w.heap.size | have f53 := zY1 x3.w.heap.size x5.w.heap.size | skip); (first | have f54 := zY2 x4.w.heap.size x5.w.heap.size | have f54 := zY1 x4.w.heap.size x5.w.heap.size | skip))); (try have hcv := Hcv.out _ x1.h))
      all_goals first | (rw [Exit.noGoto_ret]; go_ret3) | go_ret3
      all_goals exact ⟨read_none Hr.out, by (repeat (first | exact Below.refl _ _ | assumption | refine bel_alloc ?_ _ | refine bel_after _ ?_ | refine bel_drewN ?_ _ | refine bel_drew ?_ | refine bel_set ?_ (by first | omega | (simp only [zYA, zYD, zYC]; omega) | (simp; omega)) _))⟩
theorem rcmay_v {N R : Int} {s : ByteArray} {b : Bool} (h : cMay N R s = b) (w : World) : Calls Tryz.prog 94 #[.agg (cellA N R s)] w fun e w' => e = .returned (.bool b) ∧ Below w.heap.size w w' := by
  rw [← h]; exact rcmay_c N R s w
theorem rstput_v {N R : Int} {b : Bool} {bs : List UInt8} (h : stMay N R = b) (h' : stBytes N R = bs) (w : World) : Calls Tryz.prog 74 #[.agg #[.int .i64 N, .int .i64 R]] w fun e w' =>
    ∃ v, e = .returned (.tuple #[v, .bool b]) ∧ OwnU w.heap.size w' 5 v bs ∧ Below w.heap.size w w' := by
  subst h h'; exact rstput_c N R w
theorem rstget_m (v : Value) (bs : List UInt8) (w : World) (hv : Byt w v bs) (a b : Int) (u : Nat) (d : Bool) (h : stGet bs = (a, b, u, d)) : Calls Tryz.prog 115 #[v] w fun e w' =>
    e = .returned (.tuple #[.agg #[.int .i64 a, .int .i64 b], .int .i64 (u : Int), .bool d]) ∧ Below w.heap.size w w' :=
  (rstget_c v bs w hv).mono fun e w' ⟨he, hb⟩ => ⟨by rw [he]; unfold StGetIs; rw [h], hb⟩
set_option maxHeartbeats 1600000 in
theorem rcput_c (N R : Int) (s : ByteArray) (w : World) : Calls Tryz.prog 75 #[.agg (cellA N R s)] w (CPut w N R s) := by
  have hAc := @after_cell
  have hAf := @after_frozen
  have hSz := sz_facts
  cases hm : cMay N R s
  · have Hm := Lib.hid hm; clear hm
    go_enter Tryz.func75, Tryz.ntmps75
    go_wp2_with (go_at_call 94; (with_reducible refine (rcmay_v Hm.out _).mono ?_); rintro e w' ⟨rfl, hb⟩; (first | ((fail_if_success revert x1); obtain ⟨x1, rfl⟩ := after_of hb; clear hb; have hz1 := after_size x1; (try (simp only [zYA, zYD, zYC] at hz1)); (try (have f1gA := zY1 gA x1.w.heap.size)); (first | have f10 := zY3 w.heap.size x1.w.heap.size | have f10 := zY2 w.heap.size x1.w.heap.size | have f10 := zY1 w.heap.size x1.w.heap.size | skip)) | ((fail_if_success revert x2); obtain ⟨x2, rfl⟩ := after_of hb; clear hb; have hz2 := after_size x2; (try (simp only [zYA, zYD, zYC] at hz2)); (try (have f2gA := zY1 gA x2.w.heap.size)); (first | have f20 := zY3 w.heap.size x2.w.heap.size | have f20 := zY2 w.heap.size x2.w.heap.size | have f20 := zY1 w.heap.size x2.w.heap.size | skip); (first | have f21 := zY2 x1.w.heap.size x2.w.heap.size | have f21 := zY1 x1.w.heap.size x2.w.heap.size | skip)) | ((fail_if_success revert x3); obtain ⟨x3, rfl⟩ := after_of hb; clear hb; have hz3 := after_size x3; (try (simp only [zYA, zYD, zYC] at hz3)); (try (have f3gA := zY1 gA x3.w.heap.size)); (first | have f30 := zY3 w.heap.size x3.w.heap.size | have f30 := zY2 w.heap.size x3.w.heap.size | have f30 := zY1 w.heap.size x3.w.heap.size | skip); (first | have f31 := zY2 x1.w.heap.size x3.w.heap.size | have f31 := zY1 x1.w.heap.size x3.w.heap.size | skip); (first | have f32 := zY2 x2.w.heap.size x3.w.heap.size | have f32 := zY1 x2.w.heap.size x3.w.heap.size | skip)) | ((fail_if_success revert x4); obtain ⟨x4, rfl⟩ := after_of hb; clear hb; have hz4 := after_size x4; (try (simp only [zYA, zYD, zYC] at hz4)); (try (have f4gA := zY1 gA x4.w.heap.size)); (first | have f40 := zY3 w.heap.size x4.w.heap.size | have f40 := zY2 w.heap.size x4.w.heap.size | have f40 := zY1 w.heap.size x4.w.heap.size | skip); (first | have f41 := zY2 x1.w.heap.size x4.w.heap.size | have f41 := zY1 x1.w.heap.size x4.w.heap.size | skip); (first | have f42 := zY2 x2.w.heap.size x4.w.heap.size | have f42 := zY1 x2.w.heap.size x4.w.heap.size | skip); (first | have f43 := zY2 x3.w.heap.size x4.w.heap.size | have f43 := zY1 x3.w.heap.size x4.w.heap.size | skip)) | ((fail_if_success revert x5); obtain ⟨x5, rfl⟩ := after_of hb; clear hb; have hz5 := after_size x5; (try (simp only [zYA, zYD, zYC] at hz5)); (try (have f5gA := zY1 gA x5.w.heap.size)); (first | have f50 := zY3 w.heap.size x5.w.heap.size | have f50 := zY2 w.heap.size x5.w.heap.size | have f50 := zY1 w.heap.size x5.w.heap.size | skip); (first | have f51 := zY2 x1.w.heap.size x5.w.heap.size | have f51 := zY1 x1.w.heap.size x5.w.heap.size | skip); (first | have f52 := zY2 x2.w.heap.size x5.w.heap.size | have f52 := zY1 x2.w.heap.size x5.w.heap.size | skip); (first | have f53 := zY2 x3.w.heap.size x5.w.heap.size | have f53 := zY1 x3.w.heap.size x5.w.heap.size | skip); (first | have f54 := zY2 x4.w.heap.size x5.w.heap.size | have f54 := zY1 x4.w.heap.size x5.w.heap.size | skip))))
    all_goals go_ret2
    all_goals exact ⟨.slice none 0 0, by rw [Hm.out]; rfl, by unfold cBytes; rw [if_neg (by rw [Hm.out]; simp)]; exact ownU_nil _ _ _, by (repeat (first | exact Below.refl _ _ | assumption | refine bel_alloc ?_ _ | refine bel_after _ ?_ | refine bel_drewN ?_ _ | refine bel_drew ?_ | refine bel_set ?_ (by first | omega | (simp only [zYA, zYD, zYC]; omega) | (simp; omega)) _))⟩
  · obtain ⟨h0, h1, h2⟩ := cMay_le hm
    have Hm := Lib.hid hm
    have Hc : Hid (cBytes N R s = stBytes N R ++ textL s) := by unfold cBytes; rw [if_pos hm]; exact Lib.hid rfl
    have hlen : (stBytes N R).length + (textL s).length ≤ 100000 := by have := stBytes_le h1; have := textL_le (s := s) (by omega); omega
    have Hlen := Lib.hid hlen
    have H1 := Lib.hid h1
    have H2 : Hid (s.size ≤ 90000) := Lib.hid (by omega)
    clear hm h0 h1 h2 hlen
    go_enter Tryz.func75, Tryz.ntmps75
    go_wp2_with (first | (go_at_call 94; (with_reducible refine (rcmay_v Hm.out _).mono ?_); rintro e w' ⟨rfl, hb⟩; (first | ((fail_if_success revert x1); obtain ⟨x1, rfl⟩ := after_of hb; clear hb; have hz1 := after_size x1; (try (simp only [zYA, zYD, zYC] at hz1)); (try (have f1gA := zY1 gA x1.w.heap.size)); (first | have f10 := zY3 w.heap.size x1.w.heap.size | have f10 := zY2 w.heap.size x1.w.heap.size | have f10 := zY1 w.heap.size x1.w.heap.size | skip)) | ((fail_if_success revert x2); obtain ⟨x2, rfl⟩ := after_of hb; clear hb; have hz2 := after_size x2; (try (simp only [zYA, zYD, zYC] at hz2)); (try (have f2gA := zY1 gA x2.w.heap.size)); (first | have f20 := zY3 w.heap.size x2.w.heap.size | have f20 := zY2 w.heap.size x2.w.heap.size | have f20 := zY1 w.heap.size x2.w.heap.size | skip); (first | have f21 := zY2 x1.w.heap.size x2.w.heap.size | have f21 := zY1 x1.w.heap.size x2.w.heap.size | skip)) | ((fail_if_success revert x3); obtain ⟨x3, rfl⟩ := after_of hb; clear hb; have hz3 := after_size x3; (try (simp only [zYA, zYD, zYC] at hz3)); (try (have f3gA := zY1 gA x3.w.heap.size)); (first | have f30 := zY3 w.heap.size x3.w.heap.size | have f30 := zY2 w.heap.size x3.w.heap.size | have f30 := zY1 w.heap.size x3.w.heap.size | skip); (first | have f31 := zY2 x1.w.heap.size x3.w.heap.size | have f31 := zY1 x1.w.heap.size x3.w.heap.size | skip); (first | have f32 := zY2 x2.w.heap.size x3.w.heap.size | have f32 := zY1 x2.w.heap.size x3.w.heap.size | skip)) | ((fail_if_success revert x4); obtain ⟨x4, rfl⟩ := after_of hb; clear hb; have hz4 := after_size x4; (try (simp only [zYA, zYD, zYC] at hz4)); (try (have f4gA := zY1 gA x4.w.heap.size)); (first | have f40 := zY3 w.heap.size x4.w.heap.size | have f40 := zY2 w.heap.size x4.w.heap.size | have f40 := zY1 w.heap.size x4.w.heap.size | skip); (first | have f41 := zY2 x1.w.heap.size x4.w.heap.size | have f41 := zY1 x1.w.heap.size x4.w.heap.size | skip); (first | have f42 := zY2 x2.w.heap.size x4.w.heap.size | have f42 := zY1 x2.w.heap.size x4.w.heap.size | skip); (first | have f43 := zY2 x3.w.heap.size x4.w.heap.size | have f43 := zY1 x3.w.heap.size x4.w.heap.size | skip)) | ((fail_if_success revert x5); obtain ⟨x5, rfl⟩ := after_of hb; clear hb; have hz5 := after_size x5; (try (simp only [zYA, zYD, zYC] at hz5)); (try (have f5gA := zY1 gA x5.w.heap.size)); (first | have f50 := zY3 w.heap.size x5.w.heap.size | have f50 := zY2 w.heap.size x5.w.heap.size | have f50 := zY1 w.heap.size x5.w.heap.size | skip); (first | have f51 := zY2 x1.w.heap.size x5.w.heap.size | have f51 := zY1 x1.w.heap.size x5.w.heap.size | skip); (first | have f52 := zY2 x2.w.heap.size x5.w.heap.size | have f52 := zY1 x2.w.heap.size x5.w.heap.size | skip); (first | have f53 := zY2 x3.w.heap.size x5.w.heap.size | have f53 := zY1 x3.w.heap.size x5.w.heap.size | skip); (first | have f54 := zY2 x4.w.heap.size x5.w.heap.size | have f54 := zY1 x4.w.heap.size x5.w.heap.size | skip)))) | (go_at_call 74; (with_reducible refine (rstput_v H1.out rfl _).mono ?_); rintro e w' ⟨v, rfl, own2, hb⟩; have Own2 := Lib.hid own2; clear own2; (first | ((fail_if_success revert x1); obtain ⟨x1, rfl⟩ := after_of hb; clear hb; have hz1 := after_size x1; (try (simp only [zYA, zYD, zYC] at hz1)); (try (have f1gA := zY1 gA x1.w.heap.size)); (first | have f10 := zY3 w.heap.size x1.w.heap.size | have f10 := zY2 w.heap.size x1.w.heap.size | have f10 := zY1 w.heap.size x1.w.heap.size | skip)) | ((fail_if_success revert x2); obtain ⟨x2, rfl⟩ := after_of hb; clear hb; have hz2 := after_size x2; (try (simp only [zYA, zYD, zYC] at hz2)); (try (have f2gA := zY1 gA x2.w.heap.size)); (first | have f20 := zY3 w.heap.size x2.w.heap.size | have f20 := zY2 w.heap.size x2.w.heap.size | have f20 := zY1 w.heap.size x2.w.heap.size | skip); (first | have f21 := zY2 x1.w.heap.size x2.w.heap.size | have f21 := zY1 x1.w.heap.size x2.w.heap.size | skip)) | ((fail_if_success revert x3); obtain ⟨x3, rfl⟩ := after_of hb; clear hb; have hz3 := after_size x3; (try (simp only [zYA, zYD, zYC] at hz3)); (try (have f3gA := zY1 gA x3.w.heap.size)); (first | have f30 := zY3 w.heap.size x3.w.heap.size | have f30 := zY2 w.heap.size x3.w.heap.size | have f30 := zY1 w.heap.size x3.w.heap.size | skip); (first | have f31 := zY2 x1.w.heap.size x3.w.heap.size | have f31 := zY1 x1.w.heap.size x3.w.heap.size | skip); (first | have f32 := zY2 x2.w.heap.size x3.w.heap.size | have f32 := zY1 x2.w.heap.size x3.w.heap.size | skip)) | ((fail_if_success revert x4); obtain ⟨x4, rfl⟩ := after_of hb; clear hb; have hz4 := after_size x4; (try (simp only [zYA, zYD, zYC] at hz4)); (try (have f4gA := zY1 gA x4.w.heap.size)); (first | have f40 := zY3 w.heap.size x4.w.heap.size | have f40 := zY2 w.heap.size x4.w.heap.size | have f40 := zY1 w.heap.size x4.w.heap.size | skip); (first | have f41 := zY2 x1.w.heap.size x4.w.heap.size | have f41 := zY1 x1.w.heap.size x4.w.heap.size | skip); (first | have f42 := zY2 x2.w.heap.size x4.w.heap.size | have f42 := zY1 x2.w.heap.size x4.w.heap.size | skip); (first | have f43 := zY2 x3.w.heap.size x4.w.heap.size | have f43 := zY1 x3.w.heap.size x4.w.heap.size | skip)) | ((fail_if_success revert x5); obtain ⟨x5, rfl⟩ := after_of hb; clear hb; have hz5 := after_size x5; (try (simp only [zYA, zYD, zYC] at hz5)); (try (have f5gA := zY1 gA x5.w.heap.size)); (first | have f50 := zY3 w.heap.size x5.w.heap.size | have f50 := zY2 w.heap.size x5.w.heap.size | have f50 := zY1 w.heap.size x5.w.heap.size | skip); (first | have f51 := zY2 x1.w.heap.size x5.w.heap.size | have f51 := zY1 x1.w.heap.size x5.w.heap.size | skip); (first | have f52 := zY2 x2.w.heap.size x5.w.heap.size | have f52 := zY1 x2.w.heap.size x5.w.heap.size | skip); (first | have f53 := zY2 x3.w.heap.size x5.w.heap.size | have f53 := zY1 x3.w.heap.size x5.w.heap.size | skip); (first | have f54 := zY2 x4.w.heap.size x5.w.heap.size | have f54 := zY1 x4.w.heap.size x5.w.heap.size | skip)))) | (go_at_call 110; (with_reducible refine (rtext_c s H2.out _).mono ?_); rintro e w' ⟨v2, rfl, own3, hb⟩; have Own3 := Lib.hid own3; clear own3; (first | ((fail_if_success revert x1); obtain ⟨x1, rfl⟩ := after_of hb; clear hb; have hz1 := after_size x1; (try (simp only [zYA, zYD, zYC] at hz1)); (try (have f1gA := zY1 gA x1.w.heap.size)); (first | have f10 := zY3 w.heap.size x1.w.heap.size | have f10 := zY2 w.heap.size x1.w.heap.size | have f10 := zY1 w.heap.size x1.w.heap.size | skip)) | ((fail_if_success revert x2); obtain ⟨x2, rfl⟩ := after_of hb; clear hb; have hz2 := after_size x2; (try (simp only [zYA, zYD, zYC] at hz2)); (try (have f2gA := zY1 gA x2.w.heap.size)); (first | have f20 := zY3 w.heap.size x2.w.heap.size | have f20 := zY2 w.heap.size x2.w.heap.size | have f20 := zY1 w.heap.size x2.w.heap.size | skip); (first | have f21 := zY2 x1.w.heap.size x2.w.heap.size | have f21 := zY1 x1.w.heap.size x2.w.heap.size | skip)) | ((fail_if_success revert x3); obtain ⟨x3, rfl⟩ := after_of hb; clear hb; have hz3 := after_size x3; (try (simp only [zYA, zYD, zYC] at hz3)); (try (have f3gA := zY1 gA x3.w.heap.size)); (first | have f30 := zY3 w.heap.size x3.w.heap.size | have f30 := zY2 w.heap.size x3.w.heap.size | have f30 := zY1 w.heap.size x3.w.heap.size | skip); (first | have f31 := zY2 x1.w.heap.size x3.w.heap.size | have f31 := zY1 x1.w.heap.size x3.w.heap.size | skip); (first | have f32 := zY2 x2.w.heap.size x3.w.heap.size | have f32 := zY1 x2.w.heap.size x3.w.heap.size | skip)) | ((fail_if_success revert x4); obtain ⟨x4, rfl⟩ := after_of hb; clear hb; have hz4 := after_size x4; (try (simp only [zYA, zYD, zYC] at hz4)); (try (have f4gA := zY1 gA x4.w.heap.size)); (first | have f40 := zY3 w.heap.size x4.w.heap.size | have f40 := zY2 w.heap.size x4.w.heap.size | have f40 := zY1 w.heap.size x4.w.heap.size | skip); (first | have f41 := zY2 x1.w.heap.size x4.w.heap.size | have f41 := zY1 x1.w.heap.size x4.w.heap.size | skip); (first | have f42 := zY2 x2.w.heap.size x4.w.heap.size | have f42 := zY1 x2.w.heap.size x4.w.heap.size | skip); (first | have f43 := zY2 x3.w.heap.size x4.w.heap.size | have f43 := zY1 x3.w.heap.size x4.w.heap.size | skip)) | ((fail_if_success revert x5); obtain ⟨x5, rfl⟩ := after_of hb; clear hb; have hz5 := after_size x5; (try (simp only [zYA, zYD, zYC] at hz5)); (try (have f5gA := zY1 gA x5.w.heap.size)); (first | have f50 := zY3 w.heap.size x5.w.heap.size | have f50 := zY2 w.heap.size x5.w.heap.size | have f50 := zY1 w.heap.size x5.w.heap.size | skip); (first | have f51 := zY2 x1.w.heap.size x5.w.heap.size | have f51 := zY1 x1.w.heap.size x5.w.heap.size | skip); (first | have f52 := zY2 x2.w.heap.size x5.w.heap.size | have f52 := zY1 x2.w.heap.size x5.w.heap.size | skip); (first | have f53 := zY2 x3.w.heap.size x5.w.heap.size | have f53 := zY1 x3.w.heap.size x5.w.heap.size | skip); (first | have f54 := zY2 x4.w.heap.size x5.w.heap.size | have f54 := zY1 x4.w.heap.size x5.w.heap.size | skip)))) | (at_builtin; refine wpList_app (w0 := w) rfl _ _ 58 rfl _ rfl 5 (by kernel_rfl) (by kernel_rfl) _ _ rfl ((Own2.out.below x3.h).lower (by omega)) _ _ rfl Own3.out.byt Hlen.out (by (repeat (first | exact Below.refl _ _ | assumption | refine bel_alloc ?_ _ | refine bel_after _ ?_ | refine bel_drewN ?_ _ | refine bel_drew ?_ | refine bel_set ?_ (by first | omega | (simp only [zYA, zYD, zYC]; omega) | (simp; omega)) _))) ?_; intro v4 w4 own4 b4))
    all_goals go_ret2
    all_goals exact ⟨v4, by rw [Hm.out]; rfl, by rw [Hc.out]; exact own4, b4⟩

end Go.Proofs.YtolbmemogoojhaaGreat
/- The reference's cells: Get. -/
namespace Go.Proofs.YtolbmemogoojhaaGreat
open Go Go.RowKit Go.Deep
set_option linter.unusedVariables false
set_option linter.unusedSimpArgs false
set_option maxRecDepth 100000

theorem rread_m {bs : List UInt8} {M : Nat} {s : ByteArray} {m : Nat} {d : Bool} {v : Value} (hM : M ≤ 100000) (HR : ReadIs (readR bs M) = .tuple #[.string s, .int .i64 (m : Int), .bool d]) (w : World) (hv : Byt w v bs) : Calls Tryz.prog 140 #[v, .int .i64 (M : Int)] w fun e w' =>
    e = .returned (.tuple #[.string s, .int .i64 (m : Int), .bool d]) ∧ Below w.heap.size w w' :=
  (rread_c v bs M hM w hv).mono fun e w' ⟨he, hb⟩ => ⟨by rw [he, HR], hb⟩
theorem rread_200 {bs : List UInt8} {s : ByteArray} {m : Nat} {d : Bool} {v : Value} (HR : ReadIs (readR bs 200) = .tuple #[.string s, .int .i64 (m : Int), .bool d]) (w : World) (hv : Byt w v bs) : Calls Tryz.prog 140 #[v, .int .i64 200] w fun e w' =>
    e = .returned (.tuple #[.string s, .int .i64 (m : Int), .bool d]) ∧ Below w.heap.size w w' := rread_m (M := 200) (by omega) HR w hv
set_option maxHeartbeats 3200000 in
theorem rcget_c (v : Value) (bs : List UInt8) (w : World) (hv : Byt w v bs) : Calls Tryz.prog 116 #[v] w fun e w' => e = .returned (CGetIs bs) ∧ Below w.heap.size w w' := by
  have hAc := @after_cell
  have hAf := @after_frozen
  have hSz := sz_facts
  obtain ⟨N, R, u, is, hst⟩ : ∃ N R u is, stGet bs = (N, R, u, is) := ⟨_, _, _, _, rfl⟩
  have hu : u ≤ bs.length := by have := stGet_le bs; rw [hst] at this; exact this
  obtain ⟨v', hv', hcut⟩ := byt_drop hv u hu
  have Hst := Lib.hid hst; have Hv := Lib.hid hv; have Hv' := Lib.hid hv'
  clear hv hv' hu
  rcases readIs_cases (readR (bs.drop u) 200) with ⟨hr, hrd⟩ | ⟨s, m, hr, hrd⟩
  · have Hg : Hid (cGet bs = (0, 0, ⟨#[]⟩, 0, false)) := by unfold cGet; rw [hst]; simp only; rw [hr]; exact Lib.hid rfl
    have Hrd := Lib.hid hrd; clear hrd hr hst
    cases is <;> cases hmay : cMay N R .empty
    all_goals
      have Hmay := Lib.hid hmay; clear hmay
      go_enter Tryz.func116, Tryz.ntmps116
      go_wp2_with (first | (go_at_call 115; (with_reducible refine (rstget_m v bs _ (Hv.out.alloc _) _ _ _ _ Hst.out).mono ?_); rintro e w' ⟨rfl, hb⟩; (first | ((fail_if_success revert x1); obtain ⟨x1, rfl⟩ := after_of hb; clear hb; have hz1 := after_size x1; (try (simp only [zYA, zYD, zYC] at hz1)); (try (have f1gA := zY1 gA x1.w.heap.size)); (first | have f10 := zY3 w.heap.size x1.w.heap.size | have f10 := zY2 w.heap.size x1.w.heap.size | have f10 := zY1 w.heap.size x1.w.heap.size | skip)) | ((fail_if_success revert x2); obtain ⟨x2, rfl⟩ := after_of hb; clear hb; have hz2 := after_size x2; (try (simp only [zYA, zYD, zYC] at hz2)); (try (have f2gA := zY1 gA x2.w.heap.size)); (first | have f20 := zY3 w.heap.size x2.w.heap.size | have f20 := zY2 w.heap.size x2.w.heap.size | have f20 := zY1 w.heap.size x2.w.heap.size | skip); (first | have f21 := zY2 x1.w.heap.size x2.w.heap.size | have f21 := zY1 x1.w.heap.size x2.w.heap.size | skip)) | ((fail_if_success revert x3); obtain ⟨x3, rfl⟩ := after_of hb; clear hb; have hz3 := after_size x3; (try (simp only [zYA, zYD, zYC] at hz3)); (try (have f3gA := zY1 gA x3.w.heap.size)); (first | have f30 := zY3 w.heap.size x3.w.heap.size | have f30 := zY2 w.heap.size x3.w.heap.size | have f30 := zY1 w.heap.size x3.w.heap.size | skip); (first | have f31 := zY2 x1.w.heap.size x3.w.heap.size | have f31 := zY1 x1.w.heap.size x3.w.heap.size | skip); (first | have f32 := zY2 x2.w.heap.size x3.w.heap.size | have f32 := zY1 x2.w.heap.size x3.w.heap.size | skip)) | ((fail_if_success revert x4); obtain ⟨x4, rfl⟩ := after_of hb; clear hb; have hz4 := after_size x4; (try (simp only [zYA, zYD, zYC] at hz4)); (try (have f4gA := zY1 gA x4.w.heap.size)); (first | have f40 := zY3 w.heap.size x4.w.heap.size | have f40 := zY2 w.heap.size x4.w.heap.size | have f40 := zY1 w.heap.size x4.w.heap.size | skip); (first | have f41 := zY2 x1.w.heap.size x4.w.heap.size | have f41 := zY1 x1.w.heap.size x4.w.heap.size | skip); (first | have f42 := zY2 x2.w.heap.size x4.w.heap.size | have f42 := zY1 x2.w.heap.size x4.w.heap.size | skip); (first | have f43 := zY2 x3.w.heap.size x4.w.heap.size | have f43 := zY1 x3.w.heap.size x4.w.heap.size | skip)) | ((fail_if_success revert x5); obtain ⟨x5, rfl⟩ := after_of hb; clear hb; have hz5 := after_size x5; (try (simp only [zYA, zYD, zYC] at hz5)); (try (have f5gA := zY1 gA x5.w.heap.size)); (first | have f50 := zY3 w.heap.size x5.w.heap.size | have f50 := zY2 w.heap.size x5.w.heap.size | have f50 := zY1 w.heap.size x5.w.heap.size | skip); (first | have f51 := zY2 x1.w.heap.size x5.w.heap.size | have f51 := zY1 x1.w.heap.size x5.w.heap.size | skip); (first | have f52 := zY2 x2.w.heap.size x5.w.heap.size | have f52 := zY1 x2.w.heap.size x5.w.heap.size | skip); (first | have f53 := zY2 x3.w.heap.size x5.w.heap.size | have f53 := zY1 x3.w.heap.size x5.w.heap.size | skip); (first | have f54 := zY2 x4.w.heap.size x5.w.heap.size | have f54 := zY1 x4.w.heap.size x5.w.heap.size | skip)))) | (go_at_call 140; refine (rread_200 Hrd.out _ (Hv'.out.below (by (repeat (first | exact Below.refl _ _ | assumption | refine bel_alloc ?_ _ | refine bel_after _ ?_ | refine bel_drewN ?_ _ | refine bel_drew ?_ | refine bel_set ?_ (by first | omega | (simp only [zYA, zYD, zYC]; omega) | (simp; omega)) _))))).mono ?_; rintro e w' ⟨rfl, hb⟩; (first | ((fail_if_success revert x1); obtain ⟨x1, rfl⟩ := after_of hb; clear hb; have hz1 := after_size x1; (try (simp only [zYA, zYD, zYC] at hz1)); (try (have f1gA := zY1 gA x1.w.heap.size)); (first | have f10 := zY3 w.heap.size x1.w.heap.size | have f10 := zY2 w.heap.size x1.w.heap.size | have f10 := zY1 w.heap.size x1.w.heap.size | skip)) | ((fail_if_success revert x2); obtain ⟨x2, rfl⟩ := after_of hb; clear hb; have hz2 := after_size x2; (try (simp only [zYA, zYD, zYC] at hz2)); (try (have f2gA := zY1 gA x2.w.heap.size)); (first | have f20 := zY3 w.heap.size x2.w.heap.size | have f20 := zY2 w.heap.size x2.w.heap.size | have f20 := zY1 w.heap.size x2.w.heap.size | skip); (first | have f21 := zY2 x1.w.heap.size x2.w.heap.size | have f21 := zY1 x1.w.heap.size x2.w.heap.size | skip)) | ((fail_if_success revert x3); obtain ⟨x3, rfl⟩ := after_of hb; clear hb; have hz3 := after_size x3; (try (simp only [zYA, zYD, zYC] at hz3)); (try (have f3gA := zY1 gA x3.w.heap.size)); (first | have f30 := zY3 w.heap.size x3.w.heap.size | have f30 := zY2 w.heap.size x3.w.heap.size | have f30 := zY1 w.heap.size x3.w.heap.size | skip); (first | have f31 := zY2 x1.w.heap.size x3.w.heap.size | have f31 := zY1 x1.w.heap.size x3.w.heap.size | skip); (first | have f32 := zY2 x2.w.heap.size x3.w.heap.size | have f32 := zY1 x2.w.heap.size x3.w.heap.size | skip)) | ((fail_if_success revert x4); obtain ⟨x4, rfl⟩ := after_of hb; clear hb; have hz4 := after_size x4; (try (simp only [zYA, zYD, zYC] at hz4)); (try (have f4gA := zY1 gA x4.w.heap.size)); (first | have f40 := zY3 w.heap.size x4.w.heap.size | have f40 := zY2 w.heap.size x4.w.heap.size | have f40 := zY1 w.heap.size x4.w.heap.size | skip); (first | have f41 := zY2 x1.w.heap.size x4.w.heap.size | have f41 := zY1 x1.w.heap.size x4.w.heap.size | skip); (first | have f42 := zY2 x2.w.heap.size x4.w.heap.size | have f42 := zY1 x2.w.heap.size x4.w.heap.size | skip); (first | have f43 := zY2 x3.w.heap.size x4.w.heap.size | have f43 := zY1 x3.w.heap.size x4.w.heap.size | skip)) | ((fail_if_success revert x5); obtain ⟨x5, rfl⟩ := after_of hb; clear hb; have hz5 := after_size x5; (try (simp only [zYA, zYD, zYC] at hz5)); (try (have f5gA := zY1 gA x5.w.heap.size)); (first | have f50 := zY3 w.heap.size x5.w.heap.size | have f50 := zY2 w.heap.size x5.w.heap.size | have f50 := zY1 w.heap.size x5.w.heap.size | skip); (first | have f51 := zY2 x1.w.heap.size x5.w.heap.size | have f51 := zY1 x1.w.heap.size x5.w.heap.size | skip); (first | have f52 := zY2 x2.w.heap.size x5.w.heap.size | have f52 := zY1 x2.w.heap.size x5.w.heap.size | skip); (first | have f53 := zY2 x3.w.heap.size x5.w.heap.size | have f53 := zY1 x3.w.heap.size x5.w.heap.size | skip); (first | have f54 := zY2 x4.w.heap.size x5.w.heap.size | have f54 := zY1 x4.w.heap.size x5.w.heap.size | skip)))) | (go_at_call 94; (with_reducible refine (rcmay_v Hmay.out _).mono ?_); rintro e w' ⟨rfl, hb⟩; (first | ((fail_if_success revert x1); obtain ⟨x1, rfl⟩ := after_of hb; clear hb; have hz1 := after_size x1; (try (simp only [zYA, zYD, zYC] at hz1)); (try (have f1gA := zY1 gA x1.w.heap.size)); (first | have f10 := zY3 w.heap.size x1.w.heap.size | have f10 := zY2 w.heap.size x1.w.heap.size | have f10 := zY1 w.heap.size x1.w.heap.size | skip)) | ((fail_if_success revert x2); obtain ⟨x2, rfl⟩ := after_of hb; clear hb; have hz2 := after_size x2; (try (simp only [zYA, zYD, zYC] at hz2)); (try (have f2gA := zY1 gA x2.w.heap.size)); (first | have f20 := zY3 w.heap.size x2.w.heap.size | have f20 := zY2 w.heap.size x2.w.heap.size | have f20 := zY1 w.heap.size x2.w.heap.size | skip); (first | have f21 := zY2 x1.w.heap.size x2.w.heap.size | have f21 := zY1 x1.w.heap.size x2.w.heap.size | skip)) | ((fail_if_success revert x3); obtain ⟨x3, rfl⟩ := after_of hb; clear hb; have hz3 := after_size x3; (try (simp only [zYA, zYD, zYC] at hz3)); (try (have f3gA := zY1 gA x3.w.heap.size)); (first | have f30 := zY3 w.heap.size x3.w.heap.size | have f30 := zY2 w.heap.size x3.w.heap.size | have f30 := zY1 w.heap.size x3.w.heap.size | skip); (first | have f31 := zY2 x1.w.heap.size x3.w.heap.size | have f31 := zY1 x1.w.heap.size x3.w.heap.size | skip); (first | have f32 := zY2 x2.w.heap.size x3.w.heap.size | have f32 := zY1 x2.w.heap.size x3.w.heap.size | skip)) | ((fail_if_success revert x4); obtain ⟨x4, rfl⟩ := after_of hb; clear hb; have hz4 := after_size x4; (try (simp only [zYA, zYD, zYC] at hz4)); (try (have f4gA := zY1 gA x4.w.heap.size)); (first | have f40 := zY3 w.heap.size x4.w.heap.size | have f40 := zY2 w.heap.size x4.w.heap.size | have f40 := zY1 w.heap.size x4.w.heap.size | skip); (first | have f41 := zY2 x1.w.heap.size x4.w.heap.size | have f41 := zY1 x1.w.heap.size x4.w.heap.size | skip); (first | have f42 := zY2 x2.w.heap.size x4.w.heap.size | have f42 := zY1 x2.w.heap.size x4.w.heap.size | skip); (first | have f43 := zY2 x3.w.heap.size x4.w.heap.size | have f43 := zY1 x3.w.heap.size x4.w.heap.size | skip)) | ((fail_if_success revert x5); obtain ⟨x5, rfl⟩ := after_of hb; clear hb; have hz5 := after_size x5; (try (simp only [zYA, zYD, zYC] at hz5)); (try (have f5gA := zY1 gA x5.w.heap.size)); (first | have f50 := zY3 w.heap.size x5.w.heap.size | have f50 := zY2 w.heap.size x5.w.heap.size | have f50 := zY1 w.heap.size x5.w.heap.size | skip); (first | have f51 := zY2 x1.w.heap.size x5.w.heap.size | have f51 := zY1 x1.w.heap.size x5.w.heap.size | skip); (first | have f52 := zY2 x2.w.heap.size x5.w.heap.size | have f52 := zY1 x2.w.heap.size x5.w.heap.size | skip); (first | have f53 := zY2 x3.w.heap.size x5.w.heap.size | have f53 := zY1 x3.w.heap.size x5.w.heap.size | skip); (first | have f54 := zY2 x4.w.heap.size x5.w.heap.size | have f54 := zY1 x4.w.heap.size x5.w.heap.size | skip)))))
      all_goals exact bodyPost_ret (v := .tuple #[.agg #[.int .i64 0, .int .i64 0, .string ⟨#[]⟩], .int .i64 0, .bool false]) (by simp only [results, Tryz.results116]; go_simp) rfl ⟨CGetIs.mk (k := 0) Hg.out rfl, by (repeat (first | exact Below.refl _ _ | assumption | refine bel_alloc ?_ _ | refine bel_after _ ?_ | refine bel_drewN ?_ _ | refine bel_drew ?_ | refine bel_set ?_ (by first | omega | (simp only [zYA, zYD, zYC]; omega) | (simp; omega)) _))⟩
  · cases is
    · have Hg : Hid (cGet bs = (0, 0, ⟨#[]⟩, 0, false)) := by unfold cGet; rw [hst]; simp only; rw [hr]; simp only; rw [if_neg (by simp)]; exact Lib.hid rfl
      have Hrd := Lib.hid hrd; clear hrd hr hst
      go_enter Tryz.func116, Tryz.ntmps116
      go_wp2_with (first | (go_at_call 115; (with_reducible refine (rstget_m v bs _ (Hv.out.alloc _) _ _ _ _ Hst.out).mono ?_); rintro e w' ⟨rfl, hb⟩; (first | ((fail_if_success revert x1); obtain ⟨x1, rfl⟩ := after_of hb; clear hb; have hz1 := after_size x1; (try (simp only [zYA, zYD, zYC] at hz1)); (try (have f1gA := zY1 gA x1.w.heap.size)); (first | have f10 := zY3 w.heap.size x1.w.heap.size | have f10 := zY2 w.heap.size x1.w.heap.size | have f10 := zY1 w.heap.size x1.w.heap.size | skip)) | ((fail_if_success revert x2); obtain ⟨x2, rfl⟩ := after_of hb; clear hb; have hz2 := after_size x2; (try (simp only [zYA, zYD, zYC] at hz2)); (try (have f2gA := zY1 gA x2.w.heap.size)); (first | have f20 := zY3 w.heap.size x2.w.heap.size | have f20 := zY2 w.heap.size x2.w.heap.size | have f20 := zY1 w.heap.size x2.w.heap.size | skip); (first | have f21 := zY2 x1.w.heap.size x2.w.heap.size | have f21 := zY1 x1.w.heap.size x2.w.heap.size | skip)) | ((fail_if_success revert x3); obtain ⟨x3, rfl⟩ := after_of hb; clear hb; have hz3 := after_size x3; (try (simp only [zYA, zYD, zYC] at hz3)); (try (have f3gA := zY1 gA x3.w.heap.size)); (first | have f30 := zY3 w.heap.size x3.w.heap.size | have f30 := zY2 w.heap.size x3.w.heap.size | have f30 := zY1 w.heap.size x3.w.heap.size | skip); (first | have f31 := zY2 x1.w.heap.size x3.w.heap.size | have f31 := zY1 x1.w.heap.size x3.w.heap.size | skip); (first | have f32 := zY2 x2.w.heap.size x3.w.heap.size | have f32 := zY1 x2.w.heap.size x3.w.heap.size | skip)) | ((fail_if_success revert x4); obtain ⟨x4, rfl⟩ := after_of hb; clear hb; have hz4 := after_size x4; (try (simp only [zYA, zYD, zYC] at hz4)); (try (have f4gA := zY1 gA x4.w.heap.size)); (first | have f40 := zY3 w.heap.size x4.w.heap.size | have f40 := zY2 w.heap.size x4.w.heap.size | have f40 := zY1 w.heap.size x4.w.heap.size | skip); (first | have f41 := zY2 x1.w.heap.size x4.w.heap.size | have f41 := zY1 x1.w.heap.size x4.w.heap.size | skip); (first | have f42 := zY2 x2.w.heap.size x4.w.heap.size | have f42 := zY1 x2.w.heap.size x4.w.heap.size | skip); (first | have f43 := zY2 x3.w.heap.size x4.w.heap.size | have f43 := zY1 x3.w.heap.size x4.w.heap.size | skip)) | ((fail_if_success revert x5); obtain ⟨x5, rfl⟩ := after_of hb; clear hb; have hz5 := after_size x5; (try (simp only [zYA, zYD, zYC] at hz5)); (try (have f5gA := zY1 gA x5.w.heap.size)); (first | have f50 := zY3 w.heap.size x5.w.heap.size | have f50 := zY2 w.heap.size x5.w.heap.size | have f50 := zY1 w.heap.size x5.w.heap.size | skip); (first | have f51 := zY2 x1.w.heap.size x5.w.heap.size | have f51 := zY1 x1.w.heap.size x5.w.heap.size | skip); (first | have f52 := zY2 x2.w.heap.size x5.w.heap.size | have f52 := zY1 x2.w.heap.size x5.w.heap.size | skip); (first | have f53 := zY2 x3.w.heap.size x5.w.heap.size | have f53 := zY1 x3.w.heap.size x5.w.heap.size | skip); (first | have f54 := zY2 x4.w.heap.size x5.w.heap.size | have f54 := zY1 x4.w.heap.size x5.w.heap.size | skip)))) | (go_at_call 140; refine (rread_200 Hrd.out _ (Hv'.out.below (by (repeat (first | exact Below.refl _ _ | assumption | refine bel_alloc ?_ _ | refine bel_after _ ?_ | refine bel_drewN ?_ _ | refine bel_drew ?_ | refine bel_set ?_ (by first | omega | (simp only [zYA, zYD, zYC]; omega) | (simp; omega)) _))))).mono ?_; rintro e w' ⟨rfl, hb⟩; (first | ((fail_if_success revert x1); obtain ⟨x1, rfl⟩ := after_of hb; clear hb; have hz1 := after_size x1; (try (simp only [zYA, zYD, zYC] at hz1)); (try (have f1gA := zY1 gA x1.w.heap.size)); (first | have f10 := zY3 w.heap.size x1.w.heap.size | have f10 := zY2 w.heap.size x1.w.heap.size | have f10 := zY1 w.heap.size x1.w.heap.size | skip)) | ((fail_if_success revert x2); obtain ⟨x2, rfl⟩ := after_of hb; clear hb; have hz2 := after_size x2; (try (simp only [zYA, zYD, zYC] at hz2)); (try (have f2gA := zY1 gA x2.w.heap.size)); (first | have f20 := zY3 w.heap.size x2.w.heap.size | have f20 := zY2 w.heap.size x2.w.heap.size | have f20 := zY1 w.heap.size x2.w.heap.size | skip); (first | have f21 := zY2 x1.w.heap.size x2.w.heap.size | have f21 := zY1 x1.w.heap.size x2.w.heap.size | skip)) | ((fail_if_success revert x3); obtain ⟨x3, rfl⟩ := after_of hb; clear hb; have hz3 := after_size x3; (try (simp only [zYA, zYD, zYC] at hz3)); (try (have f3gA := zY1 gA x3.w.heap.size)); (first | have f30 := zY3 w.heap.size x3.w.heap.size | have f30 := zY2 w.heap.size x3.w.heap.size | have f30 := zY1 w.heap.size x3.w.heap.size | skip); (first | have f31 := zY2 x1.w.heap.size x3.w.heap.size | have f31 := zY1 x1.w.heap.size x3.w.heap.size | skip); (first | have f32 := zY2 x2.w.heap.size x3.w.heap.size | have f32 := zY1 x2.w.heap.size x3.w.heap.size | skip)) | ((fail_if_success revert x4); obtain ⟨x4, rfl⟩ := after_of hb; clear hb; have hz4 := after_size x4; (try (simp only [zYA, zYD, zYC] at hz4)); (try (have f4gA := zY1 gA x4.w.heap.size)); (first | have f40 := zY3 w.heap.size x4.w.heap.size | have f40 := zY2 w.heap.size x4.w.heap.size | have f40 := zY1 w.heap.size x4.w.heap.size | skip); (first | have f41 := zY2 x1.w.heap.size x4.w.heap.size | have f41 := zY1 x1.w.heap.size x4.w.heap.size | skip); (first | have f42 := zY2 x2.w.heap.size x4.w.heap.size | have f42 := zY1 x2.w.heap.size x4.w.heap.size | skip); (first | have f43 := zY2 x3.w.heap.size x4.w.heap.size | have f43 := zY1 x3.w.heap.size x4.w.heap.size | skip)) | ((fail_if_success revert x5); obtain ⟨x5, rfl⟩ := after_of hb; clear hb; have hz5 := after_size x5; (try (simp only [zYA, zYD, zYC] at hz5)); (try (have f5gA := zY1 gA x5.w.heap.size)); (first | have f50 := zY3 w.heap.size x5.w.heap.size | have f50 := zY2 w.heap.size x5.w.heap.size | have f50 := zY1 w.heap.size x5.w.heap.size | skip); (first | have f51 := zY2 x1.w.heap.size x5.w.heap.size | have f51 := zY1 x1.w.heap.size x5.w.heap.size | skip); (first | have f52 := zY2 x2.w.heap.size x5.w.heap.size | have f52 := zY1 x2.w.heap.size x5.w.heap.size | skip); (first | have f53 := zY2 x3.w.heap.size x5.w.heap.size | have f53 := zY1 x3.w.heap.size x5.w.heap.size | skip); (first | have f54 := zY2 x4.w.heap.size x5.w.heap.size | have f54 := zY1 x4.w.heap.size x5.w.heap.size | skip)))))
      all_goals exact bodyPost_ret (v := .tuple #[.agg #[.int .i64 0, .int .i64 0, .string ⟨#[]⟩], .int .i64 0, .bool false]) (by simp only [results, Tryz.results116]; go_simp) rfl ⟨CGetIs.mk (k := 0) Hg.out rfl, by (repeat (first | exact Below.refl _ _ | assumption | refine bel_alloc ?_ _ | refine bel_after _ ?_ | refine bel_drewN ?_ _ | refine bel_drew ?_ | refine bel_set ?_ (by first | omega | (simp only [zYA, zYD, zYC]; omega) | (simp; omega)) _))⟩
    · cases hmay : cMay N R s
      · have Hg : Hid (cGet bs = (0, 0, ⟨#[]⟩, 0, false)) := by unfold cGet; rw [hst]; simp only; rw [hr]; simp only; rw [if_neg (by rw [hmay]; simp)]; exact Lib.hid rfl
        have Hrd := Lib.hid hrd; have Hmay := Lib.hid hmay; clear hrd hr hst hmay
        go_enter Tryz.func116, Tryz.ntmps116
        go_wp2_with (first | (go_at_call 115; (with_reducible refine (rstget_m v bs _ (Hv.out.alloc _) _ _ _ _ Hst.out).mono ?_); rintro e w' ⟨rfl, hb⟩; (first | ((fail_if_success revert x1); obtain ⟨x1, rfl⟩ := after_of hb; clear hb; have hz1 := after_size x1; (try (simp only [zYA, zYD, zYC] at hz1)); (try (have f1gA := zY1 gA x1.w.heap.size)); (first | have f10 := zY3 w.heap.size x1.w.heap.size | have f10 := zY2 w.heap.size x1.w.heap.size | have f10 := zY1 w.heap.size x1.w.heap.size | skip)) | ((fail_if_success revert x2); obtain ⟨x2, rfl⟩ := after_of hb; clear hb; have hz2 := after_size x2; (try (simp only [zYA, zYD, zYC] at hz2)); (try (have f2gA := zY1 gA x2.w.heap.size)); (first | have f20 := zY3 w.heap.size x2.w.heap.size | have f20 := zY2 w.heap.size x2.w.heap.size | have f20 := zY1 w.heap.size x2.w.heap.size | skip); (first | have f21 := zY2 x1.w.heap.size x2.w.heap.size | have f21 := zY1 x1.w.heap.size x2.w.heap.size | skip)) | ((fail_if_success revert x3); obtain ⟨x3, rfl⟩ := after_of hb; clear hb; have hz3 := after_size x3; (try (simp only [zYA, zYD, zYC] at hz3)); (try (have f3gA := zY1 gA x3.w.heap.size)); (first | have f30 := zY3 w.heap.size x3.w.heap.size | have f30 := zY2 w.heap.size x3.w.heap.size | have f30 := zY1 w.heap.size x3.w.heap.size | skip); (first | have f31 := zY2 x1.w.heap.size x3.w.heap.size | have f31 := zY1 x1.w.heap.size x3.w.heap.size | skip); (first | have f32 := zY2 x2.w.heap.size x3.w.heap.size | have f32 := zY1 x2.w.heap.size x3.w.heap.size | skip)) | ((fail_if_success revert x4); obtain ⟨x4, rfl⟩ := after_of hb; clear hb; have hz4 := after_size x4; (try (simp only [zYA, zYD, zYC] at hz4)); (try (have f4gA := zY1 gA x4.w.heap.size)); (first | have f40 := zY3 w.heap.size x4.w.heap.size | have f40 := zY2 w.heap.size x4.w.heap.size | have f40 := zY1 w.heap.size x4.w.heap.size | skip); (first | have f41 := zY2 x1.w.heap.size x4.w.heap.size | have f41 := zY1 x1.w.heap.size x4.w.heap.size | skip); (first | have f42 := zY2 x2.w.heap.size x4.w.heap.size | have f42 := zY1 x2.w.heap.size x4.w.heap.size | skip); (first | have f43 := zY2 x3.w.heap.size x4.w.heap.size | have f43 := zY1 x3.w.heap.size x4.w.heap.size | skip)) | ((fail_if_success revert x5); obtain ⟨x5, rfl⟩ := after_of hb; clear hb; have hz5 := after_size x5; (try (simp only [zYA, zYD, zYC] at hz5)); (try (have f5gA := zY1 gA x5.w.heap.size)); (first | have f50 := zY3 w.heap.size x5.w.heap.size | have f50 := zY2 w.heap.size x5.w.heap.size | have f50 := zY1 w.heap.size x5.w.heap.size | skip); (first | have f51 := zY2 x1.w.heap.size x5.w.heap.size | have f51 := zY1 x1.w.heap.size x5.w.heap.size | skip); (first | have f52 := zY2 x2.w.heap.size x5.w.heap.size | have f52 := zY1 x2.w.heap.size x5.w.heap.size | skip); (first | have f53 := zY2 x3.w.heap.size x5.w.heap.size | have f53 := zY1 x3.w.heap.size x5.w.heap.size | skip); (first | have f54 := zY2 x4.w.heap.size x5.w.heap.size | have f54 := zY1 x4.w.heap.size x5.w.heap.size | skip)))) | (go_at_call 140; refine (rread_200 Hrd.out _ (Hv'.out.below (by (repeat (first | exact Below.refl _ _ | assumption | refine bel_alloc ?_ _ | refine bel_after _ ?_ | refine bel_drewN ?_ _ | refine bel_drew ?_ | refine bel_set ?_ (by first | omega | (simp only [zYA, zYD, zYC]; omega) | (simp; omega)) _))))).mono ?_; rintro e w' ⟨rfl, hb⟩; (first | ((fail_if_success revert x1); obtain ⟨x1, rfl⟩ := after_of hb; clear hb; have hz1 := after_size x1; (try (simp only [zYA, zYD, zYC] at hz1)); (try (have f1gA := zY1 gA x1.w.heap.size)); (first | have f10 := zY3 w.heap.size x1.w.heap.size | have f10 := zY2 w.heap.size x1.w.heap.size | have f10 := zY1 w.heap.size x1.w.heap.size | skip)) | ((fail_if_success revert x2); obtain ⟨x2, rfl⟩ := after_of hb; clear hb; have hz2 := after_size x2; (try (simp only [zYA, zYD, zYC] at hz2)); (try (have f2gA := zY1 gA x2.w.heap.size)); (first | have f20 := zY3 w.heap.size x2.w.heap.size | have f20 := zY2 w.heap.size x2.w.heap.size | have f20 := zY1 w.heap.size x2.w.heap.size | skip); (first | have f21 := zY2 x1.w.heap.size x2.w.heap.size | have f21 := zY1 x1.w.heap.size x2.w.heap.size | skip)) | ((fail_if_success revert x3); obtain ⟨x3, rfl⟩ := after_of hb; clear hb; have hz3 := after_size x3; (try (simp only [zYA, zYD, zYC] at hz3)); (try (have f3gA := zY1 gA x3.w.heap.size)); (first | have f30 := zY3 w.heap.size x3.w.heap.size | have f30 := zY2 w.heap.size x3.w.heap.size | have f30 := zY1 w.heap.size x3.w.heap.size | skip); (first | have f31 := zY2 x1.w.heap.size x3.w.heap.size | have f31 := zY1 x1.w.heap.size x3.w.heap.size | skip); (first | have f32 := zY2 x2.w.heap.size x3.w.heap.size | have f32 := zY1 x2.w.heap.size x3.w.heap.size | skip)) | ((fail_if_success revert x4); obtain ⟨x4, rfl⟩ := after_of hb; clear hb; have hz4 := after_size x4; (try (simp only [zYA, zYD, zYC] at hz4)); (try (have f4gA := zY1 gA x4.w.heap.size)); (first | have f40 := zY3 w.heap.size x4.w.heap.size | have f40 := zY2 w.heap.size x4.w.heap.size | have f40 := zY1 w.heap.size x4.w.heap.size | skip); (first | have f41 := zY2 x1.w.heap.size x4.w.heap.size | have f41 := zY1 x1.w.heap.size x4.w.heap.size | skip); (first | have f42 := zY2 x2.w.heap.size x4.w.heap.size | have f42 := zY1 x2.w.heap.size x4.w.heap.size | skip); (first | have f43 := zY2 x3.w.heap.size x4.w.heap.size | have f43 := zY1 x3.w.heap.size x4.w.heap.size | skip)) | ((fail_if_success revert x5); obtain ⟨x5, rfl⟩ := after_of hb; clear hb; have hz5 := after_size x5; (try (simp only [zYA, zYD, zYC] at hz5)); (try (have f5gA := zY1 gA x5.w.heap.size)); (first | have f50 := zY3 w.heap.size x5.w.heap.size | have f50 := zY2 w.heap.size x5.w.heap.size | have f50 := zY1 w.heap.size x5.w.heap.size | skip); (first | have f51 := zY2 x1.w.heap.size x5.w.heap.size | have f51 := zY1 x1.w.heap.size x5.w.heap.size | skip); (first | have f52 := zY2 x2.w.heap.size x5.w.heap.size | have f52 := zY1 x2.w.heap.size x5.w.heap.size | skip); (first | have f53 := zY2 x3.w.heap.size x5.w.heap.size | have f53 := zY1 x3.w.heap.size x5.w.heap.size | skip); (first | have f54 := zY2 x4.w.heap.size x5.w.heap.size | have f54 := zY1 x4.w.heap.size x5.w.heap.size | skip)))) | (go_at_call 94; (with_reducible refine (rcmay_v Hmay.out _).mono ?_); rintro e w' ⟨rfl, hb⟩; (first | ((fail_if_success revert x1); obtain ⟨x1, rfl⟩ := after_of hb; clear hb; have hz1 := after_size x1; (try (simp only [zYA, zYD, zYC] at hz1)); (try (have f1gA := zY1 gA x1.w.heap.size)); (first | have f10 := zY3 w.heap.size x1.w.heap.size | have f10 := zY2 w.heap.size x1.w.heap.size | have f10 := zY1 w.heap.size x1.w.heap.size | skip)) | ((fail_if_success revert x2); obtain ⟨x2, rfl⟩ := after_of hb; clear hb; have hz2 := after_size x2; (try (simp only [zYA, zYD, zYC] at hz2)); (try (have f2gA := zY1 gA x2.w.heap.size)); (first | have f20 := zY3 w.heap.size x2.w.heap.size | have f20 := zY2 w.heap.size x2.w.heap.size | have f20 := zY1 w.heap.size x2.w.heap.size | skip); (first | have f21 := zY2 x1.w.heap.size x2.w.heap.size | have f21 := zY1 x1.w.heap.size x2.w.heap.size | skip)) | ((fail_if_success revert x3); obtain ⟨x3, rfl⟩ := after_of hb; clear hb; have hz3 := after_size x3; (try (simp only [zYA, zYD, zYC] at hz3)); (try (have f3gA := zY1 gA x3.w.heap.size)); (first | have f30 := zY3 w.heap.size x3.w.heap.size | have f30 := zY2 w.heap.size x3.w.heap.size | have f30 := zY1 w.heap.size x3.w.heap.size | skip); (first | have f31 := zY2 x1.w.heap.size x3.w.heap.size | have f31 := zY1 x1.w.heap.size x3.w.heap.size | skip); (first | have f32 := zY2 x2.w.heap.size x3.w.heap.size | have f32 := zY1 x2.w.heap.size x3.w.heap.size | skip)) | ((fail_if_success revert x4); obtain ⟨x4, rfl⟩ := after_of hb; clear hb; have hz4 := after_size x4; (try (simp only [zYA, zYD, zYC] at hz4)); (try (have f4gA := zY1 gA x4.w.heap.size)); (first | have f40 := zY3 w.heap.size x4.w.heap.size | have f40 := zY2 w.heap.size x4.w.heap.size | have f40 := zY1 w.heap.size x4.w.heap.size | skip); (first | have f41 := zY2 x1.w.heap.size x4.w.heap.size | have f41 := zY1 x1.w.heap.size x4.w.heap.size | skip); (first | have f42 := zY2 x2.w.heap.size x4.w.heap.size | have f42 := zY1 x2.w.heap.size x4.w.heap.size | skip); (first | have f43 := zY2 x3.w.heap.size x4.w.heap.size | have f43 := zY1 x3.w.heap.size x4.w.heap.size | skip)) | ((fail_if_success revert x5); obtain ⟨x5, rfl⟩ := after_of hb; clear hb; have hz5 := after_size x5; (try (simp only [zYA, zYD, zYC] at hz5)); (try (have f5gA := zY1 gA x5.w.heap.size)); (first | have f50 := zY3 w.heap.size x5.w.heap.size | have f50 := zY2 w.heap.size x5.w.heap.size | have f50 := zY1 w.heap.size x5.w.heap.size | skip); (first | have f51 := zY2 x1.w.heap.size x5.w.heap.size | have f51 := zY1 x1.w.heap.size x5.w.heap.size | skip); (first | have f52 := zY2 x2.w.heap.size x5.w.heap.size | have f52 := zY1 x2.w.heap.size x5.w.heap.size | skip); (first | have f53 := zY2 x3.w.heap.size x5.w.heap.size | have f53 := zY1 x3.w.heap.size x5.w.heap.size | skip); (first | have f54 := zY2 x4.w.heap.size x5.w.heap.size | have f54 := zY1 x4.w.heap.size x5.w.heap.size | skip)))))
        all_goals exact bodyPost_ret (v := .tuple #[.agg #[.int .i64 0, .int .i64 0, .string ⟨#[]⟩], .int .i64 0, .bool false]) (by simp only [results, Tryz.results116]; go_simp) rfl ⟨CGetIs.mk (k := 0) Hg.out rfl, by (repeat (first | exact Below.refl _ _ | assumption | refine bel_alloc ?_ _ | refine bel_after _ ?_ | refine bel_drewN ?_ _ | refine bel_drew ?_ | refine bel_set ?_ (by first | omega | (simp only [zYA, zYD, zYC]; omega) | (simp; omega)) _))⟩
      · have Hg : Hid (cGet bs = (N, R, s, u + m, true)) := by unfold cGet; rw [hst]; simp only; rw [hr]; simp only; rw [if_pos (by simp [hmay])]; exact Lib.hid rfl
        have Hum : Hid (u + m ≤ 1000000) := by have h1 := stGet_ten bs; rw [hst] at h1; have h2 := readR_le hr; exact Lib.hid (by simp only at h1; omega)
        have hum := Hum.out
        have Hrd := Lib.hid hrd; have Hmay := Lib.hid hmay; clear hrd hr hst hmay
        go_enter Tryz.func116, Tryz.ntmps116
        go_wp2_with (first | (go_at_call 115; (with_reducible refine (rstget_m v bs _ (Hv.out.alloc _) _ _ _ _ Hst.out).mono ?_); rintro e w' ⟨rfl, hb⟩; (first | ((fail_if_success revert x1); obtain ⟨x1, rfl⟩ := after_of hb; clear hb; have hz1 := after_size x1; (try (simp only [zYA, zYD, zYC] at hz1)); (try (have f1gA := zY1 gA x1.w.heap.size)); (first | have f10 := zY3 w.heap.size x1.w.heap.size | have f10 := zY2 w.heap.size x1.w.heap.size | have f10 := zY1 w.heap.size x1.w.heap.size | skip)) | ((fail_if_success revert x2); obtain ⟨x2, rfl⟩ := after_of hb; clear hb; have hz2 := after_size x2; (try (simp only [zYA, zYD, zYC] at hz2)); (try (have f2gA := zY1 gA x2.w.heap.size)); (first | have f20 := zY3 w.heap.size x2.w.heap.size | have f20 := zY2 w.heap.size x2.w.heap.size | have f20 := zY1 w.heap.size x2.w.heap.size | skip); (first | have f21 := zY2 x1.w.heap.size x2.w.heap.size | have f21 := zY1 x1.w.heap.size x2.w.heap.size | skip)) | ((fail_if_success revert x3); obtain ⟨x3, rfl⟩ := after_of hb; clear hb; have hz3 := after_size x3; (try (simp only [zYA, zYD, zYC] at hz3)); (try (have f3gA := zY1 gA x3.w.heap.size)); (first | have f30 := zY3 w.heap.size x3.w.heap.size | have f30 := zY2 w.heap.size x3.w.heap.size | have f30 := zY1 w.heap.size x3.w.heap.size | skip); (first | have f31 := zY2 x1.w.heap.size x3.w.heap.size | have f31 := zY1 x1.w.heap.size x3.w.heap.size | skip); (first | have f32 := zY2 x2.w.heap.size x3.w.heap.size | have f32 := zY1 x2.w.heap.size x3.w.heap.size | skip)) | ((fail_if_success revert x4); obtain ⟨x4, rfl⟩ := after_of hb; clear hb; have hz4 := after_size x4; (try (simp only [zYA, zYD, zYC] at hz4)); (try (have f4gA := zY1 gA x4.w.heap.size)); (first | have f40 := zY3 w.heap.size x4.w.heap.size | have f40 := zY2 w.heap.size x4.w.heap.size | have f40 := zY1 w.heap.size x4.w.heap.size | skip); (first | have f41 := zY2 x1.w.heap.size x4.w.heap.size | have f41 := zY1 x1.w.heap.size x4.w.heap.size | skip); (first | have f42 := zY2 x2.w.heap.size x4.w.heap.size | have f42 := zY1 x2.w.heap.size x4.w.heap.size | skip); (first | have f43 := zY2 x3.w.heap.size x4.w.heap.size | have f43 := zY1 x3.w.heap.size x4.w.heap.size | skip)) | ((fail_if_success revert x5); obtain ⟨x5, rfl⟩ := after_of hb; clear hb; have hz5 := after_size x5; (try (simp only [zYA, zYD, zYC] at hz5)); (try (have f5gA := zY1 gA x5.w.heap.size)); (first | have f50 := zY3 w.heap.size x5.w.heap.size | have f50 := zY2 w.heap.size x5.w.heap.size | have f50 := zY1 w.heap.size x5.w.heap.size | skip); (first | have f51 := zY2 x1.w.heap.size x5.w.heap.size | have f51 := zY1 x1.w.heap.size x5.w.heap.size | skip); (first | have f52 := zY2 x2.w.heap.size x5.w.heap.size | have f52 := zY1 x2.w.heap.size x5.w.heap.size | skip); (first | have f53 := zY2 x3.w.heap.size x5.w.heap.size | have f53 := zY1 x3.w.heap.size x5.w.heap.size | skip); (first | have f54 := zY2 x4.w.heap.size x5.w.heap.size | have f54 := zY1 x4.w.heap.size x5.w.heap.size | skip)))) | (go_at_call 140; refine (rread_200 Hrd.out _ (Hv'.out.below (by (repeat (first | exact Below.refl _ _ | assumption | refine bel_alloc ?_ _ | refine bel_after _ ?_ | refine bel_drewN ?_ _ | refine bel_drew ?_ | refine bel_set ?_ (by first | omega | (simp only [zYA, zYD, zYC]; omega) | (simp; omega)) _))))).mono ?_; rintro e w' ⟨rfl, hb⟩; (first | ((fail_if_success revert x1); obtain ⟨x1, rfl⟩ := after_of hb; clear hb; have hz1 := after_size x1; (try (simp only [zYA, zYD, zYC] at hz1)); (try (have f1gA := zY1 gA x1.w.heap.size)); (first | have f10 := zY3 w.heap.size x1.w.heap.size | have f10 := zY2 w.heap.size x1.w.heap.size | have f10 := zY1 w.heap.size x1.w.heap.size | skip)) | ((fail_if_success revert x2); obtain ⟨x2, rfl⟩ := after_of hb; clear hb; have hz2 := after_size x2; (try (simp only [zYA, zYD, zYC] at hz2)); (try (have f2gA := zY1 gA x2.w.heap.size)); (first | have f20 := zY3 w.heap.size x2.w.heap.size | have f20 := zY2 w.heap.size x2.w.heap.size | have f20 := zY1 w.heap.size x2.w.heap.size | skip); (first | have f21 := zY2 x1.w.heap.size x2.w.heap.size | have f21 := zY1 x1.w.heap.size x2.w.heap.size | skip)) | ((fail_if_success revert x3); obtain ⟨x3, rfl⟩ := after_of hb; clear hb; have hz3 := after_size x3; (try (simp only [zYA, zYD, zYC] at hz3)); (try (have f3gA := zY1 gA x3.w.heap.size)); (first | have f30 := zY3 w.heap.size x3.w.heap.size | have f30 := zY2 w.heap.size x3.w.heap.size | have f30 := zY1 w.heap.size x3.w.heap.size | skip); (first | have f31 := zY2 x1.w.heap.size x3.w.heap.size | have f31 := zY1 x1.w.heap.size x3.w.heap.size | skip); (first | have f32 := zY2 x2.w.heap.size x3.w.heap.size | have f32 := zY1 x2.w.heap.size x3.w.heap.size | skip)) | ((fail_if_success revert x4); obtain ⟨x4, rfl⟩ := after_of hb; clear hb; have hz4 := after_size x4; (try (simp only [zYA, zYD, zYC] at hz4)); (try (have f4gA := zY1 gA x4.w.heap.size)); (first | have f40 := zY3 w.heap.size x4.w.heap.size | have f40 := zY2 w.heap.size x4.w.heap.size | have f40 := zY1 w.heap.size x4.w.heap.size | skip); (first | have f41 := zY2 x1.w.heap.size x4.w.heap.size | have f41 := zY1 x1.w.heap.size x4.w.heap.size | skip); (first | have f42 := zY2 x2.w.heap.size x4.w.heap.size | have f42 := zY1 x2.w.heap.size x4.w.heap.size | skip); (first | have f43 := zY2 x3.w.heap.size x4.w.heap.size | have f43 := zY1 x3.w.heap.size x4.w.heap.size | skip)) | ((fail_if_success revert x5); obtain ⟨x5, rfl⟩ := after_of hb; clear hb; have hz5 := after_size x5; (try (simp only [zYA, zYD, zYC] at hz5)); (try (have f5gA := zY1 gA x5.w.heap.size)); (first | have f50 := zY3 w.heap.size x5.w.heap.size | have f50 := zY2 w.heap.size x5.w.heap.size | have f50 := zY1 w.heap.size x5.w.heap.size | skip); (first | have f51 := zY2 x1.w.heap.size x5.w.heap.size | have f51 := zY1 x1.w.heap.size x5.w.heap.size | skip); (first | have f52 := zY2 x2.w.heap.size x5.w.heap.size | have f52 := zY1 x2.w.heap.size x5.w.heap.size | skip); (first | have f53 := zY2 x3.w.heap.size x5.w.heap.size | have f53 := zY1 x3.w.heap.size x5.w.heap.size | skip); (first | have f54 := zY2 x4.w.heap.size x5.w.heap.size | have f54 := zY1 x4.w.heap.size x5.w.heap.size | skip)))) | (go_at_call 94; (with_reducible refine (rcmay_v Hmay.out _).mono ?_); rintro e w' ⟨rfl, hb⟩; (first | ((fail_if_success revert x1); obtain ⟨x1, rfl⟩ := after_of hb; clear hb; have hz1 := after_size x1; (try (simp only [zYA, zYD, zYC] at hz1)); (try (have f1gA := zY1 gA x1.w.heap.size)); (first | have f10 := zY3 w.heap.size x1.w.heap.size | have f10 := zY2 w.heap.size x1.w.heap.size | have f10 := zY1 w.heap.size x1.w.heap.size | skip)) | ((fail_if_success revert x2); obtain ⟨x2, rfl⟩ := after_of hb; clear hb; have hz2 := after_size x2; (try (simp only [zYA, zYD, zYC] at hz2)); (try (have f2gA := zY1 gA x2.w.heap.size)); (first | have f20 := zY3 w.heap.size x2.w.heap.size | have f20 := zY2 w.heap.size x2.w.heap.size | have f20 := zY1 w.heap.size x2.w.heap.size | skip); (first | have f21 := zY2 x1.w.heap.size x2.w.heap.size | have f21 := zY1 x1.w.heap.size x2.w.heap.size | skip)) | ((fail_if_success revert x3); obtain ⟨x3, rfl⟩ := after_of hb; clear hb; have hz3 := after_size x3; (try (simp only [zYA, zYD, zYC] at hz3)); (try (have f3gA := zY1 gA x3.w.heap.size)); (first | have f30 := zY3 w.heap.size x3.w.heap.size | have f30 := zY2 w.heap.size x3.w.heap.size | have f30 := zY1 w.heap.size x3.w.heap.size | skip); (first | have f31 := zY2 x1.w.heap.size x3.w.heap.size | have f31 := zY1 x1.w.heap.size x3.w.heap.size | skip); (first | have f32 := zY2 x2.w.heap.size x3.w.heap.size | have f32 := zY1 x2.w.heap.size x3.w.heap.size | skip)) | ((fail_if_success revert x4); obtain ⟨x4, rfl⟩ := after_of hb; clear hb; have hz4 := after_size x4; (try (simp only [zYA, zYD, zYC] at hz4)); (try (have f4gA := zY1 gA x4.w.heap.size)); (first | have f40 := zY3 w.heap.size x4.w.heap.size | have f40 := zY2 w.heap.size x4.w.heap.size | have f40 := zY1 w.heap.size x4.w.heap.size | skip); (first | have f41 := zY2 x1.w.heap.size x4.w.heap.size | have f41 := zY1 x1.w.heap.size x4.w.heap.size | skip); (first | have f42 := zY2 x2.w.heap.size x4.w.heap.size | have f42 := zY1 x2.w.heap.size x4.w.heap.size | skip); (first | have f43 := zY2 x3.w.heap.size x4.w.heap.size | have f43 := zY1 x3.w.heap.size x4.w.heap.size | skip)) | ((fail_if_success revert x5); obtain ⟨x5, rfl⟩ := after_of hb; clear hb; have hz5 := after_size x5; (try (simp only [zYA, zYD, zYC] at hz5)); (try (have f5gA := zY1 gA x5.w.heap.size)); (first | have f50 := zY3 w.heap.size x5.w.heap.size | have f50 := zY2 w.heap.size x5.w.heap.size | have f50 := zY1 w.heap.size x5.w.heap.size | skip); (first | have f51 := zY2 x1.w.heap.size x5.w.heap.size | have f51 := zY1 x1.w.heap.size x5.w.heap.size | skip); (first | have f52 := zY2 x2.w.heap.size x5.w.heap.size | have f52 := zY1 x2.w.heap.size x5.w.heap.size | skip); (first | have f53 := zY2 x3.w.heap.size x5.w.heap.size | have f53 := zY1 x3.w.heap.size x5.w.heap.size | skip); (first | have f54 := zY2 x4.w.heap.size x5.w.heap.size | have f54 := zY1 x4.w.heap.size x5.w.heap.size | skip)))))
        all_goals exact bodyPost_ret (v := .tuple #[.agg #[.int .i64 N, .int .i64 R, .string s], .int .i64 ((u : Int) + (m : Int)), .bool true]) (by simp only [results, Tryz.results116]; go_simp) rfl ⟨CGetIs.mk Hg.out (by simp), by (repeat (first | exact Below.refl _ _ | assumption | refine bel_alloc ?_ _ | refine bel_after _ ?_ | refine bel_drewN ?_ _ | refine bel_drew ?_ | refine bel_set ?_ (by first | omega | (simp only [zYA, zYD, zYC]; omega) | (simp; omega)) _))⟩
end Go.Proofs.YtolbmemogoojhaaGreat
