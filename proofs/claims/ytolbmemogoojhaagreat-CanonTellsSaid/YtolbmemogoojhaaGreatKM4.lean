/- Stamps: contracts with their values as equations; bytes of stamps; no program beyond the stamp's. -/
import Derived.Test.YtolbmemogoojhaaGreatKM3
import Derived.Stop.BytesEq
import Derived.Lib.Bytealg
import Derived.Lib.BytesEntry
import Derived.Laws.Externs
namespace Go.Proofs.YtolbmemogoojhaaGreat
open Go Go.RowKit Go.Deep
set_option linter.unusedVariables false
set_option linter.unusedSimpArgs false

def mxN (N R N' R' : Int) : Int := bif stLess N R N' R' then N' else N
def mxR (N R N' R' : Int) : Int := bif stLess N R N' R' then R' else R
theorem max_m (N R N' R' : Int) (w : World) : Calls Tryz.prog 87 #[.agg #[.int .i64 N, .int .i64 R], .agg #[.int .i64 N', .int .i64 R']] w fun e w' =>
    e = .returned (.agg #[.int .i64 (mxN N R N' R'), .int .i64 (mxR N R N' R')]) ∧ Below w.heap.size w w' :=
  (max_c N R N' R' w).mono fun e w' ⟨he, hb⟩ => ⟨by rw [he]; unfold mxN mxR; cases stLess N R N' R' <;> rfl, hb⟩
theorem next_m (N R rep a b c : Int) (h : stNext N R rep = (a, b, c)) (w : World) : Calls Tryz.prog 101 #[.agg #[.int .i64 N, .int .i64 R], .int .i64 rep] w fun e w' =>
    e = .returned (.tuple #[.agg #[.int .i64 a, .int .i64 b], .int .i64 c]) ∧ Below w.heap.size w w' :=
  (next_c N R rep w).mono fun e w' h1 => by unfold NextIs at h1; rw [h] at h1; exact h1
theorem stget_m (v : Value) (bs : List UInt8) (w : World) (hv : Byt w v bs) (a b : Int) (u : Nat) (d : Bool) (h : stGet bs = (a, b, u, d)) : Calls Tryz.prog 113 #[v] w fun e w' =>
    e = .returned (.tuple #[.agg #[.int .i64 a, .int .i64 b], .int .i64 (u : Int), .bool d]) ∧ Below w.heap.size w w' :=
  (stget_c v bs w hv).mono fun e w' ⟨he, hb⟩ => ⟨by rw [he]; unfold StGetIs; rw [h], hb⟩
theorem less_v {N R N' R' : Int} {b : Bool} (h : stLess N R N' R' = b) (w : World) : Calls Tryz.prog 98 #[.agg #[.int .i64 N, .int .i64 R], .agg #[.int .i64 N', .int .i64 R']] w fun e w' => e = .returned (.bool b) ∧ Below w.heap.size w w' := by
  rw [← h]; exact less_c N R N' R' w
theorem may_v {N R : Int} {b : Bool} (h : stMay N R = b) (w : World) : Calls Tryz.prog 96 #[.agg #[.int .i64 N, .int .i64 R]] w fun e w' => e = .returned (.bool b) ∧ Below w.heap.size w w' := by
  rw [← h]; exact may_c N R w
theorem stput_v {N R : Int} {b : Bool} {bs : List UInt8} (h : stMay N R = b) (h' : stBytes N R = bs) (w : World) : Calls Tryz.prog 71 #[.agg #[.int .i64 N, .int .i64 R]] w fun e w' =>
    ∃ v, e = .returned (.tuple #[v, .bool b]) ∧ OwnU w.heap.size w' 5 v bs ∧ Below w.heap.size w w' := by
  subst h h'; exact stput_c N R w
theorem st_back1 {N R : Int} (h : stMay N R = true) (x : List UInt8) : stGet (stBytes N R ++ x) = (N, R, (stBytes N R).length, true) := by
  have hb := stMay_le h
  have e : stBytes N R = putL (8 * N + R).toNat := by unfold stBytes; rw [if_pos h]
  rw [e]
  have h1 : ((8 * N + R).toNat : Int) / 8 = N := by omega
  have h2 : ((8 * N + R).toNat : Int) % 8 = R := by omega
  have := stGet_yes (getR_put (8 * N + R).toNat x (by omega)) (by rw [h1, h2]; exact h)
  rw [h1, h2] at this
  exact this
theorem st_back2 (x : List UInt8) : stGet x = (0, 0, 0, false) ∨ ∃ s1 s2 u, stGet x = (s1, s2, u, true) ∧ stMay s1 s2 = true ∧ 0 < u ∧ u ≤ x.length ∧ stBytes s1 s2 = x.take u := by
  cases hg : getR x with
  | none => exact .inl (stGet_none hg)
  | some r =>
    obtain ⟨n, u⟩ := r
    obtain ⟨h1, h2, h3, _, h5⟩ := getR_some hg
    cases hm : stMay ((n : Int) / 8) ((n : Int) % 8) with
    | false => exact .inl (stGet_no hg hm)
    | true =>
      refine .inr ⟨_, _, u, stGet_yes hg hm, hm, h2, h3, ?_⟩
      unfold stBytes; rw [if_pos hm, show (8 * ((n : Int) / 8) + (n : Int) % 8).toNat = n by omega]; exact h5
theorem stBytes_le {N R : Int} (h : stMay N R = true) : (stBytes N R).length ≤ 10 := by
  have hb := stMay_le h
  have e : stBytes N R = putL (8 * N + R).toNat := by unfold stBytes; rw [if_pos h]
  rw [e]; exact (putL_le _ (by omega)).2
end Go.Proofs.YtolbmemogoojhaaGreat
/- Words of 32 bits: turning them, the first state, the roots. -/
namespace Go.Proofs.YtolbmemogoojhaaGreat
open Go Go.RowKit Go.Deep
set_option linter.unusedVariables false
set_option linter.unusedSimpArgs false
set_option maxRecDepth 100000

/-- A word turned to the right. -/
def rr (x : Int) (n : Nat) : Int := bits BinOp.or IntKind.u32 (x * 2 ^ (32 - n) % 4294967296) (x / 2 ^ (32 - (32 - n)))
theorem andneg_all : ∀ n : Fin 32, 1 ≤ n.val → bits BinOp.and IntKind.u64 (IntKind.u64.wrap (-(n.val : Int))) 31 = ((32 - n.val : Nat) : Int) := by decide +kernel
set_option maxHeartbeats 800000 in
theorem rotl_c (x : Int) (n : Nat) (h1 : 1 ≤ n) (h2 : n < 32) (w : World) : Calls Tryz.prog 149 #[.int .u32 x, .int .i64 (-(n : Int))] w fun e w' => e = .returned (.int .u32 (rr x n)) ∧ w = w' := by
  have ha := andneg_all ⟨n, h2⟩ h1
  simp only at ha
  have hs : (0 : Int) ≤ ((32 - n : Nat) : Int) := by omega
  go_enter Tryz.func149, Tryz.ntmps149
  go_wp2
  go_ret
  exact ⟨rfl, rfl⟩
set_option maxHeartbeats 800000 in
theorem right_c (x : Int) (n : Nat) (h1 : 1 ≤ n) (h2 : n < 32) (w : World) : Calls Tryz.prog 138 #[.int .u32 x, .int .i64 (n : Int)] w fun e w' => e = .returned (.int .u32 (rr x n)) ∧ w = w' := by
  have hw : wrap64 (-(n : Int)) = -(n : Int) := by unfold wrap64; omega
  go_enter Tryz.func138, Tryz.ntmps138
  go_wp2_with (go_at_call 149; (with_reducible refine (rotl_c x n h1 h2 _).mono ?_); rintro e w' ⟨rfl, rfl⟩)
  go_ret
  exact ⟨rfl, rfl⟩

def begunL : List Int := [1779033703, 3144134277, 1013904242, 2773480762, 1359893119, 2600822924, 528734635, 1541459225]
/-- Words as cells. -/
def encW (l : List Int) : Array Value := (l.map fun n => Value.int .u32 n).toArray
theorem encW_size (l : List Int) : (encW l).size = l.length := by simp [encW]
theorem encW_get (l : List Int) (i : Nat) : (encW l)[i]? = (l[i]?).map fun n => .int .u32 n := by simp [encW]
theorem encW_at (l : List Int) (i : Nat) (h : i < l.length) : (encW l)[i]? = some (.int .u32 (l.getD i 0)) := by
  rw [encW_get, List.getElem?_eq_getElem h]; simp [List.getD, List.getElem?_eq_getElem h]
theorem encW_set (l : List Int) (i : Nat) (n : Int) : (encW l).setIfInBounds i (.int .u32 n) = encW (l.set i n) := by
  simp [encW, List.map_set]
theorem encW_one (l : List Int) : (encW l).all (·.oneCell') = true := by simp [encW, Value.oneCell']
set_option maxHeartbeats 800000 in
theorem begun_c (w : World) : Calls Tryz.prog 105 #[] w fun e w' => e = .returned (.agg (encW begunL)) ∧ Below w.heap.size w w' := by
  have hAc := @after_cell
  have hAf := @after_frozen
  have hSz := sz_facts
  go_enter Tryz.func105, Tryz.ntmps105
  go_wp2
  exact bodyPost_ret (v := .agg (encW begunL)) (by simp only [results, Tryz.results105]; go_simp; rfl) rfl ⟨rfl, by (repeat (first | exact Below.refl _ _ | assumption | refine bel_alloc ?_ _ | refine bel_after _ ?_ | refine bel_drewN ?_ _ | refine bel_drew ?_ | refine bel_set ?_ (by first | omega | (simp only [zYA, zYD, zYC]; omega) | (simp; omega)) _))⟩

def rootsL : List Int := [0x428a2f98, 0x71374491, 0xb5c0fbcf, 0xe9b5dba5, 0x3956c25b, 0x59f111f1, 0x923f82a4, 0xab1c5ed5,
  0xd807aa98, 0x12835b01, 0x243185be, 0x550c7dc3, 0x72be5d74, 0x80deb1fe, 0x9bdc06a7, 0xc19bf174,
  0xe49b69c1, 0xefbe4786, 0x0fc19dc6, 0x240ca1cc, 0x2de92c6f, 0x4a7484aa, 0x5cb0a9dc, 0x76f988da,
  0x983e5152, 0xa831c66d, 0xb00327c8, 0xbf597fc7, 0xc6e00bf3, 0xd5a79147, 0x06ca6351, 0x14292967,
  0x27b70a85, 0x2e1b2138, 0x4d2c6dfc, 0x53380d13, 0x650a7354, 0x766a0abb, 0x81c2c92e, 0x92722c85,
  0xa2bfe8a1, 0xa81a664b, 0xc24b8b70, 0xc76c51a3, 0xd192e819, 0xd6990624, 0xf40e3585, 0x106aa070,
  0x19a4c116, 0x1e376c08, 0x2748774c, 0x34b0bcb5, 0x391c0cb3, 0x4ed8aa4a, 0x5b9cca4f, 0x682e6ff3,
  0x748f82ee, 0x78a5636f, 0x84c87814, 0x8cc70208, 0x90befffa, 0xa4506ceb, 0xbef9a3f7, 0xc67178f2]
def rootsA : Array Value := encW rootsL
def zeroW : List Int := List.replicate 64 0
def zeroA : Array Value := encW zeroW
theorem zero_info : (Tryz.prog.info? 139).map (·.zero) = some (some (.agg zeroA)) := by kernel_rfl
theorem size_info : (Tryz.prog.info? 139).map (·.size) = some 64 := by kernel_rfl
set_option maxHeartbeats 1600000 in
theorem roots_c (w : World) : Calls Tryz.prog 106 #[] w fun e w' => e = .returned (.agg rootsA) ∧ Below w.heap.size w w' := by
  go_enter Tryz.func106, Tryz.ntmps106
  go_wp2_with (first | (refine wpList_alloc_blk rfl 139 rfl _ rfl (.agg zeroA) zeroA zero_info rfl ?_; intro w1 k1 b1 s1) | (refine wpList_build_to rfl 139 _ rfl _ rfl rootsA (by kernel_rfl) ?_) | (refine wpList_store_blk rfl 139 _ _ rfl _ rootsA rfl rfl _ _ k1 (by kernel_rfl) (by kernel_rfl) (by kernel_rfl) ?_; intro w2 k2 b2 s2))
  exact bodyPost_ret (results_cell_row Tryz.results106 _ _ w.heap.size _ rootsA _ _ rfl k2 Tryz.underlying139 rfl (by kernel_rfl)) rfl ⟨rfl, (b1.trans (b2.below (Nat.le_refl _) (by omega)))⟩
end Go.Proofs.YtolbmemogoojhaaGreat
/- The words of a chunk. -/
namespace Go.Proofs.YtolbmemogoojhaaGreat
open Go Go.RowKit Go.Deep
set_option linter.unusedVariables false
set_option linter.unusedSimpArgs false
set_option maxRecDepth 100000

def w16 (c0 c1 c2 c3 : UInt8) : Int := bits BinOp.or IntKind.u32 (bits BinOp.or IntKind.u32 (bits BinOp.or IntKind.u32 ((c0.toNat : Int) % 4294967296 * 16777216 % 4294967296) ((c1.toNat : Int) % 4294967296 * 65536 % 4294967296)) ((c2.toNat : Int) % 4294967296 * 256 % 4294967296)) ((c3.toNat : Int) % 4294967296)
def wNew (a b x y : Int) : Int := (a + b + bits BinOp.xor IntKind.u32 (bits BinOp.xor IntKind.u32 (rr x 7) (rr x 18)) (x / 8) + bits BinOp.xor IntKind.u32 (bits BinOp.xor IntKind.u32 (rr y 17) (rr y 19)) (y / 1024)) % 4294967296
def schedStep (bs : List UInt8) (l : List Int) (k : Nat) : List Int :=
  l.set k (if k < 16 then w16 (bs.getD (4 * k) 0) (bs.getD (4 * k + 1) 0) (bs.getD (4 * k + 2) 0) (bs.getD (4 * k + 3) 0) else wNew (l.getD (k - 16) 0) (l.getD (k - 7) 0) (l.getD (k - 15) 0) (l.getD (k - 2) 0))
/-- The words of a chunk, k of them. -/
def sched (bs : List UInt8) : Nat → List Int
  | 0 => zeroW
  | k + 1 => schedStep bs (sched bs k) k
theorem sched_length (bs : List UInt8) : ∀ k, (sched bs k).length = 64
  | 0 => by simp [sched, zeroW]
  | k + 1 => by rw [sched, schedStep, List.length_set, sched_length bs k]

theorem right_i (x N : Int) (h1 : 1 ≤ N) (h2 : N < 32) (w : World) : Calls Tryz.prog 138 #[.int .u32 x, .int .i64 N] w fun e w' => e = .returned (.int .u32 (rr x N.toNat)) ∧ w = w' := by
  obtain ⟨n, rfl⟩ := Int.eq_ofNat_of_zero_le (show 0 ≤ N by omega)
  exact right_c x n (by omega) (by omega) w
theorem cell_below' {w w' : World} {B b o : Nat} {u : Value} (h : Below B w w') (hb : b < B) (hc : w.cell? ⟨b, o, none⟩ = some u) : w'.cell? ⟨b, o, none⟩ = some u := (h.cell (p := ⟨b, o, none⟩) hb).trans hc
set_option maxHeartbeats 3200000 in
theorem schedule_c (v : Value) (bs : List UInt8) (hl : bs.length = 64) (w : World) (hv : Byt w v bs) : Calls Tryz.prog 137 #[v] w fun e w' => e = .returned (.agg (encW (sched bs 64))) ∧ Below w.heap.size w w' := by
  obtain ⟨a, c, rfl, _, hm, _, hcell⟩ := hv.open_
  obtain ⟨bb, off, rfl, hc⟩ := hcell (by omega)
  have hbb : bb < w.heap.size := World.block_lt_of_cell? w _ (hc 0 (by omega))
  rw [hl] at hc hcell
  clear hm hcell
  have Hc := Lib.hid hc; clear hc hv
  go_enter Tryz.func137, Tryz.ntmps137
  go_wp2_with (first | ((fail_if_success have := k1); refine wpList_alloc_blk rfl 139 rfl _ rfl (.agg zeroA) zeroA zero_info rfl ?_; intro w1 k1 b1 s1) | (refine wpList_alloc_blk rfl 139 rfl _ rfl (.agg zeroA) zeroA zero_info rfl ?_; intro w2 k2 b2 s2))
  rw [s1] at k2
  have k2' : Blk w2 w.heap.size 139 zeroA := k1.below b2 (by omega)
  have hb2 : Below w.heap.size w w2 := b1.trans (b2.mono (by omega))
  go_loopw [7] (fun i wr => ∃ j : Nat, j ≤ 64 ∧ i = .int .i64 j ∧ Hid (Blk wr (w.heap.size + 1) 139 (encW (sched bs j))) ∧ Hid (Blk wr w.heap.size 139 zeroA) ∧ Hid (Below w.heap.size w wr)) (fun i _ => 64 - (intOf i).toNat)
  case atStart => exact ⟨0, by omega, rfl, Lib.hid k2, Lib.hid k2', Lib.hid hb2⟩
  case round =>
    obtain ⟨j, hj, rfl, K, K0, hb⟩ := hrel
    have hA := @after_cell
    have hF := @after_frozen
    have hsz : w.heap.size + 2 ≤ wr.heap.size := by have := K.out.lt; omega
    have hL := sched_length bs j
    have s0 : (w.heap.size + 1 < wr.heap.size) = True := by simp only [eq_iff_iff, iff_true]; omega
    by_cases h64 : j < 64
    · obtain ⟨v0, hv0⟩ : ∃ v0, wr.cell? ⟨w.heap.size + 1, j, none⟩ = some v0 := ⟨_, (K.out.cell j).trans (encW_at _ _ (by omega))⟩
      have hf0 := K.out.frozen j
      by_cases h16 : j < 16
      · have hbr : bb < wr.heap.size := by omega
        obtain ⟨c0, hd0, hc0⟩ : ∃ c0 : UInt8, Hid (c0 = bs.getD (4 * j) 0) ∧ wr.cell? ⟨bb, off + 4 * j, none⟩ = some (.int .u8 (c0.toNat : Int)) := ⟨_, Lib.hid rfl, cell_below' hb.out hbb (Hc.out (4 * j) (by omega))⟩
        obtain ⟨c1, hd1, hc1⟩ : ∃ c1 : UInt8, Hid (c1 = bs.getD ((4 * j + 1)) 0) ∧ wr.cell? ⟨bb, off + (4 * j + 1), none⟩ = some (.int .u8 (c1.toNat : Int)) := ⟨_, Lib.hid rfl, cell_below' hb.out hbb (Hc.out ((4 * j + 1)) (by omega))⟩
        obtain ⟨c2, hd2, hc2⟩ : ∃ c2 : UInt8, Hid (c2 = bs.getD ((4 * j + 2)) 0) ∧ wr.cell? ⟨bb, off + (4 * j + 2), none⟩ = some (.int .u8 (c2.toNat : Int)) := ⟨_, Lib.hid rfl, cell_below' hb.out hbb (Hc.out ((4 * j + 2)) (by omega))⟩
        obtain ⟨c3, hd3, hc3⟩ : ∃ c3 : UInt8, Hid (c3 = bs.getD ((4 * j + 3)) 0) ∧ wr.cell? ⟨bb, off + (4 * j + 3), none⟩ = some (.int .u8 (c3.toNat : Int)) := ⟨_, Lib.hid rfl, cell_below' hb.out hbb (Hc.out ((4 * j + 3)) (by omega))⟩
        go_wp2
        refine wp_quiet_tail (C := fun w' => ∃ x : After _, w' = x.w) 35 (by kernel_rfl) (by kernel_rfl) (since_drew _) ?_
        simp only [List.take_succ_cons, List.take_zero, List.drop_succ_cons, List.drop_zero]
        repeat (go_big_quiet_step (fail))
        refine wpQuiet_nil ?_
        rintro _ ⟨x1, rfl⟩
        have hz := after_size x1
        have s3 : (w.heap.size + 1 < x1.w.heap.size) = True := by simp only [eq_iff_iff, iff_true]; omega
        go_wp2
        go_roundw
        case rel =>
          refine ⟨j + 1, by omega, by go_num, ?_, ?_, ?_⟩
          · have := (K.out.after x1).set j (.int .u32 (w16 c0 c1 c2 c3))
            rw [encW_set] at this
            have e : (sched bs j).set j (w16 c0 c1 c2 c3) = sched bs (j + 1) := by rw [sched, schedStep, if_pos h16, hd0.out, hd1.out, hd2.out, hd3.out]
            rw [e] at this
            exact Lib.hid this
          · exact Lib.hid ((K0.out.after x1).setOther (by simp) _)
          · exact Lib.hid ((bel_step hb.out x1.h).setCell (by simp) _)
        case measure => simp [intOf]; omega
      · obtain ⟨y15, hy15⟩ : ∃ y : Int, Hid (y = (sched bs j).getD (j - 15) 0) := ⟨_, rfl⟩
        obtain ⟨y2, hy2⟩ : ∃ y : Int, Hid (y = (sched bs j).getD (j - 2) 0) := ⟨_, rfl⟩
        obtain ⟨y16, hy16⟩ : ∃ y : Int, Hid (y = (sched bs j).getD (j - 16) 0) := ⟨_, rfl⟩
        obtain ⟨y7, hy7⟩ : ∃ y : Int, Hid (y = (sched bs j).getD (j - 7) 0) := ⟨_, rfl⟩
        have c15 : wr.cell? ⟨w.heap.size + 1, j - 15, none⟩ = some (.int .u32 y15) := by rw [hy15.out]; exact (K.out.cell _).trans (encW_at _ _ (by omega))
        have c2 : wr.cell? ⟨w.heap.size + 1, j - 2, none⟩ = some (.int .u32 y2) := by rw [hy2.out]; exact (K.out.cell _).trans (encW_at _ _ (by omega))
        have c16 : wr.cell? ⟨w.heap.size + 1, j - 16, none⟩ = some (.int .u32 y16) := by rw [hy16.out]; exact (K.out.cell _).trans (encW_at _ _ (by omega))
        have c7 : wr.cell? ⟨w.heap.size + 1, j - 7, none⟩ = some (.int .u32 y7) := by rw [hy7.out]; exact (K.out.cell _).trans (encW_at _ _ (by omega))
        go_wp2
        refine wp_quiet_all (C := fun w' => ∃ x : After _, w' = x.w) (by kernel_rfl) (by kernel_rfl) (since_drew _) ?_
        repeat (go_big_quiet_step (fail))
        refine wpQuiet_nil ?_
        rintro _ ⟨x0, rfl⟩
        have hz0 := after_size x0
        have s4 : (w.heap.size + 1 < x0.w.heap.size) = True := by simp only [eq_iff_iff, iff_true]; omega
        go_wp2
        refine wp_quiet_tail (C := fun w' => ∃ x : After _, w' = x.w) 29 (by kernel_rfl) (by kernel_rfl) (since_drew _) ?_
        simp only [List.take_succ_cons, List.take_zero, List.drop_succ_cons, List.drop_zero]
        repeat (go_big_quiet_step ((go_at_call 138; exact after_call_same _ (right_i _ _ (by decide) (by decide) _))))
        refine wpQuiet_nil ?_
        rintro _ ⟨x1, rfl⟩
        have hz := after_size x1
        have s3 : (w.heap.size + 1 < x1.w.heap.size) = True := by simp only [eq_iff_iff, iff_true]; omega
        go_wp2
        go_roundw
        case rel =>
          refine ⟨j + 1, by omega, by go_num, ?_, ?_, ?_⟩
          · have := ((K.out.after x0).after x1).set j (.int .u32 (wNew y16 y7 y15 y2))
            rw [encW_set] at this
            have e : (sched bs j).set j (wNew y16 y7 y15 y2) = sched bs (j + 1) := by rw [sched, schedStep, if_neg h16, hy16.out, hy7.out, hy15.out, hy2.out]
            rw [e] at this
            exact Lib.hid this
          · exact Lib.hid (((K0.out.after x0).after x1).setOther (by simp) _)
          · exact Lib.hid ((bel_step (bel_step hb.out x0.h) x1.h).setCell (by simp) _)
        case measure => simp [intOf]; omega
    · have hj64 : j = 64 := by omega
      subst hj64
      obtain ⟨S, hS⟩ : ∃ S, S = encW (sched bs 64) := ⟨_, rfl⟩
      have hSs : S.size = 64 := by rw [hS, encW_size, sched_length]
      have K' := K.out
      rw [← hS] at K'
      have h1 : S.all (·.oneCell') = true := by rw [hS]; exact encW_one _
      have HS := Lib.hid hS; clear hS
      have K'' := Lib.hid K'
      clear K'
      go_wp2_with (first | (refine wpList_load_row rfl 139 _ rfl _ rfl _ S _ _ K''.out Tryz.underlying139 rfl (by rw [hSs]; exact size_info) ?_) | (refine wpList_store_blk rfl 139 _ _ rfl _ S rfl rfl _ _ K0.out (by rw [hSs]; exact size_info) (by rw [hSs]; rfl) h1 ?_; intro w3 k3 b3 s3))
      exact bodyPost_ret (results_cell_row Tryz.results137 _ _ w.heap.size _ S _ _ rfl k3 Tryz.underlying139 rfl (by rw [hSs]; exact size_info)) rfl ⟨by rw [HS.out], hb.out.trans (b3.below (Nat.le_refl _) (by omega))⟩
end Go.Proofs.YtolbmemogoojhaaGreat
/- A chunk is taken. -/
namespace Go.Proofs.YtolbmemogoojhaaGreat
open Go Go.RowKit Go.Deep
set_option linter.unusedVariables false
set_option linter.unusedSimpArgs false
set_option maxRecDepth 100000

def zero8 : Array Value := encW (List.replicate 8 0)
theorem zero8_info : (Tryz.prog.info? 137).map (·.zero) = some (some (.agg zero8)) := by kernel_rfl
theorem size8_info : (Tryz.prog.info? 137).map (·.size) = some 8 := by kernel_rfl
def rndT (k w e f g h : Int) : Int := (h + bits BinOp.xor IntKind.u32 (bits BinOp.xor IntKind.u32 (rr e 6) (rr e 11)) (rr e 25) + bits BinOp.xor IntKind.u32 (bits BinOp.and IntKind.u32 e f) (bits BinOp.and IntKind.u32 (bits BinOp.xor IntKind.u32 IntKind.u32.max e) g) + k + w) % 4294967296
def rndU (a b c : Int) : Int := (bits BinOp.xor IntKind.u32 (bits BinOp.xor IntKind.u32 (rr a 2) (rr a 13)) (rr a 22) + bits BinOp.xor IntKind.u32 (bits BinOp.xor IntKind.u32 (bits BinOp.and IntKind.u32 a b) (bits BinOp.and IntKind.u32 a c)) (bits BinOp.and IntKind.u32 b c)) % 4294967296
def rnd (k w : Int) : List Int → List Int
  | [a, b, c, d, e, f, g, h] => [(rndT k w e f g h + rndU a b c) % 4294967296, a, b, c, (d + rndT k w e f g h) % 4294967296, e, f, g]
  | l => l
def rnds (W st : List Int) : Nat → List Int
  | 0 => st
  | i + 1 => rnd (rootsL.getD i 0) (W.getD i 0) (rnds W st i)
/-- The first j words, added. -/
def addN (st l : List Int) : Nat → List Int
  | 0 => st
  | j + 1 => (addN st l j).set j (((addN st l j).getD j 0 + l.getD j 0) % 4294967296)
theorem addN_length (st l : List Int) : ∀ j, (addN st l j).length = st.length
  | 0 => rfl
  | j + 1 => by rw [addN, List.length_set, addN_length st l j]
theorem eight {l : List Int} (h : l.length = 8) : ∃ a b c d e f g i, l = [a, b, c, d, e, f, g, i] := by
  match l, h with
  | [a, b, c, d, e, f, g, i], _ => exact ⟨a, b, c, d, e, f, g, i, rfl⟩
/-- What a chunk makes of a state. -/
def takeL (bs : List UInt8) (st : List Int) : List Int := addN st (rnds (sched bs 64) st 64) 8

set_option maxHeartbeats 3200000 in
theorem take_c (v : Value) (bs : List UInt8) (hl : bs.length = 64) (sb kb : Nat) (hne : kb ≠ sb) (st : List Int) (h8 : st.length = 8) (w : World) (hv : Byt w v bs) (hs : Blk w sb 137 (encW st)) (hk : Blk w kb 139 rootsA) :
    Calls Tryz.prog 107 #[.pointer (some ⟨sb, 0, none⟩), v, .pointer (some ⟨kb, 0, none⟩)] w fun e w' => e = .returned (.tuple #[]) ∧ Blk w' sb 137 (encW (takeL bs st)) ∧ But sb w w' := by
  have hsb := hs.lt
  have hkb := hk.lt
  have Hv := Lib.hid hv; clear hv
  obtain ⟨S, hS⟩ : ∃ S, S = encW (sched bs 64) := ⟨_, rfl⟩
  have hSs : S.size = 64 := by rw [hS, encW_size, sched_length]
  have hS1 : S.all (·.oneCell') = true := by rw [hS]; exact encW_one _
  have HS := Lib.hid hS; clear hS
  obtain ⟨X, hX⟩ : ∃ X, X = encW st := ⟨_, rfl⟩
  have hXs : X.size = 8 := by rw [hX, encW_size, h8]
  have hX1 : X.all (·.oneCell') = true := by rw [hX]; exact encW_one _
  rw [← hX] at hs
  have HX := Lib.hid hX; clear hX
  have Hsch : Hid (∀ w, Byt w v bs → Calls Tryz.prog 137 #[v] w fun e w' => e = .returned (.agg S) ∧ Below w.heap.size w w') := by rw [HS.out]; exact Lib.hid fun w h => schedule_c v bs hl w h
  go_enter Tryz.func107, Tryz.ntmps107
  go_wp2_with (first | (go_at_call 137; refine (Hsch.out _ Hv.out).mono ?_; rintro e w1 ⟨rfl, b1⟩; have hs1 := hs.below b1 hsb; have hk1 := hk.below b1 hkb) | (refine wpList_alloc_blk rfl 139 rfl _ rfl (.agg zeroA) zeroA zero_info rfl ?_; intro w2 k2 b2 s2) | (refine wpList_store_blk rfl 139 _ _ rfl _ S rfl rfl _ _ k2 (by rw [hSs]; exact size_info) (by rw [hSs]; rfl) hS1 ?_; intro w3 k3 b3 s3; have hs3 := (hs1.below b2 hs1.lt).but b3 (by have := hs1.lt; omega); have hk3 := (hk1.below b2 hk1.lt).but b3 (by have := hk1.lt; omega)) | (refine wpList_load_row rfl 137 _ rfl _ rfl _ X _ _ hs3 Tryz.underlying137 rfl (by rw [hXs]; exact size8_info) ?_) | (refine wpList_alloc_blk rfl 137 rfl _ rfl (.agg zero8) zero8 zero8_info rfl ?_; intro w4 k4 b4 s4) | (refine wpList_store_blk rfl 137 _ _ rfl _ X rfl rfl _ _ k4 (by rw [hXs]; exact size8_info) (by rw [hXs]; rfl) hX1 ?_; intro w5 k5 b5 s5))
  have hk5 : Blk w5 kb 139 rootsA := (hk3.below b4 hk3.lt).but b5 (by have := hk1.lt; omega)
  have hs5 : Blk w5 sb 137 X := (hs3.below b4 hs3.lt).but b5 (by have := hs1.lt; omega)
  have hw5 : Blk w5 w1.heap.size 139 S := (k3.below b4 k3.lt).but b5 (by omega)
  have hb5 : Below w.heap.size w w5 := by
    have := b1.size
    exact b1.trans ((b2.mono (by omega)).trans ((b3.below (by omega) (by omega)).trans ((b4.mono (by omega)).trans (b5.below (by omega) (by omega)))))
  have l1 := b1.size
  have l5 := k5.lt
  rw [HX.out] at k5
  clear hs hs1 hs3 hk hk1 hk3 k2 k3 k4 b1 b2 b3 b4 b5 Hsch Hv hX1 hS1
  have hA := @after_cell
  have hF := @after_frozen
  have HK := Lib.hid hk5; have HB := Lib.hid hs5; have HW := Lib.hid hw5; have HL := Lib.hid hb5; have H5 := Lib.hid k5
  clear hk5 hs5 hw5 hb5 k5
  rw [s3, s2] at H5
  go_loopw [19] (fun i wr => ∃ (j : Nat) (a b c d e f g i8 : Int), j ≤ 64 ∧ i = .int .i64 j ∧ Hid (rnds (sched bs 64) st j = [a, b, c, d, e, f, g, i8]) ∧ Hid (Blk wr (w1.heap.size + 1) 137 (encW [a, b, c, d, e, f, g, i8])) ∧ Hid (But (w1.heap.size + 1) w5 wr)) (fun i _ => 64 - (intOf i).toNat)
  case atStart =>
    obtain ⟨a, b, c, d, e, f, g, i8, rfl⟩ := eight h8
    exact ⟨0, a, b, c, d, e, f, g, i8, by omega, rfl, Lib.hid rfl, H5, Lib.hid (But.refl _ _)⟩
  case round =>
    obtain ⟨j, a, b, c, d, e, f, g, i8, hj, rfl, R, K, B⟩ := hrel
    have hz := B.out.size
    by_cases h64 : j < 64
    · obtain ⟨y, hy⟩ : ∃ y : Int, Hid (y = (sched bs 64).getD j 0) := ⟨_, rfl⟩
      obtain ⟨z, hz'⟩ : ∃ z : Int, Hid (z = rootsL.getD j 0) := ⟨_, rfl⟩
      have cy : wr.cell? ⟨w1.heap.size, j, none⟩ = some (.int .u32 y) := by
        rw [hy.out, (HW.out.but B.out (by omega)).cell, HS.out]; exact encW_at _ _ (by rw [sched_length]; exact h64)
      have cz : wr.cell? ⟨kb, j, none⟩ = some (.int .u32 z) := by
        rw [hz'.out, (HK.out.but B.out (by omega)).cell]; exact encW_at _ _ (by exact h64)
      have c0 : wr.cell? ⟨w1.heap.size + 1, 0, none⟩ = some (.int .u32 a) := K.out.cell 0
      have c1 : wr.cell? ⟨w1.heap.size + 1, 1, none⟩ = some (.int .u32 b) := K.out.cell 1
      have c2 : wr.cell? ⟨w1.heap.size + 1, 2, none⟩ = some (.int .u32 c) := K.out.cell 2
      have c3 : wr.cell? ⟨w1.heap.size + 1, 3, none⟩ = some (.int .u32 d) := K.out.cell 3
      have c4 : wr.cell? ⟨w1.heap.size + 1, 4, none⟩ = some (.int .u32 e) := K.out.cell 4
      have c5 : wr.cell? ⟨w1.heap.size + 1, 5, none⟩ = some (.int .u32 f) := K.out.cell 5
      have c6 : wr.cell? ⟨w1.heap.size + 1, 6, none⟩ = some (.int .u32 g) := K.out.cell 6
      have c7 : wr.cell? ⟨w1.heap.size + 1, 7, none⟩ = some (.int .u32 i8) := K.out.cell 7
      have srx : (w1.heap.size + 1 < wr.heap.size) = True := by simp only [eq_iff_iff, iff_true]; omega
      have srw : (w1.heap.size < wr.heap.size) = True := by simp only [eq_iff_iff, iff_true]; omega
      have srk : (kb < wr.heap.size) = True := by simp only [eq_iff_iff, iff_true]; omega
      go_wp2
      refine wp_quiet_all (C := fun w' => ∃ x : After _, w' = x.w) (by kernel_rfl) (by kernel_rfl) (since_drew _) ?_
      repeat (go_big_quiet_step (fail))
      refine wpQuiet_nil ?_
      rintro _ ⟨x0, rfl⟩
      have hz0 := after_size x0
      have sx0x : (w1.heap.size + 1 < x0.w.heap.size) = True := by simp only [eq_iff_iff, iff_true]; omega
      have sx0w : (w1.heap.size < x0.w.heap.size) = True := by simp only [eq_iff_iff, iff_true]; omega
      have sx0k : (kb < x0.w.heap.size) = True := by simp only [eq_iff_iff, iff_true]; omega
      go_wp2
      refine wp_quiet_all (C := fun w' => ∃ x : After _, w' = x.w) (by kernel_rfl) (by kernel_rfl) (since_drew _) ?_
      repeat (go_big_quiet_step ((go_at_call 138; exact after_call_same _ (right_i _ _ (by decide) (by decide) _))))
      refine wpQuiet_nil ?_
      rintro _ ⟨x1, rfl⟩
      have hz1 := after_size x1
      have sx1x : (w1.heap.size + 1 < x1.w.heap.size) = True := by simp only [eq_iff_iff, iff_true]; omega
      have sx1w : (w1.heap.size < x1.w.heap.size) = True := by simp only [eq_iff_iff, iff_true]; omega
      have sx1k : (kb < x1.w.heap.size) = True := by simp only [eq_iff_iff, iff_true]; omega
      go_wp2
      refine wp_quiet_all (C := fun w' => ∃ x : After _, w' = x.w) (by kernel_rfl) (by kernel_rfl) (since_drew _) ?_
      repeat (go_big_quiet_step ((go_at_call 138; exact after_call_same _ (right_i _ _ (by decide) (by decide) _))))
      refine wpQuiet_nil ?_
      rintro _ ⟨x2, rfl⟩
      have hz2 := after_size x2
      have sx2x : (w1.heap.size + 1 < x2.w.heap.size) = True := by simp only [eq_iff_iff, iff_true]; omega
      have sx2w : (w1.heap.size < x2.w.heap.size) = True := by simp only [eq_iff_iff, iff_true]; omega
      have sx2k : (kb < x2.w.heap.size) = True := by simp only [eq_iff_iff, iff_true]; omega
      go_wp2
      generalize hT : (i8 + bits BinOp.xor IntKind.u32 (bits BinOp.xor IntKind.u32 (rr e 6) (rr e 11)) (rr e 25) + bits BinOp.xor IntKind.u32 (bits BinOp.and IntKind.u32 e f) (bits BinOp.and IntKind.u32 (bits BinOp.xor IntKind.u32 IntKind.u32.max e) g) + z + y) % 4294967296 = T
      generalize hU : (bits BinOp.xor IntKind.u32 (bits BinOp.xor IntKind.u32 (rr a 2) (rr a 13)) (rr a 22) + bits BinOp.xor IntKind.u32 (bits BinOp.xor IntKind.u32 (bits BinOp.and IntKind.u32 a b) (bits BinOp.and IntKind.u32 a c)) (bits BinOp.and IntKind.u32 b c)) % 4294967296 = U
      have HT := Lib.hid hT; clear hT
      have HU := Lib.hid hU; clear hU
      have K2 := ((K.out.after x0).after x1).after x2
      refine wp_quiet_tail (C := fun w' => ∃ x : After _, w' = x.w) 2 (by kernel_rfl) (by kernel_rfl) (since_drew _) ?_
      simp only [List.take_succ_cons, List.take_zero, List.drop_succ_cons, List.drop_zero]
      repeat (go_big_quiet_step (fail))
      refine wpQuiet_nil ?_
      rintro _ ⟨x3, rfl⟩
      have hz3 := after_size x3
      have K3 := K2.after x3
      have hsrc : ∀ (m : Nat) (u : Value), [Value.int .u32 a, .int .u32 b, .int .u32 c, .int .u32 d, .int .u32 e, .int .u32 f, .int .u32 g][m]? = some u → x3.w.cell? ((⟨w1.heap.size + 1, 0, none⟩ : Addr).add m) = some u := by
        intro m u hm
        rw [Addr.add_lit, Nat.zero_add, K3.cell]
        have hm7 : m < 7 := (List.getElem?_eq_some_iff.1 hm).1
        match m, hm7 with
        | 0, _ | 1, _ | 2, _ | 3, _ | 4, _ | 5, _ | 6, _ => exact hm
      have hfit : 1 + [Value.int .u32 a, .int .u32 b, .int .u32 c, .int .u32 d, .int .u32 e, .int .u32 f, .int .u32 g].length ≤ (encW [a, b, c, d, e, f, g, i8]).size := by simp [encW]
      have hone : ∀ u ∈ [Value.int .u32 a, .int .u32 b, .int .u32 c, .int .u32 d, .int .u32 e, .int .u32 f, .int .u32 g], u.oneCell' = true := by simp [Value.oneCell']
      have Hsrc := Lib.hid hsrc; have Hfit := Lib.hid hfit; have Hone := Lib.hid hone; have HK3 := Lib.hid K3
      clear hsrc hfit hone K3 K2
      go_wp2_with (refine wpList_copy_blk rfl _ _ 151 151 135 rfl _ rfl (w1.heap.size + 1) 1 7 7 ⟨w1.heap.size + 1, 0, none⟩ 7 8 rfl rfl _ _ _ Tryz.underlying151 (by kernel_rfl) HK3.out rfl Hsrc.out Hfit.out Hone.out (encW [a, a, b, c, d, e, f, g]) rfl ?_; intro w6 k6 b6 s6; have d0 := k6.cell 0; have d4 := k6.cell 4; have f0 := k6.frozen 0; have f4 := k6.frozen 4; simp [encW] at d0 d4; have K6 := Lib.hid k6; clear k6)
      go_roundw
      case rel =>
        refine ⟨j + 1, (T + U) % 4294967296, a, b, c, (d + T) % 4294967296, e, f, g, by omega, by go_num, ?_, ?_, ?_⟩
        · refine Lib.hid ?_
          rw [rnds, R.out, ← hz'.out, ← hy.out]
          show [(rndT z y e f g i8 + rndU a b c) % 4294967296, a, b, c, (d + rndT z y e f g i8) % 4294967296, e, f, g] = _
          rw [show rndT z y e f g i8 = T from HT.out, show rndU a b c = U from HU.out]
        · have := (K6.out.set 0 (.int .u32 ((T + U) % 4294967296))).set 4 (.int .u32 ((d + T) % 4294967296))
          rw [encW_set, encW_set] at this
          exact Lib.hid this
        · exact Lib.hid ((((((B.out.after x0).after x1).after x2).after x3).trans b6).set 0 _ |>.set 4 _)
      case measure => simp [intOf]; omega
    · have hj64 : j = 64 := by omega
      subst hj64
      obtain ⟨L, hL⟩ : ∃ L, L = [a, b, c, d, e, f, g, i8] := ⟨_, rfl⟩
      have hL8 : L.length = 8 := by rw [hL]; rfl
      rw [← hL] at R K
      clear hL
      have hBs := (HB.out.but B.out (by omega))
      rw [HX.out] at hBs
      have HBs := Lib.hid hBs; clear hBs
      go_wp2
      go_loopw [95] (fun i wq => ∃ (j : Nat) (M : List Int), j ≤ 8 ∧ i = .int .i64 j ∧ M.length = 8 ∧ Hid (M = addN st L j) ∧ Hid (Blk wq sb 137 (encW M)) ∧ Hid (But sb wr wq)) (fun i _ => 8 - (intOf i).toNat)
      case atStart => exact ⟨0, st, by omega, rfl, h8, Lib.hid rfl, HBs, Lib.hid (But.refl _ _)⟩
      case round =>
        obtain ⟨j, M, hj, rfl, hM8, A, Ks, Bs⟩ := hrel
        have hz := Bs.out.size
        by_cases h8' : j < 8
        · obtain ⟨p, hp⟩ : ∃ p : Int, Hid (p = M.getD j 0) := ⟨_, rfl⟩
          obtain ⟨q, hq⟩ : ∃ q : Int, Hid (q = L.getD j 0) := ⟨_, rfl⟩
          have cp : wr.cell? ⟨sb, j, none⟩ = some (.int .u32 p) := by rw [hp.out, Ks.out.cell]; exact encW_at _ _ (by omega)
          have cf := Ks.out.frozen j
          have cq : wr.cell? ⟨w1.heap.size + 1, j, none⟩ = some (.int .u32 q) := by rw [hq.out, (K.out.but Bs.out (by omega)).cell]; exact encW_at _ _ (by omega)
          have s1 : (sb < wr.heap.size) = True := by simp only [eq_iff_iff, iff_true]; omega
          have s2 : (w1.heap.size + 1 < wr.heap.size) = True := by simp only [eq_iff_iff, iff_true]; omega
          go_wp2
          refine wp_quiet_tail (C := fun w' => ∃ x : After _, w' = x.w) 11 (by kernel_rfl) (by kernel_rfl) (since_drew _) ?_
          simp only [List.take_succ_cons, List.take_zero, List.drop_succ_cons, List.drop_zero]
          repeat (go_big_quiet_step (fail))
          refine wpQuiet_nil ?_
          rintro _ ⟨x0, rfl⟩
          have hz0 := after_size x0
          have s3 : (sb < x0.w.heap.size) = True := by simp only [eq_iff_iff, iff_true]; omega
          go_wp2
          go_roundw
          case rel =>
            refine ⟨j + 1, M.set j ((p + q) % 4294967296), by omega, by go_num, by rw [List.length_set]; exact hM8, ?_, ?_, ?_⟩
            · exact Lib.hid (by rw [addN, ← A.out, hp.out, hq.out])
            · have := (Ks.out.after x0).set j (.int .u32 ((p + q) % 4294967296))
              rw [encW_set] at this
              exact Lib.hid this
            · exact Lib.hid ((Bs.out.after x0).set j _)
          case measure => simp [intOf]; omega
        · have hj8 : j = 8 := by omega
          subst hj8
          go_wp2
          have hfin : M = takeL bs st := by rw [A.out, takeL, R.out]
          refine bodyPost_end (v := .tuple #[]) (by simp [results, Tryz.results107]) rfl ⟨rfl, ?_, ?_⟩
          · rw [← hfin]; exact Ks.out
          · exact (But.of_below (HL.out.trans (B.out.below (by omega) (by omega)))).trans Bs.out
end Go.Proofs.YtolbmemogoojhaaGreat
/- The digest of bytes. -/
namespace Go.Proofs.YtolbmemogoojhaaGreat
open Go Go.RowKit Go.Deep
set_option linter.unusedVariables false
set_option linter.unusedSimpArgs false
set_option maxRecDepth 100000

/-- A number's eight bytes, j of them. -/
def lenB (n : Nat) (j : Nat) : List UInt8 := (List.range j).map fun i => UInt8.ofNat (8 * n / 2 ^ (8 * (7 - i)))
def padN (n : Nat) : Nat := (119 - n % 64) % 64
/-- The bytes with what is put behind them. -/
def padded (bs : List UInt8) : List UInt8 := bs ++ [128] ++ List.replicate (padN bs.length) 0 ++ lenB bs.length 8
def states (all : List UInt8) : Nat → List Int
  | 0 => begunL
  | m + 1 => takeL ((all.drop (64 * m)).take 64) (states all m)
def outs (st : List Int) : Nat → List UInt8
  | 0 => List.replicate 32 0
  | j + 1 => (outs st j).set j (UInt8.ofNat (st.getD (j / 4) 0 / 2 ^ (24 - 8 * (j % 4)) % 256).toNat)
/-- The digest. -/
def dig (bs : List UInt8) : List UInt8 := outs (states (padded bs) ((padded bs).length / 64)) 32

def zero32 : Array Value := (encU (List.replicate 32 0)).toArray
theorem zero32_info : (Tryz.prog.info? 64).map (·.zero) = some (some (.agg zero32)) := by kernel_rfl
theorem size32_info : (Tryz.prog.info? 64).map (·.size) = some 32 := by kernel_rfl

theorem states_length (A : List UInt8) : ∀ m, (states A m).length = 8
  | 0 => rfl
  | m + 1 => by rw [states, takeL, addN_length, states_length A m]
theorem outs_length (st : List Int) : ∀ m, (outs st m).length = 32
  | 0 => rfl
  | m + 1 => by rw [outs, List.length_set, outs_length st m]
theorem byte_int (y : Int) : ((UInt8.ofNat (y % 256).toNat).toNat : Int) = y % 256 := by
  rw [u8_ofNat_toNat _ (by omega)]; omega
theorem byte_of (n : Nat) : ((UInt8.ofNat n).toNat : Int) = ((n % 256 : Nat) : Int) := by simp
set_option maxHeartbeats 3200000 in
theorem sum_c (v : Value) (bs : List UInt8) (hl : bs.length ≤ 80000) (w : World) (hv : Byt w v bs) : Calls Tryz.prog 69 #[v] w fun e w' => e = .returned (.agg (encU (dig bs)).toArray) ∧ Below w.heap.size w w' := by
  have hlen0 := fun W => len_of hv W
  have Hv := Lib.hid hv; clear hv
  obtain ⟨N, hN⟩ : ∃ N, N = bs.length := ⟨_, rfl⟩
  rw [← hN] at hlen0 hl
  have HN := Lib.hid hN; clear hN
  go_enter Tryz.func69, Tryz.ntmps69
  go_wp2_with (first | ((fail_if_success have := k1); refine wpList_alloc_blk rfl 64 rfl _ rfl (.agg zero32) zero32 zero32_info rfl ?_; intro w1 k1 b1 s1) | (go_at_call 104; refine (clone_c v bs (by rw [← HN.out]; omega) _ (Hv.out.below b1)).mono ?_; rintro e w2 ⟨v2, rfl, own2, b2⟩) | (at_builtin; refine wpList_app (w0 := w1) rfl _ _ 58 rfl _ rfl 5 (by kernel_rfl) (by kernel_rfl) _ bs rfl (own2.below (bel_alloc (Below.refl _ _) _)) _ [128] rfl (byt_one _ _ 128 _ rfl) (by simp; rw [← HN.out]; omega) (bel_alloc b2 _) ?_; intro v3 w3 own3 b3))
  have Own3 := Lib.hid own3; have B3 := Lib.hid b3
  have K1 := Lib.hid k1
  clear own2 b2 own3 b3 k1
  go_loopw [3] (fun u wr => ∃ M : Nat, M ≤ padN N ∧ Hid (OwnU w1.heap.size wr 5 u (bs ++ [128] ++ List.replicate M 0)) ∧ Hid (Below w1.heap.size w1 wr)) (fun u _ => N + 66 - lenV u)
  case atStart => exact ⟨0, Nat.zero_le _, Lib.hid (by simpa using Own3.out), B3⟩
  case round =>
    obtain ⟨M, hM, O, B⟩ := hrel
    have hP : padN N ≤ 63 := by unfold padN; omega
    obtain ⟨L, hL⟩ : ∃ L, L = N + 1 + M := ⟨_, rfl⟩
    have hl2 : (bs ++ [128] ++ List.replicate M 0).length = L := by simp [hL, HN.out]; omega
    have hlen := fun W => len_of O.out.byt W
    have hlv := lenV_of O.out.byt
    rw [hl2] at hlen hlv
    have Hl2 := Lib.hid hl2; clear hl2
    by_cases h56 : L % 64 = 56
    · have hMP : M = padN N := by unfold padN; unfold padN at hM; omega
      subst hMP
      obtain ⟨pre, hpre⟩ : ∃ pre, pre = bs ++ [128] ++ List.replicate (padN N) 0 := ⟨_, rfl⟩
      rw [← hpre] at O Hl2
      have Hpre := Lib.hid hpre; clear hpre
      clear hlv
      have hq : ((L : Int) % 64 != 56) = false := by simp; omega
      have HLN := Lib.hid hL; have H56 := Lib.hid h56
      clear hL h56
      go_wp2
      clear hq hlen
      go_loopw [20, 3] (fun i u wr => ∃ j : Nat, j ≤ 8 ∧ i = .int .i64 j ∧ Hid (OwnU w1.heap.size wr 5 u (pre ++ lenB N j)) ∧ Hid (Below w1.heap.size w1 wr)) (fun i _ _ => 8 - (intOf i).toNat)
      case atStart => exact ⟨0, by omega, rfl, Lib.hid (by simpa [lenB] using O.out), B⟩
      case round =>
        obtain ⟨j, hj, rfl, O2, B2⟩ := hrel
        by_cases h8 : j < 8
        · obtain ⟨c, hc, hcb⟩ : ∃ c : UInt8, Hid (c = UInt8.ofNat (8 * N / 2 ^ (8 * (7 - j)))) ∧ (c.toNat : Int) = (N : Int) * 8 / 2 ^ (8 * (7 - j)) % 256 := by
            refine ⟨_, Lib.hid rfl, ?_⟩
            rw [byte_of, Int.natCast_emod, Int.natCast_ediv, Int.natCast_pow, Int.natCast_mul, Int.mul_comm]; rfl
          have Hcb := Lib.hid hcb; clear hcb
          have hlb : (pre ++ lenB N j).length + [c].length ≤ 100000 := by rw [List.length_append, Hl2.out]; have := HLN.out; simp [lenB]; omega
          go_wp2_with (at_builtin; refine wpList_app (w0 := w1) rfl _ _ 58 rfl _ rfl 5 (by kernel_rfl) (by kernel_rfl) _ _ rfl (O2.out.below (bel_alloc (Below.refl _ _) _)) _ [c] rfl (byt_one _ _ c _ Hcb.out) hlb (bel_alloc B2.out _) ?_; intro v4 w4 own4 b4)
          go_roundw
          case rel =>
            refine ⟨j + 1, by omega, by go_num, ?_, Lib.hid b4⟩
            have e : lenB N (j + 1) = lenB N j ++ [c] := by rw [hc.out]; simp [lenB, List.range_succ]
            rw [e, ← List.append_assoc]
            exact Lib.hid own4
          case measure => simp [intOf]; omega
        · have hj8 : j = 8 := by omega
          subst hj8
          obtain ⟨A, hA⟩ : ∃ A, A = padded bs := ⟨_, rfl⟩
          have hpA : pre ++ lenB N 8 = A := by rw [hA, padded, Hpre.out, HN.out]
          rw [hpA] at O2
          obtain ⟨q, hq'⟩ : ∃ q, L + 8 = 64 * q := ⟨(L + 8) / 64, by have := H56.out; omega⟩
          have hAl : A.length = 64 * q := by rw [← hpA, List.length_append, Hl2.out, ← hq']; simp [lenB]
          obtain ⟨g, cp, rfl, hg1, hg2, hg3, hg4, hcells⟩ := O2.out.open_ (by have := HLN.out; omega)
          rw [hAl] at hg3 hcells ⊢
          have hAq : (padded bs).length / 64 = q := by rw [← hA, hAl]; omega
          have HA := Lib.hid hA; clear hA hpA
          have Hcells := Lib.hid hcells; clear hcells
          go_wp2_with (first | (go_at_call 105; refine (begun_c _).mono ?_; rintro e w5 ⟨rfl, b5⟩) | (go_at_call 106; refine (roots_c _).mono ?_; rintro e w6 ⟨rfl, b6⟩) | (refine wpList_alloc_blk rfl 137 rfl _ rfl (.agg zero8) zero8 zero8_info rfl ?_; intro w7 k7 b7 s7) | (refine wpList_alloc_blk rfl 139 rfl _ rfl (.agg zeroA) zeroA zero_info rfl ?_; intro w8 k8 b8 s8) | (have k9' := k8.but b9 (by omega); refine wpList_store_blk rfl 139 _ _ rfl _ rootsA rfl rfl _ _ k9' (by kernel_rfl) (by kernel_rfl) (by kernel_rfl) ?_; intro w10 k10 b10 s10) | (refine wpList_store_blk rfl 137 _ _ rfl _ (encW begunL) rfl rfl _ _ (k7.below b8 (by omega)) (by kernel_rfl) (by kernel_rfl) (by kernel_rfl) ?_; intro w9 k9 b9 s9))
          have hz5 := b5.size
          have hz6 := b6.size
          have hz7 := b7.size
          have hz10 : w10.heap.size = w6.heap.size + 2 := by omega
          have k11 := k9.but b10 (by omega)
          rw [s7] at k10
          have hb10 : Below wr.heap.size wr w10 := b5.trans ((b6.mono (by omega)).trans ((b7.mono (by omega)).trans ((b8.mono (by omega)).trans ((b9.below (by omega) (by omega)).trans (b10.below (by omega) (by omega))))))
          have hb11 : Below w1.heap.size w1 w10 := bel_step B2.out hb10
          have Hcells' : Hid (∀ j, j < 64 * q → w10.cell? ⟨g, j, none⟩ = some (.int .u8 ((A.getD j 0).toNat : Int))) := Lib.hid fun j hj => (hb10.cell (p := ⟨g, j, none⟩) hg2).trans (Hcells.out j hj)
          have hgs : g < w6.heap.size := by omega
          have Hcp := Lib.hid hg4
          have K11 := Lib.hid k11; have K10 := Lib.hid k10; have HB11 := Lib.hid hb11
          clear k7 k8 k9 k10 k11 b5 b6 b7 b8 b9 b10 hb10 hb11 B B2 O O2 Own3 B3 Hcells hg4 s10 s9 hz5 hz6 hz7
          rw [s7]
          go_simp
          go_loopw [3] (fun u wq => ∃ m o : Nat, m ≤ q ∧ (m < q → o = 64 * m) ∧ u = .slice (some ⟨g, o, none⟩) (64 * q - 64 * m) (cp - 64 * m) ∧ Hid (Blk wq w6.heap.size 137 (encW (states A m))) ∧ Hid (But w6.heap.size w10 wq)) (fun u _ => lenV u)
          case atStart => exact ⟨0, 0, by omega, by simp, by simp, K11, Lib.hid (But.refl _ _)⟩
          case round =>
            obtain ⟨m, o1, hm, ho1, rfl, K, B⟩ := hrel
            obtain ⟨n1, hn1⟩ : ∃ n1, n1 = 64 * q - 64 * m := ⟨_, rfl⟩
            obtain ⟨c1, hc1⟩ : ∃ c1, c1 = cp - 64 * m := ⟨_, rfl⟩
            rw [← hn1, ← hc1]
            have hcm := Hcp.out
            unfold maxLen at hcm
            have hc1m : c1 ≤ 9223372036854775807 := by omega
            have hn1c : n1 ≤ c1 := by omega
            have hst : (states A m).length = 8 := states_length A m
            by_cases hlt : m < q
            · have h64n : 64 ≤ n1 := by omega
              replace ho1 := ho1 hlt
              have hgz := B.out.size
              have hbyt : Byt wr (.slice (some ⟨g, o1, none⟩) 64 c1) ((A.drop (64 * m)).take 64) := by
                refine byt_of _ _ _ _ _ _ (by simp; omega) (by omega) (by unfold maxLen; omega) fun j hj => ?_
                rw [(B.out.cell (p := ⟨g, o1 + j, none⟩) (by show g < _; omega) (by show g ≠ _; omega)), Hcells'.out _ (by omega)]
                congr 3
                simp [List.getD_eq_getElem?_getD, List.getElem?_take, List.getElem?_drop, hj, ho1]
              have HO := Lib.hid ho1; have HN1 := Lib.hid hn1; have HC1 := Lib.hid hc1
              have Hbyt := Lib.hid hbyt
              clear ho1 hn1 hc1 hbyt hcm
              have hkb : Blk wr (w6.heap.size + 1) 139 rootsA := K10.out.but B.out (by omega)
              have Hkb := Lib.hid hkb; clear hkb
              go_wp2_with (go_at_call 107; refine (take_c _ _ (by simp; omega) w6.heap.size (w6.heap.size + 1) (by omega) (states A m) hst _ Hbyt.out K.out Hkb.out).mono ?_; rintro e w11 ⟨rfl, k12, b12⟩)
              go_roundw
              case rel =>
                have h1 := HO.out; have h2 := HN1.out; have h3 := HC1.out
                refine ⟨m + 1, if c1 = 64 then o1 else o1 + 64, by omega, ?_, ?_, Lib.hid k12, Lib.hid (B.out.trans b12)⟩
                · intro h4; rw [if_neg (by omega)]; omega
                · simp only [Value.slice.injEq]
                  refine ⟨?_, by omega, by omega⟩
                  split <;> rfl
              case measure =>
                simp only [lenV]
                omega
            · have hmq : m = q := by omega
              subst hmq
              have hn0 : n1 = 0 := by omega
              clear ho1 hc1
              subst hn0
              clear hn1
              obtain ⟨S, hS⟩ : ∃ S, S = states A m := ⟨_, rfl⟩
              rw [← hS] at hst K
              have HS := Lib.hid hS; clear hS
              obtain ⟨ob, hob⟩ : ∃ ob, wr.heap.size = ob := ⟨_, rfl⟩
              have hzs := B.out.size
              go_wp2_with (refine wpList_alloc_blk rfl 64 rfl _ rfl (.agg zero32) zero32 zero32_info rfl ?_; intro w12 k12 b12 s12)
              rw [hob] at k12 s12 b12 hzs
              have Ks := Lib.hid (K.out.below b12 (by rw [← hob]; exact K.out.lt))
              have K12 := Lib.hid k12
              have B12 := Lib.hid b12
              clear k12 b12
              go_loopw [46] (fun i wq => ∃ j : Nat, j ≤ 32 ∧ i = .int .i64 j ∧ Hid (Blk wq ob 64 (encU (outs S j)).toArray) ∧ Hid (But ob w12 wq)) (fun i _ => 32 - (intOf i).toNat)
              case atStart => exact ⟨0, by omega, rfl, K12, Lib.hid (But.refl _ _)⟩
              case round =>
                obtain ⟨j, hj, rfl, KO, BO⟩ := hrel
                have hoz := BO.out.size
                by_cases h32 : j < 32
                · obtain ⟨x, hx⟩ : ∃ x : Int, Hid (x = S.getD (j / 4) 0) := ⟨_, rfl⟩
                  have cx : wr.cell? ⟨w6.heap.size, j / 4, none⟩ = some (.int .u32 x) := by rw [hx.out, (Ks.out.but BO.out (by omega)).cell]; exact encW_at _ _ (by omega)
                  obtain ⟨v0, hv0⟩ : ∃ v0, wr.cell? ⟨ob, j, none⟩ = some v0 := ⟨_, by rw [KO.out.cell]; exact Array.getElem?_eq_getElem (by simp [encU_length, outs_length]; omega)⟩
                  have hf0 := KO.out.frozen j
                  go_wp2
                  go_roundw
                  case rel =>
                    refine ⟨j + 1, by omega, by go_num, ?_, Lib.hid (BO.out.set j _)⟩
                    have := KO.out.set j (.int .u8 (x / 2 ^ (24 - 8 * (j % 4)) % 256))
                    have e : (encU (outs S j)).toArray.setIfInBounds j (.int .u8 (x / 2 ^ (24 - 8 * (j % 4)) % 256)) = (encU (outs S (j + 1))).toArray := by
                      rw [outs, ← hx.out]
                      simp only [encU, List.setIfInBounds_toArray, List.map_set]
                      rw [byte_int]
                    rw [e] at this
                    exact Lib.hid this
                  case measure => simp [intOf]; omega
                · have hj32 : j = 32 := by omega
                  subst hj32
                  obtain ⟨O, hO⟩ : ∃ O, O = (encU (outs S 32)).toArray := ⟨_, rfl⟩
                  have hOs : O.size = 32 := by rw [hO]; simp [encU_length, outs_length]
                  have hO1 : O.all (·.oneCell') = true := by rw [hO]; simp [encU, Value.oneCell']
                  have KO' := KO.out
                  rw [← hO] at KO'
                  have HO := Lib.hid hO; clear hO
                  have KT : Blk wr w.heap.size 64 zero32 := (((K1.out.below HB11.out (by omega)).but B.out (by omega)).below B12.out (by omega)).but BO.out (by omega)
                  have hbel : Below w.heap.size w wr := by
                    have h1 := HB11.out.mono (show w.heap.size ≤ w1.heap.size by omega)
                    exact b1.trans (h1.trans ((B.out.below (by omega) (by omega)).trans ((B12.out.mono (by omega)).trans (BO.out.below (by omega) (by omega)))))
                  have HKO := Lib.hid KO'; have HKT := Lib.hid KT; have Hbel := Lib.hid hbel
                  clear KO' KT hbel K1 B B12 BO KO K HB11 b1
                  go_wp2_with (first | (refine wpList_load_row rfl 64 _ rfl _ rfl _ O _ _ HKO.out Tryz.underlying64 rfl (by rw [hOs]; exact size32_info) ?_) | (refine wpList_store_blk rfl 64 _ _ rfl _ O rfl rfl _ _ HKT.out (by rw [hOs]; exact size32_info) (by rw [hOs]; rfl) hO1 ?_; intro w13 k13 b13 s13))
                  exact bodyPost_ret (results_cell_row Tryz.results69 _ _ w.heap.size _ O _ _ rfl k13 Tryz.underlying64 rfl (by rw [hOs]; exact size32_info)) rfl ⟨by rw [HO.out, HS.out, HA.out, dig, hAq], Hbel.out.trans (b13.below (Nat.le_refl _) (by have := Hbel.out.size; omega))⟩
    · have hMP : M < padN N := by unfold padN; unfold padN at hM; omega
      have hq : ((L : Int) % 64 == 56) = false := by rw [beq_eq_false_iff_ne]; omega
      have hlb : (bs ++ [128] ++ List.replicate M 0).length + [0].length ≤ 100000 := by rw [Hl2.out]; simp; omega
      go_wp2_with (at_builtin; refine wpList_app (w0 := w1) rfl _ _ 58 rfl _ rfl 5 (by kernel_rfl) (by kernel_rfl) _ _ rfl (O.out.below (bel_alloc (Below.refl _ _) _)) _ [0] rfl (byt_one _ _ 0 _ rfl) hlb (bel_alloc B.out _) ?_; intro v4 w4 own4 b4)
      go_roundw
      case rel =>
        refine ⟨M + 1, hMP, ?_, Lib.hid b4⟩
        rw [List.append_assoc (bs ++ [128]), ← List.replicate_succ'] at own4
        exact Lib.hid own4
      case measure =>
        rw [lenV_of own4.byt]
        rw [List.length_append, Hl2.out]
        simp
        omega
end Go.Proofs.YtolbmemogoojhaaGreat
/- The digest of a text; digests compared. -/
namespace Go.Proofs.YtolbmemogoojhaaGreat
open Go Go.RowKit Go.Deep
set_option linter.unusedVariables false
set_option linter.unusedSimpArgs false
set_option maxRecDepth 100000

/-- A text's bytes, made a slice. -/
theorem wpList_conv {P : Program} {w : World} {ops : Array Oper} {rest : List Oper} {o : Oper} {a : Act} {Q : Exit → Act → World → Prop} (hgd : o.guard = none) (src dst e : TypeId) (x : Operand) (ho : o.op = .convert src dst x) (tm : Option Tmp) (hdst : o.dst = tm)
    (s : ByteArray) (hx : a.eval x = .string s) (hs : P.underlying src = some .string) (hd : P.underlying dst = some (.slice e)) (he : P.underlying e = some (.int .u8)) (hl : s.size ≤ maxLen)
    (h : ∀ v w', Byt w' v s.data.toList → Below w.heap.size w w' → wpList P ops Q rest (a.put tm v) w') : wpList P ops Q (o :: rest) a w := by
  subst hdst
  refine wpList_plain hgd fun K hK => ?_
  unfold Oper.wp execOp
  simp only [ho, hx, Sem.run_bind, Lib.run_convert_string_bytes w src dst e s hs hd he, Result.andThen_ok]
  refine hK _ _ (h _ _ ?_ ⟨rfl, rfl, rfl, by rw [Lib.bytesWorld_size]; omega, fun k hk => Lib.bytesWorld_at_old w e s k hk⟩)
  refine byt_of _ _ 0 _ _ _ rfl (grownCap_ge _ _ _ _) (grownCap_le_maxLen _ _ _ _ hl) fun j hj => ?_
  rw [Nat.zero_add]
  exact Lib.bytesWorld_cell w e s j hj

set_option maxHeartbeats 1600000 in
theorem of_c (s : ByteArray) (hl : s.size ≤ 80000) (w : World) : Calls Tryz.prog 65 #[.string s] w fun e w' => e = .returned (.agg (encU (dig s.data.toList)).toArray) ∧ Below w.heap.size w w' := by
  obtain ⟨O, hO⟩ : ∃ O, O = (encU (dig s.data.toList)).toArray := ⟨_, rfl⟩
  have hOs : O.size = 32 := by rw [hO]; simp [encU_length, dig, outs_length]
  have hO1 : O.all (·.oneCell') = true := by rw [hO]; simp [encU, Value.oneCell']
  have hsl : s.data.toList.length = s.size := by simp
  rw [← hO]
  have HO := Lib.hid hO; clear hO
  go_enter Tryz.func65, Tryz.ntmps65
  go_wp2_with (first | (refine wpList_alloc_blk rfl 64 rfl _ rfl (.agg zero32) zero32 zero32_info rfl ?_; intro w1 k1 b1 s1) | (refine wpList_conv rfl 9 58 5 _ rfl _ rfl s rfl (by kernel_rfl) (by kernel_rfl) (by kernel_rfl) (by unfold maxLen; omega) ?_; intro v w2 hv b2; have Hv := Lib.hid hv; clear hv) | (go_at_call 69; refine (sum_c _ s.data.toList (by omega) _ Hv.out).mono ?_; rw [← HO.out]; rintro e w3 ⟨rfl, b3⟩) | (refine wpList_store_blk rfl 64 _ _ rfl _ O rfl rfl _ _ ((k1.below b2 (by omega)).below b3 (by have := b2.size; omega)) (by rw [hOs]; exact size32_info) (by rw [hOs]; rfl) hO1 ?_; intro w13 k13 b13 s13))
  have h2 := b2.size
  have h3 := b3.size
  exact bodyPost_ret (results_cell_row Tryz.results65 _ _ w.heap.size _ O _ _ rfl k13 Tryz.underlying64 rfl (by rw [hOs]; exact size32_info)) rfl ⟨rfl, b1.trans ((b2.mono (by omega)).trans ((b3.mono (by omega)).trans (b13.below (Nat.le_refl _) (by omega))))⟩

theorem run_bytesOf {P : Program} {w : World} {v : Value} {bs : List UInt8} (h : Byt w v bs) : (Extern.Bytes.bytesOf v).run P w = .ok (bstr bs) w := by
  obtain ⟨a, c, rfl, h1, h2, h3, h4⟩ := h.open_
  cases a with
  | none =>
    have hc := h3 rfl
    have hb : bs = [] := List.eq_nil_of_length_eq_zero (by omega)
    subst hb
    rfl
  | some ad =>
    have hl := Lib.run_loadBytesX (P := P) w (bs.map fun b => (b.toNat : Int)) ad .empty (fun j x hj => by
      have hjl : j < bs.length := by have := (List.getElem?_eq_some_iff.1 hj).1; simpa using this
      obtain ⟨b, off, he, hc⟩ := h4 (by omega)
      cases he
      rw [Addr.add_lit, hc j hjl]
      rw [List.getElem?_map, List.getElem?_eq_getElem hjl] at hj
      simp only [Option.map_some, Option.some.injEq] at hj
      rw [← hj, List.getD_eq_getElem?_getD, List.getElem?_eq_getElem hjl]; rfl)
    rw [List.length_map] at hl
    show (Extern.Bytes.loadBytes ad bs.length .empty).run P w = _
    rw [hl]
    congr 1
    apply ByteArray.ext
    show (#[] : Array UInt8) ++ (Lib.bytesOf (bs.map fun b => (b.toNat : Int))).toArray = (bstr bs).data
    have e : ((fun n : Int => UInt8.ofNat n.toNat) ∘ fun b : UInt8 => (b.toNat : Int)) = id := by funext b; simp
    simp [Lib.bytesOf, bstr, e]
theorem run_compare {P : Program} {w : World} {va vb : Value} {a b : List UInt8} (ha : Byt w va a) (hb : Byt w vb b) : (Extern.BytealgCompare.compare #[va, vb]).run P w = .ok (.int .i64 (Lib.compareBytes a b)) w := by
  change Sem.run P (do pure (goInt (Extern.BytealgCompare.cmp (← Extern.Bytes.bytesOf va) (← Extern.Bytes.bytesOf vb)))) w = _
  simp only [Sem.run_bind, Sem.run_pure, run_bytesOf ha, run_bytesOf hb, Result.andThen]
  rw [Lib.cmp_eq]
  rfl

set_option maxHeartbeats 800000 in
theorem bcompare_c (va vb : Value) (a b : List UInt8) (w : World) (ha : Byt w va a) (hb : Byt w vb b) : Calls Tryz.prog 59 #[va, vb] w fun e w' => e = .returned (.int .i64 (Lib.compareBytes a b)) ∧ w = w' := by
  have hx : ∀ ex, ex = Extern.BytealgCompare.compare → (ex #[va, vb]).run Tryz.prog w = .ok (.int .i64 (Lib.compareBytes a b)) w := fun ex h => by rw [h]; exact run_compare ha hb
  have hcall : (callFunc 100 #[va, vb]).run Tryz.prog w = .ok (.value (.int .i64 (Lib.compareBytes a b))) w := by
    rw [run_callFunc_extern Tryz.func100 (by kernel_rfl) (by kernel_rfl) (by kernel_rfl) (e := Extern.BytealgCompare.compare) (by kernel_rfl), run_compare ha hb]
    rfl
  go_enter Tryz.func59, Tryz.ntmps59
  go_wp2
  go_ret
  exact ⟨rfl, rfl⟩

/-- Is one digest less than another one? -/
def dgLess (a b : List UInt8) : Bool := decide (Lib.compareBytes a b < 0)

theorem neq_dig (W : World) (a b : List UInt8) (ha : a.length = 32) (hb : b.length = 32) : (binOp .neq 64 (.agg (encU a).toArray) (.agg (encU b).toArray)).run Tryz.prog W = .ok (.bool (!(a == b))) W := by
  rw [run_neq_struct]
  have := run_equalIn_bytes (P := Tryz.prog) W 9998 64 5 32 (by kernel_rfl) (by kernel_rfl) (fun w => by simp [sizeOf, typeInfo]; kernel_rfl) a b ha hb
  have e : ∀ l : List UInt8, encU l = l.map Extern.Stop.cell := fun l => rfl
  rw [e, e, this]
  rfl
theorem cmpB_self : ∀ a : List UInt8, Lib.compareBytes a a = 0
  | [] => rfl
  | x :: a => by
    rw [Lib.compareBytes, if_neg (UInt8.lt_irrefl x), if_neg (UInt8.lt_irrefl x)]; exact cmpB_self a

set_option maxHeartbeats 1600000 in
theorem dless_c (a b : List UInt8) (ha : a.length = 32) (hb : b.length = 32) (w : World) : Calls Tryz.prog 155 #[.agg (encU a).toArray, .agg (encU b).toArray] w fun e w' => e = .returned (.bool (dgLess a b)) ∧ Below w.heap.size w w' := by
  obtain ⟨A, hA⟩ : ∃ A, A = (encU a).toArray := ⟨_, rfl⟩
  obtain ⟨B, hB⟩ : ∃ B, B = (encU b).toArray := ⟨_, rfl⟩
  have hAs : A.size = 32 := by rw [hA]; simp [encU_length, ha]
  have hBs : B.size = 32 := by rw [hB]; simp [encU_length, hb]
  have hq := fun W => neq_dig W a b ha hb
  rw [← hA, ← hB] at hq ⊢
  have HA := Lib.hid hA; have HB := Lib.hid hB; clear hA hB
  have hFA := @after_frozen
  cases hab : (a == b)
  · rw [hab] at hq
    have Hab := Lib.hid hab; clear hab
    go_enter Tryz.func155, Tryz.ntmps155
    go_wp2_with (first | ((fail_if_success have := k1); refine wpList_box_blk rfl 64 _ rfl _ rfl A rfl ?_; intro w1 k1 b1 s1) | (refine wpList_box_blk rfl 64 _ rfl _ rfl B rfl ?_; intro w2 k2 b2 s2))
    rw [s1] at k2
    have hb2 : Below w.heap.size w w2 := b1.trans (b2.mono (by omega))
    have k1' := k1.below b2 (by omega)
    have hcmp : ∀ x : After w2, Calls Tryz.prog 59 #[.slice (some ⟨w.heap.size, 0, none⟩) 32 32, .slice (some ⟨w.heap.size + 1, 0, none⟩) 32 32] x.w fun e w' => e = .returned (.int .i64 (Lib.compareBytes a b)) ∧ x.w = w' := fun x =>
      bcompare_c _ _ a b x.w (byt_of _ _ _ _ _ _ ha (by omega) (by decide) fun j hj => by rw [Nat.zero_add, (k1'.after x).cell, HA.out]; simp [encU, List.getElem?_eq_getElem (show j < a.length by omega), List.getD_eq_getElem?_getD])
        (byt_of _ _ _ _ _ _ hb (by omega) (by decide) fun j hj => by rw [Nat.zero_add, (k2.after x).cell, HB.out]; simp [encU, List.getElem?_eq_getElem (show j < b.length by omega), List.getD_eq_getElem?_getD])
    have Hcmp := Lib.hid hcmp; clear hcmp
    refine wp_quiet_all (C := fun w' => ∃ x : After _, w' = x.w) (by kernel_rfl) (by kernel_rfl) (since_drew _) ?_
    repeat (first | (go_big_quiet_want; (refine quiet_load_blk 64 _ rfl _ rfl w.heap.size rfl 64 A _ ?_ Tryz.underlying64 rfl (by rw [hAs]; exact size32_info) ?_; rotate_left; (go_simp; go_big_quiet_on); rotate_left; (rintro _ ⟨x, rfl⟩; exact k1'.after x))) | (go_big_quiet_want; (refine quiet_load_blk 64 _ rfl _ rfl (w.heap.size + 1) rfl 64 B _ ?_ Tryz.underlying64 rfl (by rw [hBs]; exact size32_info) ?_; rotate_left; (go_simp; go_big_quiet_on); rotate_left; (rintro _ ⟨x, rfl⟩; exact k2.after x))) | go_big_quiet_step ((go_at_call 59; exact after_call_same _ (Hcmp.out _))))
    refine wpQuiet_nil ?_
    rintro _ ⟨x1, rfl⟩
    go_wp2
    go_ret
    exact ⟨rfl, hb2.trans (x1.h.mono (by omega))⟩
  · rw [hab] at hq
    have Hab := Lib.hid hab; clear hab
    go_enter Tryz.func155, Tryz.ntmps155
    go_wp2_with (first | ((fail_if_success have := k1); refine wpList_box_blk rfl 64 _ rfl _ rfl A rfl ?_; intro w1 k1 b1 s1) | (refine wpList_box_blk rfl 64 _ rfl _ rfl B rfl ?_; intro w2 k2 b2 s2))
    rw [s1] at k2
    have hb2 : Below w.heap.size w w2 := b1.trans (b2.mono (by omega))
    have k1' := k1.below b2 (by omega)
    have hcmp : ∀ x : After w2, Calls Tryz.prog 59 #[.slice (some ⟨w.heap.size, 0, none⟩) 32 32, .slice (some ⟨w.heap.size + 1, 0, none⟩) 32 32] x.w fun e w' => e = .returned (.int .i64 (Lib.compareBytes a b)) ∧ x.w = w' := fun x =>
      bcompare_c _ _ a b x.w (byt_of _ _ _ _ _ _ ha (by omega) (by decide) fun j hj => by rw [Nat.zero_add, (k1'.after x).cell, HA.out]; simp [encU, List.getElem?_eq_getElem (show j < a.length by omega), List.getD_eq_getElem?_getD])
        (byt_of _ _ _ _ _ _ hb (by omega) (by decide) fun j hj => by rw [Nat.zero_add, (k2.after x).cell, HB.out]; simp [encU, List.getElem?_eq_getElem (show j < b.length by omega), List.getD_eq_getElem?_getD])
    have Hcmp := Lib.hid hcmp; clear hcmp
    refine wp_quiet_all (C := fun w' => ∃ x : After _, w' = x.w) (by kernel_rfl) (by kernel_rfl) (since_drew _) ?_
    repeat (first | (go_big_quiet_want; (refine quiet_load_blk 64 _ rfl _ rfl w.heap.size rfl 64 A _ ?_ Tryz.underlying64 rfl (by rw [hAs]; exact size32_info) ?_; rotate_left; (go_simp; go_big_quiet_on); rotate_left; (rintro _ ⟨x, rfl⟩; exact k1'.after x))) | (go_big_quiet_want; (refine quiet_load_blk 64 _ rfl _ rfl (w.heap.size + 1) rfl 64 B _ ?_ Tryz.underlying64 rfl (by rw [hBs]; exact size32_info) ?_; rotate_left; (go_simp; go_big_quiet_on); rotate_left; (rintro _ ⟨x, rfl⟩; exact k2.after x))) | go_big_quiet_step ((go_at_call 59; exact after_call_same _ (Hcmp.out _))))
    refine wpQuiet_nil ?_
    rintro _ ⟨x1, rfl⟩
    go_wp2
    go_ret
    exact ⟨by rw [show dgLess a b = false by unfold dgLess; rw [eq_of_beq Hab.out, cmpB_self]; rfl]; rfl, hb2.trans (x1.h.mono (by omega))⟩
end Go.Proofs.YtolbmemogoojhaaGreat
