/- Words of 32 bits: turning them, the first state, the roots. -/
import Derived.Test.YtgckgbonhbabpaaStampB
import Derived.Test.YtgckgbonhbabpaaArr
namespace Go.Proofs.Ytgckgbonhbabpaa
open Go Go.RowKit Go.Deep
set_option linter.unusedVariables false
set_option linter.unusedSimpArgs false
set_option maxRecDepth 100000

/-- A word turned to the right. -/
def rr (x : Int) (n : Nat) : Int := bits BinOp.or IntKind.u32 (x * 2 ^ (32 - n) % 4294967296) (x / 2 ^ (32 - (32 - n)))
theorem andneg_all : ∀ n : Fin 32, 1 ≤ n.val → bits BinOp.and IntKind.u64 (IntKind.u64.wrap (-(n.val : Int))) 31 = ((32 - n.val : Nat) : Int) := by decide +kernel
set_option maxHeartbeats 800000 in
theorem rotl_c (x : Int) (n : Nat) (h1 : 1 ≤ n) (h2 : n < 32) (w : World) : Calls Try.prog 95 #[.int .u32 x, .int .i64 (-(n : Int))] w fun e w' => e = .returned (.int .u32 (rr x n)) ∧ w = w' := by
  have ha := andneg_all ⟨n, h2⟩ h1
  simp only at ha
  have hs : (0 : Int) ≤ ((32 - n : Nat) : Int) := by omega
  go_enter Try.func95, Try.ntmps95
  go_wp2
  go_ret
  exact ⟨rfl, rfl⟩
set_option maxHeartbeats 800000 in
theorem right_c (x : Int) (n : Nat) (h1 : 1 ≤ n) (h2 : n < 32) (w : World) : Calls Try.prog 94 #[.int .u32 x, .int .i64 (n : Int)] w fun e w' => e = .returned (.int .u32 (rr x n)) ∧ w = w' := by
  have hw : wrap64 (-(n : Int)) = -(n : Int) := by unfold wrap64; omega
  go_enter Try.func94, Try.ntmps94
  go_wp2_with (go_at_call 95; (with_reducible refine (rotl_c x n h1 h2 _).mono ?_); rintro e w' ⟨rfl, rfl⟩)
  go_ret
  exact ⟨rfl, rfl⟩

def begunL : List Int := [1779033703, 3144134277, 1013904242, 2773480762, 1359893119, 2600822924, 528734635, 1541459225]
/-- Words as cells. -/
def encW (l : List Int) : Array Value := (l.map fun n => Value.int .u32 n).toArray
theorem encW_size (l : List Int) : (encW l).size = l.length := by simp [encW]
theorem encW_get (l : List Int) (i : Nat) : (encW l)[i]? = (l[i]?).map fun n => .int .u32 n := by simp [encW]
theorem encW_at (l : List Int) (i : Nat) (h : i < l.length) : (encW l)[i]? = some (.int .u32 (l.getD i 0)) := by
  rw [encW_get, List.getElem?_eq_getElem h]; simp [List.getD, List.getElem?_eq_getElem h]
theorem encW_set (l : List Int) (i : Nat) (n : Int) : (encW l).setIfInBounds i (.int .u32 n) = encW (l.set i n) := by
  simp [encW, List.map_set]
theorem encW_one (l : List Int) : (encW l).all (·.oneCell') = true := by simp [encW, Value.oneCell']
set_option maxHeartbeats 800000 in
theorem begun_c (w : World) : Calls Try.prog 83 #[] w fun e w' => e = .returned (.agg (encW begunL)) ∧ Below w.heap.size w w' := by
  have hAc := @after_cell
  have hAf := @after_frozen
  have hSz := sz_facts
  go_enter Try.func83, Try.ntmps83
  go_wp2
  exact bodyPost_ret (v := .agg (encW begunL)) (by simp only [results, Try.results83]; go_simp; rfl) rfl ⟨rfl, by (repeat (first | exact Below.refl _ _ | assumption | refine bel_alloc ?_ _ | refine bel_after _ ?_ | refine bel_drewN ?_ _ | refine bel_drew ?_ | refine bel_set ?_ (by first | omega | (simp only [World.size_alloc, World.size_drew, World.size_setCell]; omega) | (simp; omega)) _))⟩

def rootsL : List Int := [0x428a2f98, 0x71374491, 0xb5c0fbcf, 0xe9b5dba5, 0x3956c25b, 0x59f111f1, 0x923f82a4, 0xab1c5ed5,
  0xd807aa98, 0x12835b01, 0x243185be, 0x550c7dc3, 0x72be5d74, 0x80deb1fe, 0x9bdc06a7, 0xc19bf174,
  0xe49b69c1, 0xefbe4786, 0x0fc19dc6, 0x240ca1cc, 0x2de92c6f, 0x4a7484aa, 0x5cb0a9dc, 0x76f988da,
  0x983e5152, 0xa831c66d, 0xb00327c8, 0xbf597fc7, 0xc6e00bf3, 0xd5a79147, 0x06ca6351, 0x14292967,
  0x27b70a85, 0x2e1b2138, 0x4d2c6dfc, 0x53380d13, 0x650a7354, 0x766a0abb, 0x81c2c92e, 0x92722c85,
  0xa2bfe8a1, 0xa81a664b, 0xc24b8b70, 0xc76c51a3, 0xd192e819, 0xd6990624, 0xf40e3585, 0x106aa070,
  0x19a4c116, 0x1e376c08, 0x2748774c, 0x34b0bcb5, 0x391c0cb3, 0x4ed8aa4a, 0x5b9cca4f, 0x682e6ff3,
  0x748f82ee, 0x78a5636f, 0x84c87814, 0x8cc70208, 0x90befffa, 0xa4506ceb, 0xbef9a3f7, 0xc67178f2]
def rootsA : Array Value := encW rootsL
def zeroW : List Int := List.replicate 64 0
def zeroA : Array Value := encW zeroW
theorem zero_info : (Try.prog.info? 105).map (·.zero) = some (some (.agg zeroA)) := by kernel_rfl
theorem size_info : (Try.prog.info? 105).map (·.size) = some 64 := by kernel_rfl
set_option maxHeartbeats 1600000 in
theorem roots_c (w : World) : Calls Try.prog 84 #[] w fun e w' => e = .returned (.agg rootsA) ∧ Below w.heap.size w w' := by
  go_enter Try.func84, Try.ntmps84
  go_wp2_with (first | (refine wpList_alloc_blk rfl 105 rfl _ rfl (.agg zeroA) zeroA zero_info rfl ?_; intro w1 k1 b1 s1) | (refine wpList_build_to rfl 105 _ rfl _ rfl rootsA (by kernel_rfl) ?_) | (refine wpList_store_blk rfl 105 _ _ rfl _ rootsA rfl rfl _ _ k1 (by kernel_rfl) (by kernel_rfl) (by kernel_rfl) ?_; intro w2 k2 b2 s2))
  exact bodyPost_ret (results_cell_row Try.results84 _ _ w.heap.size _ rootsA _ _ rfl k2 Try.underlying105 rfl (by kernel_rfl)) rfl ⟨rfl, (b1.trans (b2.below (Nat.le_refl _) (by omega)))⟩
end Go.Proofs.Ytgckgbonhbabpaa
