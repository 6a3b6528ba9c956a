/- The words of a chunk. -/
import Derived.Test.YtgckgbonhbabpaaShaA
namespace Go.Proofs.Ytgckgbonhbabpaa
open Go Go.RowKit Go.Deep
set_option linter.unusedVariables false
set_option linter.unusedSimpArgs false
set_option maxRecDepth 100000

def w16 (c0 c1 c2 c3 : UInt8) : Int := bits BinOp.or IntKind.u32 (bits BinOp.or IntKind.u32 (bits BinOp.or IntKind.u32 ((c0.toNat : Int) % 4294967296 * 16777216 % 4294967296) ((c1.toNat : Int) % 4294967296 * 65536 % 4294967296)) ((c2.toNat : Int) % 4294967296 * 256 % 4294967296)) ((c3.toNat : Int) % 4294967296)
def wNew (a b x y : Int) : Int := (a + b + bits BinOp.xor IntKind.u32 (bits BinOp.xor IntKind.u32 (rr x 7) (rr x 18)) (x / 8) + bits BinOp.xor IntKind.u32 (bits BinOp.xor IntKind.u32 (rr y 17) (rr y 19)) (y / 1024)) % 4294967296
def schedStep (bs : List UInt8) (l : List Int) (k : Nat) : List Int :=
  l.set k (if k < 16 then w16 (bs.getD (4 * k) 0) (bs.getD (4 * k + 1) 0) (bs.getD (4 * k + 2) 0) (bs.getD (4 * k + 3) 0) else wNew (l.getD (k - 16) 0) (l.getD (k - 7) 0) (l.getD (k - 15) 0) (l.getD (k - 2) 0))
/-- The words of a chunk, k of them. -/
def sched (bs : List UInt8) : Nat → List Int
  | 0 => zeroW
  | k + 1 => schedStep bs (sched bs k) k
theorem sched_length (bs : List UInt8) : ∀ k, (sched bs k).length = 64
  | 0 => by simp [sched, zeroW]
  | k + 1 => by rw [sched, schedStep, List.length_set, sched_length bs k]

theorem right_i (x N : Int) (h1 : 1 ≤ N) (h2 : N < 32) (w : World) : Calls Try.prog 94 #[.int .u32 x, .int .i64 N] w fun e w' => e = .returned (.int .u32 (rr x N.toNat)) ∧ w = w' := by
  obtain ⟨n, rfl⟩ := Int.eq_ofNat_of_zero_le (show 0 ≤ N by omega)
  exact right_c x n (by omega) (by omega) w
theorem cell_below' {w w' : World} {B b o : Nat} {u : Value} (h : Below B w w') (hb : b < B) (hc : w.cell? ⟨b, o, none⟩ = some u) : w'.cell? ⟨b, o, none⟩ = some u := (h.cell (p := ⟨b, o, none⟩) hb).trans hc
set_option maxHeartbeats 3200000 in
theorem schedule_c (v : Value) (bs : List UInt8) (hl : bs.length = 64) (w : World) (hv : Byt w v bs) : Calls Try.prog 93 #[v] w fun e w' => e = .returned (.agg (encW (sched bs 64))) ∧ Below w.heap.size w w' := by
  obtain ⟨a, c, rfl, _, hm, _, hcell⟩ := hv.open_
  obtain ⟨bb, off, rfl, hc⟩ := hcell (by omega)
  have hbb : bb < w.heap.size := World.block_lt_of_cell? w _ (hc 0 (by omega))
  rw [hl] at hc hcell
  clear hm hcell
  have Hc := Lib.hid hc; clear hc hv
  go_enter Try.func93, Try.ntmps93
  go_wp2_with (first | ((fail_if_success have := k1); refine wpList_alloc_blk rfl 105 rfl _ rfl (.agg zeroA) zeroA zero_info rfl ?_; intro w1 k1 b1 s1) | (refine wpList_alloc_blk rfl 105 rfl _ rfl (.agg zeroA) zeroA zero_info rfl ?_; intro w2 k2 b2 s2))
  rw [s1] at k2
  have k2' : Blk w2 w.heap.size 105 zeroA := k1.below b2 (by omega)
  have hb2 : Below w.heap.size w w2 := b1.trans (b2.mono (by omega))
  go_loopw [7] (fun i wr => ∃ j : Nat, j ≤ 64 ∧ i = .int .i64 j ∧ Hid (Blk wr (w.heap.size + 1) 105 (encW (sched bs j))) ∧ Hid (Blk wr w.heap.size 105 zeroA) ∧ Hid (Below w.heap.size w wr)) (fun i _ => 64 - (intOf i).toNat)
  case atStart => exact ⟨0, by omega, rfl, Lib.hid k2, Lib.hid k2', Lib.hid hb2⟩
  case round =>
    obtain ⟨j, hj, rfl, K, K0, hb⟩ := hrel
    have hA := @after_cell
    have hF := @after_frozen
    have hsz : w.heap.size + 2 ≤ wr.heap.size := by have := K.out.lt; omega
    have hL := sched_length bs j
    have s0 : (w.heap.size + 1 < wr.heap.size) = True := by simp only [eq_iff_iff, iff_true]; omega
    by_cases h64 : j < 64
    · obtain ⟨v0, hv0⟩ : ∃ v0, wr.cell? ⟨w.heap.size + 1, j, none⟩ = some v0 := ⟨_, (K.out.cell j).trans (encW_at _ _ (by omega))⟩
      have hf0 := K.out.frozen j
      by_cases h16 : j < 16
      · have hbr : bb < wr.heap.size := by omega
        obtain ⟨c0, hd0, hc0⟩ : ∃ c0 : UInt8, Hid (c0 = bs.getD (4 * j) 0) ∧ wr.cell? ⟨bb, off + 4 * j, none⟩ = some (.int .u8 (c0.toNat : Int)) := ⟨_, Lib.hid rfl, cell_below' hb.out hbb (Hc.out (4 * j) (by omega))⟩
        obtain ⟨c1, hd1, hc1⟩ : ∃ c1 : UInt8, Hid (c1 = bs.getD ((4 * j + 1)) 0) ∧ wr.cell? ⟨bb, off + (4 * j + 1), none⟩ = some (.int .u8 (c1.toNat : Int)) := ⟨_, Lib.hid rfl, cell_below' hb.out hbb (Hc.out ((4 * j + 1)) (by omega))⟩
        obtain ⟨c2, hd2, hc2⟩ : ∃ c2 : UInt8, Hid (c2 = bs.getD ((4 * j + 2)) 0) ∧ wr.cell? ⟨bb, off + (4 * j + 2), none⟩ = some (.int .u8 (c2.toNat : Int)) := ⟨_, Lib.hid rfl, cell_below' hb.out hbb (Hc.out ((4 * j + 2)) (by omega))⟩
        obtain ⟨c3, hd3, hc3⟩ : ∃ c3 : UInt8, Hid (c3 = bs.getD ((4 * j + 3)) 0) ∧ wr.cell? ⟨bb, off + (4 * j + 3), none⟩ = some (.int .u8 (c3.toNat : Int)) := ⟨_, Lib.hid rfl, cell_below' hb.out hbb (Hc.out ((4 * j + 3)) (by omega))⟩
        go_wp2
        refine wp_quiet_tail (C := fun w' => ∃ x : After _, w' = x.w) 35 (by kernel_rfl) (by kernel_rfl) (since_drew _) ?_
        simp only [List.take_succ_cons, List.take_zero, List.drop_succ_cons, List.drop_zero]
        repeat (go_big_quiet_step (fail))
        refine wpQuiet_nil ?_
        rintro _ ⟨x1, rfl⟩
        have hz := after_size x1
        have s3 : (w.heap.size + 1 < x1.w.heap.size) = True := by simp only [eq_iff_iff, iff_true]; omega
        go_wp2
        go_roundw
        case rel =>
          refine ⟨j + 1, by omega, by go_num, ?_, ?_, ?_⟩
          · have := (K.out.after x1).set j (.int .u32 (w16 c0 c1 c2 c3))
            rw [encW_set] at this
            have e : (sched bs j).set j (w16 c0 c1 c2 c3) = sched bs (j + 1) := by rw [sched, schedStep, if_pos h16, hd0.out, hd1.out, hd2.out, hd3.out]
            rw [e] at this
            exact Lib.hid this
          · exact Lib.hid ((K0.out.after x1).setOther (by simp) _)
          · exact Lib.hid ((bel_step hb.out x1.h).setCell (by simp) _)
        case measure => simp [intOf]; omega
      · obtain ⟨y15, hy15⟩ : ∃ y : Int, Hid (y = (sched bs j).getD (j - 15) 0) := ⟨_, rfl⟩
        obtain ⟨y2, hy2⟩ : ∃ y : Int, Hid (y = (sched bs j).getD (j - 2) 0) := ⟨_, rfl⟩
        obtain ⟨y16, hy16⟩ : ∃ y : Int, Hid (y = (sched bs j).getD (j - 16) 0) := ⟨_, rfl⟩
        obtain ⟨y7, hy7⟩ : ∃ y : Int, Hid (y = (sched bs j).getD (j - 7) 0) := ⟨_, rfl⟩
        have c15 : wr.cell? ⟨w.heap.size + 1, j - 15, none⟩ = some (.int .u32 y15) := by rw [hy15.out]; exact (K.out.cell _).trans (encW_at _ _ (by omega))
        have c2 : wr.cell? ⟨w.heap.size + 1, j - 2, none⟩ = some (.int .u32 y2) := by rw [hy2.out]; exact (K.out.cell _).trans (encW_at _ _ (by omega))
        have c16 : wr.cell? ⟨w.heap.size + 1, j - 16, none⟩ = some (.int .u32 y16) := by rw [hy16.out]; exact (K.out.cell _).trans (encW_at _ _ (by omega))
        have c7 : wr.cell? ⟨w.heap.size + 1, j - 7, none⟩ = some (.int .u32 y7) := by rw [hy7.out]; exact (K.out.cell _).trans (encW_at _ _ (by omega))
        go_wp2
        refine wp_quiet_all (C := fun w' => ∃ x : After _, w' = x.w) (by kernel_rfl) (by kernel_rfl) (since_drew _) ?_
        repeat (go_big_quiet_step (fail))
        refine wpQuiet_nil ?_
        rintro _ ⟨x0, rfl⟩
        have hz0 := after_size x0
        have s4 : (w.heap.size + 1 < x0.w.heap.size) = True := by simp only [eq_iff_iff, iff_true]; omega
        go_wp2
        refine wp_quiet_tail (C := fun w' => ∃ x : After _, w' = x.w) 29 (by kernel_rfl) (by kernel_rfl) (since_drew _) ?_
        simp only [List.take_succ_cons, List.take_zero, List.drop_succ_cons, List.drop_zero]
        repeat (go_big_quiet_step ((go_at_call 94; exact after_call_same _ (right_i _ _ (by decide) (by decide) _))))
        refine wpQuiet_nil ?_
        rintro _ ⟨x1, rfl⟩
        have hz := after_size x1
        have s3 : (w.heap.size + 1 < x1.w.heap.size) = True := by simp only [eq_iff_iff, iff_true]; omega
        go_wp2
        go_roundw
        case rel =>
          refine ⟨j + 1, by omega, by go_num, ?_, ?_, ?_⟩
          · have := ((K.out.after x0).after x1).set j (.int .u32 (wNew y16 y7 y15 y2))
            rw [encW_set] at this
            have e : (sched bs j).set j (wNew y16 y7 y15 y2) = sched bs (j + 1) := by rw [sched, schedStep, if_neg h16, hy16.out, hy7.out, hy15.out, hy2.out]
            rw [e] at this
            exact Lib.hid this
          · exact Lib.hid (((K0.out.after x0).after x1).setOther (by simp) _)
          · exact Lib.hid ((bel_step (bel_step hb.out x0.h) x1.h).setCell (by simp) _)
        case measure => simp [intOf]; omega
    · have hj64 : j = 64 := by omega
      subst hj64
      obtain ⟨S, hS⟩ : ∃ S, S = encW (sched bs 64) := ⟨_, rfl⟩
      have hSs : S.size = 64 := by rw [hS, encW_size, sched_length]
      have K' := K.out
      rw [← hS] at K'
      have h1 : S.all (·.oneCell') = true := by rw [hS]; exact encW_one _
      have HS := Lib.hid hS; clear hS
      have K'' := Lib.hid K'
      clear K'
      go_wp2_with (first | (refine wpList_load_row rfl 105 _ rfl _ rfl _ S _ _ K''.out Try.underlying105 rfl (by rw [hSs]; exact size_info) ?_) | (refine wpList_store_blk rfl 105 _ _ rfl _ S rfl rfl _ _ K0.out (by rw [hSs]; exact size_info) (by rw [hSs]; rfl) h1 ?_; intro w3 k3 b3 s3))
      exact bodyPost_ret (results_cell_row Try.results93 _ _ w.heap.size _ S _ _ rfl k3 Try.underlying105 rfl (by rw [hSs]; exact size_info)) rfl ⟨by rw [HS.out], hb.out.trans (b3.below (Nat.le_refl _) (by omega))⟩
end Go.Proofs.Ytgckgbonhbabpaa
