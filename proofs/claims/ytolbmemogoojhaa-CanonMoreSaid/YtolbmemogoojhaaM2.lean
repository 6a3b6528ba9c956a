/- The contracts of package wire's Put and Get, and of the reference's. -/
import Derived.Test.YtolbmemogoojhaaM1
import Derived.Test.YtolbmemogoojhaaProg
import Derived.Laws.ShiftsVarLaws
import Derived.Laws.BitsAllLaws
import Derived.Laws.Bits64
namespace Go.Proofs.Ytolbmemogoojhaa
open Go Go.RowKit Go.Deep
set_option linter.unusedVariables false
set_option linter.unusedSimpArgs false

theorem or128_all : ∀ x : Fin 256, bits BinOp.or IntKind.u8 (x.val : Int) 128 = ((x.val % 128 + 128 : Nat) : Int) := by decide +kernel
theorem or128 (x : Nat) : bits BinOp.or IntKind.u8 ((x : Int) % 256) 128 = (((UInt8.ofNat (x % 128 + 128)).toNat : Nat) : Int) := by
  have h := or128_all ⟨x % 256, Nat.mod_lt _ (by omega)⟩
  simp only at h
  rw [show ((x : Int) % 256) = ((x % 256 : Nat) : Int) by omega, h, u8_ofNat_toNat _ (by omega)]
  congr 1
  omega
theorem not128_all : ∀ x : Fin 256, bits BinOp.andNot IntKind.u8 (x.val : Int) 128 = ((x.val % 128 : Nat) : Int) := by decide +kernel
theorem not128 (c : UInt8) : bits BinOp.andNot IntKind.u8 (c.toNat : Int) 128 = ((c.toNat % 128 : Nat) : Int) := not128_all ⟨c.toNat, c.toNat_lt⟩

set_option maxHeartbeats 400000 in
theorem groups_c (n : Nat) (hn : n < 18446744073709551616) (w : World) : Calls Try.prog 91 #[.int .u64 n] w fun e w' => e = .returned (.int .i64 ((putL n).length : Int)) ∧ w = w' := by
  have h10 := (putL_le n hn).2
  have hl := putL_length n
  go_enter Try.func91, Try.ntmps91
  go_wp2
  have H10 := Lib.hid h10; clear h10
  have Hl := Lib.hid hl; clear hl
  go_loop [0, 3] (fun a b => ∃ m k : Nat, a = .int .u64 m ∧ b = .int .i64 k ∧ (putL n).length = k + (hi m).length ∧ m < 18446744073709551616) (fun a _ => (intOf a).toNat)
  case atStart =>
    refine ⟨n / 128, 1, by go_num, rfl, by rw [Hl.out]; omega, by omega⟩
  case round =>
    obtain ⟨m, k, rfl, rfl, hk, hm⟩ := hrel
    have h10 := H10.out
    have hk10 : k ≤ 10 := by omega
    have Hk := Lib.hid hk; clear hk h10
    by_cases h0 : 0 < m
    · have hp := Lib.hid (hi_pos (m := m) (by omega))
      go_wp2
      go_round
      case rel =>
        refine ⟨m / 128, k + 1, by go_num, by go_num, ?_, by omega⟩
        rw [Hk.out, hp.out]; simp; omega
      case measure => simp [intOf]; omega
    · have hm0 : m = 0 := by omega
      subst hm0
      go_wp2
      go_ret
      refine ⟨ret_int ?_, rfl⟩
      rw [Hk.out, hi_zero]; simp

def putA (n k i : Nat) : Array Value := (encU (arrU n k i)).toArray
theorem putA_size (n k i : Nat) : (putA n k i).size = k := by simp [putA, encU_length, arrU_length]
theorem putA_set (n k i : Nat) (hi : i < k) : (putA n k i).setIfInBounds (k - 1 - i) (.int .u8 (((UInt8.ofNat (n / 128 ^ i % 128 + 128)).toNat : Nat) : Int)) = putA n k (i + 1) := by
  unfold putA
  rw [← arrU_set n k i hi]
  simp [encU, List.map_set]
theorem putA_zero (n k : Nat) : putA n k 0 = madeCells #[.int .u8 0] k := by
  apply Array.ext'
  rw [toList_madeCells_one]
  simp only [putA, encU, arrU]
  apply List.ext_getElem
  · simp
  · intro j h1 h2; simp

theorem out_pow (n i : Nat) : n / 2 ^ (7 * i) = n / 128 ^ i := by rw [Nat.pow_mul]

set_option maxHeartbeats 800000 in
theorem put_c (n : Nat) (hn : n < 18446744073709551616) (w : World) : Calls Try.prog 69 #[.int .u64 n] w (MadeU 5 (putL n) w) := by
  obtain ⟨k, hk⟩ : ∃ k, k = (putL n).length := ⟨_, rfl⟩
  obtain ⟨hk1, hk2⟩ : 1 ≤ k ∧ k ≤ 10 := by have := putL_le n hn; omega
  have Hg : Hid (∀ w, Calls Try.prog 91 #[.int .u64 n] w fun e w' => e = .returned (.int .i64 k) ∧ w = w') := by rw [hk]; exact Lib.hid fun w => groups_c n hn w
  have Hk := Lib.hid hk; clear hk
  go_enter Try.func69, Try.ntmps69
  have hmk := fun wx => run_make_row' (P := Try.prog) 73 5 (.int .u8 0) 1 (by kernel_rfl) (by kernel_rfl) (by rfl) .i64 .i64 k (by omega) (by omega) wx
  go_wp2_with (go_at_call 91; refine (Hg.out _).mono ?_; rintro e w' ⟨rfl, rfl⟩)
  clear hmk
  go_loopw [5, 11] (fun _ i wr => ∃ j : Nat, j ≤ k ∧ i = .int .i64 j ∧ wr = w.alloc (.cells (putA n k j) 5)) (fun _ i _ => k - (intOf i).toNat)
  case atStart => exact ⟨0, Nat.zero_le _, rfl, by rw [putA_zero]⟩
  case round =>
    obtain ⟨j, hj, rfl, rfl⟩ := hrel
    have hsz := putA_size n k j
    by_cases hlt : j < k
    · have hc : ∃ v, (putA n k j)[k - 1 - j]? = some v := ⟨_, Array.getElem?_eq_getElem (by rw [hsz]; omega)⟩
      obtain ⟨v0, hc⟩ := hc
      have Hset := Lib.hid (putA_set n k j hlt)
      have Hb := Lib.hid (or128 (n / 2 ^ (7 * j)))
      go_wp2
      go_roundw
      case rel =>
        refine ⟨j + 1, by omega, by go_num, ?_⟩
        rw [← Hset.out]
        have := Hb.out
        rw [Int.natCast_ediv] at this
        simp only [Int.natCast_pow, Int.cast_ofNat_Int] at this
        rw [this, out_pow]
      case measure => simp [intOf]; omega
    · have hjk : j = k := by omega
      subst hjk
      obtain ⟨c, Hc⟩ : ∃ c : UInt8, Hid (c = UInt8.ofNat (n % 128 + 128)) := ⟨_, rfl⟩
      have hc : (putA n j j)[j - 1]? = some (.int .u8 (c.toNat : Int)) := by
        have h1 := encU_get (arrU n j j) (j - 1)
        rw [arrU_cleared n j hk1, ← Hc.out] at h1
        simpa [putA] using h1
      have Hn := Lib.hid (not128 c)
      go_wp2
      go_ret
      refine ⟨_, rfl, ?_, by (repeat (first | exact Below.refl _ _ | assumption | refine bel_alloc ?_ _ | refine bel_after _ ?_ | refine bel_drewN ?_ _ | refine bel_drew ?_ | refine bel_set ?_ (by first | omega | (simp only [World.size_alloc, World.size_drew, World.size_setCell]; omega) | (simp; omega)) _))⟩
      have hfin : (putA n j j).setIfInBounds (j - 1) (.int .u8 ((c.toNat % 128 : Nat) : Int)) = (encU (putL n)).toArray := by
        rw [← arrU_last n j Hk.out]
        simp only [putA, encU, List.setIfInBounds_toArray, List.map_set]
        congr 3
        rw [Hc.out, u8_ofNat_toNat _ (by omega), u8_ofNat_toNat _ (by omega)]
        omega
      rw [Hn.out, hfin]
      have ho := World.ownsRow_lit (base := w.heap.size) (e := 5) (size := 1) w (encU (putL n)).toArray j (Nat.le_refl _) (by unfold maxLen; omega) (by simp [encU_length, Hk.out])
      unfold OwnU
      rw [← Hk.out]
      simpa using ho

theorem encU_cons (c : UInt8) (bs : List UInt8) : encU (c :: bs) = .int .u8 (c.toNat : Int) :: encU bs := rfl

/-- What Get tells, as three numbers. -/
def GetIs (r : Option (Nat × Nat)) : Value := .tuple #[.int .u64 ((r.elim 0 (·.1) : Nat) : Int), .int .i64 ((r.elim 0 (·.2) : Nat) : Int), .bool r.isSome]
theorem get_none {r : Option (Nat × Nat)} (h : r = none) : Ending.returned (.tuple #[.int .u64 0, .int .i64 0, .bool false]) = .returned (GetIs r) := by subst h; rfl
theorem get_some {r : Option (Nat × Nat)} {n u : Nat} {a b : Int} (h : r = some (n, u)) (ha : a = n) (hb : b = u) : Ending.returned (.tuple #[.int .u64 a, .int .i64 b, .bool true]) = .returned (GetIs r) := by subst h ha hb; rfl

theorem join128 (m : Nat) (c : UInt8) (hm : m < 144115188075855872) : bits BinOp.or IntKind.u64 ((m : Int) * 128) ((c.toNat % 128 : Nat) : Int) = ((m * 128 + c.toNat % 128 : Nat) : Int) := by
  have h1 : ((m : Int) * 128) = ((m * 128 : Nat) : Int) := by omega
  rw [h1, u64_or_nat _ _ (by omega) (by omega), nat_join 7 _ _ (by omega) (by omega)]
theorem getF_cons {i m : Nat} {c : UInt8} {bs : List UInt8} (k : Nat) (hi : i = k) (hk : k < bs.length) (hc : bs.getD k 0 = c) : getF i m (bs.drop k) =
    if i = 10 ∨ (i = 9 ∧ 0 < m / 144115188075855872) ∨ (i = 0 ∧ c.toNat = 128) then none
    else if c.toNat < 128 then some (m * 128 + c.toNat % 128, i + 1) else getF (i + 1) (m * 128 + c.toNat % 128) (bs.drop (k + 1)) := by
  have e : bs.drop k = c :: bs.drop (k + 1) := by
    rw [List.drop_eq_getElem_cons hk]
    congr 1
    rw [← hc, List.getD_eq_getElem?_getD, List.getElem?_eq_getElem hk]; rfl
  rw [e, getF]

set_option maxRecDepth 100000 in
set_option maxHeartbeats 1600000 in
theorem get_c (v : Value) (bs : List UInt8) (w : World) (hv : Byt w v bs) : Calls Try.prog 93 #[v] w fun e w' => e = .returned (GetIs (getR bs)) ∧ w = w' := by
  obtain ⟨a, c, rfl, _, hm, _, hcell⟩ := hv.open_
  have hlen : bs.length ≤ maxLen := by omega
  unfold maxLen at hlen
  clear hm
  have Hcell := Lib.hid hcell; clear hcell hv
  go_enter Try.func93, Try.ntmps93
  go_wp2
  go_step3
  go_wp2
  go_step3
  go_wp2
  go_loop [5, 6, 11] (fun n u i => ∃ k m : Nat, k ≤ bs.length ∧ k ≤ 10 ∧ i = .int .i64 k ∧ n = .int .u64 m ∧ u = .int .i64 0 ∧ m < 128 ^ k ∧ m < 18446744073709551616 ∧ getF k m (bs.drop k) = getR bs) (fun _ _ i => bs.length - (intOf i).toNat)
  case atStart => exact ⟨0, 0, by omega, by omega, rfl, rfl, rfl, by simp, by omega, by simp [getR]⟩
  case round =>
    obtain ⟨k, m, hk, hk10, rfl, rfl, rfl, hm1, hm2, hg⟩ := hrel
    have Hg := Lib.hid hg; clear hg
    have Hm1 := Lib.hid hm1; clear hm1
    by_cases hlt : k < bs.length
    · obtain ⟨b, off, rfl, hc⟩ := Hcell.out (by omega)
      have hck := hc k hlt
      clear hc
      obtain ⟨c0, hc0⟩ : ∃ c0 : UInt8, bs.getD k 0 = c0 := ⟨_, rfl⟩
      have hstep := getF_cons (i := k) (m := m) (c := c0) (bs := bs) k rfl hlt hc0
      rw [hc0] at hck
      have hcb : c0.toNat < 256 := c0.toNat_lt
      rw [Hg.out] at hstep
      clear Hg hc0
      by_cases hA : k = 10
      · rw [if_pos (by omega)] at hstep
        have Hs := Lib.hid hstep; clear hstep
        subst hA
        go_wp2
        all_goals first | (rw [Exit.noGoto_ret]; go_ret3) | go_ret3
        all_goals exact ⟨get_none Hs.out, rfl⟩
      · by_cases hB : k = 9 ∧ 144115188075855872 ≤ m
        · obtain ⟨rfl, hB⟩ := hB
          rw [if_pos (by omega)] at hstep
          have Hs := Lib.hid hstep; clear hstep
          have hq : (0 : Int) < (m : Int) / 144115188075855872 := by omega
          go_wp2
          all_goals first | (rw [Exit.noGoto_ret]; go_ret3) | go_ret3
          all_goals exact ⟨get_none Hs.out, rfl⟩
        · by_cases hC : k = 0 ∧ c0.toNat = 128
          · obtain ⟨rfl, hC⟩ := hC
            simp only [Nat.add_zero] at hck
            rw [if_pos (by omega)] at hstep
            have Hs := Lib.hid hstep; clear hstep
            have hq : ((c0.toNat : Int) == 128) = true := by rw [beq_iff_eq]; omega
            clear hC
            go_wp2
            all_goals first | (rw [Exit.noGoto_ret]; go_ret3) | go_ret3
            all_goals exact ⟨get_none Hs.out, rfl⟩
          · rw [if_neg (by omega)] at hstep
            have hmb : m < 144115188075855872 := by
              rcases (by omega : k = 9 ∨ k ≤ 8) with h | h
              · omega
              · have h1 := Hm1.out
                have h2 : (128 : Nat) ^ k ≤ 128 ^ 8 := Nat.pow_le_pow_right (by omega) h
                have h3 : (128 : Nat) ^ 8 = 72057594037927936 := by decide
                omega
            have Hj := Lib.hid (join128 m c0 hmb)
            have Hn := Lib.hid (not128 c0)
            have Hw := Lib.hid (IntWalk.u64_in ((c0.toNat % 128 : Nat) : Int) (by omega))
            have Hpow : Hid (m * 128 + c0.toNat % 128 < 128 ^ (k + 1)) := by
              have h1 := Hm1.out
              have : m * 128 + c0.toNat % 128 < 128 ^ k * 128 := by omega
              rw [Nat.pow_succ]; exact this
            by_cases hD : c0.toNat < 128
            · rw [if_pos hD] at hstep
              have Hs := Lib.hid hstep; clear hstep
              rcases (by omega : k = 0 ∨ (0 < k ∧ k < 9) ∨ k = 9) with hk0 | ⟨hk0, hk9⟩ | hk9
              · subst hk0
                simp only [Nat.add_zero] at hck
                have hq : ((c0.toNat : Int) == 128) = false := by rw [beq_eq_false_iff_ne]; omega
                clear hC hB
                go_wp2
                all_goals first | (rw [Exit.noGoto_ret]; go_ret3) | go_ret3
                all_goals exact ⟨get_some Hs.out (by rw [Hn.out, Hw.out]; exact Hj.out) rfl, rfl⟩
              · clear hC hB
                go_wp2
                all_goals first | (rw [Exit.noGoto_ret]; go_ret3) | go_ret3
                all_goals exact ⟨get_some Hs.out (by rw [Hn.out, Hw.out]; exact Hj.out) rfl, rfl⟩
              · subst hk9
                have hq : ¬ ((0 : Int) < (m : Int) / 144115188075855872) := by omega
                clear hC hB
                go_wp2
                all_goals first | (rw [Exit.noGoto_ret]; go_ret3) | go_ret3
                all_goals exact ⟨get_some Hs.out (by rw [Hn.out, Hw.out]; exact Hj.out) rfl, rfl⟩
            · rw [if_neg hD] at hstep
              have Hs := Lib.hid hstep; clear hstep
              rcases (by omega : k = 0 ∨ (0 < k ∧ k < 9) ∨ k = 9) with hk0 | ⟨hk0, hk9⟩ | hk9
              · subst hk0
                simp only [Nat.add_zero] at hck
                have hq : ((c0.toNat : Int) == 128) = false := by rw [beq_eq_false_iff_ne]; omega
                clear hC hB
                go_wp2
                go_round
                case rel => exact ⟨0 + 1, m * 128 + c0.toNat % 128, by omega, by omega, rfl, by rw [Hn.out, Hw.out, Hj.out], rfl, Hpow.out, by omega, Hs.out.symm⟩
                case measure => simp [intOf]; omega
              · clear hC hB
                go_wp2
                go_round
                case rel => exact ⟨k + 1, m * 128 + c0.toNat % 128, by omega, by omega, by go_num, by rw [Hn.out, Hw.out, Hj.out], rfl, Hpow.out, by omega, Hs.out.symm⟩
                case measure => simp [intOf]; omega
              · subst hk9
                have hq : ¬ ((0 : Int) < (m : Int) / 144115188075855872) := by omega
                clear hC hB
                go_wp2
                go_round
                case rel => exact ⟨9 + 1, m * 128 + c0.toNat % 128, by omega, by omega, rfl, by rw [Hn.out, Hw.out, Hj.out], rfl, Hpow.out, by omega, Hs.out.symm⟩
                case measure => simp [intOf]; omega
    · have hkl : k = bs.length := by omega
      have hnone : getR bs = none := by rw [← Hg.out, hkl]; simp [getF]
      have Hs := Lib.hid hnone; clear hnone
      subst hkl
      go_wp2
      all_goals first | (rw [Exit.noGoto_ret]; go_ret3) | go_ret3
      all_goals exact ⟨get_none Hs.out, rfl⟩

theorem rgetF_cons {i m : Nat} {c : UInt8} {bs : List UInt8} (k : Nat) (hi : i = k) (hk : k < bs.length) (hc : bs.getD k 0 = c) : rgetF i m (bs.take k) (bs.drop k) =
    if 10 ≤ i then none
    else if c.toNat < 128 then (if putL ((128 * m + c.toNat % 128) % 18446744073709551616) = bs.take (k + 1) then some ((128 * m + c.toNat % 128) % 18446744073709551616, i + 1) else none)
    else rgetF (i + 1) ((128 * m + c.toNat % 128) % 18446744073709551616) (bs.take (k + 1)) (bs.drop (k + 1)) := by
  have hg : bs[k] = c := by rw [← hc, List.getD_eq_getElem?_getD, List.getElem?_eq_getElem hk]; rfl
  have e : bs.drop k = c :: bs.drop (k + 1) := by rw [List.drop_eq_getElem_cons hk, hg]
  have e2 : bs.take k ++ [c] = bs.take (k + 1) := by rw [List.take_succ_eq_append_getElem hk, hg]
  rw [e, rgetF, e2]
theorem wrap_join (m : Nat) (c : Nat) (hc : c < 256) : IntKind.u64.wrap (IntKind.u64.wrap (128 * (m : Int)) + (c : Int) % 128) = (((128 * m + c % 128) % 18446744073709551616 : Nat) : Int) := by
  rw [IntKind.wrap_u64, IntKind.wrap_u64]; omega

theorem get_no_c (v : Value) (bs : List UInt8) (w : World) (hv : Byt w v bs) (h : getR bs = none) : Calls Try.prog 93 #[v] w fun e w' => e = .returned (.tuple #[.int .u64 0, .int .i64 0, .bool false]) ∧ w = w' :=
  (get_c v bs w hv).mono fun e w' ⟨he, hw⟩ => ⟨by rw [he, h]; rfl, hw⟩
theorem get_yes_c (v : Value) (bs : List UInt8) (n u : Nat) (w : World) (hv : Byt w v bs) (h : getR bs = some (n, u)) : Calls Try.prog 93 #[v] w fun e w' => e = .returned (.tuple #[.int .u64 (n : Int), .int .i64 (u : Int), .bool true]) ∧ w = w' :=
  (get_c v bs w hv).mono fun e w' ⟨he, hw⟩ => ⟨by rw [he, h]; rfl, hw⟩
end Go.Proofs.Ytolbmemogoojhaa
