/- The contracts of package wire's Put and Get, and of the reference's. -/
import Derived.Test.YtolbmemogoojhaaGreatKM1
import Derived.Test.YtolbmemogoojhaaGreatProg
import Derived.Laws.ShiftsVarLaws
import Derived.Laws.BitsAllLaws
import Derived.Laws.Bits64
namespace Go.Proofs.YtolbmemogoojhaaGreat
open Go Go.RowKit Go.Deep
set_option linter.unusedVariables false
set_option linter.unusedSimpArgs false

theorem or128_all : ∀ x : Fin 256, bits BinOp.or IntKind.u8 (x.val : Int) 128 = ((x.val % 128 + 128 : Nat) : Int) := by decide +kernel
theorem or128 (x : Nat) : bits BinOp.or IntKind.u8 ((x : Int) % 256) 128 = (((UInt8.ofNat (x % 128 + 128)).toNat : Nat) : Int) := by
  have h := or128_all ⟨x % 256, Nat.mod_lt _ (by omega)⟩
  simp only at h
  rw [show ((x : Int) % 256) = ((x % 256 : Nat) : Int) by omega, h, u8_ofNat_toNat _ (by omega)]
  congr 1
  omega
theorem not128_all : ∀ x : Fin 256, bits BinOp.andNot IntKind.u8 (x.val : Int) 128 = ((x.val % 128 : Nat) : Int) := by decide +kernel
theorem not128 (c : UInt8) : bits BinOp.andNot IntKind.u8 (c.toNat : Int) 128 = ((c.toNat % 128 : Nat) : Int) := not128_all ⟨c.toNat, c.toNat_lt⟩

set_option maxHeartbeats 400000 in
theorem groups_c (n : Nat) (hn : n < 18446744073709551616) (w : World) : Calls Tryz.prog 108 #[.int .u64 n] w fun e w' => e = .returned (.int .i64 ((putL n).length : Int)) ∧ w = w' := by
  have h10 := (putL_le n hn).2
  have hl := putL_length n
  go_enter Tryz.func108, Tryz.ntmps108
  go_wp2
  have H10 := Lib.hid h10; clear h10
  have Hl := Lib.hid hl; clear hl
  go_loop [0, 3] (fun a b => ∃ m k : Nat, a = .int .u64 m ∧ b = .int .i64 k ∧ (putL n).length = k + (hi m).length ∧ m < 18446744073709551616) (fun a _ => (intOf a).toNat)
  case atStart =>
    refine ⟨n / 128, 1, by go_num, rfl, by rw [Hl.out]; omega, by omega⟩
  case round =>
    obtain ⟨m, k, rfl, rfl, hk, hm⟩ := hrel
    have h10 := H10.out
    have hk10 : k ≤ 10 := by omega
    have Hk := Lib.hid hk; clear hk h10
    by_cases h0 : 0 < m
    · have hp := Lib.hid (hi_pos (m := m) (by omega))
      go_wp2
      go_round
      case rel =>
        refine ⟨m / 128, k + 1, by go_num, by go_num, ?_, by omega⟩
        rw [Hk.out, hp.out]; simp; omega
      case measure => simp [intOf]; omega
    · have hm0 : m = 0 := by omega
      subst hm0
      go_wp2
      go_ret
      refine ⟨ret_int ?_, rfl⟩
      rw [Hk.out, hi_zero]; simp

def putA (n k i : Nat) : Array Value := (encU (arrU n k i)).toArray
theorem putA_size (n k i : Nat) : (putA n k i).size = k := by simp [putA, encU_length, arrU_length]
theorem putA_set (n k i : Nat) (hi : i < k) : (putA n k i).setIfInBounds (k - 1 - i) (.int .u8 (((UInt8.ofNat (n / 128 ^ i % 128 + 128)).toNat : Nat) : Int)) = putA n k (i + 1) := by
  unfold putA
  rw [← arrU_set n k i hi]
  simp [encU, List.map_set]
theorem putA_zero (n k : Nat) : putA n k 0 = madeCells #[.int .u8 0] k := by
  apply Array.ext'
  rw [toList_madeCells_one]
  simp only [putA, encU, arrU]
  apply List.ext_getElem
  · simp
  · intro j h1 h2; simp

theorem out_pow (n i : Nat) : n / 2 ^ (7 * i) = n / 128 ^ i := by rw [Nat.pow_mul]

set_option maxHeartbeats 800000 in
theorem put_c (n : Nat) (hn : n < 18446744073709551616) (w : World) : Calls Tryz.prog 70 #[.int .u64 n] w (MadeU 5 (putL n) w) := by
  obtain ⟨k, hk⟩ : ∃ k, k = (putL n).length := ⟨_, rfl⟩
  obtain ⟨hk1, hk2⟩ : 1 ≤ k ∧ k ≤ 10 := by have := putL_le n hn; omega
  have Hg : Hid (∀ w, Calls Tryz.prog 108 #[.int .u64 n] w fun e w' => e = .returned (.int .i64 k) ∧ w = w') := by rw [hk]; exact Lib.hid fun w => groups_c n hn w
  have Hk := Lib.hid hk; clear hk
  go_enter Tryz.func70, Tryz.ntmps70
  have hmk := fun wx => run_make_row' (P := Tryz.prog) 58 5 (.int .u8 0) 1 (by kernel_rfl) (by kernel_rfl) (by rfl) .i64 .i64 k (by omega) (by omega) wx
  go_wp2_with (go_at_call 108; refine (Hg.out _).mono ?_; rintro e w' ⟨rfl, rfl⟩)
  clear hmk
  go_loopw [5, 11] (fun _ i wr => ∃ j : Nat, j ≤ k ∧ i = .int .i64 j ∧ wr = w.alloc (.cells (putA n k j) 5)) (fun _ i _ => k - (intOf i).toNat)
  case atStart => exact ⟨0, Nat.zero_le _, rfl, by rw [putA_zero]⟩
  case round =>
    obtain ⟨j, hj, rfl, rfl⟩ := hrel
    have hsz := putA_size n k j
    by_cases hlt : j < k
    · have hc : ∃ v, (putA n k j)[k - 1 - j]? = some v := ⟨_, Array.getElem?_eq_getElem (by rw [hsz]; omega)⟩
      obtain ⟨v0, hc⟩ := hc
      have Hset := Lib.hid (putA_set n k j hlt)
      have Hb := Lib.hid (or128 (n / 2 ^ (7 * j)))
      go_wp2
      go_roundw
      case rel =>
        refine ⟨j + 1, by omega, by go_num, ?_⟩
        rw [← Hset.out]
        have := Hb.out
        rw [Int.natCast_ediv] at this
        simp only [Int.natCast_pow, Int.cast_ofNat_Int] at this
        rw [this, out_pow]
      case measure => simp [intOf]; omega
    · have hjk : j = k := by omega
      subst hjk
      obtain ⟨c, Hc⟩ : ∃ c : UInt8, Hid (c = UInt8.ofNat (n % 128 + 128)) := ⟨_, rfl⟩
      have hc : (putA n j j)[j - 1]? = some (.int .u8 (c.toNat : Int)) := by
        have h1 := encU_get (arrU n j j) (j - 1)
        rw [arrU_cleared n j hk1, ← Hc.out] at h1
        simpa [putA] using h1
      have Hn := Lib.hid (not128 c)
      go_wp2
      go_ret
      refine ⟨_, rfl, ?_, by (repeat (first | exact Below.refl _ _ | assumption | refine bel_alloc ?_ _ | refine bel_after _ ?_ | refine bel_drewN ?_ _ | refine bel_drew ?_ | refine bel_set ?_ (by first | omega | (simp only [zYA, zYD, zYC]; omega) | (simp; omega)) _))⟩
      have hfin : (putA n j j).setIfInBounds (j - 1) (.int .u8 ((c.toNat % 128 : Nat) : Int)) = (encU (putL n)).toArray := by
        rw [← arrU_last n j Hk.out]
        simp only [putA, encU, List.setIfInBounds_toArray, List.map_set]
        congr 3
        rw [Hc.out, u8_ofNat_toNat _ (by omega), u8_ofNat_toNat _ (by omega)]
        omega
      rw [Hn.out, hfin]
      have ho := World.ownsRow_lit (base := w.heap.size) (e := 5) (size := 1) w (encU (putL n)).toArray j (Nat.le_refl _) (by unfold maxLen; omega) (by simp [encU_length, Hk.out])
      unfold OwnU
      rw [← Hk.out]
      simpa using ho

theorem encU_cons (c : UInt8) (bs : List UInt8) : encU (c :: bs) = .int .u8 (c.toNat : Int) :: encU bs := rfl

set_option maxRecDepth 100000 in
set_option maxHeartbeats 800000 in
theorem rput_c (n : Nat) (hn : n < 18446744073709551616) (w : World) : Calls Tryz.prog 73 #[.int .u64 n] w (MadeU 5 (putL n) w) := by
  have Hl := Lib.hid (putL_le n hn).2
  go_enter Tryz.func73, Tryz.ntmps73
  go_wp2
  go_loopw [0, 3] (fun a v wr => ∃ (m : Nat) (bs : List UInt8), a = .int .u64 m ∧ m < 18446744073709551616 ∧ putL n = hi (m / 128) ++ bs ∧ OwnU w.heap.size wr 5 v bs ∧ Below w.heap.size w wr) (fun a _ _ => (intOf a).toNat)
  case atStart =>
    refine ⟨n, [UInt8.ofNat (n % 128)], rfl, hn, rfl, ?_, by (repeat (first | exact Below.refl _ _ | assumption | refine bel_alloc ?_ _ | refine bel_after _ ?_ | refine bel_drewN ?_ _ | refine bel_drew ?_ | refine bel_set ?_ (by first | omega | (simp only [zYA, zYD, zYC]; omega) | (simp; omega)) _))⟩
    have h := World.ownsRow_lit (base := w.heap.size) (e := 5) (size := 1) w #[.int .u8 (((UInt8.ofNat (n % 128)).toNat : Nat) : Int)] 1 (Nat.le_refl _) (by decide) rfl
    rw [u8_ofNat_toNat _ (by omega)] at h
    unfold OwnU
    rw [encU_cons, u8_ofNat_toNat _ (by omega)]
    first | exact h | simpa using h
  case round =>
    obtain ⟨m, bs, rfl, hm, hp, hown, hb⟩ := hrel
    have Hp := Lib.hid hp; clear hp
    by_cases h0 : 128 ≤ m
    · have Hown := Lib.hid hown; clear hown
      have Hb := Lib.hid hb; clear hb
      have Hlen : Hid (1 + bs.length ≤ 10) := by
        have h1 := congrArg List.length Hp.out
        have h2 := Hl.out
        have h3 := hi_pos (m := m / 128) (by omega)
        rw [h3] at h1
        simp at h1
        exact Lib.hid (by omega)
      have Hh := Lib.hid (hi_pos (m := m / 128) (by omega))
      go_wp2_with (at_builtin; refine wpList_append_row rfl _ _ 58 rfl w.heap.size 5 (.int .u8 0) 1 1 (by kernel_rfl) (by kernel_rfl) rfl (by decide) _ 1 _ rfl (World.ownsRow_lit (base := w.heap.size) (size := 1) _ _ 1 ?_ (by decide) rfl) _ bs.length (encU bs) rfl (Hown.out.byt.alloc _).row (encU_one _) ?_ ?_ ?_ ?_; exact Hb.out.size; (unfold maxLen; have := Hlen.out; omega); (have := Hlen.out; omega); (have := Hb.out.size; simp; omega); intro v' w' hown' hg'; have Hown' := Lib.hid hown'; have Hg' := Lib.hid hg'; clear hown' hg')
      go_roundw
      case rel =>
        refine ⟨m / 128, UInt8.ofNat (m / 128 % 128 + 128) :: bs, by go_num, by omega, ?_, ?_, ?_⟩
        · rw [Hp.out, Hh.out]; simp
        · have h1 := Hown'.out
          unfold OwnU
          rw [encU_cons, u8_ofNat_toNat _ (by omega)]
          have e : ((m / 128 % 128 + 128 : Nat) : Int) = (m : Int) / 128 % 128 + 128 := by omega
          rw [e, List.length_cons, Nat.add_comm]
          exact h1
        · refine (bel_alloc Hb.out _).grown Hg'.out (by have := Hb.out.size; simp; omega) fun k hk => ?_
          have e : wr.heap.size = k := Option.some.inj hk
          have := Hb.out.size
          omega
      case measure => simp [intOf]; omega
    · have hp := Hp.out
      rw [show m / 128 = 0 by omega, hi_zero, List.nil_append] at hp
      have Hp' := Lib.hid hp; clear hp Hp
      go_wp2
      go_ret
      rw [Hp'.out]
      exact ⟨_, rfl, hown, hb⟩

/-- What Get tells, as three numbers. -/
def GetIs (r : Option (Nat × Nat)) : Value := .tuple #[.int .u64 ((r.elim 0 (·.1) : Nat) : Int), .int .i64 ((r.elim 0 (·.2) : Nat) : Int), .bool r.isSome]
theorem get_none {r : Option (Nat × Nat)} (h : r = none) : Ending.returned (.tuple #[.int .u64 0, .int .i64 0, .bool false]) = .returned (GetIs r) := by subst h; rfl
theorem get_some {r : Option (Nat × Nat)} {n u : Nat} {a b : Int} (h : r = some (n, u)) (ha : a = n) (hb : b = u) : Ending.returned (.tuple #[.int .u64 a, .int .i64 b, .bool true]) = .returned (GetIs r) := by subst h ha hb; rfl

theorem join128 (m : Nat) (c : UInt8) (hm : m < 144115188075855872) : bits BinOp.or IntKind.u64 ((m : Int) * 128) ((c.toNat % 128 : Nat) : Int) = ((m * 128 + c.toNat % 128 : Nat) : Int) := by
  have h1 : ((m : Int) * 128) = ((m * 128 : Nat) : Int) := by omega
  rw [h1, u64_or_nat _ _ (by omega) (by omega), nat_join 7 _ _ (by omega) (by omega)]
theorem getF_cons {i m : Nat} {c : UInt8} {bs : List UInt8} (k : Nat) (hi : i = k) (hk : k < bs.length) (hc : bs.getD k 0 = c) : getF i m (bs.drop k) =
    if i = 10 ∨ (i = 9 ∧ 0 < m / 144115188075855872) ∨ (i = 0 ∧ c.toNat = 128) then none
    else if c.toNat < 128 then some (m * 128 + c.toNat % 128, i + 1) else getF (i + 1) (m * 128 + c.toNat % 128) (bs.drop (k + 1)) := by
  have e : bs.drop k = c :: bs.drop (k + 1) := by
    rw [List.drop_eq_getElem_cons hk]
    congr 1
    rw [← hc, List.getD_eq_getElem?_getD, List.getElem?_eq_getElem hk]; rfl
  rw [e, getF]

set_option maxRecDepth 100000 in
set_option maxHeartbeats 1600000 in
theorem get_c (v : Value) (bs : List UInt8) (w : World) (hv : Byt w v bs) : Calls Tryz.prog 111 #[v] w fun e w' => e = .returned (GetIs (getR bs)) ∧ w = w' := by
  obtain ⟨a, c, rfl, _, hm, _, hcell⟩ := hv.open_
  have hlen : bs.length ≤ maxLen := by omega
  unfold maxLen at hlen
  clear hm
  have Hcell := Lib.hid hcell; clear hcell hv
  go_enter Tryz.func111, Tryz.ntmps111
  go_wp2
  go_step3
  go_wp2
  go_step3
  go_wp2
  go_loop [5, 6, 11] (fun n u i => ∃ k m : Nat, k ≤ bs.length ∧ k ≤ 10 ∧ i = .int .i64 k ∧ n = .int .u64 m ∧ u = .int .i64 0 ∧ m < 128 ^ k ∧ m < 18446744073709551616 ∧ getF k m (bs.drop k) = getR bs) (fun _ _ i => bs.length - (intOf i).toNat)
  case atStart => exact ⟨0, 0, by omega, by omega, rfl, rfl, rfl, by simp, by omega, by simp [getR]⟩
  case round =>
    obtain ⟨k, m, hk, hk10, rfl, rfl, rfl, hm1, hm2, hg⟩ := hrel
    have Hg := Lib.hid hg; clear hg
    have Hm1 := Lib.hid hm1; clear hm1
    by_cases hlt : k < bs.length
    · obtain ⟨b, off, rfl, hc⟩ := Hcell.out (by omega)
      have hck := hc k hlt
      clear hc
      obtain ⟨c0, hc0⟩ : ∃ c0 : UInt8, bs.getD k 0 = c0 := ⟨_, rfl⟩
      have hstep := getF_cons (i := k) (m := m) (c := c0) (bs := bs) k rfl hlt hc0
      rw [hc0] at hck
      have hcb : c0.toNat < 256 := c0.toNat_lt
      rw [Hg.out] at hstep
      clear Hg hc0
      by_cases hA : k = 10
      · rw [if_pos (by omega)] at hstep
        have Hs := Lib.hid hstep; clear hstep
        subst hA
        go_wp2
        all_goals first | (rw [Exit.noGoto_ret]; go_ret3) | go_ret3
        all_goals exact ⟨get_none Hs.out, rfl⟩
      · by_cases hB : k = 9 ∧ 144115188075855872 ≤ m
        · obtain ⟨rfl, hB⟩ := hB
          rw [if_pos (by omega)] at hstep
          have Hs := Lib.hid hstep; clear hstep
          have hq : (0 : Int) < (m : Int) / 144115188075855872 := by omega
          go_wp2
          all_goals first | (rw [Exit.noGoto_ret]; go_ret3) | go_ret3
          all_goals exact ⟨get_none Hs.out, rfl⟩
        · by_cases hC : k = 0 ∧ c0.toNat = 128
          · obtain ⟨rfl, hC⟩ := hC
            simp only [Nat.add_zero] at hck
            rw [if_pos (by omega)] at hstep
            have Hs := Lib.hid hstep; clear hstep
            have hq : ((c0.toNat : Int) == 128) = true := by rw [beq_iff_eq]; omega
            clear hC
            go_wp2
            all_goals first | (rw [Exit.noGoto_ret]; go_ret3) | go_ret3
            all_goals exact ⟨get_none Hs.out, rfl⟩
          · rw [if_neg (by omega)] at hstep
            have hmb : m < 144115188075855872 := by
              rcases (by omega : k = 9 ∨ k ≤ 8) with h | h
              · omega
              · have h1 := Hm1.out
                have h2 : (128 : Nat) ^ k ≤ 128 ^ 8 := Nat.pow_le_pow_right (by omega) h
                have h3 : (128 : Nat) ^ 8 = 72057594037927936 := by decide
                omega
            have Hj := Lib.hid (join128 m c0 hmb)
            have Hn := Lib.hid (not128 c0)
            have Hw := Lib.hid (IntWalk.u64_in ((c0.toNat % 128 : Nat) : Int) (by omega))
            have Hpow : Hid (m * 128 + c0.toNat % 128 < 128 ^ (k + 1)) := by
              have h1 := Hm1.out
              have : m * 128 + c0.toNat % 128 < 128 ^ k * 128 := by omega
              rw [Nat.pow_succ]; exact this
            by_cases hD : c0.toNat < 128
            · rw [if_pos hD] at hstep
              have Hs := Lib.hid hstep; clear hstep
              rcases (by omega : k = 0 ∨ (0 < k ∧ k < 9) ∨ k = 9) with hk0 | ⟨hk0, hk9⟩ | hk9
              · subst hk0
                simp only [Nat.add_zero] at hck
                have hq : ((c0.toNat : Int) == 128) = false := by rw [beq_eq_false_iff_ne]; omega
                clear hC hB
                go_wp2
                all_goals first | (rw [Exit.noGoto_ret]; go_ret3) | go_ret3
                all_goals exact ⟨get_some Hs.out (by rw [Hn.out, Hw.out]; exact Hj.out) rfl, rfl⟩
              · clear hC hB
                go_wp2
                all_goals first | (rw [Exit.noGoto_ret]; go_ret3) | go_ret3
                all_goals exact ⟨get_some Hs.out (by rw [Hn.out, Hw.out]; exact Hj.out) rfl, rfl⟩
              · subst hk9
                have hq : ¬ ((0 : Int) < (m : Int) / 144115188075855872) := by omega
                clear hC hB
                go_wp2
                all_goals first | (rw [Exit.noGoto_ret]; go_ret3) | go_ret3
                all_goals exact ⟨get_some Hs.out (by rw [Hn.out, Hw.out]; exact Hj.out) rfl, rfl⟩
            · rw [if_neg hD] at hstep
              have Hs := Lib.hid hstep; clear hstep
              rcases (by omega : k = 0 ∨ (0 < k ∧ k < 9) ∨ k = 9) with hk0 | ⟨hk0, hk9⟩ | hk9
              · subst hk0
                simp only [Nat.add_zero] at hck
                have hq : ((c0.toNat : Int) == 128) = false := by rw [beq_eq_false_iff_ne]; omega
                clear hC hB
                go_wp2
                go_round
                case rel => exact ⟨0 + 1, m * 128 + c0.toNat % 128, by omega, by omega, rfl, by rw [Hn.out, Hw.out, Hj.out], rfl, Hpow.out, by omega, Hs.out.symm⟩
                case measure => simp [intOf]; omega
              · clear hC hB
                go_wp2
                go_round
                case rel => exact ⟨k + 1, m * 128 + c0.toNat % 128, by omega, by omega, by go_num, by rw [Hn.out, Hw.out, Hj.out], rfl, Hpow.out, by omega, Hs.out.symm⟩
                case measure => simp [intOf]; omega
              · subst hk9
                have hq : ¬ ((0 : Int) < (m : Int) / 144115188075855872) := by omega
                clear hC hB
                go_wp2
                go_round
                case rel => exact ⟨9 + 1, m * 128 + c0.toNat % 128, by omega, by omega, rfl, by rw [Hn.out, Hw.out, Hj.out], rfl, Hpow.out, by omega, Hs.out.symm⟩
                case measure => simp [intOf]; omega
    · have hkl : k = bs.length := by omega
      have hnone : getR bs = none := by rw [← Hg.out, hkl]; simp [getF]
      have Hs := Lib.hid hnone; clear hnone
      subst hkl
      go_wp2
      all_goals first | (rw [Exit.noGoto_ret]; go_ret3) | go_ret3
      all_goals exact ⟨get_none Hs.out, rfl⟩

theorem rgetF_cons {i m : Nat} {c : UInt8} {bs : List UInt8} (k : Nat) (hi : i = k) (hk : k < bs.length) (hc : bs.getD k 0 = c) : rgetF i m (bs.take k) (bs.drop k) =
    if 10 ≤ i then none
    else if c.toNat < 128 then (if putL ((128 * m + c.toNat % 128) % 18446744073709551616) = bs.take (k + 1) then some ((128 * m + c.toNat % 128) % 18446744073709551616, i + 1) else none)
    else rgetF (i + 1) ((128 * m + c.toNat % 128) % 18446744073709551616) (bs.take (k + 1)) (bs.drop (k + 1)) := by
  have hg : bs[k] = c := by rw [← hc, List.getD_eq_getElem?_getD, List.getElem?_eq_getElem hk]; rfl
  have e : bs.drop k = c :: bs.drop (k + 1) := by rw [List.drop_eq_getElem_cons hk, hg]
  have e2 : bs.take k ++ [c] = bs.take (k + 1) := by rw [List.take_succ_eq_append_getElem hk, hg]
  rw [e, rgetF, e2]
theorem wrap_join (m : Nat) (c : Nat) (hc : c < 256) : IntKind.u64.wrap (IntKind.u64.wrap (128 * (m : Int)) + (c : Int) % 128) = (((128 * m + c % 128) % 18446744073709551616 : Nat) : Int) := by
  rw [IntKind.wrap_u64, IntKind.wrap_u64]; omega

set_option maxRecDepth 100000 in
set_option maxHeartbeats 1600000 in
theorem rget_c (v : Value) (bs : List UInt8) (w : World) (hv : Byt w v bs) : Calls Tryz.prog 79 #[v] w fun e w' => e = .returned (GetIs (rgetR bs)) ∧ Below w.heap.size w w' := by
  obtain ⟨a, c, rfl, _, hm, _, hcell⟩ := hv.open_
  have hlen : bs.length ≤ maxLen := by omega
  unfold maxLen at hlen
  clear hm
  have Hv := Lib.hid hv
  have Hcell := Lib.hid hcell; clear hcell hv
  go_enter Tryz.func79, Tryz.ntmps79
  go_wp2
  go_loop [5, 6] (fun n i => ∃ k m : Nat, k ≤ bs.length ∧ k ≤ 10 ∧ i = .int .i64 k ∧ n = .int .u64 m ∧ m < 18446744073709551616 ∧ rgetF k m (bs.take k) (bs.drop k) = rgetR bs) (fun _ i => bs.length - (intOf i).toNat)
  case atStart => exact ⟨0, 0, by omega, by omega, rfl, rfl, by omega, by simp [rgetR]⟩
  case round =>
    obtain ⟨k, m, hk, hk10, rfl, rfl, hm2, hg⟩ := hrel
    have Hg := Lib.hid hg; clear hg
    by_cases hlt : k < bs.length ∧ k < 10
    · obtain ⟨hlt, hlt10⟩ := hlt
      obtain ⟨b, off, rfl, hc⟩ := Hcell.out (by omega)
      have hck := hc k hlt
      clear hc
      obtain ⟨c0, hc0⟩ : ∃ c0 : UInt8, bs.getD k 0 = c0 := ⟨_, rfl⟩
      have hstep := rgetF_cons (i := k) (m := m) (c := c0) (bs := bs) k rfl hlt hc0
      rw [hc0] at hck
      have hcb : c0.toNat < 256 := c0.toNat_lt
      rw [Hg.out, if_neg (by omega)] at hstep
      clear Hg hc0
      have Hj := Lib.hid (wrap_join m c0.toNat hcb)
      obtain ⟨m', hm'⟩ : ∃ m' : Nat, m' = (128 * m + c0.toNat % 128) % 18446744073709551616 := ⟨_, rfl⟩
      rw [← hm'] at Hj hstep
      have hm'b : m' < 18446744073709551616 := by omega
      have Hm' := Lib.hid hm'; clear hm'
      by_cases hD : c0.toNat < 128
      · rw [if_pos hD] at hstep
        have Hs := Lib.hid hstep; clear hstep
        rcases Nat.eq_zero_or_pos k with hk0 | hk0
        · subst hk0
          simp only [Nat.add_zero] at hck
          go_wp2_with fail
          simp only [Hj.out]
          refine (rput_c m' hm'b _).mono ?_
          rintro e w' ⟨v', rfl, hown, hb⟩
          have Hw1 := Lib.hid hown.byt; clear hown
          (first | ((fail_if_success revert x1); obtain ⟨x1, rfl⟩ := after_of hb; clear hb; have hz1 := after_size x1; (try (simp only [zYA, zYD, zYC] at hz1)); (try (have f1gA := zY1 gA x1.w.heap.size)); (try (have f1gB := zY1 gB x1.w.heap.size)); (try (have f1gC := zY1 gC x1.w.heap.size)); (first | have f10 := zY6 w.heap.size x1.w.heap.size | have f10 := zY5 w.heap.size x1.w.heap.size | have f10 := zY4 w.heap.size x1.w.heap.size | have f10 := zY3 w.heap.size x1.w.heap.size | have f10 := zY2 w.heap.size x1.w.heap.size | have f10 := zY1 w.heap.size x1.w.heap.size | skip)) | ((fail_if_success revert x2); obtain ⟨x2, rfl⟩ := after_of hb; clear hb; have hz2 := after_size x2; (try (simp only [zYA, zYD, zYC] at hz2)); (try (have f2gA := zY1 gA x2.w.heap.size)); (try (have f2gB := zY1 gB x2.w.heap.size)); (try (have f2gC := zY1 gC x2.w.heap.size)); (first | have f20 := zY6 w.heap.size x2.w.heap.size | have f20 := zY5 w.heap.size x2.w.heap.size | have f20 := zY4 w.heap.size x2.w.heap.size | have f20 := zY3 w.heap.size x2.w.heap.size | have f20 := zY2 w.heap.size x2.w.heap.size | have f20 := zY1 w.heap.size x2.w.heap.size | skip); (first | have f21 := zY4 x1.w.heap.size x2.w.heap.size | have f21 := zY3 x1.w.heap.size x2.w.heap.size | have f21 := zY2 x1.w.heap.size x2.w.heap.size | have f21 := zY1 x1.w.heap.size x2.w.heap.size | skip)) | ((fail_if_success revert x3); obtain ⟨x3, rfl⟩ := after_of hb; clear hb; have hz3 := after_size x3; (try (simp only [zYA, zYD, zYC] at hz3)); (try (have f3gA := zY1 gA x3.w.heap.size)); (try (have f3gB := zY1 gB x3.w.heap.size)); (try (have f3gC := zY1 gC x3.w.heap.size)); (first | have f30 := zY6 w.heap.size x3.w.heap.size | have f30 := zY5 w.heap.size x3.w.heap.size | have f30 := zY4 w.heap.size x3.w.heap.size | have f30 := zY3 w.heap.size x3.w.heap.size | have f30 := zY2 w.heap.size x3.w.heap.size | have f30 := zY1 w.heap.size x3.w.heap.size | skip); (first | have f31 := zY4 x1.w.heap.size x3.w.heap.size | have f31 := zY3 x1.w.heap.size x3.w.heap.size | have f31 := zY2 x1.w.heap.size x3.w.heap.size | have f31 := zY1 x1.w.heap.size x3.w.heap.size | skip); (first | have f32 := zY4 x2.w.heap.size x3.w.heap.size | have f32 := zY3 x2.w.heap.size x3.w.heap.size | have f32 := zY2 x2.w.heap.size x3.w.heap.size | have f32 := zY1 x2.w.heap.size x3.w.heap.size | skip)) | ((fail_if_success revert x4); obtain ⟨x4, rfl⟩ := after_of hb; clear hb; have hz4 := after_size x4; (try (simp only [zYA, zYD, zYC] at hz4)); (try (have f4gA := zY1 gA x4.w.heap.size)); (try (have f4gB := zY1 gB x4.w.heap.size)); (try (have f4gC := zY1 gC x4.w.heap.size)); (first | have f40 := zY6 w.heap.size x4.w.heap.size | have f40 := zY5 w.heap.size x4.w.heap.size | have f40 := zY4 w.heap.size x4.w.heap.size | have f40 := zY3 w.heap.size x4.w.heap.size | have f40 := zY2 w.heap.size x4.w.heap.size | have f40 := zY1 w.heap.size x4.w.heap.size | skip); (first | have f41 := zY4 x1.w.heap.size x4.w.heap.size | have f41 := zY3 x1.w.heap.size x4.w.heap.size | have f41 := zY2 x1.w.heap.size x4.w.heap.size | have f41 := zY1 x1.w.heap.size x4.w.heap.size | skip); (first | have f42 := zY4 x2.w.heap.size x4.w.heap.size | have f42 := zY3 x2.w.heap.size x4.w.heap.size | have f42 := zY2 x2.w.heap.size x4.w.heap.size | have f42 := zY1 x2.w.heap.size x4.w.heap.size | skip); (first | have f43 := zY4 x3.w.heap.size x4.w.heap.size | have f43 := zY3 x3.w.heap.size x4.w.heap.size | have f43 := zY2 x3.w.heap.size x4.w.heap.size | have f43 := zY1 x3.w.heap.size x4.w.heap.size | skip)) | ((fail_if_success revert x5); obtain ⟨x5, rfl⟩ := after_of hb; clear hb; have hz5 := after_size x5; (try (simp only [zYA, zYD, zYC] at hz5)); (try (have f5gA := zY1 gA x5.w.heap.size)); (try (have f5gB := zY1 gB x5.w.heap.size)); (try (have f5gC := zY1 gC x5.w.heap.size)); (first | have f50 := zY6 w.heap.size x5.w.heap.size | have f50 := zY5 w.heap.size x5.w.heap.size | have f50 := zY4 w.heap.size x5.w.heap.size | have f50 := zY3 w.heap.size x5.w.heap.size | have f50 := zY2 w.heap.size x5.w.heap.size | have f50 := zY1 w.heap.size x5.w.heap.size | skip); (first | have f51 := zY4 x1.w.heap.size x5.w.heap.size | have f51 := zY3 x1.w.heap.size x5.w.heap.size | have f51 := zY2 x1.w.heap.size x5.w.heap.size | have f51 := zY1 x1.w.heap.size x5.w.heap.size | skip); (first | have f52 := zY4 x2.w.heap.size x5.w.heap.size | have f52 := zY3 x2.w.heap.size x5.w.heap.size | have f52 := zY2 x2.w.heap.size x5.w.heap.size | have f52 := zY1 x2.w.heap.size x5.w.heap.size | skip); (first | have f53 := zY4 x3.w.heap.size x5.w.heap.size | have f53 := zY3 x3.w.heap.size x5.w.heap.size | have f53 := zY2 x3.w.heap.size x5.w.heap.size | have f53 := zY1 x3.w.heap.size x5.w.heap.size | skip); (first | have f54 := zY4 x4.w.heap.size x5.w.heap.size | have f54 := zY3 x4.w.heap.size x5.w.heap.size | have f54 := zY2 x4.w.heap.size x5.w.heap.size | have f54 := zY1 x4.w.heap.size x5.w.heap.size | skip)) | ((fail_if_success revert x6); obtain ⟨x6, rfl⟩ := after_of hb; clear hb; have hz6 := after_size x6; (try (simp only [zYA, zYD, zYC] at hz6)); (try (have f6gA := zY1 gA x6.w.heap.size)); (try (have f6gB := zY1 gB x6.w.heap.size)); (try (have f6gC := zY1 gC x6.w.heap.size)); (first | have f60 := zY6 w.heap.size x6.w.heap.size | have f60 := zY5 w.heap.size x6.w.heap.size | have f60 := zY4 w.heap.size x6.w.heap.size | have f60 := zY3 w.heap.size x6.w.heap.size | have f60 := zY2 w.heap.size x6.w.heap.size | have f60 := zY1 w.heap.size x6.w.heap.size | skip); (first | have f61 := zY4 x1.w.heap.size x6.w.heap.size | have f61 := zY3 x1.w.heap.size x6.w.heap.size | have f61 := zY2 x1.w.heap.size x6.w.heap.size | have f61 := zY1 x1.w.heap.size x6.w.heap.size | skip); (first | have f62 := zY4 x2.w.heap.size x6.w.heap.size | have f62 := zY3 x2.w.heap.size x6.w.heap.size | have f62 := zY2 x2.w.heap.size x6.w.heap.size | have f62 := zY1 x2.w.heap.size x6.w.heap.size | skip); (first | have f63 := zY4 x3.w.heap.size x6.w.heap.size | have f63 := zY3 x3.w.heap.size x6.w.heap.size | have f63 := zY2 x3.w.heap.size x6.w.heap.size | have f63 := zY1 x3.w.heap.size x6.w.heap.size | skip); (first | have f64 := zY4 x4.w.heap.size x6.w.heap.size | have f64 := zY3 x4.w.heap.size x6.w.heap.size | have f64 := zY2 x4.w.heap.size x6.w.heap.size | have f64 := zY1 x4.w.heap.size x6.w.heap.size | skip); (first | have f65 := zY4 x5.w.heap.size x6.w.heap.size | have f65 := zY3 x5.w.heap.size x6.w.heap.size | have f65 := zY2 x5.w.heap.size x6.w.heap.size | have f65 := zY1 x5.w.heap.size x6.w.heap.size | skip)) | ((fail_if_success revert x7); obtain ⟨x7, rfl⟩ := after_of hb; clear hb; have hz7 := after_size x7; (try (simp only [zYA, zYD, zYC] at hz7)); (try (have f7gA := zY1 gA x7.w.heap.size)); (try (have f7gB := zY1 gB x7.w.heap.size)); (try (have f7gC := zY1 gC x7.w.heap.size)); (first | have f70 := zY6 w.heap.size x7.w.heap.size | have f70 := zY5 w.heap.size x7.w.heap.size | have f70 := zY4 w.heap.size x7.w.heap.size | have f70 := zY3 w.heap.size x7.w.heap.size | have f70 := zY2 w.heap.size x7.w.heap.size | have f70 := zY1 w.heap.size x7.w.heap.size | skip); (first | have f71 := zY4 x1.w.heap.size x7.w.heap.size | have f71 := zY3 x1.w.heap.size x7.w.heap.size | have f71 := zY2 x1.w.heap.size x7.w.heap.size | have f71 := zY1 x1.w.heap.size x7.w.heap.size | skip); (first | have f72 := zY4 x2.w.heap.size x7.w.heap.size | have f72 := zY3 x2.w.heap.size x7.w.heap.size | have f72 := zY2 x2.w.heap.size x7.w.heap.size | have f72 := zY1 x2.w.heap.size x7.w.heap.size | skip); (first | have f73 := zY4 x3.w.heap.size x7.w.heap.size | have f73 := zY3 x3.w.heap.size x7.w.heap.size | have f73 := zY2 x3.w.heap.size x7.w.heap.size | have f73 := zY1 x3.w.heap.size x7.w.heap.size | skip); (first | have f74 := zY4 x4.w.heap.size x7.w.heap.size | have f74 := zY3 x4.w.heap.size x7.w.heap.size | have f74 := zY2 x4.w.heap.size x7.w.heap.size | have f74 := zY1 x4.w.heap.size x7.w.heap.size | skip); (first | have f75 := zY4 x5.w.heap.size x7.w.heap.size | have f75 := zY3 x5.w.heap.size x7.w.heap.size | have f75 := zY2 x5.w.heap.size x7.w.heap.size | have f75 := zY1 x5.w.heap.size x7.w.heap.size | skip); (first | have f76 := zY4 x6.w.heap.size x7.w.heap.size | have f76 := zY3 x6.w.heap.size x7.w.heap.size | have f76 := zY2 x6.w.heap.size x7.w.heap.size | have f76 := zY1 x6.w.heap.size x7.w.heap.size | skip)) | ((fail_if_success revert x8); obtain ⟨x8, rfl⟩ := after_of hb; clear hb; have hz8 := after_size x8; (try (simp only [zYA, zYD, zYC] at hz8)); (try (have f8gA := zY1 gA x8.w.heap.size)); (try (have f8gB := zY1 gB x8.w.heap.size)); (try (have f8gC := zY1 gC x8.w.heap.size)); (first | have f80 := zY6 w.heap.size x8.w.heap.size | have f80 := zY5 w.heap.size x8.w.heap.size | have f80 := zY4 w.heap.size x8.w.heap.size | have f80 := zY3 w.heap.size x8.w.heap.size | have f80 := zY2 w.heap.size x8.w.heap.size | have f80 := zY1 w.heap.size x8.w.heap.size | skip); (first | have f81 := zY4 x1.w.heap.size x8.w.heap.size | have f81 := zY3 x1.w.heap.size x8.w.heap.size | have f81 := zY2 x1.w.heap.size x8.w.heap.size | have f81 := zY1 x1.w.heap.size x8.w.heap.size | skip); (first | have f82 := zY4 x2.w.heap.size x8.w.heap.size | have f82 := zY3 x2.w.heap.size x8.w.heap.size | have f82 := zY2 x2.w.heap.size x8.w.heap.size | have f82 := zY1 x2.w.heap.size x8.w.heap.size | skip); (first | have f83 := zY4 x3.w.heap.size x8.w.heap.size | have f83 := zY3 x3.w.heap.size x8.w.heap.size | have f83 := zY2 x3.w.heap.size x8.w.heap.size | have f83 := zY1 x3.w.heap.size x8.w.heap.size | skip); (first | have f84 := zY4 x4.w.heap.size x8.w.heap.size | have f84 := zY3 x4.w.heap.size x8.w.heap.size | have f84 := zY2 x4.w.heap.size x8.w.heap.size | have f84 := zY1 x4.w.heap.size x8.w.heap.size | skip); (first | have f85 := zY4 x5.w.heap.size x8.w.heap.size | have f85 := zY3 x5.w.heap.size x8.w.heap.size | have f85 := zY2 x5.w.heap.size x8.w.heap.size | have f85 := zY1 x5.w.heap.size x8.w.heap.size | skip); (first | have f86 := zY4 x6.w.heap.size x8.w.heap.size | have f86 := zY3 x6.w.heap.size x8.w.heap.size | have f86 := zY2 x6.w.heap.size x8.w.heap.size | have f86 := zY1 x6.w.heap.size x8.w.heap.size | skip); (first | have f87 := zY4 x7.w.heap.size x8.w.heap.size | have f87 := zY3 x7.w.heap.size x8.w.heap.size | have f87 := zY2 x7.w.heap.size x8.w.heap.size | have f87 := zY1 x7.w.heap.size x8.w.heap.size | skip)))
          have Hv1 := Lib.hid (Hv.out.after x1)
          have hcA : ∀ y : After x1.w, (convert 58 9 v').run Tryz.prog y.w = .ok (.string (bstr (putL m'))) y.w := fun y => conv_bytes _ _ 5 (by kernel_rfl) (by kernel_rfl) (by kernel_rfl) (Hw1.out.after y)
          have hcB : ∀ y : After x1.w, (convert 58 9 (.slice (some ⟨b, off, none⟩) (0 + 1) c)).run Tryz.prog y.w = .ok (.string (bstr (bs.take (0 + 1)))) y.w := fun y => conv_bytes _ _ 5 (by kernel_rfl) (by kernel_rfl) (by kernel_rfl) ((Hv1.out.take (0 + 1) (by omega)).after y)
          have hbt := bstr_toList
          by_cases hE : putL m' = bs.take (0 + 1)
          · have hE' : (putL m' == bs.take (0 + 1)) = true := by rw [hE]; simp
            have Hs' : Hid (rgetR bs = some (m', 0 + 1)) := by rw [Hs.out, if_pos hE]; exact Lib.hid rfl
            clear hE
            go_wp2
            refine wp_quiet_all (C := fun w' => ∃ x : After _, w' = x.w) (by kernel_rfl) (by kernel_rfl) (since_drew _) ?_
            repeat (go_big_quiet_step (fail))
            refine wpQuiet_nil ?_
            first | ((fail_if_success revert x1); rintro _ ⟨x1, rfl⟩; have hz1 := after_size x1; (try (simp only [zYA, zYD, zYC] at hz1)); (try (have f1gA := zY1 gA x1.w.heap.size)); (try (have f1gB := zY1 gB x1.w.heap.size)); (try (have f1gC := zY1 gC x1.w.heap.size)); (first | have f10 := zY6 w.heap.size x1.w.heap.size | have f10 := zY5 w.heap.size x1.w.heap.size | have f10 := zY4 w.heap.size x1.w.heap.size | have f10 := zY3 w.heap.size x1.w.heap.size | have f10 := zY2 w.heap.size x1.w.heap.size | have f10 := zY1 w.heap.size x1.w.heap.size | skip)) | ((fail_if_success revert x2); rintro _ ⟨x2, rfl⟩; have hz2 := after_size x2; (try (simp only [zYA, zYD, zYC] at hz2)); (try (have f2gA := zY1 gA x2.w.heap.size)); (try (have f2gB := zY1 gB x2.w.heap.size)); (try (have f2gC := zY1 gC x2.w.heap.size)); (first | have f20 := zY6 w.heap.size x2.w.heap.size | have f20 := zY5 w.heap.size x2.w.heap.size | have f20 := zY4 w.heap.size x2.w.heap.size | have f20 := zY3 w.heap.size x2.w.heap.size | have f20 := zY2 w.heap.size x2.w.heap.size | have f20 := zY1 w.heap.size x2.w.heap.size | skip); (first | have f21 := zY4 x1.w.heap.size x2.w.heap.size | have f21 := zY3 x1.w.heap.size x2.w.heap.size | have f21 := zY2 x1.w.heap.size x2.w.heap.size | have f21 := zY1 x1.w.heap.size x2.w.heap.size | skip)) | ((fail_if_success revert x3); rintro _ ⟨x3, rfl⟩; have hz3 := after_size x3; (try (simp only [zYA, zYD, zYC] at hz3)); (try (have f3gA := zY1 gA x3.w.heap.size)); (try (have f3gB := zY1 gB x3.w.heap.size)); (try (have f3gC := zY1 gC x3.w.heap.size)); (first | have f30 := zY6 w.heap.size x3.w.heap.size | have f30 := zY5 w.heap.size x3.w.heap.size | have f30 := zY4 w.heap.size x3.w.heap.size | have f30 := zY3 w.heap.size x3.w.heap.size | have f30 := zY2 w.heap.size x3.w.heap.size | have f30 := zY1 w.heap.size x3.w.heap.size | skip); (first | have f31 := zY4 x1.w.heap.size x3.w.heap.size | have f31 := zY3 x1.w.heap.size x3.w.heap.size | have f31 := zY2 x1.w.heap.size x3.w.heap.size | have f31 := zY1 x1.w.heap.size x3.w.heap.size | skip); (first | have f32 := zY4 x2.w.heap.size x3.w.heap.size | have f32 := zY3 x2.w.heap.size x3.w.heap.size | have f32 := zY2 x2.w.heap.size x3.w.heap.size | have f32 := zY1 x2.w.heap.size x3.w.heap.size | skip)) | ((fail_if_success revert x4); rintro _ ⟨x4, rfl⟩; have hz4 := after_size x4; (try (simp only [zYA, zYD, zYC] at hz4)); (try (have f4gA := zY1 gA x4.w.heap.size)); (try (have f4gB := zY1 gB x4.w.heap.size)); (try (have f4gC := zY1 gC x4.w.heap.size)); (first | have f40 := zY6 w.heap.size x4.w.heap.size | have f40 := zY5 w.heap.size x4.w.heap.size | have f40 := zY4 w.heap.size x4.w.heap.size | have f40 := zY3 w.heap.size x4.w.heap.size | have f40 := zY2 w.heap.size x4.w.heap.size | have f40 := zY1 w.heap.size x4.w.heap.size | skip); (first | have f41 := zY4 x1.w.heap.size x4.w.heap.size | have f41 := zY3 x1.w.heap.size x4.w.heap.size | have f41 := zY2 x1.w.heap.size x4.w.heap.size | have f41 := zY1 x1.w.heap.size x4.w.heap.size | skip); (first | have f42 := zY4 x2.w.heap.size x4.w.heap.size | have f42 := zY3 x2.w.heap.size x4.w.heap.size | have f42 := zY2 x2.w.heap.size x4.w.heap.size | have f42 := zY1 x2.w.heap.size x4.w.heap.size | skip); (first | have f43 := zY4 x3.w.heap.size x4.w.heap.size | have f43 := zY3 x3.w.heap.size x4.w.heap.size | have f43 := zY2 x3.w.heap.size x4.w.heap.size | have f43 := zY1 x3.w.heap.size x4.w.heap.size | skip)) | ((fail_if_success revert x5); rintro _ ⟨x5, rfl⟩; have hz5 := after_size x5; (try (simp only [zYA, zYD, zYC] at hz5)); (try (have f5gA := zY1 gA x5.w.heap.size)); (try (have f5gB := zY1 gB x5.w.heap.size)); (try (have f5gC := zY1 gC x5.w.heap.size)); (first | have f50 := zY6 w.heap.size x5.w.heap.size | have f50 := zY5 w.heap.size x5.w.heap.size | have f50 := zY4 w.heap.size x5.w.heap.size | have f50 := zY3 w.heap.size x5.w.heap.size | have f50 := zY2 w.heap.size x5.w.heap.size | have f50 := zY1 w.heap.size x5.w.heap.size | skip); (first | have f51 := zY4 x1.w.heap.size x5.w.heap.size | have f51 := zY3 x1.w.heap.size x5.w.heap.size | have f51 := zY2 x1.w.heap.size x5.w.heap.size | have f51 := zY1 x1.w.heap.size x5.w.heap.size | skip); (first | have f52 := zY4 x2.w.heap.size x5.w.heap.size | have f52 := zY3 x2.w.heap.size x5.w.heap.size | have f52 := zY2 x2.w.heap.size x5.w.heap.size | have f52 := zY1 x2.w.heap.size x5.w.heap.size | skip); (first | have f53 := zY4 x3.w.heap.size x5.w.heap.size | have f53 := zY3 x3.w.heap.size x5.w.heap.size | have f53 := zY2 x3.w.heap.size x5.w.heap.size | have f53 := zY1 x3.w.heap.size x5.w.heap.size | skip); (first | have f54 := zY4 x4.w.heap.size x5.w.heap.size | have f54 := zY3 x4.w.heap.size x5.w.heap.size | have f54 := zY2 x4.w.heap.size x5.w.heap.size | have f54 := zY1 x4.w.heap.size x5.w.heap.size | skip)) | ((fail_if_success revert x6); rintro _ ⟨x6, rfl⟩; have hz6 := after_size x6; (try (simp only [zYA, zYD, zYC] at hz6)); (try (have f6gA := zY1 gA x6.w.heap.size)); (try (have f6gB := zY1 gB x6.w.heap.size)); (try (have f6gC := zY1 gC x6.w.heap.size)); (first | have f60 := zY6 w.heap.size x6.w.heap.size | have f60 := zY5 w.heap.size x6.w.heap.size | have f60 := zY4 w.heap.size x6.w.heap.size | have f60 := zY3 w.heap.size x6.w.heap.size | have f60 := zY2 w.heap.size x6.w.heap.size | have f60 := zY1 w.heap.size x6.w.heap.size | skip); (first | have f61 := zY4 x1.w.heap.size x6.w.heap.size | have f61 := zY3 x1.w.heap.size x6.w.heap.size | have f61 := zY2 x1.w.heap.size x6.w.heap.size | have f61 := zY1 x1.w.heap.size x6.w.heap.size | skip); (first | have f62 := zY4 x2.w.heap.size x6.w.heap.size | have f62 := zY3 x2.w.heap.size x6.w.heap.size | have f62 := zY2 x2.w.heap.size x6.w.heap.size | have f62 := zY1 x2.w.heap.size x6.w.heap.size | skip); (first | have f63 := zY4 x3.w.heap.size x6.w.heap.size | have f63 := zY3 x3.w.heap.size x6.w.heap.size | have f63 := zY2 x3.w.heap.size x6.w.heap.size | have f63 := zY1 x3.w.heap.size x6.w.heap.size | skip); (first | have f64 := zY4 x4.w.heap.size x6.w.heap.size | have f64 := zY3 x4.w.heap.size x6.w.heap.size | have f64 := zY2 x4.w.heap.size x6.w.heap.size | have f64 := zY1 x4.w.heap.size x6.w.heap.size | skip); (first | have f65 := zY4 x5.w.heap.size x6.w.heap.size | have f65 := zY3 x5.w.heap.size x6.w.heap.size | have f65 := zY2 x5.w.heap.size x6.w.heap.size | have f65 := zY1 x5.w.heap.size x6.w.heap.size | skip)) | ((fail_if_success revert x7); rintro _ ⟨x7, rfl⟩; have hz7 := after_size x7; (try (simp only [zYA, zYD, zYC] at hz7)); (try (have f7gA := zY1 gA x7.w.heap.size)); (try (have f7gB := zY1 gB x7.w.heap.size)); (try (have f7gC := zY1 gC x7.w.heap.size)); (first | have f70 := zY6 w.heap.size x7.w.heap.size | have f70 := zY5 w.heap.size x7.w.heap.size | have f70 := zY4 w.heap.size x7.w.heap.size | have f70 := zY3 w.heap.size x7.w.heap.size | have f70 := zY2 w.heap.size x7.w.heap.size | have f70 := zY1 w.heap.size x7.w.heap.size | skip); (first | have f71 := zY4 x1.w.heap.size x7.w.heap.size | have f71 := zY3 x1.w.heap.size x7.w.heap.size | have f71 := zY2 x1.w.heap.size x7.w.heap.size | have f71 := zY1 x1.w.heap.size x7.w.heap.size | skip); (first | have f72 := zY4 x2.w.heap.size x7.w.heap.size | have f72 := zY3 x2.w.heap.size x7.w.heap.size | have f72 := zY2 x2.w.heap.size x7.w.heap.size | have f72 := zY1 x2.w.heap.size x7.w.heap.size | skip); (first | have f73 := zY4 x3.w.heap.size x7.w.heap.size | have f73 := zY3 x3.w.heap.size x7.w.heap.size | have f73 := zY2 x3.w.heap.size x7.w.heap.size | have f73 := zY1 x3.w.heap.size x7.w.heap.size | skip); (first | have f74 := zY4 x4.w.heap.size x7.w.heap.size | have f74 := zY3 x4.w.heap.size x7.w.heap.size | have f74 := zY2 x4.w.heap.size x7.w.heap.size | have f74 := zY1 x4.w.heap.size x7.w.heap.size | skip); (first | have f75 := zY4 x5.w.heap.size x7.w.heap.size | have f75 := zY3 x5.w.heap.size x7.w.heap.size | have f75 := zY2 x5.w.heap.size x7.w.heap.size | have f75 := zY1 x5.w.heap.size x7.w.heap.size | skip); (first | have f76 := zY4 x6.w.heap.size x7.w.heap.size | have f76 := zY3 x6.w.heap.size x7.w.heap.size | have f76 := zY2 x6.w.heap.size x7.w.heap.size | have f76 := zY1 x6.w.heap.size x7.w.heap.size | skip)) | ((fail_if_success revert x8); rintro _ ⟨x8, rfl⟩; have hz8 := after_size x8; (try (simp only [zYA, zYD, zYC] at hz8)); (try (have f8gA := zY1 gA x8.w.heap.size)); (try (have f8gB := zY1 gB x8.w.heap.size)); (try (have f8gC := zY1 gC x8.w.heap.size)); (first | have f80 := zY6 w.heap.size x8.w.heap.size | have f80 := zY5 w.heap.size x8.w.heap.size | have f80 := zY4 w.heap.size x8.w.heap.size | have f80 := zY3 w.heap.size x8.w.heap.size | have f80 := zY2 w.heap.size x8.w.heap.size | have f80 := zY1 w.heap.size x8.w.heap.size | skip); (first | have f81 := zY4 x1.w.heap.size x8.w.heap.size | have f81 := zY3 x1.w.heap.size x8.w.heap.size | have f81 := zY2 x1.w.heap.size x8.w.heap.size | have f81 := zY1 x1.w.heap.size x8.w.heap.size | skip); (first | have f82 := zY4 x2.w.heap.size x8.w.heap.size | have f82 := zY3 x2.w.heap.size x8.w.heap.size | have f82 := zY2 x2.w.heap.size x8.w.heap.size | have f82 := zY1 x2.w.heap.size x8.w.heap.size | skip); (first | have f83 := zY4 x3.w.heap.size x8.w.heap.size | have f83 := zY3 x3.w.heap.size x8.w.heap.size | have f83 := zY2 x3.w.heap.size x8.w.heap.size | have f83 := zY1 x3.w.heap.size x8.w.heap.size | skip); (first | have f84 := zY4 x4.w.heap.size x8.w.heap.size | have f84 := zY3 x4.w.heap.size x8.w.heap.size | have f84 := zY2 x4.w.heap.size x8.w.heap.size | have f84 := zY1 x4.w.heap.size x8.w.heap.size | skip); (first | have f85 := zY4 x5.w.heap.size x8.w.heap.size | have f85 := zY3 x5.w.heap.size x8.w.heap.size | have f85 := zY2 x5.w.heap.size x8.w.heap.size | have f85 := zY1 x5.w.heap.size x8.w.heap.size | skip); (first | have f86 := zY4 x6.w.heap.size x8.w.heap.size | have f86 := zY3 x6.w.heap.size x8.w.heap.size | have f86 := zY2 x6.w.heap.size x8.w.heap.size | have f86 := zY1 x6.w.heap.size x8.w.heap.size | skip); (first | have f87 := zY4 x7.w.heap.size x8.w.heap.size | have f87 := zY3 x7.w.heap.size x8.w.heap.size | have f87 := zY2 x7.w.heap.size x8.w.heap.size | have f87 := zY1 x7.w.heap.size x8.w.heap.size | skip))
            go_wp2
            all_goals go_ret3
            all_goals exact ⟨get_some Hs'.out rfl rfl, by (repeat (first | exact Below.refl _ _ | assumption | refine bel_alloc ?_ _ | refine bel_after _ ?_ | refine bel_drewN ?_ _ | refine bel_drew ?_ | refine bel_set ?_ (by first | omega | (simp only [zYA, zYD, zYC]; omega) | (simp; omega)) _))⟩
          · have hE' : (putL m' == bs.take (0 + 1)) = false := by simpa using hE
            have Hs' : Hid (rgetR bs = none) := by rw [Hs.out, if_neg hE]; exact Lib.hid rfl
            clear hE
            go_wp2
            refine wp_quiet_all (C := fun w' => ∃ x : After _, w' = x.w) (by kernel_rfl) (by kernel_rfl) (since_drew _) ?_
            repeat (go_big_quiet_step (fail))
            refine wpQuiet_nil ?_
            first | ((fail_if_success revert x1); rintro _ ⟨x1, rfl⟩; have hz1 := after_size x1; (try (simp only [zYA, zYD, zYC] at hz1)); (try (have f1gA := zY1 gA x1.w.heap.size)); (try (have f1gB := zY1 gB x1.w.heap.size)); (try (have f1gC := zY1 gC x1.w.heap.size)); (first | have f10 := zY6 w.heap.size x1.w.heap.size | have f10 := zY5 w.heap.size x1.w.heap.size | have f10 := zY4 w.heap.size x1.w.heap.size | have f10 := zY3 w.heap.size x1.w.heap.size | have f10 := zY2 w.heap.size x1.w.heap.size | have f10 := zY1 w.heap.size x1.w.heap.size | skip)) | ((fail_if_success revert x2); rintro _ ⟨x2, rfl⟩; have hz2 := after_size x2; (try (simp only [zYA, zYD, zYC] at hz2)); (try (have f2gA := zY1 gA x2.w.heap.size)); (try (have f2gB := zY1 gB x2.w.heap.size)); (try (have f2gC := zY1 gC x2.w.heap.size)); (first | have f20 := zY6 w.heap.size x2.w.heap.size | have f20 := zY5 w.heap.size x2.w.heap.size | have f20 := zY4 w.heap.size x2.w.heap.size | have f20 := zY3 w.heap.size x2.w.heap.size | have f20 := zY2 w.heap.size x2.w.heap.size | have f20 := zY1 w.heap.size x2.w.heap.size | skip); (first | have f21 := zY4 x1.w.heap.size x2.w.heap.size | have f21 := zY3 x1.w.heap.size x2.w.heap.size | have f21 := zY2 x1.w.heap.size x2.w.heap.size | have f21 := zY1 x1.w.heap.size x2.w.heap.size | skip)) | ((fail_if_success revert x3); rintro _ ⟨x3, rfl⟩; have hz3 := after_size x3; (try (simp only [zYA, zYD, zYC] at hz3)); (try (have f3gA := zY1 gA x3.w.heap.size)); (try (have f3gB := zY1 gB x3.w.heap.size)); (try (have f3gC := zY1 gC x3.w.heap.size)); (first | have f30 := zY6 w.heap.size x3.w.heap.size | have f30 := zY5 w.heap.size x3.w.heap.size | have f30 := zY4 w.heap.size x3.w.heap.size | have f30 := zY3 w.heap.size x3.w.heap.size | have f30 := zY2 w.heap.size x3.w.heap.size | have f30 := zY1 w.heap.size x3.w.heap.size | skip); (first | have f31 := zY4 x1.w.heap.size x3.w.heap.size | have f31 := zY3 x1.w.heap.size x3.w.heap.size | have f31 := zY2 x1.w.heap.size x3.w.heap.size | have f31 := zY1 x1.w.heap.size x3.w.heap.size | skip); (first | have f32 := zY4 x2.w.heap.size x3.w.heap.size | have f32 := zY3 x2.w.heap.size x3.w.heap.size | have f32 := zY2 x2.w.heap.size x3.w.heap.size | have f32 := zY1 x2.w.heap.size x3.w.heap.size | skip)) | ((fail_if_success revert x4); rintro _ ⟨x4, rfl⟩; have hz4 := after_size x4; (try (simp only [zYA, zYD, zYC] at hz4)); (try (have f4gA := zY1 gA x4.w.heap.size)); (try (have f4gB := zY1 gB x4.w.heap.size)); (try (have f4gC := zY1 gC x4.w.heap.size)); (first | have f40 := zY6 w.heap.size x4.w.heap.size | have f40 := zY5 w.heap.size x4.w.heap.size | have f40 := zY4 w.heap.size x4.w.heap.size | have f40 := zY3 w.heap.size x4.w.heap.size | have f40 := zY2 w.heap.size x4.w.heap.size | have f40 := zY1 w.heap.size x4.w.heap.size | skip); (first | have f41 := zY4 x1.w.heap.size x4.w.heap.size | have f41 := zY3 x1.w.heap.size x4.w.heap.size | have f41 := zY2 x1.w.heap.size x4.w.heap.size | have f41 := zY1 x1.w.heap.size x4.w.heap.size | skip); (first | have f42 := zY4 x2.w.heap.size x4.w.heap.size | have f42 := zY3 x2.w.heap.size x4.w.heap.size | have f42 := zY2 x2.w.heap.size x4.w.heap.size | have f42 := zY1 x2.w.heap.size x4.w.heap.size | skip); (first | have f43 := zY4 x3.w.heap.size x4.w.heap.size | have f43 := zY3 x3.w.heap.size x4.w.heap.size | have f43 := zY2 x3.w.heap.size x4.w.heap.size | have f43 := zY1 x3.w.heap.size x4.w.heap.size | skip)) | ((fail_if_success revert x5); rintro _ ⟨x5, rfl⟩; have hz5 := after_size x5; (try (simp only [zYA, zYD, zYC] at hz5)); (try (have f5gA := zY1 gA x5.w.heap.size)); (try (have f5gB := zY1 gB x5.w.heap.size)); (try (have f5gC := zY1 gC x5.w.heap.size)); (first | have f50 := zY6 w.heap.size x5.w.heap.size | have f50 := zY5 w.heap.size x5.w.heap.size | have f50 := zY4 w.heap.size x5.w.heap.size | have f50 := zY3 w.heap.size x5.w.heap.size | have f50 := zY2 w.heap.size x5.w.heap.size | have f50 := zY1 w.heap.size x5.w.heap.size | skip); (first | have f51 := zY4 x1.w.heap.size x5.w.heap.size | have f51 := zY3 x1.w.heap.size x5.w.heap.size | have f51 := zY2 x1.w.heap.size x5.w.heap.size | have f51 := zY1 x1.w.heap.size x5.w.heap.size | skip); (first | have f52 := zY4 x2.w.heap.size x5.w.heap.size | have f52 := zY3 x2.w.heap.size x5.w.heap.size | have f52 := zY2 x2.w.heap.size x5.w.heap.size | have f52 := zY1 x2.w.heap.size x5.w.heap.size | skip); (first | have f53 := zY4 x3.w.heap.size x5.w.heap.size | have f53 := zY3 x3.w.heap.size x5.w.heap.size | have f53 := zY2 x3.w.heap.size x5.w.heap.size | have f53 := zY1 x3.w.heap.size x5.w.heap.size | skip); (first | have f54 := zY4 x4.w.heap.size x5.w.heap.size | have f54 := zY3 x4.w.heap.size x5.w.heap.size | have f54 := zY2 x4.w.heap.size x5.w.heap.size | have f54 := zY1 x4.w.heap.size x5.w.heap.size | skip)) | ((fail_if_success revert x6); rintro _ ⟨x6, rfl⟩; have hz6 := after_size x6; (try (simp only [zYA, zYD, zYC] at hz6)); (try (have f6gA := zY1 gA x6.w.heap.size)); (try (have f6gB := zY1 gB x6.w.heap.size)); (try (have f6gC := zY1 gC x6.w.heap.size)); (first | have f60 := zY6 w.heap.size x6.w.heap.size | have f60 := zY5 w.heap.size x6.w.heap.size | have f60 := zY4 w.heap.size x6.w.heap.size | have f60 := zY3 w.heap.size x6.w.heap.size | have f60 := zY2 w.heap.size x6.w.heap.size | have f60 := zY1 w.heap.size x6.w.heap.size | skip); (first | have f61 := zY4 x1.w.heap.size x6.w.heap.size | have f61 := zY3 x1.w.heap.size x6.w.heap.size | have f61 := zY2 x1.w.heap.size x6.w.heap.size | have f61 := zY1 x1.w.heap.size x6.w.heap.size | skip); (first | have f62 := zY4 x2.w.heap.size x6.w.heap.size | have f62 := zY3 x2.w.heap.size x6.w.heap.size | have f62 := zY2 x2.w.heap.size x6.w.heap.size | have f62 := zY1 x2.w.heap.size x6.w.heap.size | skip); (first | have f63 := zY4 x3.w.heap.size x6.w.heap.size | have f63 := zY3 x3.w.heap.size x6.w.heap.size | have f63 := zY2 x3.w.heap.size x6.w.heap.size | have f63 := zY1 x3.w.heap.size x6.w.heap.size | skip); (first | have f64 := zY4 x4.w.heap.size x6.w.heap.size | have f64 := zY3 x4.w.heap.size x6.w.heap.size | have f64 := zY2 x4.w.heap.size x6.w.heap.size | have f64 := zY1 x4.w.heap.size x6.w.heap.size | skip); (first | have f65 := zY4 x5.w.heap.size x6.w.heap.size | have f65 := zY3 x5.w.heap.size x6.w.heap.size | have f65 := zY2 x5.w.heap.size x6.w.heap.size | have f65 := zY1 x5.w.heap.size x6.w.heap.size | skip)) | ((fail_if_success revert x7); rintro _ ⟨x7, rfl⟩; have hz7 := after_size x7; (try (simp only [zYA, zYD, zYC] at hz7)); (try (have f7gA := zY1 gA x7.w.heap.size)); (try (have f7gB := zY1 gB x7.w.heap.size)); (try (have f7gC := zY1 gC x7.w.heap.size)); (first | have f70 := zY6 w.heap.size x7.w.heap.size | have f70 := zY5 w.heap.size x7.w.heap.size | have f70 := zY4 w.heap.size x7.w.heap.size | have f70 := zY3 w.heap.size x7.w.heap.size | have f70 := zY2 w.heap.size x7.w.heap.size | have f70 := zY1 w.heap.size x7.w.heap.size | skip); (first | have f71 := zY4 x1.w.heap.size x7.w.heap.size | have f71 := zY3 x1.w.heap.size x7.w.heap.size | have f71 := zY2 x1.w.heap.size x7.w.heap.size | have f71 := zY1 x1.w.heap.size x7.w.heap.size | skip); (first | have f72 := zY4 x2.w.heap.size x7.w.heap.size | have f72 := zY3 x2.w.heap.size x7.w.heap.size | have f72 := zY2 x2.w.heap.size x7.w.heap.size | have f72 := zY1 x2.w.heap.size x7.w.heap.size | skip); (first | have f73 := zY4 x3.w.heap.size x7.w.heap.size | have f73 := zY3 x3.w.heap.size x7.w.heap.size | have f73 := zY2 x3.w.heap.size x7.w.heap.size | have f73 := zY1 x3.w.heap.size x7.w.heap.size | skip); (first | have f74 := zY4 x4.w.heap.size x7.w.heap.size | have f74 := zY3 x4.w.heap.size x7.w.heap.size | have f74 := zY2 x4.w.heap.size x7.w.heap.size | have f74 := zY1 x4.w.heap.size x7.w.heap.size | skip); (first | have f75 := zY4 x5.w.heap.size x7.w.heap.size | have f75 := zY3 x5.w.heap.size x7.w.heap.size | have f75 := zY2 x5.w.heap.size x7.w.heap.size | have f75 := zY1 x5.w.heap.size x7.w.heap.size | skip); (first | have f76 := zY4 x6.w.heap.size x7.w.heap.size | have f76 := zY3 x6.w.heap.size x7.w.heap.size | have f76 := zY2 x6.w.heap.size x7.w.heap.size | have f76 := zY1 x6.w.heap.size x7.w.heap.size | skip)) | ((fail_if_success revert x8); rintro _ ⟨x8, rfl⟩; have hz8 := after_size x8; (try (simp only [zYA, zYD, zYC] at hz8)); (try (have f8gA := zY1 gA x8.w.heap.size)); (try (have f8gB := zY1 gB x8.w.heap.size)); (try (have f8gC := zY1 gC x8.w.heap.size)); (first | have f80 := zY6 w.heap.size x8.w.heap.size | have f80 := zY5 w.heap.size x8.w.heap.size | have f80 := zY4 w.heap.size x8.w.heap.size | have f80 := zY3 w.heap.size x8.w.heap.size | have f80 := zY2 w.heap.size x8.w.heap.size | have f80 := zY1 w.heap.size x8.w.heap.size | skip); (first | have f81 := zY4 x1.w.heap.size x8.w.heap.size | have f81 := zY3 x1.w.heap.size x8.w.heap.size | have f81 := zY2 x1.w.heap.size x8.w.heap.size | have f81 := zY1 x1.w.heap.size x8.w.heap.size | skip); (first | have f82 := zY4 x2.w.heap.size x8.w.heap.size | have f82 := zY3 x2.w.heap.size x8.w.heap.size | have f82 := zY2 x2.w.heap.size x8.w.heap.size | have f82 := zY1 x2.w.heap.size x8.w.heap.size | skip); (first | have f83 := zY4 x3.w.heap.size x8.w.heap.size | have f83 := zY3 x3.w.heap.size x8.w.heap.size | have f83 := zY2 x3.w.heap.size x8.w.heap.size | have f83 := zY1 x3.w.heap.size x8.w.heap.size | skip); (first | have f84 := zY4 x4.w.heap.size x8.w.heap.size | have f84 := zY3 x4.w.heap.size x8.w.heap.size | have f84 := zY2 x4.w.heap.size x8.w.heap.size | have f84 := zY1 x4.w.heap.size x8.w.heap.size | skip); (first | have f85 := zY4 x5.w.heap.size x8.w.heap.size | have f85 := zY3 x5.w.heap.size x8.w.heap.size | have f85 := zY2 x5.w.heap.size x8.w.heap.size | have f85 := zY1 x5.w.heap.size x8.w.heap.size | skip); (first | have f86 := zY4 x6.w.heap.size x8.w.heap.size | have f86 := zY3 x6.w.heap.size x8.w.heap.size | have f86 := zY2 x6.w.heap.size x8.w.heap.size | have f86 := zY1 x6.w.heap.size x8.w.heap.size | skip); (first | have f87 := zY4 x7.w.heap.size x8.w.heap.size | have f87 := zY3 x7.w.heap.size x8.w.heap.size | have f87 := zY2 x7.w.heap.size x8.w.heap.size | have f87 := zY1 x7.w.heap.size x8.w.heap.size | skip))
            go_wp2
            all_goals go_ret3
            all_goals exact ⟨get_none Hs'.out, by (repeat (first | exact Below.refl _ _ | assumption | refine bel_alloc ?_ _ | refine bel_after _ ?_ | refine bel_drewN ?_ _ | refine bel_drew ?_ | refine bel_set ?_ (by first | omega | (simp only [zYA, zYD, zYC]; omega) | (simp; omega)) _))⟩
        · skip
          go_wp2_with fail
          simp only [Hj.out]
          refine (rput_c m' hm'b _).mono ?_
          rintro e w' ⟨v', rfl, hown, hb⟩
          have Hw1 := Lib.hid hown.byt; clear hown
          (first | ((fail_if_success revert x1); obtain ⟨x1, rfl⟩ := after_of hb; clear hb; have hz1 := after_size x1; (try (simp only [zYA, zYD, zYC] at hz1)); (try (have f1gA := zY1 gA x1.w.heap.size)); (try (have f1gB := zY1 gB x1.w.heap.size)); (try (have f1gC := zY1 gC x1.w.heap.size)); (first | have f10 := zY6 w.heap.size x1.w.heap.size | have f10 := zY5 w.heap.size x1.w.heap.size | have f10 := zY4 w.heap.size x1.w.heap.size | have f10 := zY3 w.heap.size x1.w.heap.size | have f10 := zY2 w.heap.size x1.w.heap.size | have f10 := zY1 w.heap.size x1.w.heap.size | skip)) | ((fail_if_success revert x2); obtain ⟨x2, rfl⟩ := after_of hb; clear hb; have hz2 := after_size x2; (try (simp only [zYA, zYD, zYC] at hz2)); (try (have f2gA := zY1 gA x2.w.heap.size)); (try (have f2gB := zY1 gB x2.w.heap.size)); (try (have f2gC := zY1 gC x2.w.heap.size)); (first | have f20 := zY6 w.heap.size x2.w.heap.size | have f20 := zY5 w.heap.size x2.w.heap.size | have f20 := zY4 w.heap.size x2.w.heap.size | have f20 := zY3 w.heap.size x2.w.heap.size | have f20 := zY2 w.heap.size x2.w.heap.size | have f20 := zY1 w.heap.size x2.w.heap.size | skip); (first | have f21 := zY4 x1.w.heap.size x2.w.heap.size | have f21 := zY3 x1.w.heap.size x2.w.heap.size | have f21 := zY2 x1.w.heap.size x2.w.heap.size | have f21 := zY1 x1.w.heap.size x2.w.heap.size | skip)) | ((fail_if_success revert x3); obtain ⟨x3, rfl⟩ := after_of hb; clear hb; have hz3 := after_size x3; (try (simp only [zYA, zYD, zYC] at hz3)); (try (have f3gA := zY1 gA x3.w.heap.size)); (try (have f3gB := zY1 gB x3.w.heap.size)); (try (have f3gC := zY1 gC x3.w.heap.size)); (first | have f30 := zY6 w.heap.size x3.w.heap.size | have f30 := zY5 w.heap.size x3.w.heap.size | have f30 := zY4 w.heap.size x3.w.heap.size | have f30 := zY3 w.heap.size x3.w.heap.size | have f30 := zY2 w.heap.size x3.w.heap.size | have f30 := zY1 w.heap.size x3.w.heap.size | skip); (first | have f31 := zY4 x1.w.heap.size x3.w.heap.size | have f31 := zY3 x1.w.heap.size x3.w.heap.size | have f31 := zY2 x1.w.heap.size x3.w.heap.size | have f31 := zY1 x1.w.heap.size x3.w.heap.size | skip); (first | have f32 := zY4 x2.w.heap.size x3.w.heap.size | have f32 := zY3 x2.w.heap.size x3.w.heap.size | have f32 := zY2 x2.w.heap.size x3.w.heap.size | have f32 := zY1 x2.w.heap.size x3.w.heap.size | skip)) | ((fail_if_success revert x4); obtain ⟨x4, rfl⟩ := after_of hb; clear hb; have hz4 := after_size x4; (try (simp only [zYA, zYD, zYC] at hz4)); (try (have f4gA := zY1 gA x4.w.heap.size)); (try (have f4gB := zY1 gB x4.w.heap.size)); (try (have f4gC := zY1 gC x4.w.heap.size)); (first | have f40 := zY6 w.heap.size x4.w.heap.size | have f40 := zY5 w.heap.size x4.w.heap.size | have f40 := zY4 w.heap.size x4.w.heap.size | have f40 := zY3 w.heap.size x4.w.heap.size | have f40 := zY2 w.heap.size x4.w.heap.size | have f40 := zY1 w.heap.size x4.w.heap.size | skip); (first | have f41 := zY4 x1.w.heap.size x4.w.heap.size | have f41 := zY3 x1.w.heap.size x4.w.heap.size | have f41 := zY2 x1.w.heap.size x4.w.heap.size | have f41 := zY1 x1.w.heap.size x4.w.heap.size | skip); (first | have f42 := zY4 x2.w.heap.size x4.w.heap.size | have f42 := zY3 x2.w.heap.size x4.w.heap.size | have f42 := zY2 x2.w.heap.size x4.w.heap.size | have f42 := zY1 x2.w.heap.size x4.w.heap.size | skip); (first | have f43 := zY4 x3.w.heap.size x4.w.heap.size | have f43 := zY3 x3.w.heap.size x4.w.heap.size | have f43 := zY2 x3.w.heap.size x4.w.heap.size | have f43 := zY1 x3.w.heap.size x4.w.heap.size | skip)) | ((fail_if_success revert x5); obtain ⟨x5, rfl⟩ := after_of hb; clear hb; have hz5 := after_size x5; (try (simp only [zYA, zYD, zYC] at hz5)); (try (have f5gA := zY1 gA x5.w.heap.size)); (try (have f5gB := zY1 gB x5.w.heap.size)); (try (have f5gC := zY1 gC x5.w.heap.size)); (first | have f50 := zY6 w.heap.size x5.w.heap.size | have f50 := zY5 w.heap.size x5.w.heap.size | have f50 := zY4 w.heap.size x5.w.heap.size | have f50 := zY3 w.heap.size x5.w.heap.size | have f50 := zY2 w.heap.size x5.w.heap.size | have f50 := zY1 w.heap.size x5.w.heap.size | skip); (first | have f51 := zY4 x1.w.heap.size x5.w.heap.size | have f51 := zY3 x1.w.heap.size x5.w.heap.size | have f51 := zY2 x1.w.heap.size x5.w.heap.size | have f51 := zY1 x1.w.heap.size x5.w.heap.size | skip); (first | have f52 := zY4 x2.w.heap.size x5.w.heap.size | have f52 := zY3 x2.w.heap.size x5.w.heap.size | have f52 := zY2 x2.w.heap.size x5.w.heap.size | have f52 := zY1 x2.w.heap.size x5.w.heap.size | skip); (first | have f53 := zY4 x3.w.heap.size x5.w.heap.size | have f53 := zY3 x3.w.heap.size x5.w.heap.size | have f53 := zY2 x3.w.heap.size x5.w.heap.size | have f53 := zY1 x3.w.heap.size x5.w.heap.size | skip); (first | have f54 := zY4 x4.w.heap.size x5.w.heap.size | have f54 := zY3 x4.w.heap.size x5.w.heap.size | have f54 := zY2 x4.w.heap.size x5.w.heap.size | have f54 := zY1 x4.w.heap.size x5.w.heap.size | skip)) | ((fail_if_success revert x6); obtain ⟨x6, rfl⟩ := after_of hb; clear hb; have hz6 := after_size x6; (try (simp only [zYA, zYD, zYC] at hz6)); (try (have f6gA := zY1 gA x6.w.heap.size)); (try (have f6gB := zY1 gB x6.w.heap.size)); (try (have f6gC := zY1 gC x6.w.heap.size)); (first | have f60 := zY6 w.heap.size x6.w.heap.size | have f60 := zY5 w.heap.size x6.w.heap.size | have f60 := zY4 w.heap.size x6.w.heap.size | have f60 := zY3 w.heap.size x6.w.heap.size | have f60 := zY2 w.heap.size x6.w.heap.size | have f60 := zY1 w.heap.size x6.w.heap.size | skip); (first | have f61 := zY4 x1.w.heap.size x6.w.heap.size | have f61 := zY3 x1.w.heap.size x6.w.heap.size | have f61 := zY2 x1.w.heap.size x6.w.heap.size | have f61 := zY1 x1.w.heap.size x6.w.heap.size | skip); (first | have f62 := zY4 x2.w.heap.size x6.w.heap.size | have f62 := zY3 x2.w.heap.size x6.w.heap.size | have f62 := zY2 x2.w.heap.size x6.w.heap.size | have f62 := zY1 x2.w.heap.size x6.w.heap.size | skip); (first | have f63 := zY4 x3.w.heap.size x6.w.heap.size | have f63 := zY3 x3.w.heap.size x6.w.heap.size | have f63 := zY2 x3.w.heap.size x6.w.heap.size | have f63 := zY1 x3.w.heap.size x6.w.heap.size | skip); (first | have f64 := zY4 x4.w.heap.size x6.w.heap.size | have f64 := zY3 x4.w.heap.size x6.w.heap.size | have f64 := zY2 x4.w.heap.size x6.w.heap.size | have f64 := zY1 x4.w.heap.size x6.w.heap.size | skip); (first | have f65 := zY4 x5.w.heap.size x6.w.heap.size | have f65 := zY3 x5.w.heap.size x6.w.heap.size | have f65 := zY2 x5.w.heap.size x6.w.heap.size | have f65 := zY1 x5.w.heap.size x6.w.heap.size | skip)) | ((fail_if_success revert x7); obtain ⟨x7, rfl⟩ := after_of hb; clear hb; have hz7 := after_size x7; (try (simp only [zYA, zYD, zYC] at hz7)); (try (have f7gA := zY1 gA x7.w.heap.size)); (try (have f7gB := zY1 gB x7.w.heap.size)); (try (have f7gC := zY1 gC x7.w.heap.size)); (first | have f70 := zY6 w.heap.size x7.w.heap.size | have f70 := zY5 w.heap.size x7.w.heap.size | have f70 := zY4 w.heap.size x7.w.heap.size | have f70 := zY3 w.heap.size x7.w.heap.size | have f70 := zY2 w.heap.size x7.w.heap.size | have f70 := zY1 w.heap.size x7.w.heap.size | skip); (first | have f71 := zY4 x1.w.heap.size x7.w.heap.size | have f71 := zY3 x1.w.heap.size x7.w.heap.size | have f71 := zY2 x1.w.heap.size x7.w.heap.size | have f71 := zY1 x1.w.heap.size x7.w.heap.size | skip); (first | have f72 := zY4 x2.w.heap.size x7.w.heap.size | have f72 := zY3 x2.w.heap.size x7.w.heap.size | have f72 := zY2 x2.w.heap.size x7.w.heap.size | have f72 := zY1 x2.w.heap.size x7.w.heap.size | skip); (first | have f73 := zY4 x3.w.heap.size x7.w.heap.size | have f73 := zY3 x3.w.heap.size x7.w.heap.size | have f73 := zY2 x3.w.heap.size x7.w.heap.size | have f73 := zY1 x3.w.heap.size x7.w.heap.size | skip); (first | have f74 := zY4 x4.w.heap.size x7.w.heap.size | have f74 := zY3 x4.w.heap.size x7.w.heap.size | have f74 := zY2 x4.w.heap.size x7.w.heap.size | have f74 := zY1 x4.w.heap.size x7.w.heap.size | skip); (first | have f75 := zY4 x5.w.heap.size x7.w.heap.size | have f75 := zY3 x5.w.heap.size x7.w.heap.size | have f75 := zY2 x5.w.heap.size x7.w.heap.size | have f75 := zY1 x5.w.heap.size x7.w.heap.size | skip); (first | have f76 := zY4 x6.w.heap.size x7.w.heap.size | have f76 := zY3 x6.w.heap.size x7.w.heap.size | have f76 := zY2 x6.w.heap.size x7.w.heap.size | have f76 := zY1 x6.w.heap.size x7.w.heap.size | skip)) | ((fail_if_success revert x8); obtain ⟨x8, rfl⟩ := after_of hb; clear hb; have hz8 := after_size x8; (try (simp only [zYA, zYD, zYC] at hz8)); (try (have f8gA := zY1 gA x8.w.heap.size)); (try (have f8gB := zY1 gB x8.w.heap.size)); (try (have f8gC := zY1 gC x8.w.heap.size)); (first | have f80 := zY6 w.heap.size x8.w.heap.size | have f80 := zY5 w.heap.size x8.w.heap.size | have f80 := zY4 w.heap.size x8.w.heap.size | have f80 := zY3 w.heap.size x8.w.heap.size | have f80 := zY2 w.heap.size x8.w.heap.size | have f80 := zY1 w.heap.size x8.w.heap.size | skip); (first | have f81 := zY4 x1.w.heap.size x8.w.heap.size | have f81 := zY3 x1.w.heap.size x8.w.heap.size | have f81 := zY2 x1.w.heap.size x8.w.heap.size | have f81 := zY1 x1.w.heap.size x8.w.heap.size | skip); (first | have f82 := zY4 x2.w.heap.size x8.w.heap.size | have f82 := zY3 x2.w.heap.size x8.w.heap.size | have f82 := zY2 x2.w.heap.size x8.w.heap.size | have f82 := zY1 x2.w.heap.size x8.w.heap.size | skip); (first | have f83 := zY4 x3.w.heap.size x8.w.heap.size | have f83 := zY3 x3.w.heap.size x8.w.heap.size | have f83 := zY2 x3.w.heap.size x8.w.heap.size | have f83 := zY1 x3.w.heap.size x8.w.heap.size | skip); (first | have f84 := zY4 x4.w.heap.size x8.w.heap.size | have f84 := zY3 x4.w.heap.size x8.w.heap.size | have f84 := zY2 x4.w.heap.size x8.w.heap.size | have f84 := zY1 x4.w.heap.size x8.w.heap.size | skip); (first | have f85 := zY4 x5.w.heap.size x8.w.heap.size | have f85 := zY3 x5.w.heap.size x8.w.heap.size | have f85 := zY2 x5.w.heap.size x8.w.heap.size | have f85 := zY1 x5.w.heap.size x8.w.heap.size | skip); (first | have f86 := zY4 x6.w.heap.size x8.w.heap.size | have f86 := zY3 x6.w.heap.size x8.w.heap.size | have f86 := zY2 x6.w.heap.size x8.w.heap.size | have f86 := zY1 x6.w.heap.size x8.w.heap.size | skip); (first | have f87 := zY4 x7.w.heap.size x8.w.heap.size | have f87 := zY3 x7.w.heap.size x8.w.heap.size | have f87 := zY2 x7.w.heap.size x8.w.heap.size | have f87 := zY1 x7.w.heap.size x8.w.heap.size | skip)))
          have Hv1 := Lib.hid (Hv.out.after x1)
          have hcA : ∀ y : After x1.w, (convert 58 9 v').run Tryz.prog y.w = .ok (.string (bstr (putL m'))) y.w := fun y => conv_bytes _ _ 5 (by kernel_rfl) (by kernel_rfl) (by kernel_rfl) (Hw1.out.after y)
          have hcB : ∀ y : After x1.w, (convert 58 9 (.slice (some ⟨b, off, none⟩) (k + 1) c)).run Tryz.prog y.w = .ok (.string (bstr (bs.take (k + 1)))) y.w := fun y => conv_bytes _ _ 5 (by kernel_rfl) (by kernel_rfl) (by kernel_rfl) ((Hv1.out.take (k + 1) (by omega)).after y)
          have hbt := bstr_toList
          by_cases hE : putL m' = bs.take (k + 1)
          · have hE' : (putL m' == bs.take (k + 1)) = true := by rw [hE]; simp
            have Hs' : Hid (rgetR bs = some (m', k + 1)) := by rw [Hs.out, if_pos hE]; exact Lib.hid rfl
            clear hE
            go_wp2
            refine wp_quiet_all (C := fun w' => ∃ x : After _, w' = x.w) (by kernel_rfl) (by kernel_rfl) (since_drew _) ?_
            repeat (go_big_quiet_step (fail))
            refine wpQuiet_nil ?_
            first | ((fail_if_success revert x1); rintro _ ⟨x1, rfl⟩; have hz1 := after_size x1; (try (simp only [zYA, zYD, zYC] at hz1)); (try (have f1gA := zY1 gA x1.w.heap.size)); (try (have f1gB := zY1 gB x1.w.heap.size)); (try (have f1gC := zY1 gC x1.w.heap.size)); (first | have f10 := zY6 w.heap.size x1.w.heap.size | have f10 := zY5 w.heap.size x1.w.heap.size | have f10 := zY4 w.heap.size x1.w.heap.size | have f10 := zY3 w.heap.size x1.w.heap.size | have f10 := zY2 w.heap.size x1.w.heap.size | have f10 := zY1 w.heap.size x1.w.heap.size | skip)) | ((fail_if_success revert x2); rintro _ ⟨x2, rfl⟩; have hz2 := after_size x2; (try (simp only [zYA, zYD, zYC] at hz2)); (try (have f2gA := zY1 gA x2.w.heap.size)); (try (have f2gB := zY1 gB x2.w.heap.size)); (try (have f2gC := zY1 gC x2.w.heap.size)); (first | have f20 := zY6 w.heap.size x2.w.heap.size | have f20 := zY5 w.heap.size x2.w.heap.size | have f20 := zY4 w.heap.size x2.w.heap.size | have f20 := zY3 w.heap.size x2.w.heap.size | have f20 := zY2 w.heap.size x2.w.heap.size | have f20 := zY1 w.heap.size x2.w.heap.size | skip); (first | have f21 := zY4 x1.w.heap.size x2.w.heap.size | have f21 := zY3 x1.w.heap.size x2.w.heap.size | have f21 := zY2 x1.w.heap.size x2.w.heap.size | have f21 := zY1 x1.w.heap.size x2.w.heap.size | skip)) | ((fail_if_success revert x3); rintro _ ⟨x3, rfl⟩; have hz3 := after_size x3; (try (simp only [zYA, zYD, zYC] at hz3)); (try (have f3gA := zY1 gA x3.w.heap.size)); (try (have f3gB := zY1 gB x3.w.heap.size)); (try (have f3gC := zY1 gC x3.w.heap.size)); (first | have f30 := zY6 w.heap.size x3.w.heap.size | have f30 := zY5 w.heap.size x3.w.heap.size | have f30 := zY4 w.heap.size x3.w.heap.size | have f30 := zY3 w.heap.size x3.w.heap.size | have f30 := zY2 w.heap.size x3.w.heap.size | have f30 := zY1 w.heap.size x3.w.heap.size | skip); (first | have f31 := zY4 x1.w.heap.size x3.w.heap.size | have f31 := zY3 x1.w.heap.size x3.w.heap.size | have f31 := zY2 x1.w.heap.size x3.w.heap.size | have f31 := zY1 x1.w.heap.size x3.w.heap.size | skip); (first | have f32 := zY4 x2.w.heap.size x3.w.heap.size | have f32 := zY3 x2.w.heap.size x3.w.heap.size | have f32 := zY2 x2.w.heap.size x3.w.heap.size | have f32 := zY1 x2.w.heap.size x3.w.heap.size | skip)) | ((fail_if_success revert x4); rintro _ ⟨x4, rfl⟩; have hz4 := after_size x4; (try (simp only [zYA, zYD, zYC] at hz4)); (try (have f4gA := zY1 gA x4.w.heap.size)); (try (have f4gB := zY1 gB x4.w.heap.size)); (try (have f4gC := zY1 gC x4.w.heap.size)); (first | have f40 := zY6 w.heap.size x4.w.heap.size | have f40 := zY5 w.heap.size x4.w.heap.size | have f40 := zY4 w.heap.size x4.w.heap.size | have f40 := zY3 w.heap.size x4.w.heap.size | have f40 := zY2 w.heap.size x4.w.heap.size | have f40 := zY1 w.heap.size x4.w.heap.size | skip); (first | have f41 := zY4 x1.w.heap.size x4.w.heap.size | have f41 := zY3 x1.w.heap.size x4.w.heap.size | have f41 := zY2 x1.w.heap.size x4.w.heap.size | have f41 := zY1 x1.w.heap.size x4.w.heap.size | skip); (first | have f42 := zY4 x2.w.heap.size x4.w.heap.size | have f42 := zY3 x2.w.heap.size x4.w.heap.size | have f42 := zY2 x2.w.heap.size x4.w.heap.size | have f42 := zY1 x2.w.heap.size x4.w.heap.size | skip); (first | have f43 := zY4 x3.w.heap.size x4.w.heap.size | have f43 := zY3 x3.w.heap.size x4.w.heap.size | have f43 := zY2 x3.w.heap.size x4.w.heap.size | have f43 := zY1 x3.w.heap.size x4.w.heap.size | skip)) | ((fail_if_success revert x5); rintro _ ⟨x5, rfl⟩; have hz5 := after_size x5; (try (simp only [zYA, zYD, zYC] at hz5)); (try (have f5gA := zY1 gA x5.w.heap.size)); (try (have f5gB := zY1 gB x5.w.heap.size)); (try (have f5gC := zY1 gC x5.w.heap.size)); (first | have f50 := zY6 w.heap.size x5.w.heap.size | have f50 := zY5 w.heap.size x5.w.heap.size | have f50 := zY4 w.heap.size x5.w.heap.size | have f50 := zY3 w.heap.size x5.w.heap.size | have f50 := zY2 w.heap.size x5.w.heap.size | have f50 := zY1 w.heap.size x5.w.heap.size | skip); (first | have f51 := zY4 x1.w.heap.size x5.w.heap.size | have f51 := zY3 x1.w.heap.size x5.w.heap.size | have f51 := zY2 x1.w.heap.size x5.w.heap.size | have f51 := zY1 x1.w.heap.size x5.w.heap.size | skip); (first | have f52 := zY4 x2.w.heap.size x5.w.heap.size | have f52 := zY3 x2.w.heap.size x5.w.heap.size | have f52 := zY2 x2.w.heap.size x5.w.heap.size | have f52 := zY1 x2.w.heap.size x5.w.heap.size | skip); (first | have f53 := zY4 x3.w.heap.size x5.w.heap.size | have f53 := zY3 x3.w.heap.size x5.w.heap.size | have f53 := zY2 x3.w.heap.size x5.w.heap.size | have f53 := zY1 x3.w.heap.size x5.w.heap.size | skip); (first | have f54 := zY4 x4.w.heap.size x5.w.heap.size | have f54 := zY3 x4.w.heap.size x5.w.heap.size | have f54 := zY2 x4.w.heap.size x5.w.heap.size | have f54 := zY1 x4.w.heap.size x5.w.heap.size | skip)) | ((fail_if_success revert x6); rintro _ ⟨x6, rfl⟩; have hz6 := after_size x6; (try (simp only [zYA, zYD, zYC] at hz6)); (try (have f6gA := zY1 gA x6.w.heap.size)); (try (have f6gB := zY1 gB x6.w.heap.size)); (try (have f6gC := zY1 gC x6.w.heap.size)); (first | have f60 := zY6 w.heap.size x6.w.heap.size | have f60 := zY5 w.heap.size x6.w.heap.size | have f60 := zY4 w.heap.size x6.w.heap.size | have f60 := zY3 w.heap.size x6.w.heap.size | have f60 := zY2 w.heap.size x6.w.heap.size | have f60 := zY1 w.heap.size x6.w.heap.size | skip); (first | have f61 := zY4 x1.w.heap.size x6.w.heap.size | have f61 := zY3 x1.w.heap.size x6.w.heap.size | have f61 := zY2 x1.w.heap.size x6.w.heap.size | have f61 := zY1 x1.w.heap.size x6.w.heap.size | skip); (first | have f62 := zY4 x2.w.heap.size x6.w.heap.size | have f62 := zY3 x2.w.heap.size x6.w.heap.size | have f62 := zY2 x2.w.heap.size x6.w.heap.size | have f62 := zY1 x2.w.heap.size x6.w.heap.size | skip); (first | have f63 := zY4 x3.w.heap.size x6.w.heap.size | have f63 := zY3 x3.w.heap.size x6.w.heap.size | have f63 := zY2 x3.w.heap.size x6.w.heap.size | have f63 := zY1 x3.w.heap.size x6.w.heap.size | skip); (first | have f64 := zY4 x4.w.heap.size x6.w.heap.size | have f64 := zY3 x4.w.heap.size x6.w.heap.size | have f64 := zY2 x4.w.heap.size x6.w.heap.size | have f64 := zY1 x4.w.heap.size x6.w.heap.size | skip); (first | have f65 := zY4 x5.w.heap.size x6.w.heap.size | have f65 := zY3 x5.w.heap.size x6.w.heap.size | have f65 := zY2 x5.w.heap.size x6.w.heap.size | have f65 := zY1 x5.w.heap.size x6.w.heap.size | skip)) | ((fail_if_success revert x7); rintro _ ⟨x7, rfl⟩; have hz7 := after_size x7; (try (simp only [zYA, zYD, zYC] at hz7)); (try (have f7gA := zY1 gA x7.w.heap.size)); (try (have f7gB := zY1 gB x7.w.heap.size)); (try (have f7gC := zY1 gC x7.w.heap.size)); (first | have f70 := zY6 w.heap.size x7.w.heap.size | have f70 := zY5 w.heap.size x7.w.heap.size | have f70 := zY4 w.heap.size x7.w.heap.size | have f70 := zY3 w.heap.size x7.w.heap.size | have f70 := zY2 w.heap.size x7.w.heap.size | have f70 := zY1 w.heap.size x7.w.heap.size | skip); (first | have f71 := zY4 x1.w.heap.size x7.w.heap.size | have f71 := zY3 x1.w.heap.size x7.w.heap.size | have f71 := zY2 x1.w.heap.size x7.w.heap.size | have f71 := zY1 x1.w.heap.size x7.w.heap.size | skip); (first | have f72 := zY4 x2.w.heap.size x7.w.heap.size | have f72 := zY3 x2.w.heap.size x7.w.heap.size | have f72 := zY2 x2.w.heap.size x7.w.heap.size | have f72 := zY1 x2.w.heap.size x7.w.heap.size | skip); (first | have f73 := zY4 x3.w.heap.size x7.w.heap.size | have f73 := zY3 x3.w.heap.size x7.w.heap.size | have f73 := zY2 x3.w.heap.size x7.w.heap.size | have f73 := zY1 x3.w.heap.size x7.w.heap.size | skip); (first | have f74 := zY4 x4.w.heap.size x7.w.heap.size | have f74 := zY3 x4.w.heap.size x7.w.heap.size | have f74 := zY2 x4.w.heap.size x7.w.heap.size | have f74 := zY1 x4.w.heap.size x7.w.heap.size | skip); (first | have f75 := zY4 x5.w.heap.size x7.w.heap.size | have f75 := zY3 x5.w.heap.size x7.w.heap.size | have f75 := zY2 x5.w.heap.size x7.w.heap.size | have f75 := zY1 x5.w.heap.size x7.w.heap.size | skip); (first | have f76 := zY4 x6.w.heap.size x7.w.heap.size | have f76 := zY3 x6.w.heap.size x7.w.heap.size | have f76 := zY2 x6.w.heap.size x7.w.heap.size | have f76 := zY1 x6.w.heap.size x7.w.heap.size | skip)) | ((fail_if_success revert x8); rintro _ ⟨x8, rfl⟩; have hz8 := after_size x8; (try (simp only [zYA, zYD, zYC] at hz8)); (try (have f8gA := zY1 gA x8.w.heap.size)); (try (have f8gB := zY1 gB x8.w.heap.size)); (try (have f8gC := zY1 gC x8.w.heap.size)); (first | have f80 := zY6 w.heap.size x8.w.heap.size | have f80 := zY5 w.heap.size x8.w.heap.size | have f80 := zY4 w.heap.size x8.w.heap.size | have f80 := zY3 w.heap.size x8.w.heap.size | have f80 := zY2 w.heap.size x8.w.heap.size | have f80 := zY1 w.heap.size x8.w.heap.size | skip); (first | have f81 := zY4 x1.w.heap.size x8.w.heap.size | have f81 := zY3 x1.w.heap.size x8.w.heap.size | have f81 := zY2 x1.w.heap.size x8.w.heap.size | have f81 := zY1 x1.w.heap.size x8.w.heap.size | skip); (first | have f82 := zY4 x2.w.heap.size x8.w.heap.size | have f82 := zY3 x2.w.heap.size x8.w.heap.size | have f82 := zY2 x2.w.heap.size x8.w.heap.size | have f82 := zY1 x2.w.heap.size x8.w.heap.size | skip); (first | have f83 := zY4 x3.w.heap.size x8.w.heap.size | have f83 := zY3 x3.w.heap.size x8.w.heap.size | have f83 := zY2 x3.w.heap.size x8.w.heap.size | have f83 := zY1 x3.w.heap.size x8.w.heap.size | skip); (first | have f84 := zY4 x4.w.heap.size x8.w.heap.size | have f84 := zY3 x4.w.heap.size x8.w.heap.size | have f84 := zY2 x4.w.heap.size x8.w.heap.size | have f84 := zY1 x4.w.heap.size x8.w.heap.size | skip); (first | have f85 := zY4 x5.w.heap.size x8.w.heap.size | have f85 := zY3 x5.w.heap.size x8.w.heap.size | have f85 := zY2 x5.w.heap.size x8.w.heap.size | have f85 := zY1 x5.w.heap.size x8.w.heap.size | skip); (first | have f86 := zY4 x6.w.heap.size x8.w.heap.size | have f86 := zY3 x6.w.heap.size x8.w.heap.size | have f86 := zY2 x6.w.heap.size x8.w.heap.size | have f86 := zY1 x6.w.heap.size x8.w.heap.size | skip); (first | have f87 := zY4 x7.w.heap.size x8.w.heap.size | have f87 := zY3 x7.w.heap.size x8.w.heap.size | have f87 := zY2 x7.w.heap.size x8.w.heap.size | have f87 := zY1 x7.w.heap.size x8.w.heap.size | skip))
            go_wp2
            all_goals go_ret3
            all_goals exact ⟨get_some Hs'.out rfl rfl, by (repeat (first | exact Below.refl _ _ | assumption | refine bel_alloc ?_ _ | refine bel_after _ ?_ | refine bel_drewN ?_ _ | refine bel_drew ?_ | refine bel_set ?_ (by first | omega | (simp only [zYA, zYD, zYC]; omega) | (simp; omega)) _))⟩
          · have hE' : (putL m' == bs.take (k + 1)) = false := by simpa using hE
            have Hs' : Hid (rgetR bs = none) := by rw [Hs.out, if_neg hE]; exact Lib.hid rfl
            clear hE
            go_wp2
            refine wp_quiet_all (C := fun w' => ∃ x : After _, w' = x.w) (by kernel_rfl) (by kernel_rfl) (since_drew _) ?_
            repeat (go_big_quiet_step (fail))
            refine wpQuiet_nil ?_
            first | ((fail_if_success revert x1); rintro _ ⟨x1, rfl⟩; have hz1 := after_size x1; (try (simp only [zYA, zYD, zYC] at hz1)); (try (have f1gA := zY1 gA x1.w.heap.size)); (try (have f1gB := zY1 gB x1.w.heap.size)); (try (have f1gC := zY1 gC x1.w.heap.size)); (first | have f10 := zY6 w.heap.size x1.w.heap.size | have f10 := zY5 w.heap.size x1.w.heap.size | have f10 := zY4 w.heap.size x1.w.heap.size | have f10 := zY3 w.heap.size x1.w.heap.size | have f10 := zY2 w.heap.size x1.w.heap.size | have f10 := zY1 w.heap.size x1.w.heap.size | skip)) | ((fail_if_success revert x2); rintro _ ⟨x2, rfl⟩; have hz2 := after_size x2; (try (simp only [zYA, zYD, zYC] at hz2)); (try (have f2gA := zY1 gA x2.w.heap.size)); (try (have f2gB := zY1 gB x2.w.heap.size)); (try (have f2gC := zY1 gC x2.w.heap.size)); (first | have f20 := zY6 w.heap.size x2.w.heap.size | have f20 := zY5 w.heap.size x2.w.heap.size | have f20 := zY4 w.heap.size x2.w.heap.size | have f20 := zY3 w.heap.size x2.w.heap.size | have f20 := zY2 w.heap.size x2.w.heap.size | have f20 := zY1 w.heap.size x2.w.heap.size | skip); (first | have f21 := zY4 x1.w.heap.size x2.w.heap.size | have f21 := zY3 x1.w.heap.size x2.w.heap.size | have f21 := zY2 x1.w.heap.size x2.w.heap.size | have f21 := zY1 x1.w.heap.size x2.w.heap.size | skip)) | ((fail_if_success revert x3); rintro _ ⟨x3, rfl⟩; have hz3 := after_size x3; (try (simp only [zYA, zYD, zYC] at hz3)); (try (have f3gA := zY1 gA x3.w.heap.size)); (try (have f3gB := zY1 gB x3.w.heap.size)); (try (have f3gC := zY1 gC x3.w.heap.size)); (first | have f30 := zY6 w.heap.size x3.w.heap.size | have f30 := zY5 w.heap.size x3.w.heap.size | have f30 := zY4 w.heap.size x3.w.heap.size | have f30 := zY3 w.heap.size x3.w.heap.size | have f30 := zY2 w.heap.size x3.w.heap.size | have f30 := zY1 w.heap.size x3.w.heap.size | skip); (first | have f31 := zY4 x1.w.heap.size x3.w.heap.size | have f31 := zY3 x1.w.heap.size x3.w.heap.size | have f31 := zY2 x1.w.heap.size x3.w.heap.size | have f31 := zY1 x1.w.heap.size x3.w.heap.size | skip); (first | have f32 := zY4 x2.w.heap.size x3.w.heap.size | have f32 := zY3 x2.w.heap.size x3.w.heap.size | have f32 := zY2 x2.w.heap.size x3.w.heap.size | have f32 := zY1 x2.w.heap.size x3.w.heap.size | skip)) | ((fail_if_success revert x4); rintro _ ⟨x4, rfl⟩; have hz4 := after_size x4; (try (simp only [zYA, zYD, zYC] at hz4)); (try (have f4gA := zY1 gA x4.w.heap.size)); (try (have f4gB := zY1 gB x4.w.heap.size)); (try (have f4gC := zY1 gC x4.w.heap.size)); (first | have f40 := zY6 w.heap.size x4.w.heap.size | have f40 := zY5 w.heap.size x4.w.heap.size | have f40 := zY4 w.heap.size x4.w.heap.size | have f40 := zY3 w.heap.size x4.w.heap.size | have f40 := zY2 w.heap.size x4.w.heap.size | have f40 := zY1 w.heap.size x4.w.heap.size | skip); (first | have f41 := zY4 x1.w.heap.size x4.w.heap.size | have f41 := zY3 x1.w.heap.size x4.w.heap.size | have f41 := zY2 x1.w.heap.size x4.w.heap.size | have f41 := zY1 x1.w.heap.size x4.w.heap.size | skip); (first | have f42 := zY4 x2.w.heap.size x4.w.heap.size | have f42 := zY3 x2.w.heap.size x4.w.heap.size | have f42 := zY2 x2.w.heap.size x4.w.heap.size | have f42 := zY1 x2.w.heap.size x4.w.heap.size | skip); (first | have f43 := zY4 x3.w.heap.size x4.w.heap.size | have f43 := zY3 x3.w.heap.size x4.w.heap.size | have f43 := zY2 x3.w.heap.size x4.w.heap.size | have f43 := zY1 x3.w.heap.size x4.w.heap.size | skip)) | ((fail_if_success revert x5); rintro _ ⟨x5, rfl⟩; have hz5 := after_size x5; (try (simp only [zYA, zYD, zYC] at hz5)); (try (have f5gA := zY1 gA x5.w.heap.size)); (try (have f5gB := zY1 gB x5.w.heap.size)); (try (have f5gC := zY1 gC x5.w.heap.size)); (first | have f50 := zY6 w.heap.size x5.w.heap.size | have f50 := zY5 w.heap.size x5.w.heap.size | have f50 := zY4 w.heap.size x5.w.heap.size | have f50 := zY3 w.heap.size x5.w.heap.size | have f50 := zY2 w.heap.size x5.w.heap.size | have f50 := zY1 w.heap.size x5.w.heap.size | skip); (first | have f51 := zY4 x1.w.heap.size x5.w.heap.size | have f51 := zY3 x1.w.heap.size x5.w.heap.size | have f51 := zY2 x1.w.heap.size x5.w.heap.size | have f51 := zY1 x1.w.heap.size x5.w.heap.size | skip); (first | have f52 := zY4 x2.w.heap.size x5.w.heap.size | have f52 := zY3 x2.w.heap.size x5.w.heap.size | have f52 := zY2 x2.w.heap.size x5.w.heap.size | have f52 := zY1 x2.w.heap.size x5.w.heap.size | skip); (first | have f53 := zY4 x3.w.heap.size x5.w.heap.size | have f53 := zY3 x3.w.heap.size x5.w.heap.size | have f53 := zY2 x3.w.heap.size x5.w.heap.size | have f53 := zY1 x3.w.heap.size x5.w.heap.size | skip); (first | have f54 := zY4 x4.w.heap.size x5.w.heap.size | have f54 := zY3 x4.w.heap.size x5.w.heap.size | have f54 := zY2 x4.w.heap.size x5.w.heap.size | have f54 := zY1 x4.w.heap.size x5.w.heap.size | skip)) | ((fail_if_success revert x6); rintro _ ⟨x6, rfl⟩; have hz6 := after_size x6; (try (simp only [zYA, zYD, zYC] at hz6)); (try (have f6gA := zY1 gA x6.w.heap.size)); (try (have f6gB := zY1 gB x6.w.heap.size)); (try (have f6gC := zY1 gC x6.w.heap.size)); (first | have f60 := zY6 w.heap.size x6.w.heap.size | have f60 := zY5 w.heap.size x6.w.heap.size | have f60 := zY4 w.heap.size x6.w.heap.size | have f60 := zY3 w.heap.size x6.w.heap.size | have f60 := zY2 w.heap.size x6.w.heap.size | have f60 := zY1 w.heap.size x6.w.heap.size | skip); (first | have f61 := zY4 x1.w.heap.size x6.w.heap.size | have f61 := zY3 x1.w.heap.size x6.w.heap.size | have f61 := zY2 x1.w.heap.size x6.w.heap.size | have f61 := zY1 x1.w.heap.size x6.w.heap.size | skip); (first | have f62 := zY4 x2.w.heap.size x6.w.heap.size | have f62 := zY3 x2.w.heap.size x6.w.heap.size | have f62 := zY2 x2.w.heap.size x6.w.heap.size | have f62 := zY1 x2.w.heap.size x6.w.heap.size | skip); (first | have f63 := zY4 x3.w.heap.size x6.w.heap.size | have f63 := zY3 x3.w.heap.size x6.w.heap.size | have f63 := zY2 x3.w.heap.size x6.w.heap.size | have f63 := zY1 x3.w.heap.size x6.w.heap.size | skip); (first | have f64 := zY4 x4.w.heap.size x6.w.heap.size | have f64 := zY3 x4.w.heap.size x6.w.heap.size | have f64 := zY2 x4.w.heap.size x6.w.heap.size | have f64 := zY1 x4.w.heap.size x6.w.heap.size | skip); (first | have f65 := zY4 x5.w.heap.size x6.w.heap.size | have f65 := zY3 x5.w.heap.size x6.w.heap.size | have f65 := zY2 x5.w.heap.size x6.w.heap.size | have f65 := zY1 x5.w.heap.size x6.w.heap.size | skip)) | ((fail_if_success revert x7); rintro _ ⟨x7, rfl⟩; have hz7 := after_size x7; (try (simp only [zYA, zYD, zYC] at hz7)); (try (have f7gA := zY1 gA x7.w.heap.size)); (try (have f7gB := zY1 gB x7.w.heap.size)); (try (have f7gC := zY1 gC x7.w.heap.size)); (first | have f70 := zY6 w.heap.size x7.w.heap.size | have f70 := zY5 w.heap.size x7.w.heap.size | have f70 := zY4 w.heap.size x7.w.heap.size | have f70 := zY3 w.heap.size x7.w.heap.size | have f70 := zY2 w.heap.size x7.w.heap.size | have f70 := zY1 w.heap.size x7.w.heap.size | skip); (first | have f71 := zY4 x1.w.heap.size x7.w.heap.size | have f71 := zY3 x1.w.heap.size x7.w.heap.size | have f71 := zY2 x1.w.heap.size x7.w.heap.size | have f71 := zY1 x1.w.heap.size x7.w.heap.size | skip); (first | have f72 := zY4 x2.w.heap.size x7.w.heap.size | have f72 := zY3 x2.w.heap.size x7.w.heap.size | have f72 := zY2 x2.w.heap.size x7.w.heap.size | have f72 := zY1 x2.w.heap.size x7.w.heap.size | skip); (first | have f73 := zY4 x3.w.heap.size x7.w.heap.size | have f73 := zY3 x3.w.heap.size x7.w.heap.size | have f73 := zY2 x3.w.heap.size x7.w.heap.size | have f73 := zY1 x3.w.heap.size x7.w.heap.size | skip); (first | have f74 := zY4 x4.w.heap.size x7.w.heap.size | have f74 := zY3 x4.w.heap.size x7.w.heap.size | have f74 := zY2 x4.w.heap.size x7.w.heap.size | have f74 := zY1 x4.w.heap.size x7.w.heap.size | skip); (first | have f75 := zY4 x5.w.heap.size x7.w.heap.size | have f75 := zY3 x5.w.heap.size x7.w.heap.size | have f75 := zY2 x5.w.heap.size x7.w.heap.size | have f75 := zY1 x5.w.heap.size x7.w.heap.size | skip); (first | have f76 := zY4 x6.w.heap.size x7.w.heap.size | have f76 := zY3 x6.w.heap.size x7.w.heap.size | have f76 := zY2 x6.w.heap.size x7.w.heap.size | have f76 := zY1 x6.w.heap.size x7.w.heap.size | skip)) | ((fail_if_success revert x8); rintro _ ⟨x8, rfl⟩; have hz8 := after_size x8; (try (simp only [zYA, zYD, zYC] at hz8)); (try (have f8gA := zY1 gA x8.w.heap.size)); (try (have f8gB := zY1 gB x8.w.heap.size)); (try (have f8gC := zY1 gC x8.w.heap.size)); (first | have f80 := zY6 w.heap.size x8.w.heap.size | have f80 := zY5 w.heap.size x8.w.heap.size | have f80 := zY4 w.heap.size x8.w.heap.size | have f80 := zY3 w.heap.size x8.w.heap.size | have f80 := zY2 w.heap.size x8.w.heap.size | have f80 := zY1 w.heap.size x8.w.heap.size | skip); (first | have f81 := zY4 x1.w.heap.size x8.w.heap.size | have f81 := zY3 x1.w.heap.size x8.w.heap.size | have f81 := zY2 x1.w.heap.size x8.w.heap.size | have f81 := zY1 x1.w.heap.size x8.w.heap.size | skip); (first | have f82 := zY4 x2.w.heap.size x8.w.heap.size | have f82 := zY3 x2.w.heap.size x8.w.heap.size | have f82 := zY2 x2.w.heap.size x8.w.heap.size | have f82 := zY1 x2.w.heap.size x8.w.heap.size | skip); (first | have f83 := zY4 x3.w.heap.size x8.w.heap.size | have f83 := zY3 x3.w.heap.size x8.w.heap.size | have f83 := zY2 x3.w.heap.size x8.w.heap.size | have f83 := zY1 x3.w.heap.size x8.w.heap.size | skip); (first | have f84 := zY4 x4.w.heap.size x8.w.heap.size | have f84 := zY3 x4.w.heap.size x8.w.heap.size | have f84 := zY2 x4.w.heap.size x8.w.heap.size | have f84 := zY1 x4.w.heap.size x8.w.heap.size | skip); (first | have f85 := zY4 x5.w.heap.size x8.w.heap.size | have f85 := zY3 x5.w.heap.size x8.w.heap.size | have f85 := zY2 x5.w.heap.size x8.w.heap.size | have f85 := zY1 x5.w.heap.size x8.w.heap.size | skip); (first | have f86 := zY4 x6.w.heap.size x8.w.heap.size | have f86 := zY3 x6.w.heap.size x8.w.heap.size | have f86 := zY2 x6.w.heap.size x8.w.heap.size | have f86 := zY1 x6.w.heap.size x8.w.heap.size | skip); (first | have f87 := zY4 x7.w.heap.size x8.w.heap.size | have f87 := zY3 x7.w.heap.size x8.w.heap.size | have f87 := zY2 x7.w.heap.size x8.w.heap.size | have f87 := zY1 x7.w.heap.size x8.w.heap.size | skip))
            go_wp2
            all_goals go_ret3
            all_goals exact ⟨get_none Hs'.out, by (repeat (first | exact Below.refl _ _ | assumption | refine bel_alloc ?_ _ | refine bel_after _ ?_ | refine bel_drewN ?_ _ | refine bel_drew ?_ | refine bel_set ?_ (by first | omega | (simp only [zYA, zYD, zYC]; omega) | (simp; omega)) _))⟩
      · rw [if_neg hD] at hstep
        have Hs := Lib.hid hstep; clear hstep
        rcases Nat.eq_zero_or_pos k with hk0 | hk0
        · subst hk0
          simp only [Nat.add_zero] at hck
          go_wp2
          go_round
          case rel => exact ⟨0 + 1, m', by omega, by omega, rfl, by rw [Hj.out], hm'b, Hs.out.symm⟩
          case measure => simp [intOf]; omega
        · go_wp2
          go_round
          case rel => exact ⟨k + 1, m', by omega, by omega, by go_num, by rw [Hj.out], hm'b, Hs.out.symm⟩
          case measure => simp [intOf]; omega
    · have hnone : rgetR bs = none := by
        rw [← Hg.out]
        rcases (by omega : k = bs.length ∨ k = 10) with h | h
        · rw [h]; simp [rgetF]
        · cases hd : bs.drop k with
          | nil => simp [rgetF]
          | cons c r => rw [rgetF, if_pos (by omega)]
      have Hs := Lib.hid hnone; clear hnone
      rcases (by omega : ¬ k < bs.length ∨ (k < bs.length ∧ k = 10)) with h | ⟨h, h'⟩
      · clear hlt
        go_wp2
        all_goals go_ret3
        all_goals exact ⟨get_none Hs.out, by (repeat (first | exact Below.refl _ _ | assumption | refine bel_alloc ?_ _ | refine bel_after _ ?_ | refine bel_drewN ?_ _ | refine bel_drew ?_ | refine bel_set ?_ (by first | omega | (simp only [zYA, zYD, zYC]; omega) | (simp; omega)) _))⟩
      · subst h'
        clear hlt
        go_wp2
        all_goals go_ret3
        all_goals exact ⟨get_none Hs.out, by (repeat (first | exact Below.refl _ _ | assumption | refine bel_alloc ?_ _ | refine bel_after _ ?_ | refine bel_drewN ?_ _ | refine bel_drew ?_ | refine bel_set ?_ (by first | omega | (simp only [zYA, zYD, zYC]; omega) | (simp; omega)) _))⟩

theorem get_no_c (v : Value) (bs : List UInt8) (w : World) (hv : Byt w v bs) (h : getR bs = none) : Calls Tryz.prog 111 #[v] w fun e w' => e = .returned (.tuple #[.int .u64 0, .int .i64 0, .bool false]) ∧ w = w' :=
  (get_c v bs w hv).mono fun e w' ⟨he, hw⟩ => ⟨by rw [he, h]; rfl, hw⟩
theorem get_yes_c (v : Value) (bs : List UInt8) (n u : Nat) (w : World) (hv : Byt w v bs) (h : getR bs = some (n, u)) : Calls Tryz.prog 111 #[v] w fun e w' => e = .returned (.tuple #[.int .u64 (n : Int), .int .i64 (u : Int), .bool true]) ∧ w = w' :=
  (get_c v bs w hv).mono fun e w' ⟨he, hw⟩ => ⟨by rw [he, h]; rfl, hw⟩
theorem rget_no_c (v : Value) (bs : List UInt8) (w : World) (hv : Byt w v bs) (h : getR bs = none) : Calls Tryz.prog 79 #[v] w fun e w' => e = .returned (.tuple #[.int .u64 0, .int .i64 0, .bool false]) ∧ Below w.heap.size w w' :=
  (rget_c v bs w hv).mono fun e w' ⟨he, hw⟩ => ⟨by rw [he, rget_eq, h]; rfl, hw⟩
theorem rget_yes_c (v : Value) (bs : List UInt8) (n u : Nat) (w : World) (hv : Byt w v bs) (h : getR bs = some (n, u)) : Calls Tryz.prog 79 #[v] w fun e w' => e = .returned (.tuple #[.int .u64 (n : Int), .int .i64 (u : Int), .bool true]) ∧ Below w.heap.size w w' :=
  (rget_c v bs w hv).mono fun e w' ⟨he, hw⟩ => ⟨by rw [he, rget_eq, h]; rfl, hw⟩

end Go.Proofs.YtolbmemogoojhaaGreat
