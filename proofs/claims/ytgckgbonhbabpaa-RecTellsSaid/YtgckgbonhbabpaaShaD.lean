/- The digest of bytes. -/
import Derived.Test.YtgckgbonhbabpaaShaC
import Derived.Test.YtgckgbonhbabpaaApp
namespace Go.Proofs.Ytgckgbonhbabpaa
open Go Go.RowKit Go.Deep
set_option linter.unusedVariables false
set_option linter.unusedSimpArgs false
set_option maxRecDepth 100000

/-- A number's eight bytes, j of them. -/
def lenB (n : Nat) (j : Nat) : List UInt8 := (List.range j).map fun i => UInt8.ofNat (8 * n / 2 ^ (8 * (7 - i)))
def padN (n : Nat) : Nat := (119 - n % 64) % 64
/-- The bytes with what is put behind them. -/
def padded (bs : List UInt8) : List UInt8 := bs ++ [128] ++ List.replicate (padN bs.length) 0 ++ lenB bs.length 8
def states (all : List UInt8) : Nat → List Int
  | 0 => begunL
  | m + 1 => takeL ((all.drop (64 * m)).take 64) (states all m)
def outs (st : List Int) : Nat → List UInt8
  | 0 => List.replicate 32 0
  | j + 1 => (outs st j).set j (UInt8.ofNat (st.getD (j / 4) 0 / 2 ^ (24 - 8 * (j % 4)) % 256).toNat)
/-- The digest. -/
def dig (bs : List UInt8) : List UInt8 := outs (states (padded bs) ((padded bs).length / 64)) 32

def zero32 : Array Value := (encU (List.replicate 32 0)).toArray
theorem zero32_info : (Try.prog.info? 39).map (·.zero) = some (some (.agg zero32)) := by kernel_rfl
theorem size32_info : (Try.prog.info? 39).map (·.size) = some 32 := by kernel_rfl

theorem states_length (A : List UInt8) : ∀ m, (states A m).length = 8
  | 0 => rfl
  | m + 1 => by rw [states, takeL, addN_length, states_length A m]
theorem outs_length (st : List Int) : ∀ m, (outs st m).length = 32
  | 0 => rfl
  | m + 1 => by rw [outs, List.length_set, outs_length st m]
theorem byte_int (y : Int) : ((UInt8.ofNat (y % 256).toNat).toNat : Int) = y % 256 := by
  rw [u8_ofNat_toNat _ (by omega)]; omega
theorem byte_of (n : Nat) : ((UInt8.ofNat n).toNat : Int) = ((n % 256 : Nat) : Int) := by simp
set_option maxHeartbeats 3200000 in
theorem sum_c (v : Value) (bs : List UInt8) (hl : bs.length ≤ 80000) (w : World) (hv : Byt w v bs) : Calls Try.prog 67 #[v] w fun e w' => e = .returned (.agg (encU (dig bs)).toArray) ∧ Below w.heap.size w w' := by
  have hlen0 := fun W => len_of hv W
  have Hv := Lib.hid hv; clear hv
  obtain ⟨N, hN⟩ : ∃ N, N = bs.length := ⟨_, rfl⟩
  rw [← hN] at hlen0 hl
  have HN := Lib.hid hN; clear hN
  go_enter Try.func67, Try.ntmps67
  go_wp2_with (first | ((fail_if_success have := k1); refine wpList_alloc_blk rfl 39 rfl _ rfl (.agg zero32) zero32 zero32_info rfl ?_; intro w1 k1 b1 s1) | (go_at_call 82; refine (clone_c v bs (by rw [← HN.out]; omega) _ (Hv.out.below b1)).mono ?_; rintro e w2 ⟨v2, rfl, own2, b2⟩) | (at_builtin; refine wpList_app (w0 := w1) rfl _ _ 26 rfl _ rfl 5 (by kernel_rfl) (by kernel_rfl) _ bs rfl (own2.below (bel_alloc (Below.refl _ _) _)) _ [128] rfl (byt_one _ _ 128 _ rfl) (by simp; rw [← HN.out]; omega) (bel_alloc b2 _) ?_; intro v3 w3 own3 b3))
  have Own3 := Lib.hid own3; have B3 := Lib.hid b3
  have K1 := Lib.hid k1
  clear own2 b2 own3 b3 k1
  go_loopw [3] (fun u wr => ∃ M : Nat, M ≤ padN N ∧ Hid (OwnU w1.heap.size wr 5 u (bs ++ [128] ++ List.replicate M 0)) ∧ Hid (Below w1.heap.size w1 wr)) (fun u _ => N + 66 - lenV u)
  case atStart => exact ⟨0, Nat.zero_le _, Lib.hid (by simpa using Own3.out), B3⟩
  case round =>
    obtain ⟨M, hM, O, B⟩ := hrel
    have hP : padN N ≤ 63 := by unfold padN; omega
    obtain ⟨L, hL⟩ : ∃ L, L = N + 1 + M := ⟨_, rfl⟩
    have hl2 : (bs ++ [128] ++ List.replicate M 0).length = L := by simp [hL, HN.out]; omega
    have hlen := fun W => len_of O.out.byt W
    have hlv := lenV_of O.out.byt
    rw [hl2] at hlen hlv
    have Hl2 := Lib.hid hl2; clear hl2
    by_cases h56 : L % 64 = 56
    · have hMP : M = padN N := by unfold padN; unfold padN at hM; omega
      subst hMP
      obtain ⟨pre, hpre⟩ : ∃ pre, pre = bs ++ [128] ++ List.replicate (padN N) 0 := ⟨_, rfl⟩
      rw [← hpre] at O Hl2
      have Hpre := Lib.hid hpre; clear hpre
      clear hlv
      have hq : ((L : Int) % 64 != 56) = false := by simp; omega
      have HLN := Lib.hid hL; have H56 := Lib.hid h56
      clear hL h56
      go_wp2
      clear hq hlen
      go_loopw [20, 3] (fun i u wr => ∃ j : Nat, j ≤ 8 ∧ i = .int .i64 j ∧ Hid (OwnU w1.heap.size wr 5 u (pre ++ lenB N j)) ∧ Hid (Below w1.heap.size w1 wr)) (fun i _ _ => 8 - (intOf i).toNat)
      case atStart => exact ⟨0, by omega, rfl, Lib.hid (by simpa [lenB] using O.out), B⟩
      case round =>
        obtain ⟨j, hj, rfl, O2, B2⟩ := hrel
        by_cases h8 : j < 8
        · obtain ⟨c, hc, hcb⟩ : ∃ c : UInt8, Hid (c = UInt8.ofNat (8 * N / 2 ^ (8 * (7 - j)))) ∧ (c.toNat : Int) = (N : Int) * 8 / 2 ^ (8 * (7 - j)) % 256 := by
            refine ⟨_, Lib.hid rfl, ?_⟩
            rw [byte_of, Int.natCast_emod, Int.natCast_ediv, Int.natCast_pow, Int.natCast_mul, Int.mul_comm]; rfl
          have Hcb := Lib.hid hcb; clear hcb
          have hlb : (pre ++ lenB N j).length + [c].length ≤ 100000 := by rw [List.length_append, Hl2.out]; have := HLN.out; simp [lenB]; omega
          go_wp2_with (at_builtin; refine wpList_app (w0 := w1) rfl _ _ 26 rfl _ rfl 5 (by kernel_rfl) (by kernel_rfl) _ _ rfl (O2.out.below (bel_alloc (Below.refl _ _) _)) _ [c] rfl (byt_one _ _ c _ Hcb.out) hlb (bel_alloc B2.out _) ?_; intro v4 w4 own4 b4)
          go_roundw
          case rel =>
            refine ⟨j + 1, by omega, by go_num, ?_, Lib.hid b4⟩
            have e : lenB N (j + 1) = lenB N j ++ [c] := by rw [hc.out]; simp [lenB, List.range_succ]
            rw [e, ← List.append_assoc]
            exact Lib.hid own4
          case measure => simp [intOf]; omega
        · have hj8 : j = 8 := by omega
          subst hj8
          obtain ⟨A, hA⟩ : ∃ A, A = padded bs := ⟨_, rfl⟩
          have hpA : pre ++ lenB N 8 = A := by rw [hA, padded, Hpre.out, HN.out]
          rw [hpA] at O2
          obtain ⟨q, hq'⟩ : ∃ q, L + 8 = 64 * q := ⟨(L + 8) / 64, by have := H56.out; omega⟩
          have hAl : A.length = 64 * q := by rw [← hpA, List.length_append, Hl2.out, ← hq']; simp [lenB]
          obtain ⟨g, cp, rfl, hg1, hg2, hg3, hg4, hcells⟩ := O2.out.open_ (by have := HLN.out; omega)
          rw [hAl] at hg3 hcells ⊢
          have hAq : (padded bs).length / 64 = q := by rw [← hA, hAl]; omega
          have HA := Lib.hid hA; clear hA hpA
          have Hcells := Lib.hid hcells; clear hcells
          go_wp2_with (first | (go_at_call 83; refine (begun_c _).mono ?_; rintro e w5 ⟨rfl, b5⟩) | (go_at_call 84; refine (roots_c _).mono ?_; rintro e w6 ⟨rfl, b6⟩) | (refine wpList_alloc_blk rfl 103 rfl _ rfl (.agg zero8) zero8 zero8_info rfl ?_; intro w7 k7 b7 s7) | (refine wpList_alloc_blk rfl 105 rfl _ rfl (.agg zeroA) zeroA zero_info rfl ?_; intro w8 k8 b8 s8) | (have k9' := k8.but b9 (by omega); refine wpList_store_blk rfl 105 _ _ rfl _ rootsA rfl rfl _ _ k9' (by kernel_rfl) (by kernel_rfl) (by kernel_rfl) ?_; intro w10 k10 b10 s10) | (refine wpList_store_blk rfl 103 _ _ rfl _ (encW begunL) rfl rfl _ _ (k7.below b8 (by omega)) (by kernel_rfl) (by kernel_rfl) (by kernel_rfl) ?_; intro w9 k9 b9 s9))
          have hz5 := b5.size
          have hz6 := b6.size
          have hz7 := b7.size
          have hz10 : w10.heap.size = w6.heap.size + 2 := by omega
          have k11 := k9.but b10 (by omega)
          rw [s7] at k10
          have hb10 : Below wr.heap.size wr w10 := b5.trans ((b6.mono (by omega)).trans ((b7.mono (by omega)).trans ((b8.mono (by omega)).trans ((b9.below (by omega) (by omega)).trans (b10.below (by omega) (by omega))))))
          have hb11 : Below w1.heap.size w1 w10 := bel_step B2.out hb10
          have Hcells' : Hid (∀ j, j < 64 * q → w10.cell? ⟨g, j, none⟩ = some (.int .u8 ((A.getD j 0).toNat : Int))) := Lib.hid fun j hj => (hb10.cell (p := ⟨g, j, none⟩) hg2).trans (Hcells.out j hj)
          have hgs : g < w6.heap.size := by omega
          have Hcp := Lib.hid hg4
          have K11 := Lib.hid k11; have K10 := Lib.hid k10; have HB11 := Lib.hid hb11
          clear k7 k8 k9 k10 k11 b5 b6 b7 b8 b9 b10 hb10 hb11 B B2 O O2 Own3 B3 Hcells hg4 s10 s9 hz5 hz6 hz7
          rw [s7]
          go_simp
          go_loopw [3] (fun u wq => ∃ m o : Nat, m ≤ q ∧ (m < q → o = 64 * m) ∧ u = .slice (some ⟨g, o, none⟩) (64 * q - 64 * m) (cp - 64 * m) ∧ Hid (Blk wq w6.heap.size 103 (encW (states A m))) ∧ Hid (But w6.heap.size w10 wq)) (fun u _ => lenV u)
          case atStart => exact ⟨0, 0, by omega, by simp, by simp, K11, Lib.hid (But.refl _ _)⟩
          case round =>
            obtain ⟨m, o1, hm, ho1, rfl, K, B⟩ := hrel
            obtain ⟨n1, hn1⟩ : ∃ n1, n1 = 64 * q - 64 * m := ⟨_, rfl⟩
            obtain ⟨c1, hc1⟩ : ∃ c1, c1 = cp - 64 * m := ⟨_, rfl⟩
            rw [← hn1, ← hc1]
            have hcm := Hcp.out
            unfold maxLen at hcm
            have hc1m : c1 ≤ 9223372036854775807 := by omega
            have hn1c : n1 ≤ c1 := by omega
            have hst : (states A m).length = 8 := states_length A m
            by_cases hlt : m < q
            · have h64n : 64 ≤ n1 := by omega
              replace ho1 := ho1 hlt
              have hgz := B.out.size
              have hbyt : Byt wr (.slice (some ⟨g, o1, none⟩) 64 c1) ((A.drop (64 * m)).take 64) := by
                refine byt_of _ _ _ _ _ _ (by simp; omega) (by omega) (by unfold maxLen; omega) fun j hj => ?_
                rw [(B.out.cell (p := ⟨g, o1 + j, none⟩) (by show g < _; omega) (by show g ≠ _; omega)), Hcells'.out _ (by omega)]
                congr 3
                simp [List.getD_eq_getElem?_getD, List.getElem?_take, List.getElem?_drop, hj, ho1]
              have HO := Lib.hid ho1; have HN1 := Lib.hid hn1; have HC1 := Lib.hid hc1
              have Hbyt := Lib.hid hbyt
              clear ho1 hn1 hc1 hbyt hcm
              have hkb : Blk wr (w6.heap.size + 1) 105 rootsA := K10.out.but B.out (by omega)
              have Hkb := Lib.hid hkb; clear hkb
              go_wp2_with (go_at_call 85; refine (take_c _ _ (by simp; omega) w6.heap.size (w6.heap.size + 1) (by omega) (states A m) hst _ Hbyt.out K.out Hkb.out).mono ?_; rintro e w11 ⟨rfl, k12, b12⟩)
              go_roundw
              case rel =>
                have h1 := HO.out; have h2 := HN1.out; have h3 := HC1.out
                refine ⟨m + 1, if c1 = 64 then o1 else o1 + 64, by omega, ?_, ?_, Lib.hid k12, Lib.hid (B.out.trans b12)⟩
                · intro h4; rw [if_neg (by omega)]; omega
                · simp only [Value.slice.injEq]
                  refine ⟨?_, by omega, by omega⟩
                  split <;> rfl
              case measure =>
                simp only [lenV]
                omega
            · have hmq : m = q := by omega
              subst hmq
              have hn0 : n1 = 0 := by omega
              clear ho1 hc1
              subst hn0
              clear hn1
              obtain ⟨S, hS⟩ : ∃ S, S = states A m := ⟨_, rfl⟩
              rw [← hS] at hst K
              have HS := Lib.hid hS; clear hS
              obtain ⟨ob, hob⟩ : ∃ ob, wr.heap.size = ob := ⟨_, rfl⟩
              have hzs := B.out.size
              go_wp2_with (refine wpList_alloc_blk rfl 39 rfl _ rfl (.agg zero32) zero32 zero32_info rfl ?_; intro w12 k12 b12 s12)
              rw [hob] at k12 s12 b12 hzs
              have Ks := Lib.hid (K.out.below b12 (by rw [← hob]; exact K.out.lt))
              have K12 := Lib.hid k12
              have B12 := Lib.hid b12
              clear k12 b12
              go_loopw [46] (fun i wq => ∃ j : Nat, j ≤ 32 ∧ i = .int .i64 j ∧ Hid (Blk wq ob 39 (encU (outs S j)).toArray) ∧ Hid (But ob w12 wq)) (fun i _ => 32 - (intOf i).toNat)
              case atStart => exact ⟨0, by omega, rfl, K12, Lib.hid (But.refl _ _)⟩
              case round =>
                obtain ⟨j, hj, rfl, KO, BO⟩ := hrel
                have hoz := BO.out.size
                by_cases h32 : j < 32
                · obtain ⟨x, hx⟩ : ∃ x : Int, Hid (x = S.getD (j / 4) 0) := ⟨_, rfl⟩
                  have cx : wr.cell? ⟨w6.heap.size, j / 4, none⟩ = some (.int .u32 x) := by rw [hx.out, (Ks.out.but BO.out (by omega)).cell]; exact encW_at _ _ (by omega)
                  obtain ⟨v0, hv0⟩ : ∃ v0, wr.cell? ⟨ob, j, none⟩ = some v0 := ⟨_, by rw [KO.out.cell]; exact Array.getElem?_eq_getElem (by simp [encU_length, outs_length]; omega)⟩
                  have hf0 := KO.out.frozen j
                  go_wp2
                  go_roundw
                  case rel =>
                    refine ⟨j + 1, by omega, by go_num, ?_, Lib.hid (BO.out.set j _)⟩
                    have := KO.out.set j (.int .u8 (x / 2 ^ (24 - 8 * (j % 4)) % 256))
                    have e : (encU (outs S j)).toArray.setIfInBounds j (.int .u8 (x / 2 ^ (24 - 8 * (j % 4)) % 256)) = (encU (outs S (j + 1))).toArray := by
                      rw [outs, ← hx.out]
                      simp only [encU, List.setIfInBounds_toArray, List.map_set]
                      rw [byte_int]
                    rw [e] at this
                    exact Lib.hid this
                  case measure => simp [intOf]; omega
                · have hj32 : j = 32 := by omega
                  subst hj32
                  obtain ⟨O, hO⟩ : ∃ O, O = (encU (outs S 32)).toArray := ⟨_, rfl⟩
                  have hOs : O.size = 32 := by rw [hO]; simp [encU_length, outs_length]
                  have hO1 : O.all (·.oneCell') = true := by rw [hO]; simp [encU, Value.oneCell']
                  have KO' := KO.out
                  rw [← hO] at KO'
                  have HO := Lib.hid hO; clear hO
                  have KT : Blk wr w.heap.size 39 zero32 := (((K1.out.below HB11.out (by omega)).but B.out (by omega)).below B12.out (by omega)).but BO.out (by omega)
                  have hbel : Below w.heap.size w wr := by
                    have h1 := HB11.out.mono (show w.heap.size ≤ w1.heap.size by omega)
                    exact b1.trans (h1.trans ((B.out.below (by omega) (by omega)).trans ((B12.out.mono (by omega)).trans (BO.out.below (by omega) (by omega)))))
                  have HKO := Lib.hid KO'; have HKT := Lib.hid KT; have Hbel := Lib.hid hbel
                  clear KO' KT hbel K1 B B12 BO KO K HB11 b1
                  go_wp2_with (first | (refine wpList_load_row rfl 39 _ rfl _ rfl _ O _ _ HKO.out Try.underlying39 rfl (by rw [hOs]; exact size32_info) ?_) | (refine wpList_store_blk rfl 39 _ _ rfl _ O rfl rfl _ _ HKT.out (by rw [hOs]; exact size32_info) (by rw [hOs]; rfl) hO1 ?_; intro w13 k13 b13 s13))
                  exact bodyPost_ret (results_cell_row Try.results67 _ _ w.heap.size _ O _ _ rfl k13 Try.underlying39 rfl (by rw [hOs]; exact size32_info)) rfl ⟨by rw [HO.out, HS.out, HA.out, dig, hAq], Hbel.out.trans (b13.below (Nat.le_refl _) (by have := Hbel.out.size; omega))⟩
    · have hMP : M < padN N := by unfold padN; unfold padN at hM; omega
      have hq : ((L : Int) % 64 == 56) = false := by rw [beq_eq_false_iff_ne]; omega
      have hlb : (bs ++ [128] ++ List.replicate M 0).length + [0].length ≤ 100000 := by rw [Hl2.out]; simp; omega
      go_wp2_with (at_builtin; refine wpList_app (w0 := w1) rfl _ _ 26 rfl _ rfl 5 (by kernel_rfl) (by kernel_rfl) _ _ rfl (O.out.below (bel_alloc (Below.refl _ _) _)) _ [0] rfl (byt_one _ _ 0 _ rfl) hlb (bel_alloc B.out _) ?_; intro v4 w4 own4 b4)
      go_roundw
      case rel =>
        refine ⟨M + 1, hMP, ?_, Lib.hid b4⟩
        rw [List.append_assoc (bs ++ [128]), ← List.replicate_succ'] at own4
        exact Lib.hid own4
      case measure =>
        rw [lenV_of own4.byt]
        rw [List.length_append, Hl2.out]
        simp
        omega
end Go.Proofs.Ytgckgbonhbabpaa
