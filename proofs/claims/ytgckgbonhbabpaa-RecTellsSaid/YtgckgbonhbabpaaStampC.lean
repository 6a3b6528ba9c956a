/- Stamps: contracts with their values as equations; bytes of stamps; no program beyond the stamp's. -/
import Derived.Test.YtgckgbonhbabpaaApp
import Derived.Test.YtgckgbonhbabpaaOpen
namespace Go.Proofs.Ytgckgbonhbabpaa
open Go Go.RowKit Go.Deep
set_option linter.unusedVariables false
set_option linter.unusedSimpArgs false

def mxN (N R N' R' : Int) : Int := bif stLess N R N' R' then N' else N
def mxR (N R N' R' : Int) : Int := bif stLess N R N' R' then R' else R
theorem max_m (N R N' R' : Int) (w : World) : Calls Try.prog 45 #[.agg #[.int .i64 N, .int .i64 R], .agg #[.int .i64 N', .int .i64 R']] w fun e w' =>
    e = .returned (.agg #[.int .i64 (mxN N R N' R'), .int .i64 (mxR N R N' R')]) ∧ Below w.heap.size w w' :=
  (max_c N R N' R' w).mono fun e w' ⟨he, hb⟩ => ⟨by rw [he]; unfold mxN mxR; cases stLess N R N' R' <;> rfl, hb⟩
theorem next_m (N R rep a b c : Int) (h : stNext N R rep = (a, b, c)) (w : World) : Calls Try.prog 32 #[.agg #[.int .i64 N, .int .i64 R], .int .i64 rep] w fun e w' =>
    e = .returned (.tuple #[.agg #[.int .i64 a, .int .i64 b], .int .i64 c]) ∧ Below w.heap.size w w' :=
  (next_c N R rep w).mono fun e w' h1 => by unfold NextIs at h1; rw [h] at h1; exact h1
theorem stget_m (v : Value) (bs : List UInt8) (w : World) (hv : Byt w v bs) (a b : Int) (u : Nat) (d : Bool) (h : stGet bs = (a, b, u, d)) : Calls Try.prog 50 #[v] w fun e w' =>
    e = .returned (.tuple #[.agg #[.int .i64 a, .int .i64 b], .int .i64 (u : Int), .bool d]) ∧ Below w.heap.size w w' :=
  (stget_c v bs w hv).mono fun e w' ⟨he, hb⟩ => ⟨by rw [he]; unfold StGetIs; rw [h], hb⟩
theorem less_v {N R N' R' : Int} {b : Bool} (h : stLess N R N' R' = b) (w : World) : Calls Try.prog 29 #[.agg #[.int .i64 N, .int .i64 R], .agg #[.int .i64 N', .int .i64 R']] w fun e w' => e = .returned (.bool b) ∧ Below w.heap.size w w' := by
  rw [← h]; exact less_c N R N' R' w
theorem may_v {N R : Int} {b : Bool} (h : stMay N R = b) (w : World) : Calls Try.prog 54 #[.agg #[.int .i64 N, .int .i64 R]] w fun e w' => e = .returned (.bool b) ∧ Below w.heap.size w w' := by
  rw [← h]; exact may_c N R w
theorem stput_v {N R : Int} {b : Bool} {bs : List UInt8} (h : stMay N R = b) (h' : stBytes N R = bs) (w : World) : Calls Try.prog 46 #[.agg #[.int .i64 N, .int .i64 R]] w fun e w' =>
    ∃ v, e = .returned (.tuple #[v, .bool b]) ∧ OwnU w.heap.size w' 5 v bs ∧ Below w.heap.size w w' := by
  subst h h'; exact stput_c N R w
theorem st_back1 {N R : Int} (h : stMay N R = true) (x : List UInt8) : stGet (stBytes N R ++ x) = (N, R, (stBytes N R).length, true) := by
  have hb := stMay_le h
  have e : stBytes N R = putL (8 * N + R).toNat := by unfold stBytes; rw [if_pos h]
  rw [e]
  have h1 : ((8 * N + R).toNat : Int) / 8 = N := by omega
  have h2 : ((8 * N + R).toNat : Int) % 8 = R := by omega
  have := stGet_yes (getR_put (8 * N + R).toNat x (by omega)) (by rw [h1, h2]; exact h)
  rw [h1, h2] at this
  exact this
theorem st_back2 (x : List UInt8) : stGet x = (0, 0, 0, false) ∨ ∃ s1 s2 u, stGet x = (s1, s2, u, true) ∧ stMay s1 s2 = true ∧ 0 < u ∧ u ≤ x.length ∧ stBytes s1 s2 = x.take u := by
  cases hg : getR x with
  | none => exact .inl (stGet_none hg)
  | some r =>
    obtain ⟨n, u⟩ := r
    obtain ⟨h1, h2, h3, _, h5⟩ := getR_some hg
    cases hm : stMay ((n : Int) / 8) ((n : Int) % 8) with
    | false => exact .inl (stGet_no hg hm)
    | true =>
      refine .inr ⟨_, _, u, stGet_yes hg hm, hm, h2, h3, ?_⟩
      unfold stBytes; rw [if_pos hm, show (8 * ((n : Int) / 8) + (n : Int) % 8).toNat = n by omega]; exact h5
theorem stBytes_le {N R : Int} (h : stMay N R = true) : (stBytes N R).length ≤ 10 := by
  have hb := stMay_le h
  have e : stBytes N R = putL (8 * N + R).toNat := by unfold stBytes; rw [if_pos h]
  rw [e]; exact (putL_le _ (by omega)).2
end Go.Proofs.Ytgckgbonhbabpaa
