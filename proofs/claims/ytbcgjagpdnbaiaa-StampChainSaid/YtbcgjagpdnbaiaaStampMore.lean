/- Stamps: Put with its values given by equations; arguments of whole numbers. -/
import Derived.Test.YtbcgjagpdnbaiaaStampLaw
import Derived.Test.YtbcgjagpdnbaiaaOpen
namespace Go.Proofs.Ytbcgjagpdnbaiaa
open Go Go.RowKit Go.Deep Go.ChangeShapes Go.WideShapes Go.ChangeAt
set_option linter.unusedVariables false
set_option linter.unusedSimpArgs false

theorem stput_v {N R : Int} {b : Bool} {bs : List UInt8} (h : stMay N R = b) (h' : stBytes N R = bs) (w : World) : Calls Try.prog 13 #[.agg #[.int .i64 N, .int .i64 R]] w fun e w' =>
    ∃ v, e = .returned (.tuple #[v, .bool b]) ∧ OwnU w.heap.size w' 5 v bs ∧ Below w.heap.size w w' := by
  subst h h'; exact stput_c N R w
theorem rstput_v {N R : Int} {b : Bool} {bs : List UInt8} (h : stMay N R = b) (h' : stBytes N R = bs) (w : World) : Calls Try.prog 14 #[.agg #[.int .i64 N, .int .i64 R]] w fun e w' =>
    ∃ v, e = .returned (.tuple #[v, .bool b]) ∧ OwnU w.heap.size w' 5 v bs ∧ Below w.heap.size w w' := by
  subst h h'; exact rstput_c N R w
theorem stBytes_00 : stBytes 0 0 = [0] := by
  have := stBytes_yes (n := 0) (r := 0) (by decide)
  exact this.trans (by unfold putL; rw [show (8 * 0 + 0) / 128 = 0 from rfl, hi_zero]; rfl)
theorem st_none {N R : Int} (h : stMay N R = true) : stLess N R 0 0 = false ∧ stLess 0 0 N R = !stEq N R 0 0 ∧ mxN 0 0 N R = N ∧ mxR 0 0 N R = R := by
  simp only [stMay, Bool.or_eq_true, decide_eq_true_eq] at h
  refine ⟨by simp only [stLess, decide_eq_false_iff_not]; omega, ?_, ?_, ?_⟩
  · rw [Bool.eq_iff_iff]; simp only [stLess, stEq, decide_eq_true_eq, Bool.not_eq_true', decide_eq_false_iff_not]; omega
  · simp only [mxN, cond_eq_ite, stLess, decide_eq_true_eq]; split <;> omega
  · simp only [mxR, cond_eq_ite, stLess, decide_eq_true_eq]; split <;> omega
/-- Of two stamps that may be the lesser's number is less. -/
theorem stLess_num {N R N' R' : Int} (h : stMay N R = true) (h' : stMay N' R' = true) : stLess N R N' R' = decide ((8 * N + R).toNat < (8 * N' + R').toNat) := by
  have h1 := stMay_le h; have h2 := stMay_le h'
  rw [Bool.eq_iff_iff]; simp only [stLess, decide_eq_true_eq]; omega
end Go.Proofs.Ytbcgjagpdnbaiaa
