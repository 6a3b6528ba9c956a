/- An argument that is a list of cells, opened. -/
import Derived.Test.YtgckgbonhbabpaaCellF
import Derived.Test.YtgckgbonhbabpaaOpenC
namespace Go.Proofs.Ytgckgbonhbabpaa
set_option maxRecDepth 100000
open Go Go.RowKit Go.ChangeShapes Go.WideShapes Go.ChangeAt
set_option linter.unusedVariables false
set_option linter.unusedSimpArgs false
/-- Cells as a row. -/
def cellsL : List C3 → List Value
  | [] => []
  | c :: l => .int .i64 c.1 :: .int .i64 c.2.1 :: .string c.2.2 :: cellsL l
section
variable {H : Type} {enc : TypeId × Value → H} {w : World} {base base' : Nat} {spare : Nat → Bool} {held : Bool}
theorem rd_cells3 : ∀ (n : Nat) (es : List Value), es.length = n * 3 → (∀ i, i < n → Rd enc Try.prog w base spare held 25 ((es.drop (i * 3)).take 3)) → ∃ l : List C3, l.length = n ∧ es = cellsL l
  | 0, es, hl, _ => ⟨[], rfl, (List.eq_nil_of_length_eq_zero (by omega)).trans rfl⟩
  | n + 1, es, hl, h => by
    match es, hl with
    | a :: b :: c :: es, hl =>
      have h0 := h 0 (by omega)
      simp only [Nat.zero_mul, List.drop_zero, List.take_succ_cons, List.take_zero] at h0
      obtain ⟨N, R, s, he, _⟩ := rd_cell h0
      obtain ⟨l, h1, rfl⟩ := rd_cells3 n es (by simp at hl; omega) fun i hi => by
        have := h (i + 1) (by omega)
        rw [show (i + 1) * 3 = i * 3 + 3 by omega] at this
        simpa using this
      simp at he
      exact ⟨(N, R, s) :: l, by simp [h1], by rw [he.1, he.2.1, he.2.2]; rfl⟩
    | [], hl => simp at hl
    | [_], hl => simp at hl; omega
    | [_, _], hl => simp at hl; omega
theorem open_cells {r : Reach} {v : Value} {d : DataW H} {p : List MemPlace} (h : DataW.Trod enc Try.prog w base spare held 44 v d p) (hv : Value.okWide Try.prog w r base' 44 v) : ∃ l : List C3, Row w 3 v l.length (cellsL l) := by
  obtain ⟨a, len, cap, rfl⟩ := okWide_slice Try.underlying44 hv
  obtain ⟨v', n, es, h1, h2, h3⟩ := (Rd.of_Trod h).row (s := 3) Try.underlying44 (by kernel_rfl) (by omega)
  simp [Value.cells] at h1
  subst h1
  obtain ⟨l, hl, rfl⟩ := rd_cells3 n es h2.1 h3
  subst hl
  exact ⟨l, h2⟩
end
end Go.Proofs.Ytgckgbonhbabpaa
