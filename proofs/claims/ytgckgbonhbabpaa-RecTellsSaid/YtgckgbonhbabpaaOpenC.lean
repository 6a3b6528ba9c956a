/- An argument that reads as data, opened: cells, texts. -/
import Derived.Test.YtgckgbonhbabpaaOpen
namespace Go.Proofs.Ytgckgbonhbabpaa
set_option maxRecDepth 100000
open Go Go.RowKit Go.ChangeShapes Go.WideShapes Go.ChangeAt
set_option linter.unusedVariables false
set_option linter.unusedSimpArgs false
section
variable {H : Type} {enc : TypeId × Value → H} {w : World} {base base' : Nat} {spare : Nat → Bool} {held : Bool}
theorem cells_stamp : Try.prog.cellsOf 23 = 2 := by kernel_rfl
theorem cells_string : Try.prog.cellsOf 9 = 1 := by kernel_rfl
theorem rd_cell {cs : List Value} (h : Rd enc Try.prog w base spare held 25 cs) : ∃ N R s, cs = [.int .i64 N, .int .i64 R, .string s] ∧ I64 N ∧ I64 R ∧ s.size ≤ maxLen := by
  obtain ⟨hl, hf⟩ := h.struct Try.underlying25
  have hl2 : cs.length = 3 := hl.trans (by kernel_rfl)
  match cs, hl2 with
  | [c0, c1, c2], _ =>
    simp only [List.mem_cons, List.not_mem_nil, or_false, forall_eq_or_imp, forall_eq] at hf
    rw [cells_stamp, cells_string] at hf
    obtain ⟨N, R, h1, w1, w2⟩ := rd_stamp hf.1
    obtain ⟨s, h2, w3⟩ := hf.2.str Try.underlying9
    simp at h1 h2
    exact ⟨N, R, s, by rw [h1.1, h1.2, h2], w1, w2, w3⟩
theorem open_cell {r : Reach} {v : Value} {d : DataW H} {p : List MemPlace} (h : DataW.Trod enc Try.prog w base spare held 25 v d p) (hv : Value.okWide Try.prog w r base' 25 v) :
    ∃ N R s, v = .agg #[.int .i64 N, .int .i64 R, .string s] ∧ I64 N ∧ I64 R ∧ s.size ≤ maxLen := by
  obtain ⟨cs, rfl, _⟩ := okWide_struct Try.underlying25 hv
  obtain ⟨N, R, s, h1, h2, h3, h4⟩ := rd_cell (Rd.of_Trod h)
  exact ⟨N, R, s, by simp only [Value.cells] at h1; rw [show cs = #[.int .i64 N, .int .i64 R, .string s] from Array.ext' h1], h2, h3, h4⟩
theorem open_str {r : Reach} {v : Value} {d : DataW H} {p : List MemPlace} (h : DataW.Trod enc Try.prog w base spare held 9 v d p) (hv : Value.okWide Try.prog w r base' 9 v) : ∃ s : ByteArray, v = .string s ∧ s.size ≤ maxLen := by
  obtain ⟨n, h⟩ := h
  obtain ⟨s, h1, _, h2⟩ := DataW.trod_string Try.underlying9 h
  obtain ⟨s', rfl⟩ := okWide_string Try.underlying9 hv
  simp [Value.cells] at h1
  subst h1
  exact ⟨_, rfl, h2⟩
end
end Go.Proofs.Ytgckgbonhbabpaa
