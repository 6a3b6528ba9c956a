/- Arguments that are rows of books, or of texts, opened. -/
import Derived.Test.YtolbmemogoojhaaGreatVOpenB
import Derived.Test.YtolbmemogoojhaaGreatVN8
namespace Go.Proofs.YtolbmemogoojhaaGreat
set_option maxRecDepth 100000
open Go Go.RowKit Go.ChangeShapes Go.WideShapes Go.ChangeAt
set_option linter.unusedVariables false
set_option linter.unusedSimpArgs false
section
variable {H : Type} {enc : TypeId × Value → H} {w : World} {base base' : Nat} {spare : Nat → Bool} {held : Bool}
theorem cells_strA : Tryz.prog.cellsOf 9 = 1 := by kernel_rfl
theorem rd_books : ∀ (n : Nat) (es : List Value), es.length = n → (∀ i, i < n → Rd enc Tryz.prog w base spare held 24 ((es.drop (i * 1)).take 1)) → ∃ l : List (BK × Value), l.length = n ∧ es = l.map (·.2) ∧ ∀ p ∈ l, Recs w p.2 p.1
  | 0, es, hl, _ => ⟨[], rfl, List.eq_nil_of_length_eq_zero hl, fun _ h => (List.not_mem_nil h).elim⟩
  | n + 1, [], hl, h => by simp at hl
  | n + 1, x :: es, hl, h => by
    have h0 := h 0 (by omega)
    simp only [Nat.zero_mul, List.drop_zero, List.take_succ_cons, List.take_zero] at h0
    obtain ⟨v, L, he, hr⟩ := rd_book h0
    simp only [List.cons.injEq, and_true] at he
    subst he
    obtain ⟨l, h1, h2, h3⟩ := rd_books n es (by simpa using hl) fun i hi => by
      have := h (i + 1) (by omega)
      simpa using this
    refine ⟨(L, x) :: l, by simp [h1], by simp [h2], fun p hp => ?_⟩
    rcases List.mem_cons.1 hp with rfl | hp
    · exact hr
    · exact h3 p hp
theorem open_books {r : Reach} {v : Value} {d : DataW H} {p : List MemPlace} (h : DataW.Trod enc Tryz.prog w base spare held 46 v d p) (hv : Value.okWide Tryz.prog w r base' 46 v) : ∃ LL : List BK, Bks w v LL := by
  obtain ⟨a, len, cap, rfl⟩ := okWide_slice Tryz.underlying46 hv
  obtain ⟨v', n, es, h1, h2, h3⟩ := (Rd.of_Trod h).row (s := 1) Tryz.underlying46 cells_book (by omega)
  simp [Value.cells] at h1
  subst h1
  obtain ⟨l, hl, rfl, hr⟩ := rd_books n es (by have := h2.1; omega) h3
  subst hl
  exact ⟨l.map (·.1), l, rfl, h2, hr⟩
theorem rd_strs : ∀ (n : Nat) (es : List Value), es.length = n → (∀ i, i < n → Rd enc Tryz.prog w base spare held 9 ((es.drop (i * 1)).take 1)) → ∃ l : List ByteArray, l.length = n ∧ es = strL l
  | 0, es, hl, _ => ⟨[], rfl, List.eq_nil_of_length_eq_zero hl⟩
  | n + 1, [], hl, h => by simp at hl
  | n + 1, x :: es, hl, h => by
    have h0 := h 0 (by omega)
    simp only [Nat.zero_mul, List.drop_zero, List.take_succ_cons, List.take_zero] at h0
    obtain ⟨s, he, _⟩ := h0.str Tryz.underlying9
    simp only [List.cons.injEq, and_true] at he
    subst he
    obtain ⟨l, h1, h2⟩ := rd_strs n es (by simpa using hl) fun i hi => by
      have := h (i + 1) (by omega)
      simpa using this
    exact ⟨s :: l, by simp [h1], by simp [strL, h2]⟩
theorem open_strs {r : Reach} {v : Value} {d : DataW H} {p : List MemPlace} (h : DataW.Trod enc Tryz.prog w base spare held 47 v d p) (hv : Value.okWide Tryz.prog w r base' 47 v) : ∃ l : List ByteArray, Row w 1 v l.length (strL l) := by
  obtain ⟨a, len, cap, rfl⟩ := okWide_slice Tryz.underlying47 hv
  obtain ⟨v', n, es, h1, h2, h3⟩ := (Rd.of_Trod h).row (s := 1) Tryz.underlying47 cells_strA (by omega)
  simp [Value.cells] at h1
  subst h1
  obtain ⟨l, hl, rfl⟩ := rd_strs n es (by have := h2.1; omega) h3
  subst hl
  exact ⟨l, h2⟩
end
end Go.Proofs.YtolbmemogoojhaaGreat
