/- An argument that is a book, opened. -/
import Derived.Test.YtolbmemogoojhaaGreatKN1
import Derived.Test.YtolbmemogoojhaaGreatKM9
namespace Go.Proofs.YtolbmemogoojhaaGreat
set_option maxRecDepth 100000
open Go Go.RowKit Go.ChangeShapes Go.WideShapes Go.ChangeAt
set_option linter.unusedVariables false
set_option linter.unusedSimpArgs false
section
variable {H : Type} {enc : TypeId × Value → H} {w : World} {base base' : Nat} {spare : Nat → Bool} {held : Bool}
theorem cells_rs : Tryz.prog.cellsOf 22 = 1 := by kernel_rfl
theorem cells_book : Tryz.prog.cellsOf 24 = 1 := by kernel_rfl
theorem rd_recs : ∀ (n : Nat) (es : List Value), es.length = n * 19 → (∀ i, i < n → Rd enc Tryz.prog w base spare held 33 ((es.drop (i * 19)).take 19)) → ∃ l : RS, l.length = n ∧ es = recsL l ∧ ∀ p ∈ l, p.1.ok ∧ Flds w p.2 p.1.f
  | 0, es, hl, _ => ⟨[], rfl, (List.eq_nil_of_length_eq_zero (by omega)).trans rfl, fun _ h => (List.not_mem_nil h).elim⟩
  | n + 1, es, hl, h => by
    have h0 := h 0 (by omega)
    simp only [Nat.zero_mul, List.drop_zero] at h0
    obtain ⟨r, s, he, hok, hf⟩ := rd_rec h0
    obtain ⟨l, h1, h2, h3⟩ := rd_recs n (es.drop 19) (by rw [List.length_drop, hl]; omega) fun i hi => by
      have := h (i + 1) (by omega)
      rw [List.drop_drop]
      rw [show (i + 1) * 19 = 19 + i * 19 by omega] at this
      exact this
    refine ⟨(r, s) :: l, by simp [h1], ?_, fun p hp => ?_⟩
    · rw [recsL, ← he, ← h2, List.take_append_drop]
    · rcases List.mem_cons.1 hp with rfl | hp
      · exact ⟨hok, hf⟩
      · exact h3 p hp
theorem rd_book {cs : List Value} (h : Rd enc Tryz.prog w base spare held 24 cs) : ∃ (v : Value) (L : BK), cs = [v] ∧ Recs w v L := by
  obtain ⟨hl, hf⟩ := h.struct Tryz.underlying24
  have hl2 : cs.length = 1 := hl.trans cells_book
  simp only [List.mem_cons, List.not_mem_nil, or_false, forall_eq_or_imp, forall_eq] at hf
  rw [cells_rs] at hf
  obtain ⟨v, n, es, e3, hrow, hel⟩ := hf.row (s := 19) Tryz.underlying22 cells_rec (by omega)
  obtain ⟨l, hln, rfl, hlf⟩ := rd_recs n es hrow.1 hel
  subst hln
  refine ⟨v, l.map (·.1), ?_, l, rfl, hrow, hlf⟩
  match cs, hl2, e3 with
  | [c], _, e3 => simpa using e3
theorem open_book {r : Reach} {v : Value} {d : DataW H} {p : List MemPlace} (h : DataW.Trod enc Tryz.prog w base spare held 24 v d p) (hv : Value.okWide Tryz.prog w r base' 24 v) :
    ∃ (z : Value) (L : BK), v = .agg #[z] ∧ Recs w z L := by
  obtain ⟨cs, rfl, _⟩ := okWide_struct Tryz.underlying24 hv
  obtain ⟨z, L, h1, h2⟩ := rd_book (Rd.of_Trod h)
  exact ⟨z, L, by simp only [Value.cells] at h1; rw [show cs = #[z] from Array.ext' h1], h2⟩
end
end Go.Proofs.YtolbmemogoojhaaGreat
