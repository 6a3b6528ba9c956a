/- An argument that is a record, or a field, opened. -/
import Derived.Test.YtgckgbonhbabpaaRecI
import Derived.Test.YtgckgbonhbabpaaOpenC
namespace Go.Proofs.Ytgckgbonhbabpaa
set_option maxRecDepth 100000
open Go Go.RowKit Go.ChangeShapes Go.WideShapes Go.ChangeAt
set_option linter.unusedVariables false
set_option linter.unusedSimpArgs false
section
variable {H : Type} {enc : TypeId × Value → H} {w : World} {base base' : Nat} {spare : Nat → Bool} {held : Bool}
theorem cells_cell : Try.prog.cellsOf 25 = 3 := by kernel_rfl
theorem cells_field : Try.prog.cellsOf 65 = 4 := by kernel_rfl
theorem cells_u8 : Try.prog.cellsOf 5 = 1 := by kernel_rfl
theorem cells_id : Try.prog.cellsOf 51 = 16 := by kernel_rfl
theorem cells_fs : Try.prog.cellsOf 52 = 1 := by kernel_rfl
theorem cells_rec : Try.prog.cellsOf 54 = 19 := by kernel_rfl
theorem rd_field {cs : List Value} (h : Rd enc Try.prog w base spare held 65 cs) : ∃ f : F4, cs = [.int .i64 f.1, .int .i64 f.2.1, .int .i64 f.2.2.1, .string f.2.2.2] := by
  obtain ⟨hl, hf⟩ := h.struct Try.underlying65
  have hl2 : cs.length = 4 := hl.trans cells_field
  match cs, hl2 with
  | [c0, c1, c2, c3], _ =>
    simp only [List.mem_cons, List.not_mem_nil, or_false, forall_eq_or_imp, forall_eq] at hf
    rw [cells_int, cells_cell] at hf
    obtain ⟨i, h1, w1⟩ := hf.1.int Try.underlying3
    obtain ⟨N, R, s, h2, _⟩ := rd_cell hf.2
    simp at h1 h2
    exact ⟨(i, N, R, s), by rw [h1, h2.1, h2.2.1, h2.2.2]⟩
theorem rd_fields : ∀ (n : Nat) (es : List Value), es.length = n * 4 → (∀ i, i < n → Rd enc Try.prog w base spare held 65 ((es.drop (i * 4)).take 4)) → ∃ l : List F4, l.length = n ∧ es = fieldsL l
  | 0, es, hl, _ => ⟨[], rfl, (List.eq_nil_of_length_eq_zero (by omega)).trans rfl⟩
  | n + 1, es, hl, h => by
    match es, hl with
    | a :: b :: c :: d :: es, hl =>
      have h0 := h 0 (by omega)
      simp only [Nat.zero_mul, List.drop_zero, List.take_succ_cons, List.take_zero] at h0
      obtain ⟨f, he⟩ := rd_field h0
      obtain ⟨l, h1, rfl⟩ := rd_fields n es (by simp at hl; omega) fun i hi => by
        have := h (i + 1) (by omega)
        rw [show (i + 1) * 4 = i * 4 + 4 by omega] at this
        simpa using this
      simp at he
      exact ⟨f :: l, by simp [h1], by rw [he.1, he.2.1, he.2.2.1, he.2.2.2]; rfl⟩
    | [], hl => simp at hl
    | [_], hl => simp at hl; omega
    | [_, _], hl => simp at hl; omega
    | [_, _, _], hl => simp at hl; omega
theorem rd_id {cs : List Value} (h : Rd enc Try.prog w base spare held 51 cs) : ∃ bs : List UInt8, bs.length = 16 ∧ cs = encU bs := by
  obtain ⟨hl, hf⟩ := h.array Try.underlying51
  have hl2 : cs.length = 16 := hl.trans cells_id
  rw [cells_u8] at hf
  obtain ⟨bs, rfl⟩ := rd_u8s 16 cs hl2 fun i hi => by have := hf i hi; rwa [Nat.mul_one] at this
  exact ⟨bs, by rw [encU_length] at hl2; exact hl2, rfl⟩
theorem rd_rec {cs : List Value} (h : Rd enc Try.prog w base spare held 54 cs) : ∃ (r : RD) (s : Value), cs = (rA r s).toList ∧ r.ok ∧ Flds w s r.f := by
  obtain ⟨hl, hf⟩ := h.struct Try.underlying54
  have hl2 : cs.length = 19 := hl.trans cells_rec
  simp only [List.mem_cons, List.not_mem_nil, or_false, forall_eq_or_imp, forall_eq] at hf
  rw [cells_id, cells_stamp, cells_fs] at hf
  obtain ⟨h1, h2, h3⟩ := hf
  obtain ⟨bs, hb, e1⟩ := rd_id h1
  obtain ⟨N, R, e2, _⟩ := rd_stamp h2
  obtain ⟨v, n, es, e3, hrow, hel⟩ := h3.row (s := 4) Try.underlying52 cells_field (by omega)
  obtain ⟨l, hln, rfl⟩ := rd_fields n es hrow.1 hel
  subst hln
  refine ⟨⟨bs, N, R, l⟩, v, ?_, hb, hrow⟩
  simp only [List.drop_zero] at e1
  have ec : cs = cs.take 16 ++ ((cs.drop 16).take 2 ++ (cs.drop 18).take 1) := by
    apply List.ext_getElem?
    intro i
    rw [List.getElem?_append, List.getElem?_append]
    simp only [List.length_take, List.length_drop, hl2, List.getElem?_take, List.getElem?_drop]
    by_cases h16 : i < 16
    · rw [if_pos (by omega), if_pos h16]
    · rw [if_neg (by omega)]
      by_cases h18 : i < 18
      · rw [if_pos (by omega), if_pos (by omega)]; congr 1; omega
      · rw [if_neg (by omega)]
        by_cases h19 : i < 19
        · rw [if_pos (by omega)]; congr 1; omega
        · rw [if_neg (by omega), List.getElem?_eq_none (by omega)]
  rw [ec, e1, e2, e3]
  simp [rA, recA]
theorem open_rec {r : Reach} {v : Value} {d : DataW H} {p : List MemPlace} (h : DataW.Trod enc Try.prog w base spare held 54 v d p) (hv : Value.okWide Try.prog w r base' 54 v) :
    ∃ (r : RD) (s : Value), v = .agg (rA r s) ∧ r.ok ∧ Flds w s r.f := by
  obtain ⟨cs, rfl, _⟩ := okWide_struct Try.underlying54 hv
  obtain ⟨r, s, h1, h2, h3⟩ := rd_rec (Rd.of_Trod h)
  exact ⟨r, s, by simp only [Value.cells] at h1; rw [show cs = rA r s from Array.ext' h1], h2, h3⟩
theorem open_field {r : Reach} {v : Value} {d : DataW H} {p : List MemPlace} (h : DataW.Trod enc Try.prog w base spare held 65 v d p) (hv : Value.okWide Try.prog w r base' 65 v) :
    ∃ f : F4, v = .agg #[.int .i64 f.1, .int .i64 f.2.1, .int .i64 f.2.2.1, .string f.2.2.2] := by
  obtain ⟨cs, rfl, _⟩ := okWide_struct Try.underlying65 hv
  obtain ⟨f, h1⟩ := rd_field (Rd.of_Trod h)
  exact ⟨f, by simp only [Value.cells] at h1; rw [show cs = #[.int .i64 f.1, .int .i64 f.2.1, .int .i64 f.2.2.1, .string f.2.2.2] from Array.ext' h1]⟩
end
end Go.Proofs.Ytgckgbonhbabpaa
