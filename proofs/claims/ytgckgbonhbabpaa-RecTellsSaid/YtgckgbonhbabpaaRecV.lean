/- What the document's join of two records gathers, number by number: the same fields. -/
import Derived.Test.YtgckgbonhbabpaaRecU
namespace Go.Proofs.Ytgckgbonhbabpaa
open Go Go.RowKit Go.Deep
set_option linter.unusedVariables false
set_option linter.unusedSimpArgs false
set_option maxRecDepth 100000
theorem cn_snoc (g : Int → Option C3) (j : Nat) : cn g 0 (j + 1) = cn g 0 j ++ ((g (j : Int)).map fun c => ((j : Int), c)).toList := by
  unfold cn
  rw [List.range'_1_concat, List.filterMap_append, Nat.zero_add]
  cases h : g (j : Int) <;> simp [h]
/-- The field of a number in what is joined. -/
def jG (r r' : RD) (k : Int) : Option C3 := live (mxN r.N r.R r'.N r'.R) (mxR r.N r.R r'.N r'.R) (comb (fFind r.f k) (fFind r'.f k))
theorem both_jG {r r' : RD} (h : rMay r = true) (h' : rMay r' = true) : (rBoth r r').f = cn (jG r r') 0 8 := by
  have e := asc_cn 8 0 (rBoth r r').f (both_asc r r')
  rw [e]
  exact cn_congr 8 0 fun k _ => both_find h h' k
theorem jG_none {r r' : RD} {j : Nat} (h : fFind r.f j = none) (h' : fFind r'.f j = none) : cn (jG r r') 0 (j + 1) = cn (jG r r') 0 j := by
  rw [cn_snoc, jG, h, h']; simp [comb, live]
/-- The cell of a number, ahead of the question whether it is dead. -/
theorem jG_some {r r' : RD} {j : Nat} {c : C3} {l : Bool} (h : comb (fFind r.f j) (fFind r'.f j) = some c) (hl : stLess (mxN r.N r.R r'.N r'.R) (mxR r.N r.R r'.N r'.R) c.1 c.2.1 = l) :
    cn (jG r r') 0 (j + 1) = cn (jG r r') 0 j ++ (bif l then [((j : Int), c)] else []) := by
  rw [cn_snoc, jG, h]
  cases l
  · rw [live_dead hl]; rfl
  · rw [live_some hl]; rfl
theorem cn_len (g : Int → Option C3) (j : Nat) : (cn g 0 j).length ≤ j := by
  unfold cn
  exact Nat.le_trans (List.length_filterMap_le _ _) (by simp)
theorem rcjoin_cv {a b c : C3} (h : cJ a b = c) (ha : a.2.2.size ≤ 80000) (hb : b.2.2.size ≤ 80000) (w : World) : Calls Try.prog 28 #[.agg #[.int .i64 a.1, .int .i64 a.2.1, .string a.2.2], .agg #[.int .i64 b.1, .int .i64 b.2.1, .string b.2.2]] w fun e w' => e = .returned (.agg #[.int .i64 c.1, .int .i64 c.2.1, .string c.2.2]) ∧ Below w.heap.size w w' := by
  subst h
  exact (rcjoin_c a.1 a.2.1 b.1 b.2.1 a.2.2 b.2.2 ha hb w).mono fun e w' ⟨he, hb⟩ => ⟨by rw [he]; unfold cJ cL cellA; cases cLess a.1 a.2.1 a.2.2 b.1 b.2.1 b.2.2 <;> rfl, hb⟩
theorem rsmax_v {N R N' R' X Y : Int} (hX : mxN N R N' R' = X) (hY : mxR N R N' R' = Y) (w : World) : Calls Try.prog 73 #[.agg #[.int .i64 N, .int .i64 R], .agg #[.int .i64 N', .int .i64 R']] w fun e w' => e = .returned (.agg #[.int .i64 X, .int .i64 Y]) ∧ Below w.heap.size w w' := by
  subst hX hY
  exact (rmax_c N R N' R' w).mono fun e w' ⟨he, hb⟩ => ⟨by rw [he]; unfold mxN mxR; cases stLess N R N' R' <;> rfl, hb⟩
theorem rffind_v {r : RD} {s : Value} {no fN fR : Int} {fS : ByteArray} {d : Bool} (hr : r.ok) (h : fFindP r.f no = (fN, fR, fS, d)) (w : World) (hv : Flds w s r.f) : Calls Try.prog 36 #[.agg (rA r s), .int .i64 no] w fun e w' => e = .returned (.tuple #[.agg #[.int .i64 fN, .int .i64 fR, .string fS], .bool d]) ∧ Below w.heap.size w w' :=
  (rffind_c r s no hr w hv).mono fun e w' ⟨he, hb⟩ => ⟨by rw [he, h]; rfl, hb⟩
end Go.Proofs.Ytgckgbonhbabpaa
