/- Records: their cells; whether one may be. -/
import Derived.Test.YtgckgbonhbabpaaCellF
namespace Go.Proofs.Ytgckgbonhbabpaa
open Go Go.RowKit Go.Deep
set_option linter.unusedVariables false
set_option linter.unusedSimpArgs false
set_option maxRecDepth 100000

theorem szl {a b : Nat} (h : a < b) : (a < b) = True ∧ (a < b + 1) = True ∧ (a < b + 1 + 1) = True ∧ (a < b + 1 + 1 + 1) = True ∧ (a < b + 1 + 1 + 1 + 1) = True := by simp only [eq_iff_iff, iff_true]; omega
/-- A part of a block reads so. -/
def Sub (w : World) (b off : Nat) (cs : Array Value) : Prop := ∀ (j : Nat) (u : Value), cs[j]? = some u → w.cell? ⟨b, off + j, none⟩ = some u
theorem Sub.keep {w w' : World} {b off : Nat} {cs : Array Value} (h : Sub w b off cs) (hb : Below w.heap.size w w') : Sub w' b off cs := fun j u hj => cell_below hb _ _ _ (h j u hj)
theorem Sub.after {w : World} {b off : Nat} {cs : Array Value} (h : Sub w b off cs) (x : After w) : Sub x.w b off cs := h.keep x.h
theorem Sub.alloc {w : World} {b off : Nat} {cs : Array Value} (h : Sub w b off cs) (o : Obj) : Sub (w.alloc o) b off cs := h.keep (bel_alloc (Below.refl _ _) o)
theorem Sub.drew {w : World} {b off : Nat} {cs : Array Value} (h : Sub w b off cs) : Sub w.drew b off cs := h
theorem Blk.sub {w : World} {b : Nat} {t : TypeId} {cs : Array Value} (h : Blk w b t cs) (off n : Nat) : Sub w b off (cs.extract off (off + n)) := fun j u hj => by
  rw [h.cell]
  rw [Array.getElem?_extract] at hj
  split at hj
  · exact hj
  · cases hj
theorem Blk.sub0 {w : World} {b : Nat} {t : TypeId} {A B : Array Value} (h : Blk w b t (A ++ B)) : Sub w b 0 A := fun j u hj => by
  rw [h.cell, Nat.zero_add, Array.getElem?_append]
  have := (Array.getElem?_eq_some_iff.1 hj).1
  rw [if_pos this]; exact hj
section
variable {P : Program} {ops : Array Oper} {rest : List Oper} {o : Oper} {a : Act} {w : World} {Q : Exit → Act → World → Prop}
theorem run_load_sub (w : World) (b off : Nat) (ty : TypeId) (cs : Array Value) (d : TypeDesc) (h : Sub w b off cs) (hu : P.underlying ty = some d) (hd : (match d with | .struct _ | .array _ _ => true | _ => false) = true) (hi : (P.info? ty).map (·.size) = some cs.size) :
    (loadVar ty ⟨b, off, none⟩).run P w = .ok (.agg cs) w := by
  have hl : (loadCells ⟨b, off, none⟩ cs.toList.length).run P w = .ok cs.toList.toArray w :=
    run_loadCells_list (P := P) w ⟨b, off, none⟩ cs.toList (fun j v hv => by rw [Addr.add_lit]; exact h j v (by simpa using hv))
  cases hq : P.info? ty with
  | none => simp [hq] at hi
  | some i =>
    have hs : i.size = cs.size := by simpa [hq] using hi
    have hagg : (isAgg ty).run P w = .ok true w := by
      unfold isAgg
      rw [Sem.run_bind, run_underlying hu w]
      cases d <;> simp_all
    simp only [Array.length_toList, Array.toArray_toList] at hl
    simp [loadVar, Sem.run_bind, hagg, sizeOf, typeInfo, hq, hs, hl]
theorem wpList_load_sub (hw : Region.wanted o (yielded ops a.tmps) = true) (ty : TypeId) (x : Operand) (ho : o.op = .load ty x) (dst : Option Tmp) (hdst : o.dst = dst)
    (b off : Nat) (hx : a.eval x = .pointer (some ⟨b, off, none⟩)) (cs : Array Value) (d : TypeDesc) (hg : Sub w b off cs)
    (hu : P.underlying ty = some d) (hd : (match d with | .struct _ | .array _ _ => true | _ => false) = true) (hi : (P.info? ty).map (·.size) = some cs.size)
    (h : wpList P ops Q rest (a.put dst (.agg cs)) w) : wpList P ops Q (o :: rest) a w := by
  subst hdst
  refine BigFrame.wpList_want hw fun K hK => ?_
  unfold Oper.wp execOp
  simp only [ho, hx, Instr.loadAt, Instr.sureAddr, Sem.run_bind, Sem.run_pure, Result.andThen_ok, run_load_sub w b off ty cs d hg hu hd hi]
  exact hK _ _ h
theorem quiet_load_sub {C : World → Prop} {K : Act → Prop} (ty : TypeId) (x : Operand) (ho : o.op = .load ty x) (dst : Option Tmp) (hdst : o.dst = dst)
    (b off : Nat) (hx : a.eval x = .pointer (some ⟨b, off, none⟩)) (cs : Array Value) (d : TypeDesc) (hg : ∀ w, C w → Sub w b off cs)
    (hu : P.underlying ty = some d) (hd : (match d with | .struct _ | .array _ _ => true | _ => false) = true) (hi : (P.info? ty).map (·.size) = some cs.size)
    (h : K (a.put dst (.agg cs))) : o.quiet P a C K := by
  subst hdst
  refine ⟨.agg cs, fun w hw => ?_, h⟩
  unfold Oper.quietAt execOp
  simp only [ho, hx, Instr.loadAt, Instr.sureAddr, Sem.run_bind, Sem.run_pure, Result.andThen_ok, run_load_sub w b off ty cs d (hg w hw) hu hd hi]
  exact ⟨rfl, rfl⟩
end

/-- A field: its number, and its cell. -/
abbrev F4 := Int × C3
/-- Fields as a row. -/
def fieldsL : List F4 → List Value
  | [] => []
  | f :: l => .int .i64 f.1 :: .int .i64 f.2.1 :: .int .i64 f.2.2.1 :: .string f.2.2.2 :: fieldsL l
theorem fieldsL_append (a b : List F4) : fieldsL (a ++ b) = fieldsL a ++ fieldsL b := by
  induction a with
  | nil => rfl
  | cons f a ih => simp [fieldsL, ih]
theorem fieldsL_length : ∀ l : List F4, (fieldsL l).length = l.length * 4
  | [] => rfl
  | f :: l => by simp [fieldsL, fieldsL_length l]; omega
theorem fieldsL_get : ∀ (l : List F4) (j : Nat) (f : F4), l[j]? = some f → (fieldsL l)[4 * j]? = some (.int .i64 f.1) ∧ (fieldsL l)[4 * j + 1]? = some (.int .i64 f.2.1) ∧ (fieldsL l)[4 * j + 2]? = some (.int .i64 f.2.2.1) ∧ (fieldsL l)[4 * j + 3]? = some (.string f.2.2.2)
  | c :: l, 0, d, h => by simp at h; subst h; simp [fieldsL]
  | c :: l, j + 1, d, h => by
    have := fieldsL_get l j d (by simpa using h)
    simpa [fieldsL, Nat.mul_add] using this
theorem fieldsL_one : ∀ l : List F4, ∀ u ∈ fieldsL l, u.oneCell' = true
  | [], u, h => by cases h
  | f :: l, u, h => by
    simp only [fieldsL, List.mem_cons] at h
    rcases h with rfl | rfl | rfl | rfl | h
    · rfl
    · rfl
    · rfl
    · rfl
    · exact fieldsL_one l u h
/-- Fields that a slice reads. -/
def Flds (w : World) (v : Value) (l : List F4) : Prop := Row w 4 v l.length (fieldsL l)
theorem Flds.below {w w' : World} {v : Value} {l : List F4} (h : Flds w v l) (hb : Below w.heap.size w w') : Flds w' v l := Row.below h hb
theorem Flds.after {w : World} {v : Value} {l : List F4} (h : Flds w v l) (x : After w) : Flds x.w v l := Row.after h x
theorem Flds.alloc {w : World} {v : Value} {l : List F4} (h : Flds w v l) (o : Obj) : Flds (w.alloc o) v l := Row.alloc h o
theorem Flds.nil (w : World) : Flds w (.slice none 0 0) [] := Row.nil w 4
/-- A field that a slice reads: where it lies. -/
theorem Flds.at {w : World} {a : Option Addr} {n c : Nat} {l : List F4} (h : Flds w (.slice a n c) l) {j : Nat} {f : F4} (hj : l[j]? = some f) :
    ∃ b off, a = some ⟨b, off, none⟩ ∧ b < w.heap.size ∧ w.cell? ⟨b, off + j * 4, none⟩ = some (.int .i64 f.1) ∧ w.cell? ⟨b, off + j * 4 + 1, none⟩ = some (.int .i64 f.2.1) ∧ w.cell? ⟨b, off + j * 4 + 2, none⟩ = some (.int .i64 f.2.2.1) ∧ w.cell? ⟨b, off + j * 4 + 3, none⟩ = some (.string f.2.2.2) := by
  obtain ⟨hl, a', c', he, h1, h2, h3, h4⟩ := h
  injection he with e1 e2 e3
  subst e1; subst e3
  obtain ⟨g0, g1, g2, g3⟩ := fieldsL_get l j f hj
  obtain ⟨b, off, rfl, hc⟩ := h4 (by have := (List.getElem?_eq_some_iff.1 g0).1; omega)
  have k0 := hc _ _ g0
  have k1 := hc _ _ g1
  have k2 := hc _ _ g2
  have k3 := hc _ _ g3
  have e : off + 4 * j = off + j * 4 := by omega
  rw [← Nat.add_assoc, e] at k1 k2 k3
  rw [e] at k0
  exact ⟨b, off, rfl, World.block_lt_of_cell? w _ k0, k0, k1, k2, k3⟩

/-- A record's cells: its name's, since when it is dead, its fields. -/
def recA (A : Array Value) (N R : Int) (v : Value) : Array Value := A ++ #[.int .i64 N, .int .i64 R, v]
theorem recA_size {A : Array Value} {N R : Int} {v : Value} (h : A.size = 16) : (recA A N R v).size = 19 := by simp [recA, h]
theorem rec_cells {w : World} {b : Nat} {t : TypeId} {A : Array Value} {N R : Int} {v : Value} (h : Blk w b t (recA A N R v)) (hA : A.size = 16) :
    w.cell? ⟨b, 16, none⟩ = some (.int .i64 N) ∧ w.cell? ⟨b, 17, none⟩ = some (.int .i64 R) ∧ w.cell? ⟨b, 18, none⟩ = some v ∧ Sub w b 0 A ∧ Sub w b 0 (recA A N R v) := by
  refine ⟨?_, ?_, ?_, Blk.sub0 h, fun j u hj => ?_⟩
  · rw [h.cell]; simp [recA, hA]
  · rw [h.cell]; simp [recA, hA]
  · rw [h.cell]; simp [recA, hA]
  · rw [h.cell, Nat.zero_add]; exact hj

/-! Whether one may be. -/
def fMay (N R : Int) (last : Int) : List F4 → Bool
  | [] => true
  | f :: l => decide (last < f.1) && decide (f.1 < 8) && cMay f.2.1 f.2.2.1 f.2.2.2 && stLess N R f.2.1 f.2.2.1 && fMay N R f.1 l
def recMay (N R : Int) (l : List F4) : Bool := stMay N R && !(l.isEmpty && stEq N R 0 0) && fMay N R (-1) l
def lastAt (l : List F4) : Nat → Int
  | 0 => -1
  | i + 1 => (l.getD i (0, 0, 0, ⟨#[]⟩)).1
theorem fMay_step {N R : Int} {l : List F4} {j : Nat} {f : F4} (hj : l[j]? = some f) :
    fMay N R (lastAt l j) (l.drop j) = (decide (lastAt l j < f.1) && decide (f.1 < 8) && cMay f.2.1 f.2.2.1 f.2.2.2 && stLess N R f.2.1 f.2.2.1 && fMay N R (lastAt l (j + 1)) (l.drop (j + 1))) := by
  have h1 := List.getElem?_eq_some_iff.1 hj
  rw [List.drop_eq_getElem_cons h1.1, h1.2]
  have : lastAt l (j + 1) = f.1 := by simp [lastAt, List.getD_eq_getElem?_getD, hj]
  rw [this]; rfl
theorem fMay_end {N R : Int} {l : List F4} {j : Nat} (hj : l.length ≤ j) (k : Int) : fMay N R k (l.drop j) = true := by
  rw [List.drop_of_length_le hj]; rfl
theorem info_rec {A : Array Value} {N R : Int} {v : Value} (h : A.size = 16) : (Try.prog.info? 54).map (·.size) = some (recA A N R v).size := by
  rw [recA_size h]; kernel_rfl
theorem info_id {A : Array Value} (h : A.size = 16) : (Try.prog.info? 51).map (·.size) = some A.size := by
  rw [h]; kernel_rfl
end Go.Proofs.Ytgckgbonhbabpaa
