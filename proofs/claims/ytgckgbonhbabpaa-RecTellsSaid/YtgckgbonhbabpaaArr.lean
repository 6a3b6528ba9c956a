/- Arrays in blocks of their own: made, built, stored and read as a whole, with the array a letter. No program. -/
import Derived.Test.YtgckgbonhbabpaaRow
import Derived.Laws.Rows
import Derived.Laws.Tables
import Derived.Laws.CopyRow
namespace Go.Proofs.Ytgckgbonhbabpaa
open Go Go.RowKit Go.Deep
set_option linter.unusedVariables false
set_option linter.unusedSimpArgs false

/-- Turned at no old block but b. -/
structure But (b : Nat) (w w' : World) : Prop where
  os : w'.os = w.os
  tape : w'.tape = w.tape
  output : w'.output = w.output
  size : w.heap.size ≤ w'.heap.size
  block : ∀ k, k < w.heap.size → k ≠ b → w'.heap[k]? = w.heap[k]?
theorem But.refl (b : Nat) (w : World) : But b w w := ⟨rfl, rfl, rfl, Nat.le_refl _, fun _ _ _ => rfl⟩
theorem But.trans {b : Nat} {u v w : World} (h : But b u v) (k : But b v w) : But b u w :=
  ⟨k.os.trans h.os, k.tape.trans h.tape, k.output.trans h.output, Nat.le_trans h.size k.size, fun i hi hb => (k.block i (Nat.lt_of_lt_of_le hi h.size) hb).trans (h.block i hi hb)⟩
theorem But.of_below {b : Nat} {w w' : World} (h : Below w.heap.size w w') : But b w w' := ⟨h.os, h.tape, h.output, h.size, fun k hk _ => h.block k hk⟩
theorem But.below {b B : Nat} {w w' : World} (h : But b w w') (h1 : B ≤ b) (h2 : B ≤ w.heap.size) : Below B w w' := ⟨h.os, h.tape, h.output, h.size, fun k hk => h.block k (by omega) (by omega)⟩
theorem But.drew {b : Nat} {w w' : World} (h : But b w w') : But b w w'.drew := ⟨h.os, h.tape, h.output, h.size, h.block⟩
theorem But.set {b : Nat} {w w' : World} (h : But b w w') (o : Nat) (u : Value) : But b w (w'.setCell ⟨b, o, none⟩ u) :=
  ⟨h.os, h.tape, h.output, by simpa using h.size, fun k hk hb => (Below.heap_setCell _ _ _ _ (by simpa using hb)).trans (h.block k hk hb)⟩
theorem But.set' {b : Nat} {w w' : World} (h : But b w w') {p : Addr} (hp : w.heap.size ≤ p.block) (u : Value) : But b w (w'.setCell p u) :=
  ⟨h.os, h.tape, h.output, by simpa using h.size, fun k hk hb => (Below.heap_setCell _ _ _ _ (by omega)).trans (h.block k hk hb)⟩
theorem But.alloc {b : Nat} {w w' : World} (h : But b w w') (o : Obj) : But b w (w'.alloc o) := h.trans (But.of_below (bel_alloc (Below.refl _ _) o))
theorem But.after {b : Nat} {w w' : World} (h : But b w w') (x : After w') : But b w x.w := h.trans (But.of_below x.h)
theorem But.cell {b : Nat} {w w' : World} (h : But b w w') {p : Addr} (h1 : p.block < w.heap.size) (h2 : p.block ≠ b) : w'.cell? p = w.cell? p := World.cell?_of_block (w := w) (h.block p.block h1 h2)
theorem But.setRow {b : Nat} {w w' : World} (h : But b w w') (cs : Array Value) : But b w (w'.setRow b cs) :=
  ⟨h.os, h.tape, h.output, by simpa using h.size, fun k hk hb => (setRow_other _ _ _ _ hb).trans (h.block k hk hb)⟩

/-- Block b holds just these cells. -/
def Blk (w : World) (b : Nat) (t : TypeId) (cs : Array Value) : Prop := w.heap[b]? = some (.cells cs t (0, 0))
theorem Blk.lt {w : World} {b : Nat} {t : TypeId} {cs : Array Value} (h : Blk w b t cs) : b < w.heap.size := (Array.getElem?_eq_some_iff.1 h).1
theorem Blk.cell {w : World} {b : Nat} {t : TypeId} {cs : Array Value} (h : Blk w b t cs) (i : Nat) : w.cell? ⟨b, i, none⟩ = cs[i]? := cell_of_row w b i cs t _ h
theorem Blk.frozen {w : World} {b : Nat} {t : TypeId} {cs : Array Value} (h : Blk w b t cs) (i : Nat) : w.frozen? ⟨b, i, none⟩ = false := frozen_of_row w b i cs t h
theorem Blk.set {w : World} {b : Nat} {t : TypeId} {cs : Array Value} (h : Blk w b t cs) (i : Nat) (u : Value) : Blk (w.setCell ⟨b, i, none⟩ u) b t (cs.setIfInBounds i u) := heap_setCell_same w b i cs t u h
theorem Blk.setOther {w : World} {b : Nat} {t : TypeId} {cs : Array Value} (h : Blk w b t cs) {p : Addr} (hp : b ≠ p.block) (u : Value) : Blk (w.setCell p u) b t cs := (heap_setCell_other w p b u hp).trans h
theorem Blk.setRow {w : World} {b : Nat} {t : TypeId} {cs : Array Value} (h : Blk w b t cs) (cs' : Array Value) : Blk (w.setRow b cs') b t cs' := setRow_heap w b cs cs' t _ h
theorem Blk.below {w w' : World} {b B : Nat} {t : TypeId} {cs : Array Value} (h : Blk w b t cs) (hb : Below B w w') (hB : b < B) : Blk w' b t cs := (hb.block b hB).trans h
theorem Blk.after {w : World} {b : Nat} {t : TypeId} {cs : Array Value} (h : Blk w b t cs) (x : After w) : Blk x.w b t cs := h.below x.h h.lt
theorem Blk.drew {w : World} {b : Nat} {t : TypeId} {cs : Array Value} (h : Blk w b t cs) : Blk w.drew b t cs := h
theorem Blk.alloc {w : World} {b : Nat} {t : TypeId} {cs : Array Value} (h : Blk w b t cs) (o : Obj) : Blk (w.alloc o) b t cs := (Below.heap_alloc w o b h.lt).trans h
theorem Blk.but {w w' : World} {b c : Nat} {t : TypeId} {cs : Array Value} (h : Blk w b t cs) (hb : But c w w') (hc : b ≠ c) : Blk w' b t cs := (hb.block b h.lt hc).trans h
theorem Blk.new (w : World) (t : TypeId) (cs : Array Value) : Blk (w.alloc (.cells cs t)) w.heap.size t cs := heap_alloc_new w _

section
variable {P : Program} {ops : Array Oper} {rest : List Oper} {o : Oper} {a : Act} {w : World} {Q : Exit → Act → World → Prop}

theorem run_alloc_blk (ty : TypeId) (z : Value) (hz : (P.info? ty).map (·.zero) = some (some z)) (ρ : Operand → Value) (o : Oper) (ho : o.op = .alloc ty) :
    (execOp ρ o).run P w = .ok (.value (.pointer (some ⟨w.heap.size, 0, none⟩))) (w.alloc (.cells z.cells ty)) := by
  obtain ⟨i, hi, hzz⟩ := Option.map_eq_some_iff.1 hz
  unfold execOp
  simp [ho, Instr.alloc, zeroValue, typeInfo, hi, hzz, newVar, newRow]
/-- A new block, its world a letter. -/
theorem wpList_alloc_blk (hg : o.guard = none) (ty : TypeId) (ho : o.op = .alloc ty) (dst : Option Tmp) (hdst : o.dst = dst) (z : Value) (cs : Array Value) (hz : (P.info? ty).map (·.zero) = some (some z)) (hcs : z.cells = cs)
    (h : ∀ w', Blk w' w.heap.size ty cs → Below w.heap.size w w' → w'.heap.size = w.heap.size + 1 → wpList P ops Q rest (a.put dst (.pointer (some ⟨w.heap.size, 0, none⟩))) w') : wpList P ops Q (o :: rest) a w := by
  subst hcs; subst hdst
  refine wpList_plain hg fun K hK => ?_
  unfold Oper.wp
  rw [run_alloc_blk ty z hz _ _ ho, Oper.upon_value]
  exact hK _ _ (h _ (Blk.new _ _ _) (bel_alloc (Below.refl _ _) _) (by simp))

theorem run_box_blk (ty : TypeId) (x : Operand) (ρ : Operand → Value) (o : Oper) (ho : o.op = .box ty x) (cs : Array Value) (hx : ρ x = .agg cs) :
    (execOp ρ o).run P w = .ok (.value (.pointer (some ⟨w.heap.size, 0, none⟩))) (w.alloc (.cells cs ty)) := by
  unfold execOp
  simp [ho, hx, Instr.box, newVar, newRow, Value.cells]
/-- A struct or an array boxed, its world a letter. -/
theorem wpList_box_blk (hg : o.guard = none) (ty : TypeId) (x : Operand) (ho : o.op = .box ty x) (dst : Option Tmp) (hdst : o.dst = dst) (cs : Array Value) (hx : a.eval x = .agg cs)
    (h : ∀ w', Blk w' w.heap.size ty cs → Below w.heap.size w w' → w'.heap.size = w.heap.size + 1 → wpList P ops Q rest (a.put dst (.pointer (some ⟨w.heap.size, 0, none⟩))) w') : wpList P ops Q (o :: rest) a w := by
  subst hdst
  refine wpList_plain hg fun K hK => ?_
  unfold Oper.wp
  rw [run_box_blk ty x _ _ ho cs hx, Oper.upon_value]
  exact hK _ _ (h _ (Blk.new _ _ _) (bel_alloc (Below.refl _ _) _) (by simp))
/-- What the walk's steps make of a load of a whole block. -/
theorem run_cellsFrom {w : World} {b : Nat} {t : TypeId} {cs : Array Value} (h : Blk w b t cs) (n : Nat) (hn : cs.size = n) : (loadCellsFrom ⟨b, 0, none⟩ 0 n #[]).run P w = .ok cs w := by
  subst hn
  have := run_loadCells_list (P := P) w ⟨b, 0, none⟩ cs.toList (fun j v hv => by
    rw [Addr.add_lit, Nat.zero_add, h.cell]; simpa using hv)
  simpa [loadCells] using this

/-- In a region that draws: a whole block is read. -/
theorem quiet_load_blk {C : World → Prop} {K : Act → Prop} (ty : TypeId) (x : Operand) (ho : o.op = .load ty x) (dst : Option Tmp) (hdst : o.dst = dst)
    (g : Nat) (hx : a.eval x = .pointer (some ⟨g, 0, none⟩)) (t : TypeId) (cs : Array Value) (d : TypeDesc) (hg : ∀ w, C w → Blk w g t cs)
    (hu : P.underlying ty = some d) (hd : (match d with | .struct _ | .array _ _ => true | _ => false) = true) (hi : (P.info? ty).map (·.size) = some cs.size)
    (h : K (a.put dst (.agg cs))) : o.quiet P a C K := by
  subst hdst
  refine ⟨.agg cs, fun w hw => ?_, h⟩
  unfold Oper.quietAt execOp
  simp only [ho, hx, Instr.loadAt, Instr.sureAddr, Sem.run_bind, Sem.run_pure, Result.andThen_ok, run_loadVar_row w g t ty cs _ d (hg w hw) hu hd hi]
  exact ⟨rfl, rfl⟩

theorem wpList_build_to (hg : o.guard = none) (t : TypeId) (parts : Array (Nat × Operand)) (ho : o.op = .build t parts) (dst : Option Tmp) (hdst : o.dst = dst) (cells : Array Value)
    (hf : P.built t (parts.map fun (i, x) => (i, a.eval x)).toList = some cells)
    (h : wpList P ops Q rest (a.put dst (.agg cells)) w) : wpList P ops Q (o :: rest) a w := by
  subst hdst
  refine wpList_build hg t parts ho (by rw [hf]; rfl) ?_
  rw [hf]
  exact h

/-- A whole array into a block, its world a letter. -/
theorem wpList_store_blk (hgd : o.guard = none) (ty : TypeId) (x y : Operand) (ho : o.op = .store ty x y)
    (g : Nat) (cells : Array Value) (hx : a.eval x = .pointer (some ⟨g, 0, none⟩)) (hy : a.eval y = .agg cells)
    (t : TypeId) (old : Array Value) (hg : Blk w g t old) (hi : (P.info? ty).map (·.size) = some cells.size)
    (hold : old.size = cells.size) (h1 : cells.all (·.oneCell') = true)
    (h : ∀ w', Blk w' g t cells → But g w w' → w'.heap.size = w.heap.size → wpList P ops Q rest (a.put o.dst undef) w') : wpList P ops Q (o :: rest) a w :=
  wpList_store_row hgd ty x y ho g cells hx hy t old hg hi hold h1 (h _ (hg.setRow _) ((But.refl _ _).setRow _) (by simp))

/-- copy into a block, from whatever cells. -/
theorem wpList_copy_blk (hgd : o.guard = none) (x y : Operand) (dT sT elem : TypeId) (ho : o.op = .call { callee := .builtin .copy, args := #[x, y], argTypes := #[dT, sT] }) (dst : Option Tmp) (hdst : o.dst = dst)
    (g off dLen dCap : Nat) (ad : Addr) (sLen sCap : Nat) (hx : a.eval x = .slice (some ⟨g, off, none⟩) dLen dCap) (hy : a.eval y = .slice (some ad) sLen sCap)
    (cur : Array Value) (t : TypeId) (cs : List Value) (hu : P.underlying dT = some (.slice elem)) (hs : (P.info? elem).map (·.size) = some 1)
    (hg : Blk w g t cur) (hn : cs.length = Nat.min sLen dLen) (hsrc : ∀ j v, cs[j]? = some v → w.cell? (ad.add j) = some v) (hfit : off + cs.length ≤ cur.size) (h1 : ∀ v ∈ cs, v.oneCell' = true)
    (new : Array Value) (hnew : (cur.toList.take off ++ cs ++ cur.toList.drop (off + cs.length)).toArray = new)
    (h : ∀ w', Blk w' g t new → But g w w' → w'.heap.size = w.heap.size → wpList P ops Q rest (a.put dst (.int .i64 cs.length)) w') : wpList P ops Q (o :: rest) a w := by
  subst hdst; subst hnew
  refine wpList_plain hgd fun K hK => ?_
  unfold Oper.wp execOp
  simp only [ho, resolve, invoke, builtin, Sem.run_bind, Sem.run_pure, Result.andThen_ok, List.map_toArray, List.map_cons, List.map_nil, hx, hy, run_copy_row P w dT sT o.type elem g off dLen dCap ad sLen sCap cur t cs hu hs hg hn hsrc hfit h1]
  exact hK _ _ (h _ (hg.setRow _) ((But.refl _ _).setRow _) (by simp))
end
end Go.Proofs.Ytgckgbonhbabpaa
