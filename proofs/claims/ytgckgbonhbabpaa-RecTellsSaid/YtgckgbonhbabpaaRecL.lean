/- A name put into a record that lies in a block. -/
import Derived.Test.YtgckgbonhbabpaaRecK
import Derived.Test.YtgckgbonhbabpaaRecP
namespace Go.Proofs.Ytgckgbonhbabpaa
open Go Go.RowKit Go.Deep
set_option linter.unusedVariables false
set_option linter.unusedSimpArgs false
set_option maxRecDepth 100000
section
variable {P : Program} {ops : Array Oper} {rest : List Oper} {o : Oper} {a : Act} {w : World} {Q : Exit → Act → World → Prop}
/-- A part of a block is written, the world a letter. -/
theorem wpList_store_part (hw : Region.wanted o (yielded ops a.tmps) = true) (ty : TypeId) (x y : Operand) (ho : o.op = .store ty x y) (dst : Option Tmp) (hdst : o.dst = dst)
    (g off : Nat) (cells : Array Value) (hx : a.eval x = .pointer (some ⟨g, off, none⟩)) (hy : a.eval y = .agg cells)
    (t : TypeId) (cur : Array Value) (hg : Blk w g t cur) (hi : (P.info? ty).map (·.size) = some cells.size)
    (hfit : off + cells.size ≤ cur.size) (h1 : cells.all (·.oneCell') = true) (new : Array Value) (hnew : (cur.toList.take off ++ cells.toList ++ cur.toList.drop (off + cells.size)).toArray = new)
    (h : ∀ w', Blk w' g t new → But g w w' → w'.heap.size = w.heap.size → wpList P ops Q rest (a.put dst undef) w') : wpList P ops Q (o :: rest) a w := by
  subst hdst; subst hnew
  have hst := run_storeCells_at (P := P) g off t cells.toList 0 cur w hg (by simpa using hfit) (fun v hv => (Array.all_eq_true_iff_forall_mem.1 h1) v (by simpa using hv))
  have hv : (storeVar ty ⟨g, off, none⟩ (.agg cells)).run P w = .ok () (w.setRow g (cur.toList.take off ++ cells.toList ++ cur.toList.drop (off + cells.size)).toArray) := by
    cases hq : P.info? ty with
    | none => simp [hq] at hi
    | some i =>
      have hs : cells.size = i.size := by simp [hq] at hi; omega
      simp only [Nat.add_zero, Array.length_toList] at hst
      simp [storeVar, sizeOf, typeInfo, hq, Value.cells, hs]
      rw [hs, List.append_assoc] at hst
      exact hst
  refine BigFrame.wpList_want hw fun K hK => ?_
  unfold Oper.wp execOp
  simp only [ho, hx, hy, Instr.storeAt, Instr.sureAddr, Sem.run_bind, Sem.run_pure, Result.andThen_ok, hv]
  exact hK _ _ (h _ (hg.setRow _) ((But.refl _ _).setRow _) (by simp))
end
theorem rA_named (r r' : RD) (s : Value) (h : r.ok) (h' : r'.ok) : ((rA r s).toList.take 0 ++ (idA r').toList ++ (rA r s).toList.drop (0 + (idA r').size)).toArray = rA ⟨r'.id, r.N, r.R, r.f⟩ s := by
  rw [idA_size h']
  have e : (rA r s).toList = (encU r.id) ++ [.int .i64 r.N, .int .i64 r.R, s] := by simp [rA, recA]
  have hl : (encU r.id).length = 16 := by rw [encU_length]; exact h
  rw [e, List.take_zero, List.nil_append, Nat.zero_add, List.drop_append_of_le_length (by omega), List.drop_of_length_le (by omega), List.nil_append]
  simp [idA, rA, recA]
theorem idA_one (r : RD) : (idA r).all (·.oneCell') = true := encU_all _
end Go.Proofs.Ytgckgbonhbabpaa
