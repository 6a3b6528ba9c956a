/- Maps of the call's own, as lists of keys and values in the order of their coming. No program. -/
import Derived.Test.YtgckgbonhbabpaaArr
import Derived.MapKept
import Derived.OwnWalkIn
import Derived.RangeFuncNested
namespace Go.Proofs.Ytgckgbonhbabpaa
open Go Go.RowKit Go.Deep Go.MapKept
set_option linter.unusedVariables false
set_option linter.unusedSimpArgs false

/-- The first entry of a key: its place, and its value. -/
def gIx {κ : Type} [DecidableEq κ] : List (κ × Value) → κ → Option (Nat × Value)
  | [], _ => none
  | p :: l, k => if p.1 = k then some (0, p.2) else (gIx l k).map fun q => (q.1 + 1, q.2)
/-- What a key's entry is turned to, or a new one behind the others. -/
def gPut {κ : Type} [DecidableEq κ] : List (κ × Value) → κ → Value → List (κ × Value)
  | [], k, v => [(k, v)]
  | p :: l, k, v => if p.1 = k then (k, v) :: l else p :: gPut l k v
theorem gPut_none {κ : Type} [DecidableEq κ] : ∀ {m : List (κ × Value)} {k : κ} (v : Value), gIx m k = none → gPut m k v = m ++ [(k, v)]
  | [], _, _, _ => rfl
  | p :: l, k, v, h => by
    unfold gIx at h
    split at h
    · cases h
    · rename_i hk
      have h' : gIx l k = none := by cases hl : gIx l k with | none => rfl | some q => rw [hl] at h; cases h
      rw [gPut, if_neg hk, gPut_none v h']; rfl
theorem gPut_some {κ : Type} [DecidableEq κ] : ∀ {m : List (κ × Value)} {k : κ} {j : Nat} {u : Value} (v : Value), gIx m k = some (j, u) → gPut m k v = m.set j (k, v) ∧ (m[j]?).map (·.1) = some k
  | [], _, _, _, _, h => by cases h
  | p :: l, k, j, u, v, h => by
    unfold gIx at h
    split at h
    · rename_i hk
      simp only [Option.some.injEq, Prod.mk.injEq] at h
      obtain ⟨rfl, rfl⟩ := h
      rw [gPut, if_pos hk]
      exact ⟨rfl, by simp [hk]⟩
    · rename_i hk
      obtain ⟨q, hq, he⟩ := Option.map_eq_some_iff.1 h
      simp only [Prod.mk.injEq] at he
      obtain ⟨rfl, rfl⟩ := he
      obtain ⟨h1, h2⟩ := gPut_some v (j := q.1) (u := q.2) hq
      rw [gPut, if_neg hk, h1]
      exact ⟨rfl, by simpa using h2⟩

/-- What a key's type must do. -/
structure KeyOk (P : Program) (K : TypeId) {κ : Type} [DecidableEq κ] (enc : κ → Value) : Prop where
  check : ∀ (w : World) (em : Bool) (k : κ), (Instr.checkKey em 10000 K (enc k)).run P w = .ok () w
  find : ∀ (w : World) (k : κ) (m : List (κ × Value)) (es : List MapEntry), es.map (fun e => (e.key, e.val)) = m.map (fun p => (enc p.1, p.2)) → (Instr.findKey K (enc k) es).run P w = .ok (gIx m k) w
  stays : ∀ (w : World) (k : κ), (Instr.keyThatStays (enc k) (enc k)).run P w = .ok (enc k) w

theorem findNow_int {q : IntKind} (k : Int) : ∀ (es : List MapEntry) (m : List (Int × Value)) (i : Nat), es.map (fun e => (e.key, e.val)) = m.map (fun p => (Value.int q p.1, p.2)) →
    Instr.findNow (.int q) (.int q k) es i = some ((gIx m k).map fun p => (i + p.1, p.2))
  | [], [], i, _ => rfl
  | [], _ :: _, _, h => by cases h
  | _ :: _, [], _, h => by cases h
  | e :: es, p :: m, i, h => by
    simp only [List.map_cons, List.cons.injEq, Prod.mk.injEq] at h
    obtain ⟨⟨h1, h2⟩, h3⟩ := h
    unfold Instr.findNow
    rw [h1]
    by_cases hk : p.1 = k
    · simp [Instr.sameNow, gIx, hk, h2]
    · have hk' : ¬ k = p.1 := fun h => hk h.symm
      have e1 : Instr.sameNow (.int q) (.int q k) (.int q p.1) = some false := by simp [Instr.sameNow, hk']
      rw [e1, gIx, if_neg hk]
      simp only
      rw [findNow_int k es m (i + 1) h3]
      cases gIx m k with
      | none => rfl
      | some r => simp; omega
theorem int_key {P : Program} {K : TypeId} {q : IntKind} (hK : P.underlying K = some (.int q)) : KeyOk P K (fun n : Int => Value.int q n) where
  check w em k := by unfold Instr.checkKey; simp [Sem.run_bind, run_underlying hK, Result.andThen, Sem.run_pure]
  find w k m es h := by
    unfold Instr.findKey
    simp only [Sem.run_bind, run_underlying hK, Result.andThen]
    rw [findNow_int k es m 0 h]
    cases gIx m k with
    | none => rfl
    | some r => simp [Sem.run_pure]
  stays w k := by unfold Instr.keyThatStays; simp [Instr.sameBits, Sem.run_pure]
theorem ba_beq (a b : ByteArray) : (a == b) = decide (a = b) := by
  rw [Bool.eq_iff_iff, decide_eq_true_eq]
  cases a; cases b
  simp only [BEq.beq, ByteArray.beq, ByteArray.mk.injEq]
  constructor
  · intro h; exact Array.eq_of_isEqv _ _ (by simpa [BEq.beq] using h)
  · rintro rfl; simp [Array.isEqv_self]
theorem findNow_str (k : ByteArray) : ∀ (es : List MapEntry) (m : List (ByteArray × Value)) (i : Nat), es.map (fun e => (e.key, e.val)) = m.map (fun p => (Value.string p.1, p.2)) →
    Instr.findNow .string (.string k) es i = some ((gIx m k).map fun p => (i + p.1, p.2))
  | [], [], i, _ => rfl
  | [], _ :: _, _, h => by cases h
  | _ :: _, [], _, h => by cases h
  | e :: es, p :: m, i, h => by
    simp only [List.map_cons, List.cons.injEq, Prod.mk.injEq] at h
    obtain ⟨⟨h1, h2⟩, h3⟩ := h
    unfold Instr.findNow
    rw [h1]
    by_cases hk : p.1 = k
    · have e1 : Instr.sameNow .string (.string k) (.string p.1) = some true := by rw [hk]; simp [Instr.sameNow, ba_beq]
      rw [e1, gIx, if_pos hk]; simp [h2]
    · have e1 : Instr.sameNow .string (.string k) (.string p.1) = some false := by
        have hk' : ¬ k = p.1 := fun h => hk h.symm
        simp [Instr.sameNow, ba_beq, hk']
      rw [e1, gIx, if_neg hk]
      simp only
      rw [findNow_str k es m (i + 1) h3]
      cases gIx m k with
      | none => rfl
      | some r => simp; omega
theorem str_key {P : Program} {K : TypeId} (hK : P.underlying K = some .string) : KeyOk P K (fun s : ByteArray => Value.string s) where
  check w em k := by unfold Instr.checkKey; simp [Sem.run_bind, run_underlying hK, Result.andThen, Sem.run_pure]
  find w k m es h := by
    unfold Instr.findKey
    simp only [Sem.run_bind, run_underlying hK, Result.andThen]
    rw [findNow_str k es m 0 h]
    cases gIx m k with
    | none => rfl
    | some r => simp [Sem.run_pure]
  stays w k := by unfold Instr.keyThatStays; simp [Instr.sameBits, Sem.run_pure, ba_beq]

/-- Block b is a map of these entries. -/
def MapAt (w : World) (b : Nat) {κ : Type} (enc : κ → Value) (m : List (κ × Value)) : Prop :=
  ∃ es clock, w.heap[b]? = some (.map es clock) ∧ es.toList.map (fun e => (e.key, e.val)) = m.map fun p => (enc p.1, p.2)
section
variable {w : World} {b : Nat} {κ : Type} {enc : κ → Value} {m : List (κ × Value)}
theorem MapAt.lt (h : MapAt w b enc m) : b < w.heap.size := by obtain ⟨es, c, h, _⟩ := h; exact (Array.getElem?_eq_some_iff.1 h).1
theorem MapAt.below {w' : World} {B : Nat} (h : MapAt w b enc m) (hb : Below B w w') (hB : b < B) : MapAt w' b enc m := by
  obtain ⟨es, c, h, k⟩ := h; exact ⟨es, c, (hb.block b hB).trans h, k⟩
theorem MapAt.after (h : MapAt w b enc m) (x : After w) : MapAt x.w b enc m := h.below x.h h.lt
theorem MapAt.drew (h : MapAt w b enc m) : MapAt w.drew b enc m := h
theorem MapAt.new (w : World) : MapAt (w.alloc (.map #[] 0)) w.heap.size enc [] := ⟨#[], 0, World.alloc_heap_new w _, rfl⟩
theorem MapAt.kept {w' : World} {row : Option Nat} (h : MapAt w b enc m) (hg : w.grownBy w' row) (hne : some b ≠ row) : MapAt w' b enc m := by
  obtain ⟨es, c, h, k⟩ := h
  exact ⟨es, c, (hg.block b (Array.getElem?_eq_some_iff.1 h).1 hne).trans h, k⟩
theorem gr_below {w w' : World} (h : Below w.heap.size w w') (row : Option Nat) : w.grownBy w' row := ⟨h.os, h.tape, h.output, h.size, fun k hk _ => h.block k hk⟩
end
section
variable {P : Program} {w : World} {b : Nat} {κ : Type} [DecidableEq κ] {enc : κ → Value} {m : List (κ × Value)}
theorem run_lookup_map {t K E : TypeId} (h : MapAt w b enc m) (ok : KeyOk P K enc) (ht : P.underlying t = some (.map K E)) {z : Value} (hz : (zeroValue E).run P w = .ok z w) (k : κ) :
    (Instr.lookup t (.map (some b)) (enc k) true).run P w = .ok (match gIx m k with | some q => .tuple #[q.2, .bool true] | none => .tuple #[z, .bool false]) w := by
  obtain ⟨es, c, hb, hes⟩ := h
  unfold Instr.lookup
  simp only [Sem.run_bind, run_underlying ht, Result.andThen_ok, MapKept.run_getObj_map hb, Sem.run_pure, ok.check, ok.find w k m es.toList hes]
  cases gIx m k with
  | none => simp [Sem.run_bind, hz, Sem.run_pure]
  | some q => simp [Sem.run_bind, Sem.run_pure]
theorem run_lookup_map1 {t K E : TypeId} (h : MapAt w b enc m) (ok : KeyOk P K enc) (ht : P.underlying t = some (.map K E)) {z : Value} (hz : (zeroValue E).run P w = .ok z w) (k : κ) :
    (Instr.lookup t (.map (some b)) (enc k) false).run P w = .ok (match gIx m k with | some q => q.2 | none => z) w := by
  obtain ⟨es, c, hb, hes⟩ := h
  unfold Instr.lookup
  simp only [Sem.run_bind, run_underlying ht, Result.andThen_ok, MapKept.run_getObj_map hb, Sem.run_pure, ok.check, ok.find w k m es.toList hes]
  cases gIx m k with
  | none => simp [Sem.run_bind, hz, Sem.run_pure]
  | some q => simp [Sem.run_bind, Sem.run_pure]
/-- A store into the map: the world is a letter. -/
theorem run_update_map {t K E : TypeId} (h : MapAt w b enc m) (ok : KeyOk P K enc) (ht : P.underlying t = some (.map K E)) (k : κ) (v : Value) :
    ∃ w', (Instr.mapUpdate t (.map (some b)) (enc k) v).run P w = .ok () w' ∧ MapAt w' b enc (gPut m k v) ∧ But b w w' ∧ w'.heap.size = w.heap.size := by
  obtain ⟨es, c, hb, hes⟩ := h
  have hlt : b < w.heap.size := (Array.getElem?_eq_some_iff.1 hb).1
  have hset : ∀ o : Obj, ∃ w', (setObj b o).run P w = .ok () w' ∧ w'.heap[b]? = some o ∧ But b w w' ∧ w'.heap.size = w.heap.size := fun o =>
    ⟨_, MapKept.run_setObj_map o hb, by simp [Array.getElem?_setIfInBounds, hlt], ⟨rfl, rfl, rfl, by simp, fun k hk hne => by simp [Array.getElem?_setIfInBounds, Ne.symm hne]⟩, by simp⟩
  unfold Instr.mapUpdate
  simp only [Sem.run_bind, run_underlying ht, Result.andThen_ok, MapKept.run_getObj_map hb, ok.check, ok.find w k m es.toList hes]
  cases hx : gIx m k with
  | none =>
    obtain ⟨w', h1, h2, h3, h4⟩ := hset (.map (es.push { key := enc k, val := v, born := c }) (c + 1))
    refine ⟨w', h1, ⟨_, _, h2, ?_⟩, h3, h4⟩
    rw [gPut_none v hx]
    simp [hes]
  | some q =>
    obtain ⟨j, u⟩ := q
    obtain ⟨hp, hj⟩ := gPut_some v hx
    have hkey : ((es[j]?).map (·.key)).getD (enc k) = enc k := by
      have h1 := congrArg (fun l => (l[j]?).map (·.1)) hes
      simp only [List.getElem?_map, Option.map_map] at h1
      cases hm : m[j]? with
      | none => rw [hm] at hj; cases hj
      | some p =>
        rw [hm] at hj h1
        simp only [Option.map_some, Option.some.injEq] at hj
        cases he : es[j]? with
        | none => rfl
        | some e =>
          rw [Array.getElem?_toList, he] at h1
          simp only [Option.map_some, Function.comp_apply, Option.some.injEq] at h1
          simp [h1, hj]
    simp only [hkey, Sem.run_bind, ok.stays, Result.andThen_ok]
    obtain ⟨w', h1, h2, h3, h4⟩ := hset (.map (es.modify j fun e => { e with key := enc k, val := v }) c)
    refine ⟨w', h1, ⟨_, _, h2, ?_⟩, h3, h4⟩
    rw [hp]
    apply List.ext_getElem?
    intro i
    have h1 := congrArg (fun l => l[i]?) hes
    simp only [List.getElem?_map, Array.getElem?_toList] at h1 ⊢
    rw [Array.getElem?_modify, List.getElem?_set]
    have hjl : j < m.length := by
      cases hm : m[j]? with
      | none => rw [hm] at hj; cases hj
      | some p => exact (List.getElem?_eq_some_iff.1 hm).1
    by_cases hij : j = i
    · subst hij
      rw [if_pos rfl, if_pos rfl]
      rw [List.getElem?_eq_getElem hjl] at h1
      cases he : es[j]? with
      | none => rw [he] at h1; simp at h1
      | some e => simp [hjl]
    · rw [if_neg hij, if_neg hij]; exact h1
end
section
variable {P : Program} {ops : Array Oper} {rest : List Oper} {o : Oper} {a : Act} {w : World} {Q : Exit → Act → World → Prop} {F : Fence} {n : Nat}
theorem wpList_run (hg : o.guard = none) (v : Value) (w' : World) (hr : (execOp a.eval o).run P w = .ok (.value v) w') (h : wpList P ops Q rest (a.put o.dst v) w') : wpList P ops Q (o :: rest) a w := by
  refine wpList_plain hg fun K hK => ?_
  unfold Oper.wp
  rw [hr, Oper.upon_value]
  exact hK _ _ h
theorem wpList_runskip (hg : o.guard = none) (w' : World) (hr : (execOp a.eval o).run P w = .ok .skip w') (h : wpList P ops Q rest (a.put o.dst undef) w') : wpList P ops Q (o :: rest) a w := by
  refine wpList_plain hg fun K hK => ?_
  unfold Oper.wp
  rw [hr, Oper.upon_skip]
  exact hK _ _ h
theorem wpListIn_run (hg : o.guard = none) (hnd : ∀ c, o.op ≠ .defer c) (hab : o.about P w a.eval = none) (v : Value) (w' : World) (hr : (execOp a.eval o).run P w = .ok (.value v) w') (h : wpListIn F n P ops Q rest (a.put o.dst v) w') : wpListIn F n P ops Q (o :: rest) a w := by
  refine wpListIn_plain hg fun K hK => ?_
  unfold Oper.wpIn
  refine ⟨fun f hf => (by rw [hab] at hf; cases hf), ?_⟩
  rw [Oper.semAt_plain F _ _ hnd, hr, Oper.uponIn_value]
  exact hK _ _ h
end
section
variable {P : Program} {ops : Array Oper} {rest : List Oper} {o : Oper} {a : Act} {w : World} {Q : Exit → Act → World → Prop} {b : Nat} {κ : Type} [DecidableEq κ] {enc : κ → Value} {m : List (κ × Value)}
theorem wpList_lookup_map (hg : o.guard = none) (t K E : TypeId) (x y : Operand) (ho : o.op = .lookup t x y true) (dst : Option Tmp) (hdst : o.dst = dst) (hx : a.eval x = .map (some b)) (k : κ) (hk : a.eval y = enc k) (hm : MapAt w b enc m) (ok : KeyOk P K enc) (ht : P.underlying t = some (.map K E)) (z : Value) (hz : ∀ w, (zeroValue E).run P w = .ok z w)
    (h : wpList P ops Q rest (a.put dst (match gIx m k with | some q => .tuple #[q.2, .bool true] | none => .tuple #[z, .bool false])) w) : wpList P ops Q (o :: rest) a w := by
  subst hdst
  refine wpList_run hg _ w ?_ h
  unfold execOp
  simp only [ho, hx, hk, Sem.run_bind, run_lookup_map hm ok ht (hz w) k, Result.andThen_ok, Sem.run_pure]
theorem wpListIn_lookup_map {F : Fence} {n : Nat} (hg : o.guard = none) (t K E : TypeId) (x y : Operand) (ho : o.op = .lookup t x y true) (dst : Option Tmp) (hdst : o.dst = dst) (hx : a.eval x = .map (some b)) (k : κ) (hk : a.eval y = enc k) (hm : MapAt w b enc m) (ok : KeyOk P K enc) (ht : P.underlying t = some (.map K E)) (z : Value) (hz : ∀ w, (zeroValue E).run P w = .ok z w)
    (h : wpListIn F n P ops Q rest (a.put dst (match gIx m k with | some q => .tuple #[q.2, .bool true] | none => .tuple #[z, .bool false])) w) : wpListIn F n P ops Q (o :: rest) a w := by
  subst hdst
  refine wpListIn_run hg (by rw [ho]; intro c hc; cases hc) (by unfold Oper.about; rw [ho]) _ w ?_ h
  unfold execOp
  simp only [ho, hx, hk, Sem.run_bind, run_lookup_map hm ok ht (hz w) k, Result.andThen_ok, Sem.run_pure]
theorem wpList_update_map (hg : o.guard = none) (t K E : TypeId) (x y z : Operand) (ho : o.op = .mapUpdate t x y z) (dst : Option Tmp) (hdst : o.dst = dst) (hx : a.eval x = .map (some b)) (k : κ) (hk : a.eval y = enc k) (v : Value) (hv : a.eval z = v) (hm : MapAt w b enc m) (ok : KeyOk P K enc) (ht : P.underlying t = some (.map K E))
    (h : ∀ w', MapAt w' b enc (gPut m k v) → But b w w' → w'.heap.size = w.heap.size → wpList P ops Q rest (a.put dst undef) w') : wpList P ops Q (o :: rest) a w := by
  subst hdst
  obtain ⟨w', h1, h2, h3, h4⟩ := run_update_map (t := t) hm ok ht k v
  refine wpList_runskip hg w' ?_ (h w' h2 h3 h4)
  unfold execOp
  simp only [ho, hx, hk, hv, Sem.run_bind, h1, Result.andThen_ok, Sem.run_pure]
end
end Go.Proofs.Ytgckgbonhbabpaa
