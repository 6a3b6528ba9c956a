/- Maps whose entries bear a stamp; digests as keys. -/
import Derived.Test.YtolbmemogoojhaaGreatVN9
namespace Go.Proofs.YtolbmemogoojhaaGreat
open Go Go.RowKit Go.Deep
set_option linter.unusedVariables false
set_option linter.unusedSimpArgs false
set_option maxRecDepth 100000
set_option linter.unusedSectionVars false
def mapE {κ : Type} (enc : κ → Value) (m : List (κ × Value)) (i : Nat) : List MapEntry := match m with
  | [] => []
  | p :: l => ⟨enc p.1, p.2, i⟩ :: mapE enc l (i + 1)
section
variable {κ : Type} [DecidableEq κ] {enc : κ → Value}
theorem mapE_kv : ∀ (m : List (κ × Value)) (i : Nat), (mapE enc m i).map (fun e => (e.key, e.val)) = m.map fun p => (enc p.1, p.2)
  | [], _ => rfl
  | p :: l, i => by simp [mapE, mapE_kv l]
theorem mapE_get : ∀ {m : List (κ × Value)} {i j : Nat} {p : κ × Value}, m[j]? = some p → (mapE enc m i)[j]? = some ⟨enc p.1, p.2, i + j⟩
  | q :: l, i, 0, p, h => by simp only [List.getElem?_cons_zero, Option.some.injEq] at h; subst h; rfl
  | q :: l, i, j + 1, p, h => by
    simp only [List.getElem?_cons_succ] at h
    have := mapE_get (i := i + 1) h
    simp only [mapE, List.getElem?_cons_succ, this]
    rw [show i + 1 + j = i + (j + 1) by omega]
theorem mapE_app : ∀ (m : List (κ × Value)) (i : Nat) (p : κ × Value), mapE enc (m ++ [p]) i = mapE enc m i ++ [⟨enc p.1, p.2, i + m.length⟩]
  | [], i, p => rfl
  | q :: l, i, p => by
    simp only [List.cons_append, mapE, mapE_app l, List.length_cons]
    rw [show i + 1 + l.length = i + (l.length + 1) by omega]
theorem mapE_set : ∀ (m : List (κ × Value)) (i j : Nat) (k : κ) (u v : Value), m[j]? = some (k, u) → (mapE enc m i).modify j (fun e => { e with val := v }) = mapE enc (m.set j (k, v)) i
  | q :: l, i, 0, k, u, v, h => by simp only [List.getElem?_cons_zero, Option.some.injEq] at h; subst h; rfl
  | q :: l, i, j + 1, k, u, v, h => by
    simp only [List.getElem?_cons_succ] at h
    have := mapE_set l (i + 1) j k u v h
    simp only [mapE, List.modify_succ_cons, List.set_cons_succ, this]
theorem mapE_key : ∀ (m : List (κ × Value)) (i j : Nat) (k : κ) (u : Value), m[j]? = some (k, u) → (mapE enc m i).modify j (fun e => { e with key := enc k }) = mapE enc m i
  | q :: l, i, 0, k, u, h => by simp only [List.getElem?_cons_zero, Option.some.injEq] at h; subst h; rfl
  | q :: l, i, j + 1, k, u, h => by
    simp only [List.getElem?_cons_succ] at h
    have := mapE_key l (i + 1) j k u h
    simp only [mapE, List.modify_succ_cons, this]
theorem mapE_born : ∀ (m : List (κ × Value)) (i j : Nat), j < m.length → (mapE enc m i).findIdx? (fun e => (e.born : Int) == ((i + j : Nat) : Int)) = some j
  | q :: l, i, 0, h => by simp [mapE, List.findIdx?_cons]
  | q :: l, i, j + 1, h => by
    have := mapE_born l (i + 1) j (by simpa using h)
    rw [mapE, List.findIdx?_cons]
    have e : (((i : Nat) : Int) == ((i + (j + 1) : Nat) : Int)) = false := by rw [beq_eq_false_iff_ne]; omega
    simp only [e]
    rw [show i + 1 + j = i + (j + 1) by omega] at this
    rw [this]; rfl
theorem gIx_get : ∀ {m : List (κ × Value)} {k : κ} {j : Nat} {u : Value}, gIx m k = some (j, u) → m[j]? = some (k, u)
  | p :: l, k, j, u, h => by
    unfold gIx at h
    split at h
    · rename_i hk
      simp only [Option.some.injEq, Prod.mk.injEq] at h
      obtain ⟨rfl, rfl⟩ := h
      rw [← hk]; rfl
    · obtain ⟨q, hq, he⟩ := Option.map_eq_some_iff.1 h
      simp only [Prod.mk.injEq] at he
      obtain ⟨rfl, rfl⟩ := he
      simpa using gIx_get hq
theorem gIx_no : ∀ {m : List (κ × Value)} {k : κ}, gIx m k = none → ∀ p ∈ m, p.1 ≠ k
  | p :: l, k, h, q, hq => by
    unfold gIx at h
    split at h
    · cases h
    · rename_i hk
      rcases List.mem_cons.1 hq with rfl | hq
      · exact hk
      · refine gIx_no (m := l) ?_ q hq
        cases hl : gIx l k with
        | none => rfl
        | some r => rw [hl] at h; cases h
/-- Block b is a map of these entries, stamped one behind the other. -/
def MapBAt (w : World) (b : Nat) (enc : κ → Value) (m : List (κ × Value)) : Prop := ∃ es : Array MapEntry, w.heap[b]? = some (.map es m.length) ∧ es.toList = mapE enc m 0
def Res.mapB (b : Nat) (enc : κ → Value) (m : List (κ × Value)) : Res :=
  ⟨fun k => k = b, fun w => MapBAt w b enc m, fun ⟨es, h, e⟩ k => ⟨es, (k _ rfl).trans h, e⟩, fun ⟨es, h, e⟩ f => by subst f; exact (Array.getElem?_eq_some_iff.1 h).1⟩
section
variable {P : Program} {w : World} {b : Nat} {m : List (κ × Value)}
theorem MapBAt.at (h : MapBAt w b enc m) : MapAt w b enc m := by
  obtain ⟨es, h1, h2⟩ := h
  exact ⟨es, _, h1, by rw [h2, mapE_kv]⟩
theorem run_mapEntry_some {t K E : TypeId} (h : MapBAt w b enc m) (ok : KeyOk P K enc) (ht : P.underlying t = some (.map K E)) {k : κ} {j : Nat} {u : Value} (hg : gIx m k = some (j, u)) :
    ∃ w', (Instr.mapEntry t (.map (some b)) (enc k)).run P w = .ok (.tuple #[u, .int .i64 (j : Int)]) w' ∧ MapBAt w' b enc m ∧ But b w w' := by
  obtain ⟨es, hb, hes⟩ := h
  have hlt : b < w.heap.size := (Array.getElem?_eq_some_iff.1 hb).1
  have hget := gIx_get hg
  have hej : es[j]? = some ⟨enc k, u, j⟩ := by rw [← Array.getElem?_toList, hes, mapE_get hget, Nat.zero_add]
  refine ⟨{ w with heap := w.heap.setIfInBounds b (.map (es.modify j fun e => { e with key := enc k }) m.length) }, ?_, ⟨es.modify j fun e => { e with key := enc k }, by simp [Array.getElem?_setIfInBounds, hlt], by rw [Array.toList_modify, hes, mapE_key _ _ _ _ _ hget]⟩, ⟨rfl, rfl, rfl, by simp, fun k hk hne => by simp [Array.getElem?_setIfInBounds, Ne.symm hne]⟩⟩
  unfold Instr.mapEntry
  simp only [Sem.run_bind, run_underlying ht, Result.andThen_ok, MapKept.run_getObj_map hb, ok.check, ok.find w k m es.toList (by rw [hes, mapE_kv]), hg, hej, Option.map_some, Option.getD_some, ok.stays, MapKept.run_setObj_map _ hb, Sem.run_pure]
  rfl
theorem run_mapEntry_none {t K E : TypeId} (h : MapBAt w b enc m) (ok : KeyOk P K enc) (ht : P.underlying t = some (.map K E)) {zv : Value} (hz : ∀ w, (zeroValue E).run P w = .ok zv w) {k : κ} (hg : gIx m k = none) :
    ∃ w', (Instr.mapEntry t (.map (some b)) (enc k)).run P w = .ok (.tuple #[zv, .int .i64 (m.length : Int)]) w' ∧ MapBAt w' b enc (m ++ [(k, zv)]) ∧ But b w w' := by
  obtain ⟨es, hb, hes⟩ := h
  have hlt : b < w.heap.size := (Array.getElem?_eq_some_iff.1 hb).1
  refine ⟨{ w with heap := w.heap.setIfInBounds b (.map (es.push { key := enc k, val := zv, born := m.length }) (m.length + 1)) }, ?_, ⟨es.push { key := enc k, val := zv, born := m.length }, by simp [Array.getElem?_setIfInBounds, hlt], by rw [Array.toList_push, hes, mapE_app, Nat.zero_add]⟩, ⟨rfl, rfl, rfl, by simp, fun k hk hne => by simp [Array.getElem?_setIfInBounds, Ne.symm hne]⟩⟩
  unfold Instr.mapEntry
  simp only [Sem.run_bind, run_underlying ht, Result.andThen_ok, MapKept.run_getObj_map hb, ok.check, ok.find w k m es.toList (by rw [hes, mapE_kv]), hg, hz, MapKept.run_setObj_map _ hb, Sem.run_pure]
  rfl
theorem run_entryStore {t : TypeId} (h : MapBAt w b enc m) {j : Nat} {k : κ} {u : Value} (hg : m[j]? = some (k, u)) (v : Value) :
    ∃ w', (Instr.entryStore t (.map (some b)) (.int .i64 (j : Int)) v).run P w = .ok () w' ∧ MapBAt w' b enc (m.set j (k, v)) ∧ But b w w' := by
  obtain ⟨es, hb, hes⟩ := h
  have hlt : b < w.heap.size := (Array.getElem?_eq_some_iff.1 hb).1
  have hj := (List.getElem?_eq_some_iff.1 hg).1
  refine ⟨{ w with heap := w.heap.setIfInBounds b (.map (es.modify j fun e => { e with val := v }) m.length) }, ?_, ⟨es.modify j fun e => { e with val := v }, by simp [Array.getElem?_setIfInBounds, hlt], by rw [Array.toList_modify, hes, mapE_set _ _ _ _ _ _ hg]⟩, ⟨rfl, rfl, rfl, by simp, fun k hk hne => by simp [Array.getElem?_setIfInBounds, Ne.symm hne]⟩⟩
  have hf : es.findIdx? (fun e => (e.born : Int) == (j : Int)) = some j := by
    have := mapE_born (enc := enc) m 0 j hj
    rw [← hes, Nat.zero_add] at this
    cases es with
    | mk l => rw [List.findIdx?_toArray]; exact this
  have hi : ∀ W, (asInt (.int .i64 (j : Int))).run P W = .ok (j : Int) W := fun W => rfl
  unfold Instr.entryStore
  simp only [Sem.run_bind, MapKept.run_getObj_map hb, Result.andThen_ok, hi, Sem.run_pure, hf, MapKept.run_setObj_map _ hb]
end
end
theorem Upd.self : ∀ {Γ : List Res} {r : Res}, r ∈ Γ → Upd Γ r r Γ
  | x :: Γ, r, h => by
    by_cases e : r ∈ Γ
    · exact .tail _ (Upd.self e)
    · rcases List.mem_cons.1 h with rfl | h
      · exact .head _ _ _
      · exact absurd h e
theorem Upd.at : ∀ {Γ : List Res} {j : Nat} {r : Res} (r' : Res), Γ[j]? = some r → Upd Γ r r' (Γ.set j r')
  | x :: Γ, 0, r, r', h => by simp only [List.getElem?_cons_zero, Option.some.injEq] at h; subst h; exact .head _ _ _
  | x :: Γ, j + 1, r, r', h => .tail _ (Upd.at (Γ := Γ) r' (by simpa using h))
section
variable {P : Program} {ops : Array Oper} {rest : List Oper} {a : Act} {w0 w : World} {Q : Exit → Act → World → Prop} {Γ Γ' : List Res}
variable {dst : Option Tmp} {ty typ : TypeId} {x y z : Operand} {pos : String} {af : Array Edge} {b : Nat} {κ : Type} [DecidableEq κ] {enc : κ → Value} {m : List (κ × Value)} {K E : TypeId}
theorem arm_makeMapB (H : St w0 w Γ) (enc : κ → Value)
    (h : ∀ w' b, St w0 w' (Res.mapB b enc [] :: Γ) → wpList P ops Q rest (a.put dst (.map (some b))) w') : wpList P ops Q (⟨dst, .makeMap ty none, typ, pos, af, none⟩ :: rest) a w := by
  refine wpList_plain rfl fun K hK => ?_
  unfold Oper.wp execOp
  simp only [Option.map_none, Sem.run_bind, run_makeMap0, Result.andThen_ok, Sem.run_pure, Oper.upon_value]
  exact hK _ _ (h _ _ (H.new (bel_alloc (Below.refl _ _) _) ⟨#[], World.alloc_heap_new w _, rfl⟩ fun _ e => by cases e; exact Nat.le_refl _))
theorem arm_lookupB (H : St w0 w Γ) (hx : a.eval x = .map (some b)) {k : κ} (hk : a.eval y = enc k) (hm : Res.mapB b enc m ∈ Γ) (ok : KeyOk P K enc) (ht : P.underlying ty = some (.map K E)) {zv : Value} (hz : ∀ w, (zeroValue E).run P w = .ok zv w)
    (h : wpList P ops Q rest (a.put dst (match gIx m k with | some q => q.2 | none => zv)) w) : wpList P ops Q (⟨dst, .lookup ty x y false, typ, pos, af, none⟩ :: rest) a w := by
  refine wpList_run rfl _ w ?_ h
  unfold execOp
  simp only [hx, hk, Sem.run_bind, run_lookup_map1 (MapBAt.at (H.get hm)) ok ht (hz w) k, Result.andThen_ok, Sem.run_pure]
  rfl
theorem arm_entryS (ok : KeyOk P K enc) (ht : P.underlying ty = some (.map K E)) (H : St w0 w Γ) (hx : a.eval x = .map (some b)) {k : κ} (hk : a.eval y = enc k) (hm : Res.mapB b enc m ∈ Γ) {j : Nat} {u : Value} (hg : gIx m k = some (j, u))
    (h : ∀ w', St w0 w' Γ → wpList P ops Q rest (a.put dst (.tuple #[u, .int .i64 (j : Int)])) w') : wpList P ops Q (⟨dst, .mapEntry ty x y, typ, pos, af, none⟩ :: rest) a w := by
  obtain ⟨w', h1, h2, h3⟩ := run_mapEntry_some (t := ty) (H.get hm) ok ht hg
  refine wpList_run rfl _ w' ?_ (h w' (H.upd (Upd.self hm) (Chg.of_but h3) h2 fun _ e => .inl e))
  unfold execOp
  simp only [hx, hk, Sem.run_bind, h1, Result.andThen_ok, Sem.run_pure]
theorem arm_entryN (H : St w0 w Γ) (hx : a.eval x = .map (some b)) {k : κ} (hk : a.eval y = enc k) (hg : gIx m k = none) (ok : KeyOk P K enc) (ht : P.underlying ty = some (.map K E)) {zv : Value} (hz : ∀ w, (zeroValue E).run P w = .ok zv w)
    (u : Upd Γ (Res.mapB b enc m) (Res.mapB b enc (m ++ [(k, zv)])) Γ')
    (h : ∀ w', St w0 w' Γ' → wpList P ops Q rest (a.put dst (.tuple #[zv, .int .i64 (m.length : Int)])) w') : wpList P ops Q (⟨dst, .mapEntry ty x y, typ, pos, af, none⟩ :: rest) a w := by
  obtain ⟨w', h1, h2, h3⟩ := run_mapEntry_none (t := ty) (H.holds _ u.mem) ok ht hz hg
  refine wpList_run rfl _ w' ?_ (h w' (H.upd u (Chg.of_but h3) h2 fun _ e => .inl e))
  unfold execOp
  simp only [hx, hk, Sem.run_bind, h1, Result.andThen_ok, Sem.run_pure]
theorem arm_entryStore (H : St w0 w Γ) (hx : a.eval x = .map (some b)) {j : Nat} (hy : a.eval y = .int .i64 (j : Int)) {v : Value} (hv : a.eval z = v) {k : κ} {q : Value} (hg : m[j]? = some (k, q))
    (u : Upd Γ (Res.mapB b enc m) (Res.mapB b enc (m.set j (k, v))) Γ')
    (h : ∀ w', St w0 w' Γ' → wpList P ops Q rest (a.put dst undef) w') : wpList P ops Q (⟨dst, .entryStore ty x y z, typ, pos, af, none⟩ :: rest) a w := by
  obtain ⟨w', h1, h2, h3⟩ := run_entryStore (P := P) (t := ty) (H.holds _ u.mem) hg v
  refine wpList_runskip rfl w' ?_ (h w' (H.upd u (Chg.of_but h3) h2 fun _ e => .inl e))
  unfold execOp
  simp only [hx, hy, hv, Sem.run_bind, h1, Result.andThen_ok, Sem.run_pure]
end
/-! Digests as keys. -/
def DgK := { l : List UInt8 // l.length = 32 }
instance : DecidableEq DgK := fun a b => decidable_of_iff (a.1 = b.1) Subtype.ext_iff.symm
def encD (k : DgK) : Value := .agg (encU k.1).toArray
def dgK (s : ByteArray) : DgK := ⟨dgS s, dgS_length s⟩
theorem run_equal_dg (a b : List UInt8) (ha : a.length = 32) (hb : b.length = 32) (W : World) : (Op.equal 64 (.agg (encU a).toArray) (.agg (encU b).toArray)).run Tryz.prog W = .ok (a == b) W := by
  have := run_equalIn_bytes (P := Tryz.prog) W 9998 64 5 32 (by kernel_rfl) (by kernel_rfl) (fun w => by simp [sizeOf, typeInfo]; kernel_rfl) a b ha hb
  have e : ∀ l : List UInt8, encU l = l.map Extern.Stop.cell := fun l => rfl
  rw [e, e]
  exact this
theorem findAsk_dg (k : DgK) : ∀ (es : List MapEntry) (m : List (DgK × Value)) (i : Nat) (W : World), es.map (fun e => (e.key, e.val)) = m.map (fun p => (encD p.1, p.2)) →
    (Instr.findAsking 64 (encD k) es i).run Tryz.prog W = .ok ((gIx m k).map fun p => (i + p.1, p.2)) W
  | [], [], i, W, _ => rfl
  | [], _ :: _, _, _, h => by cases h
  | _ :: _, [], _, _, h => by cases h
  | e :: es, p :: m, i, W, h => by
    simp only [List.map_cons, List.cons.injEq, Prod.mk.injEq] at h
    obtain ⟨⟨h1, h2⟩, h3⟩ := h
    unfold Instr.findAsking
    rw [h1]
    simp only [Sem.run_bind, encD, run_equal_dg k.1 p.1.1 k.2 p.1.2, Result.andThen_ok]
    by_cases hk : p.1 = k
    · rw [gIx, if_pos hk, hk]; simp [h2, Sem.run_pure]
    · have hk' : (k.1 == p.1.1) = false := by
        rw [beq_eq_false_iff_ne]; exact fun e => hk (Subtype.ext e.symm)
      rw [gIx, if_neg hk, hk']
      have := findAsk_dg k es m (i + 1) W h3
      simp only [Bool.false_eq_true, if_false]
      unfold encD at this
      rw [this]
      cases gIx m k with
      | none => rfl
      | some r => simp; omega
theorem len32 {l : List UInt8} (h : l.length = 32) : ∃ b0 b1 b2 b3 b4 b5 b6 b7 b8 b9 b10 b11 b12 b13 b14 b15 b16 b17 b18 b19 b20 b21 b22 b23 b24 b25 b26 b27 b28 b29 b30 b31, l = [b0, b1, b2, b3, b4, b5, b6, b7, b8, b9, b10, b11, b12, b13, b14, b15, b16, b17, b18, b19, b20, b21, b22, b23, b24, b25, b26, b27, b28, b29, b30, b31] := by
  match l, h with
  | [a0, a1, a2, a3, a4, a5, a6, a7, a8, a9, a10, a11, a12, a13, a14, a15, a16, a17, a18, a19, a20, a21, a22, a23, a24, a25, a26, a27, a28, a29, a30, a31], _ => exact ⟨a0, a1, a2, a3, a4, a5, a6, a7, a8, a9, a10, a11, a12, a13, a14, a15, a16, a17, a18, a19, a20, a21, a22, a23, a24, a25, a26, a27, a28, a29, a30, a31, rfl⟩
theorem check_dg (w : World) (em : Bool) (l : List UInt8) (hl : l.length = 32) : (Instr.checkKey em 10000 64 (encD ⟨l, hl⟩)).run Tryz.prog w = .ok () w := by
  obtain ⟨b0, b1, b2, b3, b4, b5, b6, b7, b8, b9, b10, b11, b12, b13, b14, b15, b16, b17, b18, b19, b20, b21, b22, b23, b24, b25, b26, b27, b28, b29, b30, b31, rfl⟩ := len32 hl
  cases em <;> kernel_rfl
theorem keyDg : KeyOk Tryz.prog 64 encD where
  check w em k := by
    obtain ⟨l, hl⟩ := k
    exact check_dg w em l hl
  find w k m es h := by
    unfold Instr.findKey
    have hu : Tryz.prog.underlying 64 = some (.array 32 5) := by kernel_rfl
    simp only [Sem.run_bind, run_underlying hu, Result.andThen_ok]
    cases es with
    | nil =>
      cases m with
      | nil => rfl
      | cons p m => cases h
    | cons e es =>
      have := findAsk_dg k (e :: es) m 0 w h
      have e1 : Instr.findNow (.array 32 5) (encD k) (e :: es) 0 = none := by simp [Instr.findNow, Instr.sameNow]
      rw [e1]
      simp only
      rw [this]
      cases gIx m k with
      | none => rfl
      | some r => simp
  stays w k := by
    unfold Instr.keyThatStays encD
    have : Instr.sameBits 10000 (.agg (encU k.1).toArray) (.agg (encU k.1).toArray) = true := by
      rw [Instr.sameBits]
      simp only [beq_self_eq_true, Bool.true_and]
      exact sameBits_u8 9999 k.1
    rw [this]; simp [Sem.run_pure]
end Go.Proofs.YtolbmemogoojhaaGreat
