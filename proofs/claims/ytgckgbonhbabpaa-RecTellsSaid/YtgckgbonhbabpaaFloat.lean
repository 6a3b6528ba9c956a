/- A region whose order is drawn, with a new variable whose making hangs on nothing: a quiet head, the making at whatever time, a forced tail. No program. -/
import Derived.Test.YtgckgbonhbabpaaArr
namespace Go.Proofs.Ytgckgbonhbabpaa
open Go Go.RowKit Go.Deep
set_option linter.unusedVariables false
set_option linter.unusedSimpArgs false

section
variable {P : Program} {ops ops' : Array Oper} {md : Region.Mode}

/-- The region with the making struck. -/
def strike (ops : Array Oper) (n : Nat) : Array Oper := ops.modify n fun o => { o with op := .move (.const undef) }
theorem strike_get (ops : Array Oper) (n j : Nat) : (strike ops n)[j]? = if n = j then (ops[j]?).map fun o => { o with op := .move (.const undef) } else ops[j]? := by
  unfold strike; rw [Array.getElem?_modify]
theorem strike_ne {n j : Nat} (h : j ≠ n) : (strike ops n)[j]? = ops[j]? := by rw [strike_get, if_neg (Ne.symm h)]
theorem strike_size (ops : Array Oper) (n : Nat) : (strike ops n).size = ops.size := by simp [strike]
theorem strike_ready (n : Nat) (listed : Array Bool) : Region.ready md (strike ops n) listed = Region.ready md ops listed := by
  unfold Region.ready
  rw [strike_size]
  congr 1
  funext i
  congr 1
  rw [strike_get]
  by_cases h : n = i
  · rw [if_pos h]; cases ops[i]? <;> rfl
  · rw [if_neg h]
theorem strike_yielded (n : Nat) (tmps : Array Value) : yielded (strike ops n) tmps = yielded ops tmps := by
  funext j
  unfold yielded
  rw [strike_get]
  by_cases h : n = j
  · rw [if_pos h]; cases ops[j]? <;> rfl
  · rw [if_neg h]
theorem strike_seqB (n : Nat) : ∀ (g k : Nat) (listed : Array Bool), Region.seqB md (strike ops n) g k listed = Region.seqB md ops g k listed
  | 0, k, listed => by unfold Region.seqB; rw [strike_ready]
  | g + 1, k, listed => by unfold Region.seqB; rw [strike_ready, strike_seqB n g]
theorem strike_yields {n : Nat} {C : World → Prop} {o : Oper} {v : Value} {a : Act} (h : YieldsIn P (strike ops n) C o v a) : YieldsIn P ops C o v a := by
  unfold YieldsIn at *; rw [strike_yielded] at h; exact h

/-- What stands in a slot stays there, if nothing that is to come is put into it. -/
theorem keep_slot {C : World → Prop} {n : Nat} {aE : Act} {Ls : Array Bool → Prop} (d : Tmp) : ∀ (f : Nat) (listed : Array Bool) (a : Act),
    wpAnyLQ P md ops C n (fun l a => Ls l ∧ a = aE) f listed a → (∀ k ok, ops[k]? = some ok → listed.getD k true = false → ok.dst ≠ some d) → aE.tmps.getD d undef = a.tmps.getD d undef ∧ aE.tmps.size = a.tmps.size
  | 0, listed, a, h, _ => by rw [h.2]; exact ⟨rfl, rfl⟩
  | f + 1, listed, a, h, hd => by
    obtain ⟨hne, hall⟩ := h
    obtain ⟨i, hi⟩ := List.exists_mem_of_ne_nil _ hne
    obtain ⟨hun, oi, hoi, _⟩ := mem_ready.1 hi
    obtain ⟨v, hy, hK⟩ := yieldsIn_of_qOp hoi (hall i hi).2
    have := keep_slot d f _ _ hK fun k ok hk hl => by
      refine hd k ok hk ?_
      by_cases hik : i = k
      · subst hik; exact hun
      · rw [getD_set_ne true hik] at hl; exact hl
    rw [this.1, this.2]
    have hdi := hd i oi hoi hun
    cases hdst : oi.dst with
    | none => exact ⟨rfl, rfl⟩
    | some e =>
      rw [hdst] at hdi
      have : e ≠ d := fun h => hdi (by rw [h])
      constructor
      · simp [Act.put, Array.getElem?_setIfInBounds, this]
      · simp [Act.put]

def slotOf (aE : Act) (o : Oper) : Value := match o.dst with | some d => aE.tmps.getD d undef | none => undef
/-- The operations' slots are all others. -/
def oneSlot (ops : Array Oper) : Bool := (List.range ops.size).all fun i => (List.range ops.size).all fun j => i == j || (match (ops[i]?).bind (·.dst), (ops[j]?).bind (·.dst) with | some d, some e => d != e | _, _ => true)
theorem oneSlot_spec (h : oneSlot ops = true) {i j : Nat} {oi oj : Oper} (hi : ops[i]? = some oi) (hj : ops[j]? = some oj) (hne : i ≠ j) {d : Tmp} (hd : oi.dst = some d) : oj.dst ≠ some d := by
  unfold oneSlot at h
  simp only [List.all_eq_true, List.mem_range] at h
  have h1 := h i (Array.getElem?_eq_some_iff.1 hi).1 j (Array.getElem?_eq_some_iff.1 hj).1
  simp only [Bool.or_eq_true, beq_iff_eq, hne, false_or, hi, hj, Option.bind_some, hd] at h1
  intro he
  rw [he] at h1
  simp at h1
theorem put_slot {C : World → Prop} {n : Nat} {aE : Act} {Ls : Array Bool → Prop} {f i : Nat} {oi : Oper} {listed : Array Bool} {a : Act} {v : Value} (h1 : oneSlot ops = true) (hi : ops[i]? = some oi)
    (h : wpAnyLQ P md ops C n (fun l a => Ls l ∧ a = aE) f (listed.setIfInBounds i true) (a.put oi.dst v)) : a.put oi.dst v = a.put oi.dst (slotOf aE oi) := by
  unfold slotOf
  cases hd : oi.dst with
  | none => rfl
  | some d =>
    rw [hd] at h
    obtain ⟨k1, k2⟩ := keep_slot d f _ _ h fun k ok hk hl => by
      by_cases hik : i = k
      · subst hik
        exfalso
        rcases Nat.lt_or_ge i listed.size with h' | h'
        · simp [h'] at hl
        · simp [Array.getElem?_eq_none h'] at hl
      · exact oneSlot_spec h1 hi hk hik hd
    by_cases hlt : d < a.tmps.size
    · have : aE.tmps.getD d undef = v := by rw [k1]; simp [Act.put, hlt]
      simp only [this]
    · simp [Act.put, Array.setIfInBounds, hlt]

/-- All that the head must be for this: it does not look at the making's slot. -/
def blindTo (ops : Array Oper) (n : Nat) : Bool := match ops[n]? with
  | none => false
  | some o => o.after.isEmpty && o.guard.isNone && (match o.dst with
    | none => false
    | some d => (List.range n).all fun j => match ops[j]? with
      | some oj => !(oj.looksAt ops).contains d && oj.dst != some d
      | none => true)

variable {W : World}
def ClsT (W : World) (T : After W) (w : World) : Prop := ∃ x : After T.w, w = x.w

theorem sim2 {n G : Nat} {on : Oper} {d : Tmp} {aE : Act} {tail : List Oper} {Q' : Exit → Act → World → Prop} {T : After W} (g : Nat) (hsel : Region.noSelect ops = true)
    (hon : ops[n]? = some on) (hdn : on.dst = some d) (hblind : ∀ j oj, ops[j]? = some oj → j < n → d ∉ oj.looksAt ops ∧ oj.dst ≠ some d)
    (htl : ∀ j, tail[j]? = ops[n + 1 + j]?) (hG : tail.length = G)
    (hK : ∀ w, ClsT W T w → wpList P ops Q' tail (aE.put (some d) (.pointer (some ⟨g, 0, none⟩))) w) :
    ∀ (f : Nat) (listed : Array Bool) (a : Act) (w : World), listed.getD n true = true → ClsT W T w →
      wpAnyLQ P md (strike ops n) (ClsT W T) (n + 1) (fun l a => Region.seqB md (strike ops n) G (n + 1) l = true ∧ a = aE) f listed a →
      wpAny P md ops Q' (f + G) listed (a.put (some d) (.pointer (some ⟨g, 0, none⟩))) w
  | 0, listed, a, w, hl, hw, h => by
    obtain ⟨h1, rfl⟩ := h
    rw [strike_seqB] at h1
    rw [Nat.zero_add, ← hG]
    exact wpAny_of_seq tail (n + 1) listed _ w htl (by rw [hG]; exact h1) (hK w hw)
  | f + 1, listed, a, w, hl, hw, h => by
    obtain ⟨hne, hall⟩ := h
    rw [strike_ready] at hne hall
    rw [show f + 1 + G = (f + G) + 1 by omega]
    refine ⟨fun h0 => absurd h0 hne, fun j hj => ?_⟩
    obtain ⟨hjn, hq⟩ := hall j hj
    have hjne : j ≠ n := by
      rintro rfl
      obtain ⟨hun, _⟩ := mem_ready.1 hj
      rw [hun] at hl; cases hl
    obtain ⟨hun, oj, hoj, _⟩ := mem_ready.1 hj
    have hoj' : (strike ops n)[j]? = some oj := by rw [strike_ne hjne]; exact hoj
    obtain ⟨v, hy, hK'⟩ := yieldsIn_of_qOp hoj' hq
    obtain ⟨b1, b2⟩ := hblind j oj hoj (by omega)
    have hlook : ∀ e, some d = some e → e ∉ oj.looksAt ops := fun e he => by cases he; exact b1
    have hy2 : YieldsIn P ops (ClsT W T) oj v (a.put (some d) (.pointer (some ⟨g, 0, none⟩))) :=
      (strike_yields hy).of_same (execOp_put oj (fun cs b => Region.noSelect_spec hsel j oj cs b hoj) a (some d) _ hlook) (wanted_put oj a (some d) _ hlook)
    have hcomm : (a.put (some d) (.pointer (some ⟨g, 0, none⟩))).put oj.dst v = (a.put oj.dst v).put (some d) (.pointer (some ⟨g, 0, none⟩)) :=
      Act.put_comm a _ v fun e he => by cases he; exact b2
    refine wpOp_of_qOp (C := ClsT W T) hw (fun a' w' hw' (h : a' = (a.put oj.dst v).put (some d) (.pointer (some ⟨g, 0, none⟩))) => ?_) (hy2.qOp hoj hcomm)
    subst h
    refine sim2 g hsel hon hdn hblind htl hG hK f _ _ w' ?_ hw' hK'
    by_cases hnl : n < listed.size
    · rw [getD_set_ne true hjne]; exact hl
    · rw [getD_set_ne true hjne]; exact hl
variable {ty : TypeId} {cs : Array Value} {z : Value}
theorem sim1 {n G : Nat} {on : Oper} {d : Tmp} {aE : Act} {tail : List Oper} {Q' : Exit → Act → World → Prop} (hsel : Region.noSelect ops = true)
    (hon : ops[n]? = some on) (hdn : on.dst = some d) (hop : on.op = .alloc ty) (hgn : on.guard = none) (haf : on.after.toList = []) (hz : (P.info? ty).map (·.zero) = some (some z)) (hcs : z.cells = cs)
    (hblind : ∀ j oj, ops[j]? = some oj → j < n → d ∉ oj.looksAt ops ∧ oj.dst ≠ some d) (hone : oneSlot (strike ops n) = true)
    (htl : ∀ j, tail[j]? = ops[n + 1 + j]?) (hG : tail.length = G)
    (hK : ∀ g (x : After W), W.heap.size ≤ g → Blk x.w g ty cs → ∀ w, ClsT W x w → wpList P ops Q' tail (aE.put (some d) (.pointer (some ⟨g, 0, none⟩))) w) :
    ∀ (f : Nat) (listed : Array Bool) (a : Act) (w : World), listed.getD n true = false → Below W.heap.size W w →
      (∀ T, wpAnyLQ P md (strike ops n) (ClsT W T) (n + 1) (fun l a => Region.seqB md (strike ops n) G (n + 1) l = true ∧ a = aE) f listed a) →
      wpAny P md ops Q' (f + G) listed a w
  | 0, listed, a, w, hl, hw, h => by
    have hn : n ∈ Region.ready md (strike ops n) listed := by
      rw [strike_ready]
      exact mem_ready.2 ⟨hl, on, hon, fun e he => by have : e ∈ on.after.toList := Array.mem_toList_iff.2 he; rw [haf] at this; cases this⟩
    have := seqB_ready (h ⟨W, Below.refl _ _⟩).1 n hn
    omega
  | f + 1, listed, a, w, hl, hw, h => by
    have hne := (h ⟨W, Below.refl _ _⟩).1
    rw [strike_ready] at hne
    rw [show f + 1 + G = (f + G) + 1 by omega]
    refine ⟨fun h0 => absurd h0 hne, fun j hj => ?_⟩
    have hj' : j ∈ Region.ready md (strike ops n) listed := by rw [strike_ready]; exact hj
    have hnl : n < listed.size := by
      rcases Nat.lt_or_ge n listed.size with h' | h'
      · exact h'
      · simp [Array.getElem?_eq_none h'] at hl
    by_cases hjne : j = n
    · subst hjne
      obtain ⟨_, hq⟩ := (h ⟨w.alloc (.cells cs ty), hw.trans ((bel_alloc (Below.refl _ _) _).mono hw.size)⟩).2 j hj'
      obtain ⟨v, _, hK'⟩ := yieldsIn_of_qOp (o := { on with op := .move (.const undef) }) (by rw [strike_get, if_pos rfl, hon]; rfl) hq
      unfold wpOp
      simp only [hon]
      rw [if_pos (by unfold Region.wanted; rw [hgn])]
      left
      unfold Oper.wp
      rw [run_alloc_blk ty z hz _ _ hop, Oper.upon_value, hcs]
      have hput : (a.put on.dst v).put (some d) (.pointer (some ⟨w.heap.size, 0, none⟩)) = a.put on.dst (.pointer (some ⟨w.heap.size, 0, none⟩)) := by
        rw [hdn]; simp [Act.put, Array.setIfInBounds_setIfInBounds]
      rw [← hput]
      refine sim2 w.heap.size hsel hon hdn hblind htl hG (hK w.heap.size ⟨w.alloc (.cells cs ty), _⟩ hw.size (Blk.new _ _ _)) f _ _ _ ?_ ⟨⟨_, Below.refl _ _⟩, rfl⟩ hK'
      simp [hnl]
    · obtain ⟨hun, oj, hoj, _⟩ := mem_ready.1 hj
      have hoj' : (strike ops n)[j]? = some oj := by rw [strike_ne hjne]; exact hoj
      obtain ⟨_, hq⟩ := (h ⟨w, hw⟩).2 j hj'
      obtain ⟨v, hy, hK0⟩ := yieldsIn_of_qOp hoj' hq
      have e0 := put_slot hone hoj' hK0
      have hall : ∀ T, wpAnyLQ P md (strike ops n) (ClsT W T) (n + 1) (fun l a => Region.seqB md (strike ops n) G (n + 1) l = true ∧ a = aE) f (listed.setIfInBounds j true) (a.put oj.dst v) := fun T => by
        obtain ⟨_, hqT⟩ := (h T).2 j hj'
        obtain ⟨vT, _, hKT⟩ := yieldsIn_of_qOp hoj' hqT
        rw [e0, ← put_slot hone hoj' hKT]; exact hKT
      refine wpOp_of_qOp (C := ClsT W ⟨w, hw⟩) ⟨⟨w, Below.refl _ _⟩, rfl⟩ (fun a' w' hw' (h : a' = a.put oj.dst v) => ?_) ((strike_yields hy).qOp hoj rfl)
      subst h
      obtain ⟨x, rfl⟩ := hw'
      exact sim1 hsel hon hdn hop hgn haf hz hcs hblind hone htl hG hK f _ _ x.w (by rw [getD_set_ne true hjne]; exact hl) (hw.trans (x.h.mono hw.size)) hall

/-- The list with the making struck. -/
def strikeL : Nat → List Oper → List Oper
  | _, [] => []
  | 0, o :: l => { o with op := .move (.const undef) } :: l
  | n + 1, o :: l => o :: strikeL n l
theorem strikeL_get : ∀ (n : Nat) (l : List Oper) (j : Nat), (strikeL n l)[j]? = if n = j then (l[j]?).map fun o => { o with op := .move (.const undef) } else l[j]?
  | _, [], j => by cases j <;> simp [strikeL]
  | 0, o :: l, 0 => by simp [strikeL]
  | 0, o :: l, j + 1 => by simp [strikeL]
  | n + 1, o :: l, 0 => by simp [strikeL]
  | n + 1, o :: l, j + 1 => by
    have := strikeL_get n l j
    simpa [strikeL] using this
theorem strikeL_eq (n : Nat) (l : List Oper) : strike l.toArray n = (strikeL n l).toArray := by
  apply Array.ext_getElem?
  intro j
  rw [strike_get]
  simp only [List.getElem?_toArray]
  rw [strikeL_get]
theorem strikeL_length (n : Nat) (l : List Oper) : (strikeL n l).length = l.length := by
  have := strike_size l.toArray n
  rw [strikeL_eq] at this
  simpa using this

/-- THE REGION: a quiet head (n operations), a new variable of a type, made at whatever time, and a tail, one behind the other. -/
theorem wp_float_tail {id : Nat} {Q : Exit → Act → World → Prop} {a : Act} {w : World} {l : List Oper} (n : Nat) (ty : TypeId) (d : Tmp) (aE : Act) (hm : P.follows .mixedOrders = true)
    (hB : (Region.lexTailB .any (strikeL n l).toArray (n + 1) && oneSlot (strikeL n l).toArray && blindTo l.toArray n && Region.noSelect l.toArray) = true)
    (hon : ((l[n]?).map fun o => (o.op, o.dst)) = some (.alloc ty, some d)) (hz : (P.info? ty).map (·.zero) = some (some z)) (hcs : z.cells = cs)
    (hlex : ∀ T : After w, wpQuiet P (strikeL n l).toArray (fun w' => ∃ x : After T.w, w' = x.w) (fun a' => a' = aE) ((strikeL n l).take (n + 1)) a)
    (hK : ∀ (g : Nat) (x : After w), w.heap.size ≤ g → Blk x.w g ty cs → wpList P l.toArray Q (l.drop (n + 1)) (aE.put (some d) (.pointer (some ⟨g, 0, none⟩))) x.w) : (Code.region id l.toArray true).wp P Q a w := by
  simp only [Bool.and_eq_true] at hB
  obtain ⟨⟨⟨hB, hone⟩, hbl⟩, hsel⟩ := hB
  simp only [Region.lexTailB, Bool.and_eq_true, decide_eq_true_eq] at hB
  obtain ⟨⟨⟨⟨hsel', hn⟩, hs⟩, hc⟩, hlx⟩ := hB
  obtain ⟨on, hon', he⟩ := Option.map_eq_some_iff.1 hon
  simp only [Prod.mk.injEq] at he
  obtain ⟨hop, hdn⟩ := he
  have hon2 : l.toArray[n]? = some on := by simpa using hon'
  rw [← strikeL_eq] at hone
  unfold blindTo at hbl
  simp only [hon2, hdn, Bool.and_eq_true] at hbl
  obtain ⟨⟨haf, hgn⟩, hbl⟩ := hbl
  have hblind : ∀ j oj, l.toArray[j]? = some oj → j < n → d ∉ oj.looksAt l.toArray ∧ oj.dst ≠ some d := fun j oj hj hlt => by
    have := List.all_eq_true.1 hbl j (List.mem_range.2 hlt)
    simp only [hj, Bool.and_eq_true, Bool.not_eq_true', bne_iff_ne, ne_eq] at this
    exact ⟨by have h1 := this.1; simpa using h1, this.2⟩
  have hln : n < l.length := by
    have := (Array.getElem?_eq_some_iff.1 hon2).1
    simpa using this
  have hn' : n + 1 < l.length := by have := hn; simp [strikeL_length] at this; exact this
  have hsz : (strikeL n l).toArray.size = l.length := by simp [strikeL_length]
  have htk : ((strikeL n l).take (n + 1)).length = n + 1 := by simp [strikeL_length]; omega
  have inv0 : HeadInv .any (strikeL n l).toArray (n + 1) (Array.replicate (strikeL n l).toArray.size false) :=
    ⟨by simp, fun j oj _ hl => (by rw [getD_replicate_false] at hl; cases hl), fun t _ ht => getD_in (by simpa using ht) (getD_replicate_false _ _)⟩
  refine wp_region_any hm ?_
  have hd1 : ∀ T, wpAnyLQ P .any (strike l.toArray n) (ClsT w T) (n + 1) (fun l' a => Region.seqB .any (strike l.toArray n) (l.drop (n + 1)).length (n + 1) l' = true ∧ a = aE) (n + 1) (Array.replicate l.toArray.size false) a := fun T => by
    have := wpAnyLQ_lex (md := .any) (g := (strikeL n l).toArray.size - (n + 1)) hsel' hs hc hn ((strikeL n l).take (n + 1)) 0 _ a (fun j hj => by
      rw [htk] at hj
      simp [List.getElem?_take, hj]) (by rw [htk]; omega) inv0 (by rw [htk]; exact hlx) (hlex T)
    rw [htk, hsz] at this
    rw [strikeL_eq]
    have e : ClsT w T = fun w' => ∃ x : After T.w, w' = x.w := rfl
    rw [e]
    simpa using this
  have := sim1 (W := w) (md := .any) (G := (l.drop (n + 1)).length) hsel hon2 hdn hop (by simpa using hgn) (by simpa using haf) hz hcs hblind hone (tail := l.drop (n + 1)) (fun j => by simp [List.getElem?_drop]) rfl
    (fun g y hg hb w' hw' => by obtain ⟨x, rfl⟩ := hw'; exact hK g ⟨x.w, y.h.trans (x.h.mono y.h.size)⟩ hg (hb.after x)) (n + 1) _ a w.drew (getD_in (by simpa using hln) (getD_replicate_false _ _)) (Below.refl _ _).drew hd1
  rw [show n + 1 + (l.drop (n + 1)).length = l.toArray.size by simp; omega] at this
  exact this
end
end Go.Proofs.Ytgckgbonhbabpaa
