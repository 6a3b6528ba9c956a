/- A region whose order is drawn: a quiet head in a class of worlds, and a forced tail; small words for classes. No program. -/
import Derived.WalkKit
import Derived.WalkSpells
import Derived.WalkLawsBesides
import Derived.IntWalk
import Derived.Handy
import Derived.Lib.Hide
import Derived.BigQuiet
import Derived.Deep.QuietTactic
import Derived.StillTail
namespace Go.Proofs.Ytgckgbonhbabpaa
open Go Go.RowKit

section
variable {P : Program} {ops : Array Oper} {md : Region.Mode} {C : World → Prop}

theorem rq_mk {o : Oper} {a : Act} {next : Act → Prop} (v : Value) (h : ∀ w, C w → o.quietAt P a C w v) (hn : next (a.put o.dst v)) : o.quiet P a C next := ⟨v, h, hn⟩

def wpAnyLQ (P : Program) (md : Region.Mode) (ops : Array Oper) (C : World → Prop) (n : Nat) (L : Array Bool → Act → Prop) : Nat → Array Bool → Act → Prop
  | 0, listed, a => L listed a
  | f + 1, listed, a =>
    Region.ready md ops listed ≠ [] ∧ ∀ i ∈ Region.ready md ops listed, i < n ∧ qOp P ops C i (wpAnyLQ P md ops C n L f (listed.setIfInBounds i true)) a

theorem wpAny_of_headQ {n g : Nat} {L : Array Bool → Act → Prop} {Q' : Exit → Act → World → Prop} (hL : ∀ listed a w, C w → L listed a → wpAny P md ops Q' g listed a w) :
    ∀ (f : Nat) (listed : Array Bool) (a : Act) (w : World), C w → wpAnyLQ P md ops C n L f listed a → wpAny P md ops Q' (f + g) listed a w
  | 0, listed, a, w, hw, h => by rw [Nat.zero_add]; exact hL _ _ _ hw h
  | f + 1, listed, a, w, hw, h => by
    rw [show f + 1 + g = (f + g) + 1 by omega]
    exact ⟨fun h0 => absurd h0 h.1, fun i hi => wpOp_of_qOp hw (fun a' w' hw' h' => wpAny_of_headQ hL f _ a' w' hw' h') (h.2 i hi).2⟩

theorem wpAnyLQ_first {n i : Nat} {oi : Oper} {v : Value} {L : Array Bool → Act → Prop} (hi : ops[i]? = some oi) (hsel : ∀ (j : Nat) (o : Oper) cs b, ops[j]? = some o → o.op ≠ .select cs b)
    (hs : Region.sinkB md ops n = true) (hc : Region.chainB md ops n = true) (hn : n < ops.size) (hin : i < n)
    (hdone : ∀ listed a, L listed a → ∀ j ∈ Region.ready md ops listed, n ≤ j) :
    ∀ (f : Nat) (listed : Array Bool) (a : Act), HeadInv md ops n listed →
      (∀ j oj, ops[j]? = some oj → j ≠ i → listed.getD j true = false → (∀ e ∈ oj.after, Region.binds md e = true → e.on ≠ i) → oi.apart ops oj = true) →
      i ∈ Region.ready md ops listed → YieldsIn P ops C oi v a →
      wpAnyLQ P md ops C n L f (listed.setIfInBounds i true) (a.put oi.dst v) → wpAnyLQ P md ops C n L (f + 1) listed a := by
  intro f
  induction f with
  | zero =>
    intro listed a inv _ hr hy H
    have hun := (mem_ready.1 hr).1
    refine ⟨fun h => (by rw [h] at hr; cases hr), fun j hj => ?_⟩
    have hjn : j < n := by
      rcases Nat.lt_or_ge j n with h | h
      · exact h
      · exact absurd hj (tail_waits hs hc hn inv _ i rfl hin hun j h)
    refine ⟨hjn, ?_⟩
    by_cases hji : j = i
    · subst hji; exact hy.qOp hi H
    · have := hdone _ _ H j (ready_mono hj hji)
      omega
  | succ f ih =>
    intro listed a inv hfree hr hy H
    have hun := (mem_ready.1 hr).1
    refine ⟨fun h => (by rw [h] at hr; cases hr), fun j hj => ?_⟩
    have hjn : j < n := by
      rcases Nat.lt_or_ge j n with h | h
      · exact h
      · exact absurd hj (tail_waits hs hc hn inv _ i rfl hin hun j h)
    refine ⟨hjn, ?_⟩
    by_cases hji : j = i
    · subst hji; exact hy.qOp hi H
    · have h1 := (H.2 j (ready_mono hj hji)).2
      obtain ⟨hjun, oj, hoj, hall⟩ := mem_ready.1 hj
      have hnot : ∀ e ∈ oj.after, Region.binds md e = true → e.on ≠ i := fun e he hb heq => by
        have h1 := hall e he hb
        rw [heq, getD_both hun] at h1
        cases h1
      have h2 := qOp_put hoj (hfree j oj hoj hji hjun hnot) (fun cs b => hsel i oi cs b hi) (fun cs b => hsel j oj cs b hoj) hy h1
      have hfree' : ∀ k ok, ops[k]? = some ok → k ≠ i → (listed.setIfInBounds j true).getD k true = false →
          (∀ e ∈ ok.after, Region.binds md e = true → e.on ≠ i) → oi.apart ops ok = true := fun k ok hk hki hun hno => by
        refine hfree k ok hk hki ?_ hno
        by_cases hjk : j = k
        · subst hjk; exact hjun
        · rw [getD_set_ne true hjk] at hun; exact hun
      refine qOp_mono (fun a' h3 => ih (listed.setIfInBounds j true) a' (inv.set hj hjn) hfree' (ready_mono hr (Ne.symm hji)) h3.1 ?_) h2
      rw [Array.setIfInBounds_comm _ _ hji]
      exact h3.2

theorem wpAnyLQ_lex {n g : Nat} {Lq : Act → Prop} (hsel : Region.noSelect ops = true) (hs : Region.sinkB md ops n = true) (hc : Region.chainB md ops n = true) (hn : n < ops.size) :
    ∀ (l : List Oper) (k : Nat) (listed : Array Bool) (a : Act), (∀ j, j < l.length → l[j]? = ops[k + j]?) → k + l.length = n → HeadInv md ops n listed →
    Region.lexHead md ops g l.length k listed = true → wpQuiet P ops C Lq l a →
    wpAnyLQ P md ops C n (fun listed' a' => Region.seqB md ops g n listed' = true ∧ Lq a') l.length listed a
  | [], k, listed, a, _, hk, _, hB, h => by
    have : k = n := by simpa using hk
    subst this
    exact ⟨by simpa [Region.lexHead] using hB, h⟩
  | o :: l, k, listed, a, hl, hk, inv, hB, h => by
    have h0 : ops[k]? = some o := by simpa using (hl 0 (by simp)).symm
    simp only [List.length_cons, Region.lexHead, Bool.and_eq_true] at hB
    obtain ⟨⟨hr, hf⟩, hB'⟩ := hB
    have hkn : k < n := by simp only [List.length_cons] at hk; omega
    have hr' : k ∈ Region.ready md ops listed := by simpa using hr
    have hst : qOp P ops C k (wpQuiet P ops C Lq l) a := by unfold qOp; simp only [h0]; exact h
    obtain ⟨v, hy, hK⟩ := yieldsIn_of_qOp h0 hst
    exact wpAnyLQ_first h0 (Region.noSelect_spec hsel) hs hc hn hkn (fun listed' a' hL => seqB_ready hL.1) l.length listed a inv (Region.free_spec h0 hf) hr' hy
      (wpAnyLQ_lex hsel hs hc hn l (k + 1) _ _ (fun j hj => by have := hl (j + 1) (by simp; omega); simpa [Nat.add_assoc, Nat.add_comm 1 j] using this) (by simp only [List.length_cons] at hk; omega) (inv.set hr' hkn) hB' hK)

/-- The head (n operations) is quiet in C; behind it the tail, one behind the other, from whatever world of C. -/
theorem wp_quiet_tail {id : Nat} {Q : Exit → Act → World → Prop} {a : Act} {w : World} {l : List Oper} (n : Nat) (hm : P.follows .mixedOrders = true) (hB : Region.lexTailB .any l.toArray n = true) (hC : C w.drew)
    (h : wpQuiet P l.toArray C (fun a' => ∀ w', C w' → wpList P l.toArray Q (l.drop n) a' w') (l.take n) a) : (Code.region id l.toArray true).wp P Q a w := by
  simp only [Region.lexTailB, Bool.and_eq_true, decide_eq_true_eq] at hB
  obtain ⟨⟨⟨⟨hsel, hn⟩, hs⟩, hc⟩, hlex⟩ := hB
  have hn' : n < l.length := by simpa using hn
  have htl : (l.take n).length = n := by simp; omega
  have hdl : (l.drop n).length = l.toArray.size - n := by simp
  have inv0 : HeadInv .any l.toArray n (Array.replicate l.toArray.size false) :=
    ⟨by simp, fun j oj _ hl => (by rw [getD_replicate_false] at hl; cases hl), fun t _ ht => getD_in (by simpa using ht) (getD_replicate_false _ _)⟩
  have H := wpAnyLQ_lex (md := .any) (g := l.toArray.size - n) hsel hs hc hn (l.take n) 0 _ a (fun j hj => by
    have hj' : j < n := by rw [htl] at hj; exact hj
    simp [hj']) (by simpa using htl) inv0 (by rw [htl]; exact hlex) h
  refine wp_region_any hm ?_
  have := wpAny_of_headQ (Q' := Q) (g := l.toArray.size - n) (fun listed a' w' hw' hL => by
    have := wpAny_of_seq (md := .any) (Q' := Q) (l.drop n) n listed a' w' (fun j => by simp [List.getElem?_drop]) (by rw [hdl]; exact hL.1) (hL.2 w' hw')
    rwa [hdl] at this) _ _ _ _ hC H
  rw [htl, show n + (l.toArray.size - n) = l.toArray.size by omega] at this
  exact this

/-- All of it is quiet in C. -/
theorem wp_quiet_all {id : Nat} {Q : Exit → Act → World → Prop} {a : Act} {w : World} {l : List Oper} (hm : P.follows .mixedOrders = true) (hB : Region.lexB .any l.toArray = true) (hC : C w.drew)
    (h : wpQuiet P l.toArray C (fun a' => ∀ w', C w' → Q .normal a' w') l a) : (Code.region id l.toArray true).wp P Q a w :=
  wp_region_quiet hm hB hC (by simpa using h)
end

/-- A world in which nothing that W had has turned. -/
structure After (W : World) where
  w : World
  h : Below W.heap.size W w
instance afterNonempty (W : World) : Nonempty (After W) := ⟨⟨W, Below.refl _ _⟩⟩
theorem after_cell {W : World} (x : After W) (b o : Nat) (h : b < W.heap.size) : x.w.cell? ⟨b, o, none⟩ = W.cell? ⟨b, o, none⟩ := x.h.cell (p := ⟨b, o, none⟩) h
theorem after_frozen {W : World} (x : After W) (b o : Nat) (h : b < W.heap.size) : x.w.frozen? ⟨b, o, none⟩ = W.frozen? ⟨b, o, none⟩ := x.h.frozen (p := ⟨b, o, none⟩) h
theorem after_lt {W : World} (x : After W) (b : Nat) (h : b < W.heap.size) : (b < x.w.heap.size) = True := eq_true (Nat.lt_of_lt_of_le h x.h.size)
theorem after_size {W : World} (x : After W) : W.heap.size ≤ x.w.heap.size := x.h.size
/-- The class of the worlds behind W. -/
def Since (W w : World) : Prop := ∃ x : After W, w = x.w
theorem since_drew (W : World) : ∃ x : After W, W.drew = x.w := ⟨⟨W.drew, (Below.refl _ _).drew⟩, rfl⟩
theorem after_of {W w' : World} (h : Below W.heap.size W w') : ∃ x : After W, w' = x.w := ⟨⟨w', h⟩, rfl⟩
theorem after_step {W w' : World} (x : After W) (h : Below x.w.heap.size x.w w') : ∃ y : After W, w' = y.w := ⟨⟨w', x.h.trans (h.mono x.h.size)⟩, rfl⟩
/-- A contract inside a region that draws. -/
theorem after_call {P : Program} {f : FuncId} {args : Array Value} {W : World} (x : After W) {v : Value}
    (h : Calls P f args x.w fun e w' => e = .returned v ∧ Below x.w.heap.size x.w w') : Calls P f args x.w fun e w' => e = .returned v ∧ ∃ y : After W, w' = y.w :=
  h.mono fun _ _ ⟨he, hb⟩ => ⟨he, after_step x hb⟩
theorem after_call_same {P : Program} {f : FuncId} {args : Array Value} {W : World} (x : After W) {v : Value}
    (h : Calls P f args x.w fun e w' => e = .returned v ∧ x.w = w') : Calls P f args x.w fun e w' => e = .returned v ∧ ∃ y : After W, w' = y.w :=
  h.mono fun _ _ ⟨he, hb⟩ => ⟨he, x, hb.symm⟩

/-! Below, put together. -/
theorem bel_alloc {w W : World} (h : Below w.heap.size w W) (o : Obj) : Below w.heap.size w (W.alloc o) := h.alloc h.size o
theorem bel_drew {B : Nat} {w W : World} (h : Below B w W) : Below B w W.drew := h.drew
theorem bel_drewN {B : Nat} {w W : World} (h : Below B w W) (n : Nat) : Below B w (W.drewN n) := ⟨h.os, h.tape, h.output, h.size, h.block⟩
theorem bel_set {w W : World} (h : Below w.heap.size w W) {p : Addr} (hp : w.heap.size ≤ p.block) (u : Value) : Below w.heap.size w (W.setCell p u) := h.setCell hp u
theorem bel_step {w W W' : World} (h : Below w.heap.size w W) (k : Below W.heap.size W W') : Below w.heap.size w W' := h.trans (k.mono h.size)
theorem bel_after {w W : World} (x : After W) (h : Below w.heap.size w W) : Below w.heap.size w x.w := bel_step h x.h
theorem sz_facts (a : Nat) : a < a + 1 + 1 ∧ a < a + 1 + 1 + 1 ∧ a < a + 1 + 1 + 1 + 1 ∧ a < a + 1 + 1 + 1 + 1 + 1 ∧ a < a + 1 + 1 + 1 + 1 + 1 + 1 ∧ a < a + 1 + 1 + 1 + 1 + 1 + 1 + 1 ∧ a + 1 < a + 1 + 1 + 1 ∧ a + 1 < a + 1 + 1 + 1 + 1 ∧ a + 1 < a + 1 + 1 + 1 + 1 + 1 ∧ a + 1 < a + 1 + 1 + 1 + 1 + 1 + 1 ∧ a + 1 < a + 1 + 1 + 1 + 1 + 1 + 1 + 1 ∧ a + 1 + 1 < a + 1 + 1 + 1 + 1 ∧ a + 1 + 1 < a + 1 + 1 + 1 + 1 + 1 ∧ a + 1 + 1 < a + 1 + 1 + 1 + 1 + 1 + 1 ∧ a + 1 + 1 < a + 1 + 1 + 1 + 1 + 1 + 1 + 1 ∧ a + 1 + 1 + 1 < a + 1 + 1 + 1 + 1 + 1 ∧ a + 1 + 1 + 1 < a + 1 + 1 + 1 + 1 + 1 + 1 ∧ a + 1 + 1 + 1 < a + 1 + 1 + 1 + 1 + 1 + 1 + 1 ∧ a + 1 + 1 + 1 + 1 < a + 1 + 1 + 1 + 1 + 1 + 1 ∧ a + 1 + 1 + 1 + 1 < a + 1 + 1 + 1 + 1 + 1 + 1 + 1 ∧ a + 1 + 1 + 1 + 1 + 1 < a + 1 + 1 + 1 + 1 + 1 + 1 + 1 := by omega
theorem szf1 {a b : Nat} (h : a + 1 ≤ b) : (a < b) = True ∧ (a < b + 1) = True ∧ (a < b + 1 + 1) = True := by simp only [eq_iff_iff, iff_true]; omega
theorem szf2 {a b : Nat} (h : a + 2 ≤ b) : (a < b) = True ∧ (a < b + 1) = True ∧ (a < b + 1 + 1) = True ∧ (a + 1 < b) = True ∧ (a + 1 < b + 1) = True ∧ (a + 1 < b + 1 + 1) = True := by simp only [eq_iff_iff, iff_true]; omega
theorem szf3 {a b : Nat} (h : a + 3 ≤ b) : (a < b) = True ∧ (a < b + 1) = True ∧ (a < b + 1 + 1) = True ∧ (a + 1 < b) = True ∧ (a + 1 < b + 1) = True ∧ (a + 1 < b + 1 + 1) = True ∧ (a + 1 + 1 < b) = True ∧ (a + 1 + 1 < b + 1) = True ∧ (a + 1 + 1 < b + 1 + 1) = True := by simp only [eq_iff_iff, iff_true]; omega
theorem szf4 {a b : Nat} (h : a + 4 ≤ b) : (a < b) = True ∧ (a < b + 1) = True ∧ (a < b + 1 + 1) = True ∧ (a + 1 < b) = True ∧ (a + 1 < b + 1) = True ∧ (a + 1 < b + 1 + 1) = True ∧ (a + 1 + 1 < b) = True ∧ (a + 1 + 1 < b + 1) = True ∧ (a + 1 + 1 < b + 1 + 1) = True ∧ (a + 1 + 1 + 1 < b) = True ∧ (a + 1 + 1 + 1 < b + 1) = True ∧ (a + 1 + 1 + 1 < b + 1 + 1) = True := by simp only [eq_iff_iff, iff_true]; omega
theorem szf5 {a b : Nat} (h : a + 5 ≤ b) : (a < b) = True ∧ (a < b + 1) = True ∧ (a < b + 1 + 1) = True ∧ (a + 1 < b) = True ∧ (a + 1 < b + 1) = True ∧ (a + 1 < b + 1 + 1) = True ∧ (a + 1 + 1 < b) = True ∧ (a + 1 + 1 < b + 1) = True ∧ (a + 1 + 1 < b + 1 + 1) = True ∧ (a + 1 + 1 + 1 < b) = True ∧ (a + 1 + 1 + 1 < b + 1) = True ∧ (a + 1 + 1 + 1 < b + 1 + 1) = True ∧ (a + 1 + 1 + 1 + 1 < b) = True ∧ (a + 1 + 1 + 1 + 1 < b + 1) = True ∧ (a + 1 + 1 + 1 + 1 < b + 1 + 1) = True := by simp only [eq_iff_iff, iff_true]; omega
theorem szf6 {a b : Nat} (h : a + 6 ≤ b) : (a < b) = True ∧ (a < b + 1) = True ∧ (a < b + 1 + 1) = True ∧ (a + 1 < b) = True ∧ (a + 1 < b + 1) = True ∧ (a + 1 < b + 1 + 1) = True ∧ (a + 1 + 1 < b) = True ∧ (a + 1 + 1 < b + 1) = True ∧ (a + 1 + 1 < b + 1 + 1) = True ∧ (a + 1 + 1 + 1 < b) = True ∧ (a + 1 + 1 + 1 < b + 1) = True ∧ (a + 1 + 1 + 1 < b + 1 + 1) = True ∧ (a + 1 + 1 + 1 + 1 < b) = True ∧ (a + 1 + 1 + 1 + 1 < b + 1) = True ∧ (a + 1 + 1 + 1 + 1 < b + 1 + 1) = True ∧ (a + 1 + 1 + 1 + 1 + 1 < b) = True ∧ (a + 1 + 1 + 1 + 1 + 1 < b + 1) = True ∧ (a + 1 + 1 + 1 + 1 + 1 < b + 1 + 1) = True := by simp only [eq_iff_iff, iff_true]; omega
theorem size_lt_alloc (w : World) (o : Obj) : w.heap.size < (w.alloc o).heap.size := by simp
theorem ret_eq {v v' : Value} (h : v = v') : Ending.returned v = .returned v' := by rw [h]
theorem ret_int {k : IntKind} {a b : Int} (h : a = b) : Ending.returned (.int k a) = .returned (.int k b) := by rw [h]
theorem ret_bool {a b : Bool} (h : a = b) : Ending.returned (.bool a) = .returned (.bool b) := by rw [h]

end Go.Proofs.Ytgckgbonhbabpaa
