/- A region whose order is drawn: a quiet head in a class of worlds, and a forced tail; small words for classes. No program. -/
import Derived.WalkKit
import Derived.WalkSpells
import Derived.WalkLawsBesides
import Derived.IntWalk
import Derived.Handy
import Derived.Lib.Hide
import Derived.BigQuiet
import Derived.Deep.QuietTactic
import Derived.StillTail
import Derived.Test.YtolbmemogoojhaaGreatProg
import Derived.Deep.AppendSrc
import Derived.Deep.OwnRows
import Derived.Lib.AppendStr
import Derived.Lib.ConvBytes
import Derived.Laws.OwnMore
import Derived.Laws.BytesArg
import Derived.Lib.Strings
namespace Go.Proofs.YtolbmemogoojhaaGreat
theorem mH {α : Type _} {a : α} {l : List α} : a ∈ a :: l := List.mem_cons_self
theorem mT {α : Type _} (y : α) {a : α} {l : List α} : a ∈ l → a ∈ y :: l := List.mem_cons_of_mem y
open Go Go.RowKit

section
variable {P : Program} {ops : Array Oper} {md : Region.Mode} {C : World → Prop}

def wpAnyLQ (P : Program) (md : Region.Mode) (ops : Array Oper) (C : World → Prop) (n : Nat) (L : Array Bool → Act → Prop) : Nat → Array Bool → Act → Prop
  | 0, listed, a => L listed a
  | f + 1, listed, a =>
    Region.ready md ops listed ≠ [] ∧ ∀ i ∈ Region.ready md ops listed, i < n ∧ qOp P ops C i (wpAnyLQ P md ops C n L f (listed.setIfInBounds i true)) a

theorem wpAny_of_headQ {n g : Nat} {L : Array Bool → Act → Prop} {Q' : Exit → Act → World → Prop} (hL : ∀ listed a w, C w → L listed a → wpAny P md ops Q' g listed a w) :
    ∀ (f : Nat) (listed : Array Bool) (a : Act) (w : World), C w → wpAnyLQ P md ops C n L f listed a → wpAny P md ops Q' (f + g) listed a w
  | 0, listed, a, w, hw, h => by rw [Nat.zero_add]; exact hL _ _ _ hw h
  | f + 1, listed, a, w, hw, h => by
    rw [show f + 1 + g = (f + g) + 1 by omega]
    exact ⟨fun h0 => absurd h0 h.1, fun i hi => wpOp_of_qOp hw (fun a' w' hw' h' => wpAny_of_headQ hL f _ a' w' hw' h') (h.2 i hi).2⟩

theorem wpAnyLQ_first {n i : Nat} {oi : Oper} {v : Value} {L : Array Bool → Act → Prop} (hi : ops[i]? = some oi) (hsel : ∀ (j : Nat) (o : Oper) cs b, ops[j]? = some o → o.op ≠ .select cs b)
    (hs : Region.sinkB md ops n = true) (hc : Region.chainB md ops n = true) (hn : n < ops.size) (hin : i < n)
    (hdone : ∀ listed a, L listed a → ∀ j ∈ Region.ready md ops listed, n ≤ j) :
    ∀ (f : Nat) (listed : Array Bool) (a : Act), HeadInv md ops n listed →
      (∀ j oj, ops[j]? = some oj → j ≠ i → listed.getD j true = false → (∀ e ∈ oj.after, Region.binds md e = true → e.on ≠ i) → oi.apart ops oj = true) →
      i ∈ Region.ready md ops listed → YieldsIn P ops C oi v a →
      wpAnyLQ P md ops C n L f (listed.setIfInBounds i true) (a.put oi.dst v) → wpAnyLQ P md ops C n L (f + 1) listed a := by
  intro f
  induction f with
  | zero =>
    intro listed a inv _ hr hy H
    have hun := (mem_ready.1 hr).1
    refine ⟨fun h => (by rw [h] at hr; cases hr), fun j hj => ?_⟩
    have hjn : j < n := by
      rcases Nat.lt_or_ge j n with h | h
      · exact h
      · exact absurd hj (tail_waits hs hc hn inv _ i rfl hin hun j h)
    refine ⟨hjn, ?_⟩
    by_cases hji : j = i
    · subst hji; exact hy.qOp hi H
    · have := hdone _ _ H j (ready_mono hj hji)
      omega
  | succ f ih =>
    intro listed a inv hfree hr hy H
    have hun := (mem_ready.1 hr).1
    refine ⟨fun h => (by rw [h] at hr; cases hr), fun j hj => ?_⟩
    have hjn : j < n := by
      rcases Nat.lt_or_ge j n with h | h
      · exact h
      · exact absurd hj (tail_waits hs hc hn inv _ i rfl hin hun j h)
    refine ⟨hjn, ?_⟩
    by_cases hji : j = i
    · subst hji; exact hy.qOp hi H
    · have h1 := (H.2 j (ready_mono hj hji)).2
      obtain ⟨hjun, oj, hoj, hall⟩ := mem_ready.1 hj
      have hnot : ∀ e ∈ oj.after, Region.binds md e = true → e.on ≠ i := fun e he hb heq => by
        have h1 := hall e he hb
        rw [heq, getD_both hun] at h1
        cases h1
      have h2 := qOp_put hoj (hfree j oj hoj hji hjun hnot) (fun cs b => hsel i oi cs b hi) (fun cs b => hsel j oj cs b hoj) hy h1
      have hfree' : ∀ k ok, ops[k]? = some ok → k ≠ i → (listed.setIfInBounds j true).getD k true = false →
          (∀ e ∈ ok.after, Region.binds md e = true → e.on ≠ i) → oi.apart ops ok = true := fun k ok hk hki hun hno => by
        refine hfree k ok hk hki ?_ hno
        by_cases hjk : j = k
        · subst hjk; exact hjun
        · rw [getD_set_ne true hjk] at hun; exact hun
      refine qOp_mono (fun a' h3 => ih (listed.setIfInBounds j true) a' (inv.set hj hjn) hfree' (ready_mono hr (Ne.symm hji)) h3.1 ?_) h2
      rw [Array.setIfInBounds_comm _ _ hji]
      exact h3.2

theorem wpAnyLQ_lex {n g : Nat} {Lq : Act → Prop} (hsel : Region.noSelect ops = true) (hs : Region.sinkB md ops n = true) (hc : Region.chainB md ops n = true) (hn : n < ops.size) :
    ∀ (l : List Oper) (k : Nat) (listed : Array Bool) (a : Act), (∀ j, j < l.length → l[j]? = ops[k + j]?) → k + l.length = n → HeadInv md ops n listed →
    Region.lexHead md ops g l.length k listed = true → wpQuiet P ops C Lq l a →
    wpAnyLQ P md ops C n (fun listed' a' => Region.seqB md ops g n listed' = true ∧ Lq a') l.length listed a
  | [], k, listed, a, _, hk, _, hB, h => by
    have : k = n := by simpa using hk
    subst this
    exact ⟨by simpa [Region.lexHead] using hB, h⟩
  | o :: l, k, listed, a, hl, hk, inv, hB, h => by
    have h0 : ops[k]? = some o := by simpa using (hl 0 (by simp)).symm
    simp only [List.length_cons, Region.lexHead, Bool.and_eq_true] at hB
    obtain ⟨⟨hr, hf⟩, hB'⟩ := hB
    have hkn : k < n := by simp only [List.length_cons] at hk; omega
    have hr' : k ∈ Region.ready md ops listed := by simpa using hr
    have hst : qOp P ops C k (wpQuiet P ops C Lq l) a := by unfold qOp; simp only [h0]; exact h
    obtain ⟨v, hy, hK⟩ := yieldsIn_of_qOp h0 hst
    exact wpAnyLQ_first h0 (Region.noSelect_spec hsel) hs hc hn hkn (fun listed' a' hL => seqB_ready hL.1) l.length listed a inv (Region.free_spec h0 hf) hr' hy
      (wpAnyLQ_lex hsel hs hc hn l (k + 1) _ _ (fun j hj => by have := hl (j + 1) (by simp; omega); simpa [Nat.add_assoc, Nat.add_comm 1 j] using this) (by simp only [List.length_cons] at hk; omega) (inv.set hr' hkn) hB' hK)

/-- The head (n operations) is quiet in C; behind it the tail, one behind the other, from whatever world of C. -/
theorem wp_quiet_tail {id : Nat} {Q : Exit → Act → World → Prop} {a : Act} {w : World} {l : List Oper} (n : Nat) (hm : P.follows .mixedOrders = true) (hB : Region.lexTailB .any l.toArray n = true) (hC : C w.drew)
    (h : wpQuiet P l.toArray C (fun a' => ∀ w', C w' → wpList P l.toArray Q (l.drop n) a' w') (l.take n) a) : (Code.region id l.toArray true).wp P Q a w := by
  simp only [Region.lexTailB, Bool.and_eq_true, decide_eq_true_eq] at hB
  obtain ⟨⟨⟨⟨hsel, hn⟩, hs⟩, hc⟩, hlex⟩ := hB
  have hn' : n < l.length := by simpa using hn
  have htl : (l.take n).length = n := by simp; omega
  have hdl : (l.drop n).length = l.toArray.size - n := by simp
  have inv0 : HeadInv .any l.toArray n (Array.replicate l.toArray.size false) :=
    ⟨by simp, fun j oj _ hl => (by rw [getD_replicate_false] at hl; cases hl), fun t _ ht => getD_in (by simpa using ht) (getD_replicate_false _ _)⟩
  have H := wpAnyLQ_lex (md := .any) (g := l.toArray.size - n) hsel hs hc hn (l.take n) 0 _ a (fun j hj => by
    have hj' : j < n := by rw [htl] at hj; exact hj
    simp [hj']) (by simpa using htl) inv0 (by rw [htl]; exact hlex) h
  refine wp_region_any hm ?_
  have := wpAny_of_headQ (Q' := Q) (g := l.toArray.size - n) (fun listed a' w' hw' hL => by
    have := wpAny_of_seq (md := .any) (Q' := Q) (l.drop n) n listed a' w' (fun j => by simp [List.getElem?_drop]) (by rw [hdl]; exact hL.1) (hL.2 w' hw')
    rwa [hdl] at this) _ _ _ _ hC H
  rw [htl, show n + (l.toArray.size - n) = l.toArray.size by omega] at this
  exact this

/-- All of it is quiet in C. -/
theorem wp_quiet_all {id : Nat} {Q : Exit → Act → World → Prop} {a : Act} {w : World} {l : List Oper} (hm : P.follows .mixedOrders = true) (hB : Region.lexB .any l.toArray = true) (hC : C w.drew)
    (h : wpQuiet P l.toArray C (fun a' => ∀ w', C w' → Q .normal a' w') l a) : (Code.region id l.toArray true).wp P Q a w :=
  wp_region_quiet hm hB hC (by simpa using h)
end

/-- A world in which nothing that W had has turned. -/
structure After (W : World) where
  w : World
  h : Below W.heap.size W w
instance afterNonempty (W : World) : Nonempty (After W) := ⟨⟨W, Below.refl _ _⟩⟩
theorem after_cell {W : World} (x : After W) (b o : Nat) (h : b < W.heap.size) : x.w.cell? ⟨b, o, none⟩ = W.cell? ⟨b, o, none⟩ := x.h.cell (p := ⟨b, o, none⟩) h
theorem after_frozen {W : World} (x : After W) (b o : Nat) (h : b < W.heap.size) : x.w.frozen? ⟨b, o, none⟩ = W.frozen? ⟨b, o, none⟩ := x.h.frozen (p := ⟨b, o, none⟩) h
theorem after_size {W : World} (x : After W) : W.heap.size ≤ x.w.heap.size := x.h.size
theorem since_drew (W : World) : ∃ x : After W, W.drew = x.w := ⟨⟨W.drew, (Below.refl _ _).drew⟩, rfl⟩
theorem after_of {W w' : World} (h : Below W.heap.size W w') : ∃ x : After W, w' = x.w := ⟨⟨w', h⟩, rfl⟩
theorem after_step {W w' : World} (x : After W) (h : Below x.w.heap.size x.w w') : ∃ y : After W, w' = y.w := ⟨⟨w', x.h.trans (h.mono x.h.size)⟩, rfl⟩
/-- A contract inside a region that draws. -/
theorem after_call {P : Program} {f : FuncId} {args : Array Value} {W : World} (x : After W) {v : Value}
    (h : Calls P f args x.w fun e w' => e = .returned v ∧ Below x.w.heap.size x.w w') : Calls P f args x.w fun e w' => e = .returned v ∧ ∃ y : After W, w' = y.w :=
  h.mono fun _ _ ⟨he, hb⟩ => ⟨he, after_step x hb⟩
theorem after_call_same {P : Program} {f : FuncId} {args : Array Value} {W : World} (x : After W) {v : Value}
    (h : Calls P f args x.w fun e w' => e = .returned v ∧ x.w = w') : Calls P f args x.w fun e w' => e = .returned v ∧ ∃ y : After W, w' = y.w :=
  h.mono fun _ _ ⟨he, hb⟩ => ⟨he, x, hb.symm⟩

/-! Below, put together. -/
theorem bel_alloc {w W : World} (h : Below w.heap.size w W) (o : Obj) : Below w.heap.size w (W.alloc o) := h.alloc h.size o
theorem bel_drew {B : Nat} {w W : World} (h : Below B w W) : Below B w W.drew := h.drew
theorem bel_drewN {B : Nat} {w W : World} (h : Below B w W) (n : Nat) : Below B w (W.drewN n) := ⟨h.os, h.tape, h.output, h.size, h.block⟩
theorem bel_set {w W : World} (h : Below w.heap.size w W) {p : Addr} (hp : w.heap.size ≤ p.block) (u : Value) : Below w.heap.size w (W.setCell p u) := h.setCell hp u
theorem bel_step {w W W' : World} (h : Below w.heap.size w W) (k : Below W.heap.size W W') : Below w.heap.size w W' := h.trans (k.mono h.size)
theorem bel_after {w W : World} (x : After W) (h : Below w.heap.size w W) : Below w.heap.size w x.w := bel_step h x.h
theorem sz_facts (a : Nat) : a < a + 1 + 1 ∧ a < a + 1 + 1 + 1 ∧ a < a + 1 + 1 + 1 + 1 ∧ a < a + 1 + 1 + 1 + 1 + 1 ∧ a < a + 1 + 1 + 1 + 1 + 1 + 1 ∧ a < a + 1 + 1 + 1 + 1 + 1 + 1 + 1 ∧ a + 1 < a + 1 + 1 + 1 ∧ a + 1 < a + 1 + 1 + 1 + 1 ∧ a + 1 < a + 1 + 1 + 1 + 1 + 1 ∧ a + 1 < a + 1 + 1 + 1 + 1 + 1 + 1 ∧ a + 1 < a + 1 + 1 + 1 + 1 + 1 + 1 + 1 ∧ a + 1 + 1 < a + 1 + 1 + 1 + 1 ∧ a + 1 + 1 < a + 1 + 1 + 1 + 1 + 1 ∧ a + 1 + 1 < a + 1 + 1 + 1 + 1 + 1 + 1 ∧ a + 1 + 1 < a + 1 + 1 + 1 + 1 + 1 + 1 + 1 ∧ a + 1 + 1 + 1 < a + 1 + 1 + 1 + 1 + 1 ∧ a + 1 + 1 + 1 < a + 1 + 1 + 1 + 1 + 1 + 1 ∧ a + 1 + 1 + 1 < a + 1 + 1 + 1 + 1 + 1 + 1 + 1 ∧ a + 1 + 1 + 1 + 1 < a + 1 + 1 + 1 + 1 + 1 + 1 ∧ a + 1 + 1 + 1 + 1 < a + 1 + 1 + 1 + 1 + 1 + 1 + 1 ∧ a + 1 + 1 + 1 + 1 + 1 < a + 1 + 1 + 1 + 1 + 1 + 1 + 1 := by omega
theorem szf1 {a b : Nat} (h : a + 1 ≤ b) : (a < b) = True ∧ (a < b + 1) = True ∧ (a < b + 1 + 1) = True := by simp only [eq_iff_iff, iff_true]; omega
theorem szf2 {a b : Nat} (h : a + 2 ≤ b) : (a < b) = True ∧ (a < b + 1) = True ∧ (a < b + 1 + 1) = True ∧ (a + 1 < b) = True ∧ (a + 1 < b + 1) = True ∧ (a + 1 < b + 1 + 1) = True := by simp only [eq_iff_iff, iff_true]; omega
theorem szf3 {a b : Nat} (h : a + 3 ≤ b) : (a < b) = True ∧ (a < b + 1) = True ∧ (a < b + 1 + 1) = True ∧ (a + 1 < b) = True ∧ (a + 1 < b + 1) = True ∧ (a + 1 < b + 1 + 1) = True ∧ (a + 1 + 1 < b) = True ∧ (a + 1 + 1 < b + 1) = True ∧ (a + 1 + 1 < b + 1 + 1) = True := by simp only [eq_iff_iff, iff_true]; omega
theorem szf4 {a b : Nat} (h : a + 4 ≤ b) : (a < b) = True ∧ (a < b + 1) = True ∧ (a < b + 1 + 1) = True ∧ (a + 1 < b) = True ∧ (a + 1 < b + 1) = True ∧ (a + 1 < b + 1 + 1) = True ∧ (a + 1 + 1 < b) = True ∧ (a + 1 + 1 < b + 1) = True ∧ (a + 1 + 1 < b + 1 + 1) = True ∧ (a + 1 + 1 + 1 < b) = True ∧ (a + 1 + 1 + 1 < b + 1) = True ∧ (a + 1 + 1 + 1 < b + 1 + 1) = True := by simp only [eq_iff_iff, iff_true]; omega
theorem szf5 {a b : Nat} (h : a + 5 ≤ b) : (a < b) = True ∧ (a < b + 1) = True ∧ (a < b + 1 + 1) = True ∧ (a + 1 < b) = True ∧ (a + 1 < b + 1) = True ∧ (a + 1 < b + 1 + 1) = True ∧ (a + 1 + 1 < b) = True ∧ (a + 1 + 1 < b + 1) = True ∧ (a + 1 + 1 < b + 1 + 1) = True ∧ (a + 1 + 1 + 1 < b) = True ∧ (a + 1 + 1 + 1 < b + 1) = True ∧ (a + 1 + 1 + 1 < b + 1 + 1) = True ∧ (a + 1 + 1 + 1 + 1 < b) = True ∧ (a + 1 + 1 + 1 + 1 < b + 1) = True ∧ (a + 1 + 1 + 1 + 1 < b + 1 + 1) = True := by simp only [eq_iff_iff, iff_true]; omega
theorem szf6 {a b : Nat} (h : a + 6 ≤ b) : (a < b) = True ∧ (a < b + 1) = True ∧ (a < b + 1 + 1) = True ∧ (a + 1 < b) = True ∧ (a + 1 < b + 1) = True ∧ (a + 1 < b + 1 + 1) = True ∧ (a + 1 + 1 < b) = True ∧ (a + 1 + 1 < b + 1) = True ∧ (a + 1 + 1 < b + 1 + 1) = True ∧ (a + 1 + 1 + 1 < b) = True ∧ (a + 1 + 1 + 1 < b + 1) = True ∧ (a + 1 + 1 + 1 < b + 1 + 1) = True ∧ (a + 1 + 1 + 1 + 1 < b) = True ∧ (a + 1 + 1 + 1 + 1 < b + 1) = True ∧ (a + 1 + 1 + 1 + 1 < b + 1 + 1) = True ∧ (a + 1 + 1 + 1 + 1 + 1 < b) = True ∧ (a + 1 + 1 + 1 + 1 + 1 < b + 1) = True ∧ (a + 1 + 1 + 1 + 1 + 1 < b + 1 + 1) = True := by simp only [eq_iff_iff, iff_true]; omega
theorem zY1 (a b : Nat) (h : a + 1 ≤ b := by omega) : (a < b) = True ∧ (a < b + 1) = True ∧ (a < b + 1 + 1) = True := szf1 h
theorem zY2 (a b : Nat) (h : a + 2 ≤ b := by omega) : (a < b) = True ∧ (a < b + 1) = True ∧ (a < b + 1 + 1) = True ∧ (a + 1 < b) = True ∧ (a + 1 < b + 1) = True ∧ (a + 1 < b + 1 + 1) = True := szf2 h
theorem zY3 (a b : Nat) (h : a + 3 ≤ b := by omega) : (a < b) = True ∧ (a < b + 1) = True ∧ (a < b + 1 + 1) = True ∧ (a + 1 < b) = True ∧ (a + 1 < b + 1) = True ∧ (a + 1 < b + 1 + 1) = True ∧ (a + 1 + 1 < b) = True ∧ (a + 1 + 1 < b + 1) = True ∧ (a + 1 + 1 < b + 1 + 1) = True := szf3 h
theorem zY4 (a b : Nat) (h : a + 4 ≤ b := by omega) : (a < b) = True ∧ (a < b + 1) = True ∧ (a < b + 1 + 1) = True ∧ (a + 1 < b) = True ∧ (a + 1 < b + 1) = True ∧ (a + 1 < b + 1 + 1) = True ∧ (a + 1 + 1 < b) = True ∧ (a + 1 + 1 < b + 1) = True ∧ (a + 1 + 1 < b + 1 + 1) = True ∧ (a + 1 + 1 + 1 < b) = True ∧ (a + 1 + 1 + 1 < b + 1) = True ∧ (a + 1 + 1 + 1 < b + 1 + 1) = True := szf4 h
theorem zY5 (a b : Nat) (h : a + 5 ≤ b := by omega) : (a < b) = True ∧ (a < b + 1) = True ∧ (a < b + 1 + 1) = True ∧ (a + 1 < b) = True ∧ (a + 1 < b + 1) = True ∧ (a + 1 < b + 1 + 1) = True ∧ (a + 1 + 1 < b) = True ∧ (a + 1 + 1 < b + 1) = True ∧ (a + 1 + 1 < b + 1 + 1) = True ∧ (a + 1 + 1 + 1 < b) = True ∧ (a + 1 + 1 + 1 < b + 1) = True ∧ (a + 1 + 1 + 1 < b + 1 + 1) = True ∧ (a + 1 + 1 + 1 + 1 < b) = True ∧ (a + 1 + 1 + 1 + 1 < b + 1) = True ∧ (a + 1 + 1 + 1 + 1 < b + 1 + 1) = True := szf5 h
theorem zY6 (a b : Nat) (h : a + 6 ≤ b := by omega) : (a < b) = True ∧ (a < b + 1) = True ∧ (a < b + 1 + 1) = True ∧ (a + 1 < b) = True ∧ (a + 1 < b + 1) = True ∧ (a + 1 < b + 1 + 1) = True ∧ (a + 1 + 1 < b) = True ∧ (a + 1 + 1 < b + 1) = True ∧ (a + 1 + 1 < b + 1 + 1) = True ∧ (a + 1 + 1 + 1 < b) = True ∧ (a + 1 + 1 + 1 < b + 1) = True ∧ (a + 1 + 1 + 1 < b + 1 + 1) = True ∧ (a + 1 + 1 + 1 + 1 < b) = True ∧ (a + 1 + 1 + 1 + 1 < b + 1) = True ∧ (a + 1 + 1 + 1 + 1 < b + 1 + 1) = True ∧ (a + 1 + 1 + 1 + 1 + 1 < b) = True ∧ (a + 1 + 1 + 1 + 1 + 1 < b + 1) = True ∧ (a + 1 + 1 + 1 + 1 + 1 < b + 1 + 1) = True := szf6 h
theorem zYA (w : World) (o : Obj) : (w.alloc o).heap.size = w.heap.size + 1 := by simp
theorem zYD (w : World) : w.drew.heap.size = w.heap.size := by simp
theorem zYC (w : World) (p : Addr) (v : Value) : (w.setCell p v).heap.size = w.heap.size := by simp
theorem ret_int {k : IntKind} {a b : Int} (h : a = b) : Ending.returned (.int k a) = .returned (.int k b) := by rw [h]
theorem ret_bool {a b : Bool} (h : a = b) : Ending.returned (.bool a) = .returned (.bool b) := by rw [h]

end Go.Proofs.YtolbmemogoojhaaGreat
/- The contracts of package stamp but Put and Get, and of the reference's. -/
namespace Go.Proofs.YtolbmemogoojhaaGreat
open Go Go.RowKit
set_option linter.unusedVariables false
set_option linter.unusedSimpArgs false

def cmpI (a b : Int) : Int := if a < b then -1 else if b < a then 1 else 0
theorem cmpI_lt {a b : Int} (h : a < b) : cmpI a b = -1 := by unfold cmpI; rw [if_pos h]
theorem cmpI_gt {a b : Int} (h : b < a) : cmpI a b = 1 := by unfold cmpI; rw [if_neg (by omega), if_pos h]
theorem cmpI_eq {a b : Int} (h : b ≤ a) (k : a ≤ b) : cmpI a b = 0 := by unfold cmpI; rw [if_neg (by omega), if_neg (by omega)]
def stMay (N R : Int) : Bool := decide (N = 0 ∧ R = 0) || decide (0 < N ∧ N ≤ 1099511627776 ∧ 0 ≤ R ∧ R < 8)
def stLess (N R N' R' : Int) : Bool := decide (N < N' ∨ N = N' ∧ R < R')

def stEq (N R N' R' : Int) : Bool := decide (N = N' ∧ R = R')
theorem stEq_true {N R N' R' : Int} (h : stEq N R N' R' = true) : N = N' ∧ R = R' := by simpa [stEq] using h
theorem stEq_false {N R N' R' : Int} (h : stEq N R N' R' = false) : ¬ (N = N' ∧ R = R') := by simpa [stEq] using h
theorem stEq_iff (N R N' R' : Int) : stEq N R N' R' = true ↔ N = N' ∧ R = R' := by simp [stEq]

theorem eqlIn_stamp (N R N' R' : Int) (d : Nat) (w : World) : (Op.equalIn (d + 2) 30 (.agg #[.int .i64 N, .int .i64 R]) (.agg #[.int .i64 N', .int .i64 R'])).run Tryz.prog w = .ok (stEq N R N' R') w := by
  by_cases h1 : N = N' <;> by_cases h2 : R = R' <;> simp [go_sem, h1, h2, stEq]
theorem eql_stamp (N R N' R' : Int) (w : World) : (binOp .eql 30 (.agg #[.int .i64 N, .int .i64 R]) (.agg #[.int .i64 N', .int .i64 R'])).run Tryz.prog w = .ok (.bool (stEq N R N' R')) w := by
  rw [run_eql_struct]
  show ((Op.equalIn (9998 + 2) _ _ _).run _ _).andThen _ = _
  rw [eqlIn_stamp]; rfl
theorem neq_stamp (N R N' R' : Int) (w : World) : (binOp .neq 30 (.agg #[.int .i64 N, .int .i64 R]) (.agg #[.int .i64 N', .int .i64 R'])).run Tryz.prog w = .ok (.bool (!stEq N R N' R')) w := by
  rw [run_neq_struct]
  show ((Op.equalIn (9998 + 2) _ _ _).run _ _).andThen _ = _
  rw [eqlIn_stamp]; rfl

set_option maxHeartbeats 400000 in
theorem isNaN_c (a : Int) (w : World) : Calls Tryz.prog 148 #[.int .i64 a] w fun e w' => e = .returned (.bool false) ∧ w = w' := by
  go_enter Tryz.func148, Tryz.ntmps148
  go_wp2
  go_ret
  simp

set_option maxHeartbeats 400000 in
theorem compare_c (a b : Int) (w : World) : Calls Tryz.prog 136 #[.int .i64 a, .int .i64 b] w fun e w' => e = .returned (.int .i64 (cmpI a b)) ∧ w = w' := by
  go_enter Tryz.func136, Tryz.ntmps136
  go_wp2_with (go_at_call 148; refine (isNaN_c _ _).mono ?_; rintro e w' ⟨rfl, rfl⟩)
  all_goals go_ret
  all_goals refine ⟨?_, rfl⟩
  · exact ret_int (cmpI_lt ‹_›).symm
  · exact ret_int (cmpI_gt ‹_›).symm
  · exact ret_int (cmpI_eq ‹_› ‹_›).symm

set_option maxHeartbeats 400000 in
theorem may_c (N R : Int) (w : World) : Calls Tryz.prog 96 #[.agg #[.int .i64 N, .int .i64 R]] w fun e w' => e = .returned (.bool (stMay N R)) ∧ Below w.heap.size w w' := by
  go_enter Tryz.func96, Tryz.ntmps96
  go_wp2
  all_goals go_ret
  all_goals refine ⟨ret_bool ?_, ?_⟩
  all_goals first | ((repeat (first | exact Below.refl _ _ | assumption | refine bel_alloc ?_ _ | refine bel_after _ ?_ | refine bel_drewN ?_ _ | refine bel_drew ?_ | refine bel_set ?_ (by first | omega | (simp only [zYA, zYD, zYC]; omega) | (simp; omega)) _)); done) | skip
  all_goals (try simp only [beq_iff_eq, beq_eq_false_iff_ne, ne_eq] at *); rw [Bool.eq_iff_iff]; simp only [stMay, Bool.or_eq_true, decide_eq_true_eq, Bool.false_eq_true, true_iff, false_iff, beq_iff_eq]; omega

set_option maxHeartbeats 400000 in
theorem rmay_c (N R : Int) (w : World) : Calls Tryz.prog 93 #[.agg #[.int .i64 N, .int .i64 R]] w fun e w' => e = .returned (.bool (stMay N R)) ∧ Below w.heap.size w w' := by
  go_enter Tryz.func93, Tryz.ntmps93
  go_wp2
  all_goals go_ret
  all_goals refine ⟨ret_bool ?_, ?_⟩
  all_goals first | ((repeat (first | exact Below.refl _ _ | assumption | refine bel_alloc ?_ _ | refine bel_after _ ?_ | refine bel_drewN ?_ _ | refine bel_drew ?_ | refine bel_set ?_ (by first | omega | (simp only [zYA, zYD, zYC]; omega) | (simp; omega)) _)); done) | skip
  all_goals (try simp only [beq_iff_eq, beq_eq_false_iff_ne, ne_eq] at *); rw [Bool.eq_iff_iff]; simp only [stMay, Bool.or_eq_true, decide_eq_true_eq, Bool.false_eq_true, true_iff, false_iff, beq_iff_eq]; omega

set_option maxHeartbeats 400000 in
theorem rless_c (N R N' R' : Int) (w : World) : Calls Tryz.prog 95 #[.agg #[.int .i64 N, .int .i64 R], .agg #[.int .i64 N', .int .i64 R']] w fun e w' => e = .returned (.bool (stLess N R N' R')) ∧ Below w.heap.size w w' := by
  go_enter Tryz.func95, Tryz.ntmps95
  go_wp2
  all_goals go_ret
  all_goals refine ⟨ret_bool ?_, ?_⟩
  all_goals first | ((repeat (first | exact Below.refl _ _ | assumption | refine bel_alloc ?_ _ | refine bel_after _ ?_ | refine bel_drewN ?_ _ | refine bel_drew ?_ | refine bel_set ?_ (by first | omega | (simp only [zYA, zYD, zYC]; omega) | (simp; omega)) _)); done) | skip
  all_goals (rw [Bool.eq_iff_iff]; simp only [stLess, Bool.or_eq_true, decide_eq_true_eq, Bool.false_eq_true, true_iff, false_iff]; omega)

/-- cmp.Or at two. -/
def or2 (x y : Int) : Int := if x = 0 then y else x
set_option maxHeartbeats 400000 in
theorem or_c (x y : Int) (b c : Nat) (w : World) (hx : w.cell? ⟨b, 0, none⟩ = some (.int .i64 x)) (hy : w.cell? ⟨b, 1, none⟩ = some (.int .i64 y)) :
    Calls Tryz.prog 135 #[.slice (some ⟨b, 0, none⟩) 2 c] w fun e w' => e = .returned (.int .i64 (or2 x y)) ∧ w = w' := by
  by_cases h0 : x = 0
  · subst h0
    by_cases h1 : y = 0
    · subst h1
      go_enter Tryz.func135, Tryz.ntmps135
      go_wp2
      go_rounds 3
      go_ret
      exact ⟨rfl, rfl⟩
    · have h2 : (y == 0) = false := by simpa using h1
      go_enter Tryz.func135, Tryz.ntmps135
      go_wp2
      go_rounds 2
      go_ret
      exact ⟨rfl, rfl⟩
  · have h2 : (x == 0) = false := by simpa using h0
    go_enter Tryz.func135, Tryz.ntmps135
    go_wp2
    go_rounds 1
    go_ret
    exact ⟨ret_int (by rw [or2, if_neg h0]), rfl⟩

theorem or_less (N R N' R' : Int) (h : ¬ (N = N' ∧ R = R')) : decide (or2 (cmpI N N') (cmpI R R') < 0) = stLess N R N' R' := by
  rw [Bool.eq_iff_iff]
  simp only [stLess, decide_eq_true_eq]
  unfold or2 cmpI
  split <;> (repeat split) <;> omega

set_option maxHeartbeats 400000 in
theorem less_c (N R N' R' : Int) (w : World) : Calls Tryz.prog 98 #[.agg #[.int .i64 N, .int .i64 R], .agg #[.int .i64 N', .int .i64 R']] w fun e w' => e = .returned (.bool (stLess N R N' R')) ∧ Below w.heap.size w w' := by
  have hq := @neq_stamp
  have hAc := @after_cell
  have hAf := @after_frozen
  have hSz := sz_facts
  cases h : stEq N R N' R'
  · go_enter Tryz.func98, Tryz.ntmps98
    go_wp2
    refine wp_quiet_tail (C := fun w' => ∃ x : After _, w' = x.w) 14 (by kernel_rfl) (by kernel_rfl) (since_drew _) ?_
    simp only [List.take_succ_cons, List.take_zero, List.drop_succ_cons, List.drop_zero]
    repeat (go_big_quiet_step ((go_at_call 136; exact after_call_same _ (compare_c _ _ _))))
    refine wpQuiet_nil ?_
    first | ((fail_if_success revert x1); rintro _ ⟨x1, rfl⟩; have hz1 := after_size x1; (try (simp only [zYA, zYD, zYC] at hz1)); (try (have f1gA := zY1 gA x1.w.heap.size)); (try (have f1gB := zY1 gB x1.w.heap.size)); (try (have f1gC := zY1 gC x1.w.heap.size)); (first | have f10 := zY6 w.heap.size x1.w.heap.size | have f10 := zY5 w.heap.size x1.w.heap.size | have f10 := zY4 w.heap.size x1.w.heap.size | have f10 := zY3 w.heap.size x1.w.heap.size | have f10 := zY2 w.heap.size x1.w.heap.size | have f10 := zY1 w.heap.size x1.w.heap.size | skip)) | ((fail_if_success revert x2); rintro _ ⟨x2, rfl⟩; have hz2 := after_size x2; (try (simp only [zYA, zYD, zYC] at hz2)); (try (have f2gA := zY1 gA x2.w.heap.size)); (try (have f2gB := zY1 gB x2.w.heap.size)); (try (have f2gC := zY1 gC x2.w.heap.size)); (first | have f20 := zY6 w.heap.size x2.w.heap.size | have f20 := zY5 w.heap.size x2.w.heap.size | have f20 := zY4 w.heap.size x2.w.heap.size | have f20 := zY3 w.heap.size x2.w.heap.size | have f20 := zY2 w.heap.size x2.w.heap.size | have f20 := zY1 w.heap.size x2.w.heap.size | skip); (first | have f21 := zY4 x1.w.heap.size x2.w.heap.size | have f21 := zY3 x1.w.heap.size x2.w.heap.size | have f21 := zY2 x1.w.heap.size x2.w.heap.size | have f21 := zY1 x1.w.heap.size x2.w.heap.size | skip)) | ((fail_if_success revert x3); rintro _ ⟨x3, rfl⟩; have hz3 := after_size x3; (try (simp only [zYA, zYD, zYC] at hz3)); (try (have f3gA := zY1 gA x3.w.heap.size)); (try (have f3gB := zY1 gB x3.w.heap.size)); (try (have f3gC := zY1 gC x3.w.heap.size)); (first | have f30 := zY6 w.heap.size x3.w.heap.size | have f30 := zY5 w.heap.size x3.w.heap.size | have f30 := zY4 w.heap.size x3.w.heap.size | have f30 := zY3 w.heap.size x3.w.heap.size | have f30 := zY2 w.heap.size x3.w.heap.size | have f30 := zY1 w.heap.size x3.w.heap.size | skip); (first | have f31 := zY4 x1.w.heap.size x3.w.heap.size | have f31 := zY3 x1.w.heap.size x3.w.heap.size | have f31 := zY2 x1.w.heap.size x3.w.heap.size | have f31 := zY1 x1.w.heap.size x3.w.heap.size | skip); (first | have f32 := zY4 x2.w.heap.size x3.w.heap.size | have f32 := zY3 x2.w.heap.size x3.w.heap.size | have f32 := zY2 x2.w.heap.size x3.w.heap.size | have f32 := zY1 x2.w.heap.size x3.w.heap.size | skip)) | ((fail_if_success revert x4); rintro _ ⟨x4, rfl⟩; have hz4 := after_size x4; (try (simp only [zYA, zYD, zYC] at hz4)); (try (have f4gA := zY1 gA x4.w.heap.size)); (try (have f4gB := zY1 gB x4.w.heap.size)); (try (have f4gC := zY1 gC x4.w.heap.size)); (first | have f40 := zY6 w.heap.size x4.w.heap.size | have f40 := zY5 w.heap.size x4.w.heap.size | have f40 := zY4 w.heap.size x4.w.heap.size | have f40 := zY3 w.heap.size x4.w.heap.size | have f40 := zY2 w.heap.size x4.w.heap.size | have f40 := zY1 w.heap.size x4.w.heap.size | skip); (first | have f41 := zY4 x1.w.heap.size x4.w.heap.size | have f41 := zY3 x1.w.heap.size x4.w.heap.size | have f41 := zY2 x1.w.heap.size x4.w.heap.size | have f41 := zY1 x1.w.heap.size x4.w.heap.size | skip); (first | have f42 := zY4 x2.w.heap.size x4.w.heap.size | have f42 := zY3 x2.w.heap.size x4.w.heap.size | have f42 := zY2 x2.w.heap.size x4.w.heap.size | have f42 := zY1 x2.w.heap.size x4.w.heap.size | skip); (first | have f43 := zY4 x3.w.heap.size x4.w.heap.size | have f43 := zY3 x3.w.heap.size x4.w.heap.size | have f43 := zY2 x3.w.heap.size x4.w.heap.size | have f43 := zY1 x3.w.heap.size x4.w.heap.size | skip)) | ((fail_if_success revert x5); rintro _ ⟨x5, rfl⟩; have hz5 := after_size x5; (try (simp only [zYA, zYD, zYC] at hz5)); (try (have f5gA := zY1 gA x5.w.heap.size)); (try (have f5gB := zY1 gB x5.w.heap.size)); (try (have f5gC := zY1 gC x5.w.heap.size)); (first | have f50 := zY6 w.heap.size x5.w.heap.size | have f50 := zY5 w.heap.size x5.w.heap.size | have f50 := zY4 w.heap.size x5.w.heap.size | have f50 := zY3 w.heap.size x5.w.heap.size | have f50 := zY2 w.heap.size x5.w.heap.size | have f50 := zY1 w.heap.size x5.w.heap.size | skip); (first | have f51 := zY4 x1.w.heap.size x5.w.heap.size | have f51 := zY3 x1.w.heap.size x5.w.heap.size | have f51 := zY2 x1.w.heap.size x5.w.heap.size | have f51 := zY1 x1.w.heap.size x5.w.heap.size | skip); (first | have f52 := zY4 x2.w.heap.size x5.w.heap.size | have f52 := zY3 x2.w.heap.size x5.w.heap.size | have f52 := zY2 x2.w.heap.size x5.w.heap.size | have f52 := zY1 x2.w.heap.size x5.w.heap.size | skip); (first | have f53 := zY4 x3.w.heap.size x5.w.heap.size | have f53 := zY3 x3.w.heap.size x5.w.heap.size | have f53 := zY2 x3.w.heap.size x5.w.heap.size | have f53 := zY1 x3.w.heap.size x5.w.heap.size | skip); (first | have f54 := zY4 x4.w.heap.size x5.w.heap.size | have f54 := zY3 x4.w.heap.size x5.w.heap.size | have f54 := zY2 x4.w.heap.size x5.w.heap.size | have f54 := zY1 x4.w.heap.size x5.w.heap.size | skip)) | ((fail_if_success revert x6); rintro _ ⟨x6, rfl⟩; have hz6 := after_size x6; (try (simp only [zYA, zYD, zYC] at hz6)); (try (have f6gA := zY1 gA x6.w.heap.size)); (try (have f6gB := zY1 gB x6.w.heap.size)); (try (have f6gC := zY1 gC x6.w.heap.size)); (first | have f60 := zY6 w.heap.size x6.w.heap.size | have f60 := zY5 w.heap.size x6.w.heap.size | have f60 := zY4 w.heap.size x6.w.heap.size | have f60 := zY3 w.heap.size x6.w.heap.size | have f60 := zY2 w.heap.size x6.w.heap.size | have f60 := zY1 w.heap.size x6.w.heap.size | skip); (first | have f61 := zY4 x1.w.heap.size x6.w.heap.size | have f61 := zY3 x1.w.heap.size x6.w.heap.size | have f61 := zY2 x1.w.heap.size x6.w.heap.size | have f61 := zY1 x1.w.heap.size x6.w.heap.size | skip); (first | have f62 := zY4 x2.w.heap.size x6.w.heap.size | have f62 := zY3 x2.w.heap.size x6.w.heap.size | have f62 := zY2 x2.w.heap.size x6.w.heap.size | have f62 := zY1 x2.w.heap.size x6.w.heap.size | skip); (first | have f63 := zY4 x3.w.heap.size x6.w.heap.size | have f63 := zY3 x3.w.heap.size x6.w.heap.size | have f63 := zY2 x3.w.heap.size x6.w.heap.size | have f63 := zY1 x3.w.heap.size x6.w.heap.size | skip); (first | have f64 := zY4 x4.w.heap.size x6.w.heap.size | have f64 := zY3 x4.w.heap.size x6.w.heap.size | have f64 := zY2 x4.w.heap.size x6.w.heap.size | have f64 := zY1 x4.w.heap.size x6.w.heap.size | skip); (first | have f65 := zY4 x5.w.heap.size x6.w.heap.size | have f65 := zY3 x5.w.heap.size x6.w.heap.size | have f65 := zY2 x5.w.heap.size x6.w.heap.size | have f65 := zY1 x5.w.heap.size x6.w.heap.size | skip)) | ((fail_if_success revert x7); rintro _ ⟨x7, rfl⟩; have hz7 := after_size x7; (try (simp only [zYA, zYD, zYC] at hz7)); (try (have f7gA := zY1 gA x7.w.heap.size)); (try (have f7gB := zY1 gB x7.w.heap.size)); (try (have f7gC := zY1 gC x7.w.heap.size)); (first | have f70 := zY6 w.heap.size x7.w.heap.size | have f70 := zY5 w.heap.size x7.w.heap.size | have f70 := zY4 w.heap.size x7.w.heap.size | have f70 := zY3 w.heap.size x7.w.heap.size | have f70 := zY2 w.heap.size x7.w.heap.size | have f70 := zY1 w.heap.size x7.w.heap.size | skip); (first | have f71 := zY4 x1.w.heap.size x7.w.heap.size | have f71 := zY3 x1.w.heap.size x7.w.heap.size | have f71 := zY2 x1.w.heap.size x7.w.heap.size | have f71 := zY1 x1.w.heap.size x7.w.heap.size | skip); (first | have f72 := zY4 x2.w.heap.size x7.w.heap.size | have f72 := zY3 x2.w.heap.size x7.w.heap.size | have f72 := zY2 x2.w.heap.size x7.w.heap.size | have f72 := zY1 x2.w.heap.size x7.w.heap.size | skip); (first | have f73 := zY4 x3.w.heap.size x7.w.heap.size | have f73 := zY3 x3.w.heap.size x7.w.heap.size | have f73 := zY2 x3.w.heap.size x7.w.heap.size | have f73 := zY1 x3.w.heap.size x7.w.heap.size | skip); (first | have f74 := zY4 x4.w.heap.size x7.w.heap.size | have f74 := zY3 x4.w.heap.size x7.w.heap.size | have f74 := zY2 x4.w.heap.size x7.w.heap.size | have f74 := zY1 x4.w.heap.size x7.w.heap.size | skip); (first | have f75 := zY4 x5.w.heap.size x7.w.heap.size | have f75 := zY3 x5.w.heap.size x7.w.heap.size | have f75 := zY2 x5.w.heap.size x7.w.heap.size | have f75 := zY1 x5.w.heap.size x7.w.heap.size | skip); (first | have f76 := zY4 x6.w.heap.size x7.w.heap.size | have f76 := zY3 x6.w.heap.size x7.w.heap.size | have f76 := zY2 x6.w.heap.size x7.w.heap.size | have f76 := zY1 x6.w.heap.size x7.w.heap.size | skip)) | ((fail_if_success revert x8); rintro _ ⟨x8, rfl⟩; have hz8 := after_size x8; (try (simp only [zYA, zYD, zYC] at hz8)); (try (have f8gA := zY1 gA x8.w.heap.size)); (try (have f8gB := zY1 gB x8.w.heap.size)); (try (have f8gC := zY1 gC x8.w.heap.size)); (first | have f80 := zY6 w.heap.size x8.w.heap.size | have f80 := zY5 w.heap.size x8.w.heap.size | have f80 := zY4 w.heap.size x8.w.heap.size | have f80 := zY3 w.heap.size x8.w.heap.size | have f80 := zY2 w.heap.size x8.w.heap.size | have f80 := zY1 w.heap.size x8.w.heap.size | skip); (first | have f81 := zY4 x1.w.heap.size x8.w.heap.size | have f81 := zY3 x1.w.heap.size x8.w.heap.size | have f81 := zY2 x1.w.heap.size x8.w.heap.size | have f81 := zY1 x1.w.heap.size x8.w.heap.size | skip); (first | have f82 := zY4 x2.w.heap.size x8.w.heap.size | have f82 := zY3 x2.w.heap.size x8.w.heap.size | have f82 := zY2 x2.w.heap.size x8.w.heap.size | have f82 := zY1 x2.w.heap.size x8.w.heap.size | skip); (first | have f83 := zY4 x3.w.heap.size x8.w.heap.size | have f83 := zY3 x3.w.heap.size x8.w.heap.size | have f83 := zY2 x3.w.heap.size x8.w.heap.size | have f83 := zY1 x3.w.heap.size x8.w.heap.size | skip); (first | have f84 := zY4 x4.w.heap.size x8.w.heap.size | have f84 := zY3 x4.w.heap.size x8.w.heap.size | have f84 := zY2 x4.w.heap.size x8.w.heap.size | have f84 := zY1 x4.w.heap.size x8.w.heap.size | skip); (first | have f85 := zY4 x5.w.heap.size x8.w.heap.size | have f85 := zY3 x5.w.heap.size x8.w.heap.size | have f85 := zY2 x5.w.heap.size x8.w.heap.size | have f85 := zY1 x5.w.heap.size x8.w.heap.size | skip); (first | have f86 := zY4 x6.w.heap.size x8.w.heap.size | have f86 := zY3 x6.w.heap.size x8.w.heap.size | have f86 := zY2 x6.w.heap.size x8.w.heap.size | have f86 := zY1 x6.w.heap.size x8.w.heap.size | skip); (first | have f87 := zY4 x7.w.heap.size x8.w.heap.size | have f87 := zY3 x7.w.heap.size x8.w.heap.size | have f87 := zY2 x7.w.heap.size x8.w.heap.size | have f87 := zY1 x7.w.heap.size x8.w.heap.size | skip))
    go_wp2_with (go_at_call 135; refine (or_c (cmpI N N') (cmpI R R') _ _ _ ?_ ?_).mono ?_; go_simp; go_simp; rintro e w' ⟨rfl, rfl⟩)
    go_ret
    refine ⟨ret_bool (or_less _ _ _ _ (stEq_false h)), ?_⟩
    (repeat (first | exact Below.refl _ _ | assumption | refine bel_alloc ?_ _ | refine bel_after _ ?_ | refine bel_drewN ?_ _ | refine bel_drew ?_ | refine bel_set ?_ (by first | omega | (simp only [zYA, zYD, zYC]; omega) | (simp; omega)) _))
  · go_enter Tryz.func98, Tryz.ntmps98
    go_wp2
    refine wp_quiet_all (C := fun w' => ∃ x : After _, w' = x.w) (by kernel_rfl) (by kernel_rfl) (since_drew _) ?_
    repeat (go_big_quiet_step (fail))
    refine wpQuiet_nil ?_
    first | ((fail_if_success revert x1); rintro _ ⟨x1, rfl⟩; have hz1 := after_size x1; (try (simp only [zYA, zYD, zYC] at hz1)); (try (have f1gA := zY1 gA x1.w.heap.size)); (first | have f10 := zY3 w.heap.size x1.w.heap.size | have f10 := zY2 w.heap.size x1.w.heap.size | have f10 := zY1 w.heap.size x1.w.heap.size | skip)) | ((fail_if_success revert x2); rintro _ ⟨x2, rfl⟩; have hz2 := after_size x2; (try (simp only [zYA, zYD, zYC] at hz2)); (try (have f2gA := zY1 gA x2.w.heap.size)); (first | have f20 := zY3 w.heap.size x2.w.heap.size | have f20 := zY2 w.heap.size x2.w.heap.size | have f20 := zY1 w.heap.size x2.w.heap.size | skip); (first | have f21 := zY2 x1.w.heap.size x2.w.heap.size | have f21 := zY1 x1.w.heap.size x2.w.heap.size | skip)) | ((fail_if_success revert x3); rintro _ ⟨x3, rfl⟩; have hz3 := after_size x3; (try (simp only [zYA, zYD, zYC] at hz3)); (try (have f3gA := zY1 gA x3.w.heap.size)); (first | have f30 := zY3 w.heap.size x3.w.heap.size | have f30 := zY2 w.heap.size x3.w.heap.size | have f30 := zY1 w.heap.size x3.w.heap.size | skip); (first | have f31 := zY2 x1.w.heap.size x3.w.heap.size | have f31 := zY1 x1.w.heap.size x3.w.heap.size | skip); (first | have f32 := zY2 x2.w.heap.size x3.w.heap.size | have f32 := zY1 x2.w.heap.size x3.w.heap.size | skip)) | ((fail_if_success revert x4); rintro _ ⟨x4, rfl⟩; have hz4 := after_size x4; (try (simp only [zYA, zYD, zYC] at hz4)); (try (have f4gA := zY1 gA x4.w.heap.size)); (first | have f40 := zY3 w.heap.size x4.w.heap.size | have f40 := zY2 w.heap.size x4.w.heap.size | have f40 := zY1 w.heap.size x4.w.heap.size | skip); (first | have f41 := zY2 x1.w.heap.size x4.w.heap.size | have f41 := zY1 x1.w.heap.size x4.w.heap.size | skip); (first | have f42 := zY2 x2.w.heap.size x4.w.heap.size | have f42 := zY1 x2.w.heap.size x4.w.heap.size | skip); (first | have f43 := zY2 x3.w.heap.size x4.w.heap.size | have f43 := zY1 x3.w.heap.size x4.w.heap.size | skip)) | ((fail_if_success revert x5); rintro _ ⟨x5, rfl⟩; have hz5 := after_size x5; (try (simp only [zYA, zYD, zYC] at hz5)); (try (have f5gA := zY1 gA x5.w.heap.size)); (first | have f50 := zY3 w.heap.size x5.w.heap.size | have f50 := zY2 w.heap.size x5.w.heap.size | have f50 := zY1 w.heap.size x5.w.heap.size | skip); (first | have f51 := zY2 x1.w.heap.size x5.w.heap.size | have f51 := zY1 x1.w.heap.size x5.w.heap.size | skip); (first | have f52 := zY2 x2.w.heap.size x5.w.heap.size | have f52 := zY1 x2.w.heap.size x5.w.heap.size | skip); (first | have f53 := zY2 x3.w.heap.size x5.w.heap.size | have f53 := zY1 x3.w.heap.size x5.w.heap.size | skip); (first | have f54 := zY2 x4.w.heap.size x5.w.heap.size | have f54 := zY1 x4.w.heap.size x5.w.heap.size | skip))
    go_wp2
    go_ret
    obtain ⟨rfl, rfl⟩ := stEq_true h
    refine ⟨ret_bool (by simp [stLess]), ?_⟩
    (repeat (first | exact Below.refl _ _ | assumption | refine bel_alloc ?_ _ | refine bel_after _ ?_ | refine bel_drewN ?_ _ | refine bel_drew ?_ | refine bel_set ?_ (by first | omega | (simp only [zYA, zYD, zYC]; omega) | (simp; omega)) _))

set_option maxHeartbeats 400000 in
theorem max_c (N R N' R' : Int) (w : World) : Calls Tryz.prog 87 #[.agg #[.int .i64 N, .int .i64 R], .agg #[.int .i64 N', .int .i64 R']] w fun e w' =>
    e = .returned (bif stLess N R N' R' then .agg #[.int .i64 N', .int .i64 R'] else .agg #[.int .i64 N, .int .i64 R]) ∧ Below w.heap.size w w' := by
  have hAc := @after_cell
  have hAf := @after_frozen
  have hSz := sz_facts
  cases h : stLess N R N' R' <;> go_enter Tryz.func87, Tryz.ntmps87 <;>
    go_wp2_with (go_at_call 98; (with_reducible refine (less_c _ _ _ _ _).mono ?_); rintro e w' ⟨rfl, hb⟩; (first | ((fail_if_success revert x1); obtain ⟨x1, rfl⟩ := after_of hb; clear hb; have hz1 := after_size x1; (try (simp only [zYA, zYD, zYC] at hz1)); (try (have f1gA := zY1 gA x1.w.heap.size)); (first | have f10 := zY3 w.heap.size x1.w.heap.size | have f10 := zY2 w.heap.size x1.w.heap.size | have f10 := zY1 w.heap.size x1.w.heap.size | skip)) | ((fail_if_success revert x2); obtain ⟨x2, rfl⟩ := after_of hb; clear hb; have hz2 := after_size x2; (try (simp only [zYA, zYD, zYC] at hz2)); (try (have f2gA := zY1 gA x2.w.heap.size)); (first | have f20 := zY3 w.heap.size x2.w.heap.size | have f20 := zY2 w.heap.size x2.w.heap.size | have f20 := zY1 w.heap.size x2.w.heap.size | skip); (first | have f21 := zY2 x1.w.heap.size x2.w.heap.size | have f21 := zY1 x1.w.heap.size x2.w.heap.size | skip)) | ((fail_if_success revert x3); obtain ⟨x3, rfl⟩ := after_of hb; clear hb; have hz3 := after_size x3; (try (simp only [zYA, zYD, zYC] at hz3)); (try (have f3gA := zY1 gA x3.w.heap.size)); (first | have f30 := zY3 w.heap.size x3.w.heap.size | have f30 := zY2 w.heap.size x3.w.heap.size | have f30 := zY1 w.heap.size x3.w.heap.size | skip); (first | have f31 := zY2 x1.w.heap.size x3.w.heap.size | have f31 := zY1 x1.w.heap.size x3.w.heap.size | skip); (first | have f32 := zY2 x2.w.heap.size x3.w.heap.size | have f32 := zY1 x2.w.heap.size x3.w.heap.size | skip)) | ((fail_if_success revert x4); obtain ⟨x4, rfl⟩ := after_of hb; clear hb; have hz4 := after_size x4; (try (simp only [zYA, zYD, zYC] at hz4)); (try (have f4gA := zY1 gA x4.w.heap.size)); (first | have f40 := zY3 w.heap.size x4.w.heap.size | have f40 := zY2 w.heap.size x4.w.heap.size | have f40 := zY1 w.heap.size x4.w.heap.size | skip); (first | have f41 := zY2 x1.w.heap.size x4.w.heap.size | have f41 := zY1 x1.w.heap.size x4.w.heap.size | skip); (first | have f42 := zY2 x2.w.heap.size x4.w.heap.size | have f42 := zY1 x2.w.heap.size x4.w.heap.size | skip); (first | have f43 := zY2 x3.w.heap.size x4.w.heap.size | have f43 := zY1 x3.w.heap.size x4.w.heap.size | skip)) | ((fail_if_success revert x5); obtain ⟨x5, rfl⟩ := after_of hb; clear hb; have hz5 := after_size x5; (try (simp only [zYA, zYD, zYC] at hz5)); (try (have f5gA := zY1 gA x5.w.heap.size)); (first | have f50 := zY3 w.heap.size x5.w.heap.size | have f50 := zY2 w.heap.size x5.w.heap.size | have f50 := zY1 w.heap.size x5.w.heap.size | skip); (first | have f51 := zY2 x1.w.heap.size x5.w.heap.size | have f51 := zY1 x1.w.heap.size x5.w.heap.size | skip); (first | have f52 := zY2 x2.w.heap.size x5.w.heap.size | have f52 := zY1 x2.w.heap.size x5.w.heap.size | skip); (first | have f53 := zY2 x3.w.heap.size x5.w.heap.size | have f53 := zY1 x3.w.heap.size x5.w.heap.size | skip); (first | have f54 := zY2 x4.w.heap.size x5.w.heap.size | have f54 := zY1 x4.w.heap.size x5.w.heap.size | skip))))
  · exact bodyPost_ret (v := .agg #[.int .i64 N, .int .i64 R]) (by simp only [results, Tryz.results87]; go_simp) rfl ⟨rfl, by (repeat (first | exact Below.refl _ _ | assumption | refine bel_alloc ?_ _ | refine bel_after _ ?_ | refine bel_drewN ?_ _ | refine bel_drew ?_ | refine bel_set ?_ (by first | omega | (simp only [zYA, zYD, zYC]; omega) | (simp; omega)) _))⟩
  · exact bodyPost_ret (v := .agg #[.int .i64 N', .int .i64 R']) (by simp only [results, Tryz.results87]; go_simp) rfl ⟨rfl, by (repeat (first | exact Below.refl _ _ | assumption | refine bel_alloc ?_ _ | refine bel_after _ ?_ | refine bel_drewN ?_ _ | refine bel_drew ?_ | refine bel_set ?_ (by first | omega | (simp only [zYA, zYD, zYC]; omega) | (simp; omega)) _))⟩

/-- What Next tells: a stamp's number, replica, and the error. -/
def stNext (N R rep : Int) : Int × Int × Int :=
  if stMay N R = true ∧ 0 ≤ rep ∧ rep < 8 then (if N = 1099511627776 then (0, 0, 4) else (N + 1, rep, 0)) else (0, 0, 1)

theorem stMay_le {N R : Int} (h : stMay N R = true) : 0 ≤ N ∧ N ≤ 1099511627776 ∧ 0 ≤ R ∧ R < 8 := by
  simp only [stMay, Bool.or_eq_true, decide_eq_true_eq] at h; omega
theorem stMay_next (N rep : Int) (h0 : 0 ≤ N) (h1 : N ≤ 1099511627776) (h2 : 0 ≤ rep) (h3 : rep < 8) : stMay (N + 1) rep = !decide (N = 1099511627776) := by
  rw [Bool.eq_iff_iff]; simp only [stMay, Bool.or_eq_true, decide_eq_true_eq, Bool.not_eq_true', decide_eq_false_iff_not]; omega
theorem stNext_bad {N R rep : Int} (h : ¬ (stMay N R = true ∧ 0 ≤ rep ∧ rep < 8)) : stNext N R rep = (0, 0, 1) := by unfold stNext; rw [if_neg h]
theorem stNext_large {N R rep : Int} (h : stMay N R = true) (h0 : 0 ≤ rep) (h1 : rep < 8) (h2 : N = 1099511627776) : stNext N R rep = (0, 0, 4) := by unfold stNext; rw [if_pos ⟨h, h0, h1⟩, if_pos h2]
theorem stNext_ok {N R rep : Int} (h : stMay N R = true) (h0 : 0 ≤ rep) (h1 : rep < 8) (h2 : ¬ N = 1099511627776) : stNext N R rep = (N + 1, rep, 0) := by unfold stNext; rw [if_pos ⟨h, h0, h1⟩, if_neg h2]
def NextIs (w : World) (N R rep : Int) (e : Ending) (w' : World) : Prop :=
  e = .returned (.tuple #[.agg #[.int .i64 (stNext N R rep).1, .int .i64 (stNext N R rep).2.1], .int .i64 (stNext N R rep).2.2]) ∧ Below w.heap.size w w'
theorem NextIs.mk {w w' : World} {N R rep a b c : Int} (h : stNext N R rep = (a, b, c)) (hb : Below w.heap.size w w') : NextIs w N R rep (.returned (.tuple #[.agg #[.int .i64 a, .int .i64 b], .int .i64 c])) w' := by
  unfold NextIs; rw [h]; exact ⟨rfl, hb⟩

set_option maxHeartbeats 800000 in
theorem next_c (N R rep : Int) (w : World) : Calls Tryz.prog 101 #[.agg #[.int .i64 N, .int .i64 R], .int .i64 rep] w (NextIs w N R rep) := by
  have hAc := @after_cell
  have hAf := @after_frozen
  have hSz := sz_facts
  cases hm : stMay N R
  · have hs := Lib.hid (stNext_bad (N := N) (R := R) (rep := rep) (by rw [hm]; simp))
    go_enter Tryz.func101, Tryz.ntmps101
    go_wp2_with (go_at_call 96; (with_reducible refine (may_c _ _ _).mono ?_); rintro e w' ⟨rfl, hb⟩; (first | ((fail_if_success revert x1); obtain ⟨x1, rfl⟩ := after_of hb; clear hb; have hz1 := after_size x1; (try (simp only [zYA, zYD, zYC] at hz1)); (try (have f1gA := zY1 gA x1.w.heap.size)); (first | have f10 := zY3 w.heap.size x1.w.heap.size | have f10 := zY2 w.heap.size x1.w.heap.size | have f10 := zY1 w.heap.size x1.w.heap.size | skip)) | ((fail_if_success revert x2); obtain ⟨x2, rfl⟩ := after_of hb; clear hb; have hz2 := after_size x2; (try (simp only [zYA, zYD, zYC] at hz2)); (try (have f2gA := zY1 gA x2.w.heap.size)); (first | have f20 := zY3 w.heap.size x2.w.heap.size | have f20 := zY2 w.heap.size x2.w.heap.size | have f20 := zY1 w.heap.size x2.w.heap.size | skip); (first | have f21 := zY2 x1.w.heap.size x2.w.heap.size | have f21 := zY1 x1.w.heap.size x2.w.heap.size | skip)) | ((fail_if_success revert x3); obtain ⟨x3, rfl⟩ := after_of hb; clear hb; have hz3 := after_size x3; (try (simp only [zYA, zYD, zYC] at hz3)); (try (have f3gA := zY1 gA x3.w.heap.size)); (first | have f30 := zY3 w.heap.size x3.w.heap.size | have f30 := zY2 w.heap.size x3.w.heap.size | have f30 := zY1 w.heap.size x3.w.heap.size | skip); (first | have f31 := zY2 x1.w.heap.size x3.w.heap.size | have f31 := zY1 x1.w.heap.size x3.w.heap.size | skip); (first | have f32 := zY2 x2.w.heap.size x3.w.heap.size | have f32 := zY1 x2.w.heap.size x3.w.heap.size | skip)) | ((fail_if_success revert x4); obtain ⟨x4, rfl⟩ := after_of hb; clear hb; have hz4 := after_size x4; (try (simp only [zYA, zYD, zYC] at hz4)); (try (have f4gA := zY1 gA x4.w.heap.size)); (first | have f40 := zY3 w.heap.size x4.w.heap.size | have f40 := zY2 w.heap.size x4.w.heap.size | have f40 := zY1 w.heap.size x4.w.heap.size | skip); (first | have f41 := zY2 x1.w.heap.size x4.w.heap.size | have f41 := zY1 x1.w.heap.size x4.w.heap.size | skip); (first | have f42 := zY2 x2.w.heap.size x4.w.heap.size | have f42 := zY1 x2.w.heap.size x4.w.heap.size | skip); (first | have f43 := zY2 x3.w.heap.size x4.w.heap.size | have f43 := zY1 x3.w.heap.size x4.w.heap.size | skip)) | ((fail_if_success revert x5); obtain ⟨x5, rfl⟩ := after_of hb; clear hb; have hz5 := after_size x5; (try (simp only [zYA, zYD, zYC] at hz5)); (try (have f5gA := zY1 gA x5.w.heap.size)); (first | have f50 := zY3 w.heap.size x5.w.heap.size | have f50 := zY2 w.heap.size x5.w.heap.size | have f50 := zY1 w.heap.size x5.w.heap.size | skip); (first | have f51 := zY2 x1.w.heap.size x5.w.heap.size | have f51 := zY1 x1.w.heap.size x5.w.heap.size | skip); (first | have f52 := zY2 x2.w.heap.size x5.w.heap.size | have f52 := zY1 x2.w.heap.size x5.w.heap.size | skip); (first | have f53 := zY2 x3.w.heap.size x5.w.heap.size | have f53 := zY1 x3.w.heap.size x5.w.heap.size | skip); (first | have f54 := zY2 x4.w.heap.size x5.w.heap.size | have f54 := zY1 x4.w.heap.size x5.w.heap.size | skip))))
    all_goals exact bodyPost_ret (v := .tuple #[.agg #[.int .i64 0, .int .i64 0], .int .i64 1]) (by simp only [results, Tryz.results101]; go_simp) rfl (NextIs.mk hs.out (by (repeat (first | exact Below.refl _ _ | assumption | refine bel_alloc ?_ _ | refine bel_after _ ?_ | refine bel_drewN ?_ _ | refine bel_drew ?_ | refine bel_set ?_ (by first | omega | (simp only [zYA, zYD, zYC]; omega) | (simp; omega)) _))))
  · obtain ⟨h0, h1, _, _⟩ := stMay_le hm
    by_cases hr : 0 ≤ rep ∧ rep < 8
    · obtain ⟨hr0, hr1⟩ := hr
      have hn := stMay_next N rep h0 h1 hr0 hr1
      by_cases hN : N = 1099511627776
      · have hs := Lib.hid (stNext_large hm hr0 hr1 hN)
        have hn' : stMay (N + 1) rep = false := by rw [hn]; simpa using hN
        have hge : 1099511627776 ≤ N := by omega
        clear hn hN
        go_enter Tryz.func101, Tryz.ntmps101
        go_wp2_with (go_at_call 96; (with_reducible refine (may_c _ _ _).mono ?_); rintro e w' ⟨rfl, hb⟩; (first | ((fail_if_success revert x1); obtain ⟨x1, rfl⟩ := after_of hb; clear hb; have hz1 := after_size x1; (try (simp only [zYA, zYD, zYC] at hz1)); (try (have f1gA := zY1 gA x1.w.heap.size)); (first | have f10 := zY3 w.heap.size x1.w.heap.size | have f10 := zY2 w.heap.size x1.w.heap.size | have f10 := zY1 w.heap.size x1.w.heap.size | skip)) | ((fail_if_success revert x2); obtain ⟨x2, rfl⟩ := after_of hb; clear hb; have hz2 := after_size x2; (try (simp only [zYA, zYD, zYC] at hz2)); (try (have f2gA := zY1 gA x2.w.heap.size)); (first | have f20 := zY3 w.heap.size x2.w.heap.size | have f20 := zY2 w.heap.size x2.w.heap.size | have f20 := zY1 w.heap.size x2.w.heap.size | skip); (first | have f21 := zY2 x1.w.heap.size x2.w.heap.size | have f21 := zY1 x1.w.heap.size x2.w.heap.size | skip)) | ((fail_if_success revert x3); obtain ⟨x3, rfl⟩ := after_of hb; clear hb; have hz3 := after_size x3; (try (simp only [zYA, zYD, zYC] at hz3)); (try (have f3gA := zY1 gA x3.w.heap.size)); (first | have f30 := zY3 w.heap.size x3.w.heap.size | have f30 := zY2 w.heap.size x3.w.heap.size | have f30 := zY1 w.heap.size x3.w.heap.size | skip); (first | have f31 := zY2 x1.w.heap.size x3.w.heap.size | have f31 := zY1 x1.w.heap.size x3.w.heap.size | skip); (first | have f32 := zY2 x2.w.heap.size x3.w.heap.size | have f32 := zY1 x2.w.heap.size x3.w.heap.size | skip)) | ((fail_if_success revert x4); obtain ⟨x4, rfl⟩ := after_of hb; clear hb; have hz4 := after_size x4; (try (simp only [zYA, zYD, zYC] at hz4)); (try (have f4gA := zY1 gA x4.w.heap.size)); (first | have f40 := zY3 w.heap.size x4.w.heap.size | have f40 := zY2 w.heap.size x4.w.heap.size | have f40 := zY1 w.heap.size x4.w.heap.size | skip); (first | have f41 := zY2 x1.w.heap.size x4.w.heap.size | have f41 := zY1 x1.w.heap.size x4.w.heap.size | skip); (first | have f42 := zY2 x2.w.heap.size x4.w.heap.size | have f42 := zY1 x2.w.heap.size x4.w.heap.size | skip); (first | have f43 := zY2 x3.w.heap.size x4.w.heap.size | have f43 := zY1 x3.w.heap.size x4.w.heap.size | skip)) | ((fail_if_success revert x5); obtain ⟨x5, rfl⟩ := after_of hb; clear hb; have hz5 := after_size x5; (try (simp only [zYA, zYD, zYC] at hz5)); (try (have f5gA := zY1 gA x5.w.heap.size)); (first | have f50 := zY3 w.heap.size x5.w.heap.size | have f50 := zY2 w.heap.size x5.w.heap.size | have f50 := zY1 w.heap.size x5.w.heap.size | skip); (first | have f51 := zY2 x1.w.heap.size x5.w.heap.size | have f51 := zY1 x1.w.heap.size x5.w.heap.size | skip); (first | have f52 := zY2 x2.w.heap.size x5.w.heap.size | have f52 := zY1 x2.w.heap.size x5.w.heap.size | skip); (first | have f53 := zY2 x3.w.heap.size x5.w.heap.size | have f53 := zY1 x3.w.heap.size x5.w.heap.size | skip); (first | have f54 := zY2 x4.w.heap.size x5.w.heap.size | have f54 := zY1 x4.w.heap.size x5.w.heap.size | skip))))
        all_goals exact bodyPost_ret (v := .tuple #[.agg #[.int .i64 0, .int .i64 0], .int .i64 4]) (by simp only [results, Tryz.results101]; go_simp) rfl (NextIs.mk hs.out (by (repeat (first | exact Below.refl _ _ | assumption | refine bel_alloc ?_ _ | refine bel_after _ ?_ | refine bel_drewN ?_ _ | refine bel_drew ?_ | refine bel_set ?_ (by first | omega | (simp only [zYA, zYD, zYC]; omega) | (simp; omega)) _))))
      · have hs := Lib.hid (stNext_ok hm hr0 hr1 hN)
        have hn' : stMay (N + 1) rep = true := by rw [hn]; simpa using hN
        have hlt : N < 1099511627776 := by omega
        clear hn hN
        go_enter Tryz.func101, Tryz.ntmps101
        go_wp2_with (go_at_call 96; (with_reducible refine (may_c _ _ _).mono ?_); rintro e w' ⟨rfl, hb⟩; (first | ((fail_if_success revert x1); obtain ⟨x1, rfl⟩ := after_of hb; clear hb; have hz1 := after_size x1; (try (simp only [zYA, zYD, zYC] at hz1)); (try (have f1gA := zY1 gA x1.w.heap.size)); (first | have f10 := zY3 w.heap.size x1.w.heap.size | have f10 := zY2 w.heap.size x1.w.heap.size | have f10 := zY1 w.heap.size x1.w.heap.size | skip)) | ((fail_if_success revert x2); obtain ⟨x2, rfl⟩ := after_of hb; clear hb; have hz2 := after_size x2; (try (simp only [zYA, zYD, zYC] at hz2)); (try (have f2gA := zY1 gA x2.w.heap.size)); (first | have f20 := zY3 w.heap.size x2.w.heap.size | have f20 := zY2 w.heap.size x2.w.heap.size | have f20 := zY1 w.heap.size x2.w.heap.size | skip); (first | have f21 := zY2 x1.w.heap.size x2.w.heap.size | have f21 := zY1 x1.w.heap.size x2.w.heap.size | skip)) | ((fail_if_success revert x3); obtain ⟨x3, rfl⟩ := after_of hb; clear hb; have hz3 := after_size x3; (try (simp only [zYA, zYD, zYC] at hz3)); (try (have f3gA := zY1 gA x3.w.heap.size)); (first | have f30 := zY3 w.heap.size x3.w.heap.size | have f30 := zY2 w.heap.size x3.w.heap.size | have f30 := zY1 w.heap.size x3.w.heap.size | skip); (first | have f31 := zY2 x1.w.heap.size x3.w.heap.size | have f31 := zY1 x1.w.heap.size x3.w.heap.size | skip); (first | have f32 := zY2 x2.w.heap.size x3.w.heap.size | have f32 := zY1 x2.w.heap.size x3.w.heap.size | skip)) | ((fail_if_success revert x4); obtain ⟨x4, rfl⟩ := after_of hb; clear hb; have hz4 := after_size x4; (try (simp only [zYA, zYD, zYC] at hz4)); (try (have f4gA := zY1 gA x4.w.heap.size)); (first | have f40 := zY3 w.heap.size x4.w.heap.size | have f40 := zY2 w.heap.size x4.w.heap.size | have f40 := zY1 w.heap.size x4.w.heap.size | skip); (first | have f41 := zY2 x1.w.heap.size x4.w.heap.size | have f41 := zY1 x1.w.heap.size x4.w.heap.size | skip); (first | have f42 := zY2 x2.w.heap.size x4.w.heap.size | have f42 := zY1 x2.w.heap.size x4.w.heap.size | skip); (first | have f43 := zY2 x3.w.heap.size x4.w.heap.size | have f43 := zY1 x3.w.heap.size x4.w.heap.size | skip)) | ((fail_if_success revert x5); obtain ⟨x5, rfl⟩ := after_of hb; clear hb; have hz5 := after_size x5; (try (simp only [zYA, zYD, zYC] at hz5)); (try (have f5gA := zY1 gA x5.w.heap.size)); (first | have f50 := zY3 w.heap.size x5.w.heap.size | have f50 := zY2 w.heap.size x5.w.heap.size | have f50 := zY1 w.heap.size x5.w.heap.size | skip); (first | have f51 := zY2 x1.w.heap.size x5.w.heap.size | have f51 := zY1 x1.w.heap.size x5.w.heap.size | skip); (first | have f52 := zY2 x2.w.heap.size x5.w.heap.size | have f52 := zY1 x2.w.heap.size x5.w.heap.size | skip); (first | have f53 := zY2 x3.w.heap.size x5.w.heap.size | have f53 := zY1 x3.w.heap.size x5.w.heap.size | skip); (first | have f54 := zY2 x4.w.heap.size x5.w.heap.size | have f54 := zY1 x4.w.heap.size x5.w.heap.size | skip))))
        all_goals exact bodyPost_ret (v := .tuple #[.agg #[.int .i64 (N + 1), .int .i64 rep], .int .i64 0]) (by simp only [results, Tryz.results101]; go_simp) rfl (NextIs.mk hs.out (by (repeat (first | exact Below.refl _ _ | assumption | refine bel_alloc ?_ _ | refine bel_after _ ?_ | refine bel_drewN ?_ _ | refine bel_drew ?_ | refine bel_set ?_ (by first | omega | (simp only [zYA, zYD, zYC]; omega) | (simp; omega)) _))))
    · have hs := Lib.hid (stNext_bad (N := N) (R := R) (rep := rep) (by rintro ⟨_, h⟩; exact hr h))
      rcases (by omega : rep < 0 ∨ 8 ≤ rep) with hr | hr
      all_goals
        go_enter Tryz.func101, Tryz.ntmps101
        go_wp2_with (go_at_call 96; (with_reducible refine (may_c _ _ _).mono ?_); rintro e w' ⟨rfl, hb⟩; (first | ((fail_if_success revert x1); obtain ⟨x1, rfl⟩ := after_of hb; clear hb; have hz1 := after_size x1; (try (simp only [zYA, zYD, zYC] at hz1)); (try (have f1gA := zY1 gA x1.w.heap.size)); (first | have f10 := zY3 w.heap.size x1.w.heap.size | have f10 := zY2 w.heap.size x1.w.heap.size | have f10 := zY1 w.heap.size x1.w.heap.size | skip)) | ((fail_if_success revert x2); obtain ⟨x2, rfl⟩ := after_of hb; clear hb; have hz2 := after_size x2; (try (simp only [zYA, zYD, zYC] at hz2)); (try (have f2gA := zY1 gA x2.w.heap.size)); (first | have f20 := zY3 w.heap.size x2.w.heap.size | have f20 := zY2 w.heap.size x2.w.heap.size | have f20 := zY1 w.heap.size x2.w.heap.size | skip); (first | have f21 := zY2 x1.w.heap.size x2.w.heap.size | have f21 := zY1 x1.w.heap.size x2.w.heap.size | skip)) | ((fail_if_success revert x3); obtain ⟨x3, rfl⟩ := after_of hb; clear hb; have hz3 := after_size x3; (try (simp only [zYA, zYD, zYC] at hz3)); (try (have f3gA := zY1 gA x3.w.heap.size)); (first | have f30 := zY3 w.heap.size x3.w.heap.size | have f30 := zY2 w.heap.size x3.w.heap.size | have f30 := zY1 w.heap.size x3.w.heap.size | skip); (first | have f31 := zY2 x1.w.heap.size x3.w.heap.size | have f31 := zY1 x1.w.heap.size x3.w.heap.size | skip); (first | have f32 := zY2 x2.w.heap.size x3.w.heap.size | have f32 := zY1 x2.w.heap.size x3.w.heap.size | skip)) | ((fail_if_success revert x4); obtain ⟨x4, rfl⟩ := after_of hb; clear hb; have hz4 := after_size x4; (try (simp only [zYA, zYD, zYC] at hz4)); (try (have f4gA := zY1 gA x4.w.heap.size)); (first | have f40 := zY3 w.heap.size x4.w.heap.size | have f40 := zY2 w.heap.size x4.w.heap.size | have f40 := zY1 w.heap.size x4.w.heap.size | skip); (first | have f41 := zY2 x1.w.heap.size x4.w.heap.size | have f41 := zY1 x1.w.heap.size x4.w.heap.size | skip); (first | have f42 := zY2 x2.w.heap.size x4.w.heap.size | have f42 := zY1 x2.w.heap.size x4.w.heap.size | skip); (first | have f43 := zY2 x3.w.heap.size x4.w.heap.size | have f43 := zY1 x3.w.heap.size x4.w.heap.size | skip)) | ((fail_if_success revert x5); obtain ⟨x5, rfl⟩ := after_of hb; clear hb; have hz5 := after_size x5; (try (simp only [zYA, zYD, zYC] at hz5)); (try (have f5gA := zY1 gA x5.w.heap.size)); (first | have f50 := zY3 w.heap.size x5.w.heap.size | have f50 := zY2 w.heap.size x5.w.heap.size | have f50 := zY1 w.heap.size x5.w.heap.size | skip); (first | have f51 := zY2 x1.w.heap.size x5.w.heap.size | have f51 := zY1 x1.w.heap.size x5.w.heap.size | skip); (first | have f52 := zY2 x2.w.heap.size x5.w.heap.size | have f52 := zY1 x2.w.heap.size x5.w.heap.size | skip); (first | have f53 := zY2 x3.w.heap.size x5.w.heap.size | have f53 := zY1 x3.w.heap.size x5.w.heap.size | skip); (first | have f54 := zY2 x4.w.heap.size x5.w.heap.size | have f54 := zY1 x4.w.heap.size x5.w.heap.size | skip))))
        all_goals exact bodyPost_ret (v := .tuple #[.agg #[.int .i64 0, .int .i64 0], .int .i64 1]) (by simp only [results, Tryz.results101]; go_simp) rfl (NextIs.mk hs.out (by (repeat (first | exact Below.refl _ _ | assumption | refine bel_alloc ?_ _ | refine bel_after _ ?_ | refine bel_drewN ?_ _ | refine bel_drew ?_ | refine bel_set ?_ (by first | omega | (simp only [zYA, zYD, zYC]; omega) | (simp; omega)) _))))

end Go.Proofs.YtolbmemogoojhaaGreat
/- Numbers as bytes, seven bits a group: plain lists, no program. -/
namespace Go.Proofs.YtolbmemogoojhaaGreat
set_option linter.unusedVariables false

/-- The groups ahead of the last one. -/
def hi (m : Nat) : List UInt8 := if h : m = 0 then [] else hi (m / 128) ++ [UInt8.ofNat (m % 128 + 128)]
termination_by m
decreasing_by omega
def putL (n : Nat) : List UInt8 := hi (n / 128) ++ [UInt8.ofNat (n % 128)]

theorem hi_zero : hi 0 = [] := by rw [hi]; simp
theorem hi_pos {m : Nat} (h : m ≠ 0) : hi m = hi (m / 128) ++ [UInt8.ofNat (m % 128 + 128)] := by rw [hi]; simp [h]
theorem hi_length_le : ∀ (k m : Nat), m < 128 ^ k → (hi m).length ≤ k
  | 0, m, h => by have : m = 0 := by simpa using h
                  subst this; simp [hi_zero]
  | k + 1, m, h => by
    by_cases h0 : m = 0
    · subst h0; simp [hi_zero]
    · rw [hi_pos h0]
      have := hi_length_le k (m / 128) (by rw [Nat.pow_succ] at h; omega)
      simp; omega
theorem hi_length_eq_zero {m : Nat} (h : (hi m).length = 0) : m = 0 := by
  by_cases h0 : m = 0
  · exact h0
  · rw [hi_pos h0] at h; simp at h
theorem lt_hi : ∀ (k m : Nat), (hi m).length ≤ k → m < 128 ^ k
  | 0, m, h => by have := hi_length_eq_zero (by omega : (hi m).length = 0); subst this; simp
  | k + 1, m, h => by
    by_cases h0 : m = 0
    · subst h0; exact Nat.pow_pos (by omega)
    · rw [hi_pos h0] at h
      have := lt_hi k (m / 128) (by simp at h; omega)
      rw [Nat.pow_succ]; omega
theorem putL_length (n : Nat) : (putL n).length = (hi (n / 128)).length + 1 := by simp [putL]
theorem putL_le (n : Nat) (h : n < 18446744073709551616) : 1 ≤ (putL n).length ∧ (putL n).length ≤ 10 := by
  have := hi_length_le 9 (n / 128) (by have : (128 : Nat) ^ 9 = 9223372036854775808 := by decide
                                       omega)
  rw [putL_length]; omega

theorem hi_range (m : Nat) : hi m = (List.range (hi m).length).map fun p => UInt8.ofNat (m / 128 ^ ((hi m).length - 1 - p) % 128 + 128) := by
  induction m using Nat.strongRecOn with
  | _ m ih =>
    by_cases h0 : m = 0
    · subst h0; simp [hi_zero]
    · have e := hi_pos h0
      have hl : (hi m).length = (hi (m / 128)).length + 1 := by rw [e]; simp
      rw [hl, List.range_succ, List.map_append]
      conv => lhs; rw [e, ih (m / 128) (by omega)]
      congr 1
      · apply List.map_congr_left
        intro p hp
        have hp' := List.mem_range.1 hp
        rw [show (hi (m / 128)).length + 1 - 1 - p = ((hi (m / 128)).length - 1 - p) + 1 by omega, Nat.pow_succ, Nat.mul_comm, ← Nat.div_div_eq_div_mul]
      · simp

/-- What Put has written behind i rounds. -/
def arrU (n k i : Nat) : List UInt8 := (List.range k).map fun p => if k - 1 - p < i then UInt8.ofNat (n / 128 ^ (k - 1 - p) % 128 + 128) else 0
theorem arrU_length (n k i : Nat) : (arrU n k i).length = k := by simp [arrU]
theorem arrU_set (n k i : Nat) (hi : i < k) : (arrU n k i).set (k - 1 - i) (UInt8.ofNat (n / 128 ^ i % 128 + 128)) = arrU n k (i + 1) := by
  apply List.ext_getElem
  · simp [arrU]
  · intro p h1 h2
    have hp : p < k := by simpa [arrU] using h2
    rw [List.getElem_set]
    simp only [arrU, List.getElem_map, List.getElem_range]
    split
    · rename_i h; subst h
      rw [if_pos (by omega), show k - 1 - (k - 1 - i) = i by omega]
    · rename_i h
      by_cases hlt : k - 1 - p < i
      · rw [if_pos hlt, if_pos (by omega)]
      · rw [if_neg hlt, if_neg (by omega)]
theorem arrU_last (n k : Nat) (hk : k = (putL n).length) : (arrU n k k).set (k - 1) (UInt8.ofNat (n % 128)) = putL n := by
  have hl := putL_length n
  have hr := hi_range (n / 128)
  have hk1 : k = (hi (n / 128)).length + 1 := by omega
  subst hk1
  generalize hL : (hi (n / 128)).length = L at *
  unfold putL
  rw [hr]
  apply List.ext_getElem
  · simp [arrU]
  · intro p h1 h2
    have hp : p < L + 1 := by simpa [arrU] using h1
    rw [List.getElem_set]
    split
    · rename_i h
      have : p = L := by omega
      subst this
      rw [List.getElem_append_right (by simp)]
      simp
    · rename_i h
      have hpL : p < L := by omega
      rw [List.getElem_append_left (by simpa using hpL)]
      simp only [arrU, List.getElem_map, List.getElem_range]
      rw [if_pos (by omega), show L + 1 - 1 - p = (L - 1 - p) + 1 by omega, Nat.pow_succ, Nat.mul_comm, ← Nat.div_div_eq_div_mul]
theorem arrU_cleared (n k : Nat) (hk : 1 ≤ k) : (arrU n k k)[k - 1]? = some (UInt8.ofNat (n % 128 + 128)) := by
  rw [List.getElem?_eq_getElem (by rw [arrU_length]; omega)]
  simp only [arrU, List.getElem_map, List.getElem_range]
  rw [if_pos (by omega), show k - 1 - (k - 1) = 0 by omega]
  simp

/-! Get -/
def getF : Nat → Nat → List UInt8 → Option (Nat × Nat)
  | _, _, [] => none
  | i, n, c :: r =>
    if i = 10 ∨ (i = 9 ∧ 0 < n / 144115188075855872) ∨ (i = 0 ∧ c.toNat = 128) then none
    else if c.toNat < 128 then some (n * 128 + c.toNat % 128, i + 1) else getF (i + 1) (n * 128 + c.toNat % 128) r
def getR (bs : List UInt8) : Option (Nat × Nat) := getF 0 0 bs

theorem u8_ofNat_toNat (x : Nat) (h : x < 256) : (UInt8.ofNat x).toNat = x := by simp [Nat.mod_eq_of_lt h]
theorem u8_of (c : UInt8) (x : Nat) (h : c.toNat = x) : UInt8.ofNat x = c := by subst h; simp

theorem getF_hi (m : Nat) (rest : List UInt8) (h : (hi m).length ≤ 9) : getF 0 0 (hi m ++ rest) = getF (hi m).length m rest := by
  induction m using Nat.strongRecOn generalizing rest with
  | _ m ih =>
    by_cases h0 : m = 0
    · subst h0; simp [hi_zero]
    · have e := hi_pos h0
      have hl : (hi m).length = (hi (m / 128)).length + 1 := by rw [e]; simp
      have hb : (UInt8.ofNat (m % 128 + 128)).toNat = m % 128 + 128 := u8_ofNat_toNat _ (by omega)
      rw [hl]
      conv => lhs; rw [e, List.append_assoc, ih (m / 128) (by omega) _ (by omega)]
      rw [List.singleton_append, getF, hb, if_neg, if_neg (by omega), show m / 128 * 128 + (m % 128 + 128) % 128 = m by omega]
      rintro (h1 | ⟨h1, _⟩ | ⟨h1, h2⟩)
      · omega
      · omega
      · have := hi_length_eq_zero h1
        omega

theorem getR_put (n : Nat) (x : List UInt8) (h : n < 18446744073709551616) : getR (putL n ++ x) = some (n, (putL n).length) := by
  have hl := putL_le n h
  rw [putL_length] at hl
  have hb : (UInt8.ofNat (n % 128)).toNat = n % 128 := u8_ofNat_toNat _ (by omega)
  unfold getR
  conv => lhs; rw [putL, List.append_assoc, getF_hi _ _ (by omega)]
  rw [List.singleton_append, getF, hb, if_neg, if_pos (by omega), putL_length, show n / 128 * 128 + n % 128 % 128 = n by omega]
  rintro (h1 | ⟨h1, h2⟩ | ⟨h1, h2⟩)
  · omega
  · omega
  · omega

theorem getF_some : ∀ (r : List UInt8) (i a n u : Nat), (hi a).length = i → i ≤ 10 → getF i a r = some (n, u) →
    n < 18446744073709551616 ∧ i < u ∧ u ≤ i + r.length ∧ u ≤ 10 ∧ putL n = (hi a ++ r).take u
  | [], i, a, n, u, _, _, h => by simp [getF] at h
  | c :: r, i, a, n, u, hi_, h10, h => by
    have hc : c.toNat < 256 := c.toNat_lt
    rw [getF] at h
    split at h
    · cases h
    rename_i hno
    have ha := lt_hi i a (by omega)
    split at h
    · rename_i hlt
      simp only [Option.some.injEq, Prod.mk.injEq] at h
      obtain ⟨rfl, rfl⟩ := h
      refine ⟨?_, by omega, by simp <;> omega, by omega, ?_⟩
      · have h9 : (128 : Nat) ^ 9 = 9223372036854775808 := by decide
        rcases Nat.lt_or_ge i 9 with h8 | h8
        · have : (128 : Nat) ^ i ≤ 128 ^ 8 := Nat.pow_le_pow_right (by omega) (by omega)
          have h8' : (128 : Nat) ^ 8 = 72057594037927936 := by decide
          omega
        · omega
      · unfold putL
        rw [show (a * 128 + c.toNat % 128) / 128 = a by omega, show (a * 128 + c.toNat % 128) % 128 = c.toNat by omega, u8_of c _ rfl]
        rw [show hi a ++ c :: r = (hi a ++ [c]) ++ r by simp, List.take_left' (by simp <;> omega)]
    · rename_i hge
      have e : hi (a * 128 + c.toNat % 128) = hi a ++ [c] := by
        have hne : a * 128 + c.toNat % 128 ≠ 0 := by
          intro h0
          have a0 : a = 0 := by omega
          subst a0
          rw [hi_zero] at hi_
          simp at hi_
          omega
        rw [hi_pos hne, show (a * 128 + c.toNat % 128) / 128 = a by omega, show (a * 128 + c.toNat % 128) % 128 + 128 = c.toNat by omega, u8_of c _ rfl]
      have := getF_some r (i + 1) _ n u (by rw [e]; simp; omega) (by omega) h
      rw [e] at this
      obtain ⟨h1, h2, h3, h4, h5⟩ := this
      exact ⟨h1, by omega, by simp <;> omega, h4, by simpa using h5⟩

theorem getR_some {x : List UInt8} {n u : Nat} (h : getR x = some (n, u)) : n < 18446744073709551616 ∧ 0 < u ∧ u ≤ x.length ∧ u ≤ 10 ∧ putL n = x.take u := by
  have := getF_some x 0 0 n u (by simp [hi_zero]) (by omega) h
  simpa [hi_zero] using this

/-! The reference's Get -/
def rgetF : Nat → Nat → List UInt8 → List UInt8 → Option (Nat × Nat)
  | _, _, _, [] => none
  | i, n, p, c :: r =>
    if 10 ≤ i then none
    else if c.toNat < 128 then (if putL ((128 * n + c.toNat % 128) % 18446744073709551616) = p ++ [c] then some ((128 * n + c.toNat % 128) % 18446744073709551616, i + 1) else none)
    else rgetF (i + 1) ((128 * n + c.toNat % 128) % 18446744073709551616) (p ++ [c]) r
def rgetR (bs : List UInt8) : Option (Nat × Nat) := rgetF 0 0 [] bs

theorem rgetF_some : ∀ (r : List UInt8) (i a : Nat) (p : List UInt8) (n u : Nat), p.length = i → rgetF i a p r = some (n, u) →
    n < 18446744073709551616 ∧ u ≤ i + r.length ∧ putL n = (p ++ r).take u ∧ u = (putL n).length
  | [], _, _, _, _, _, _, h => by simp [rgetF] at h
  | c :: r, i, a, p, n, u, hp, h => by
    rw [rgetF] at h
    split at h
    · cases h
    split at h
    · split at h
      · rename_i hlt he
        simp only [Option.some.injEq, Prod.mk.injEq] at h
        obtain ⟨rfl, rfl⟩ := h
        refine ⟨Nat.mod_lt _ (by omega), by simp <;> omega, ?_, by rw [he]; simp [hp]⟩
        rw [he, show p ++ c :: r = (p ++ [c]) ++ r by simp, List.take_left' (by simp [hp])]
      · cases h
    · have := rgetF_some r (i + 1) _ (p ++ [c]) n u (by simp [hp]) h
      obtain ⟨h1, h2, h3, h4⟩ := this
      exact ⟨h1, by simp <;> omega, by simpa using h3, h4⟩

theorem rgetF_hi (m : Nat) (hm : m < 18446744073709551616) (rest : List UInt8) (h : (hi m).length ≤ 9) : rgetF 0 0 [] (hi m ++ rest) = rgetF (hi m).length m (hi m) rest := by
  induction m using Nat.strongRecOn generalizing rest with
  | _ m ih =>
    by_cases h0 : m = 0
    · subst h0; simp [hi_zero]
    · have e := hi_pos h0
      have hl : (hi m).length = (hi (m / 128)).length + 1 := by rw [e]; simp
      have hb : (UInt8.ofNat (m % 128 + 128)).toNat = m % 128 + 128 := u8_ofNat_toNat _ (by omega)
      rw [hl]
      conv => lhs; rw [e, List.append_assoc, ih (m / 128) (by omega) (by omega) _ (by omega)]
      rw [List.singleton_append, rgetF, hb, if_neg (by omega), if_neg (by omega), show (128 * (m / 128) + (m % 128 + 128) % 128) % 18446744073709551616 = m by omega, ← e]

theorem rgetR_put (n : Nat) (x : List UInt8) (h : n < 18446744073709551616) : rgetR (putL n ++ x) = some (n, (putL n).length) := by
  have hl := putL_le n h
  rw [putL_length] at hl
  have hb : (UInt8.ofNat (n % 128)).toNat = n % 128 := u8_ofNat_toNat _ (by omega)
  unfold rgetR
  conv => lhs; rw [putL, List.append_assoc, rgetF_hi _ (by omega) _ (by omega)]
  have e : (128 * (n / 128) + n % 128 % 128) % 18446744073709551616 = n := by omega
  rw [List.singleton_append, rgetF, hb, if_neg (by omega), if_pos (by omega), e, if_pos (by rfl), putL_length]

theorem rget_eq (x : List UInt8) : rgetR x = getR x := by
  cases h : rgetR x with
  | some q =>
    obtain ⟨n, u⟩ := q
    obtain ⟨h1, h2, h3, h4⟩ := rgetF_some x 0 0 [] n u rfl h
    simp only [List.nil_append] at h3
    have : x = putL n ++ x.drop u := by rw [h3, List.take_append_drop]
    rw [this, getR_put n _ h1, h4]
  | none =>
    cases h2 : getR x with
    | none => rfl
    | some q =>
      obtain ⟨n, u⟩ := q
      obtain ⟨k1, k2, k3, k4, k5⟩ := getR_some h2
      have : x = putL n ++ x.drop u := by rw [k5, List.take_append_drop]
      rw [this, rgetR_put n _ k1] at h
      cases h

end Go.Proofs.YtolbmemogoojhaaGreat
/- Rows of cells that are read, rows that a call owns, and append from whatever row. No program. -/
namespace Go.Proofs.YtolbmemogoojhaaGreat
open Go Go.RowKit Go.Deep
set_option linter.unusedVariables false
set_option linter.unusedSimpArgs false

/-- A slice of n elements of so many cells, whose cells read cs. -/
def Row (w : World) (size : Nat) (v : Value) (n : Nat) (cs : List Value) : Prop :=
  cs.length = n * size ∧ ∃ a c, v = .slice a n c ∧ n ≤ c ∧ c ≤ maxLen ∧ (a = none → c = 0) ∧
    (0 < cs.length → ∃ b off, a = some ⟨b, off, none⟩ ∧ ∀ j u, cs[j]? = some u → w.cell? ⟨b, off + j, none⟩ = some u)

theorem Row.keep {w w' : World} {size n : Nat} {v : Value} {cs : List Value} (h : Row w size v n cs) (hk : ∀ b o u, w.cell? ⟨b, o, none⟩ = some u → w'.cell? ⟨b, o, none⟩ = some u) : Row w' size v n cs := by
  obtain ⟨hl, a, c, rfl, h1, h2, h3, h4⟩ := h
  refine ⟨hl, a, c, rfl, h1, h2, h3, fun hp => ?_⟩
  obtain ⟨b, off, rfl, hc⟩ := h4 hp
  exact ⟨b, off, rfl, fun j u hj => hk _ _ _ (hc j u hj)⟩
theorem cell_below {w w' : World} (h : Below w.heap.size w w') (b o : Nat) (u : Value) (hc : w.cell? ⟨b, o, none⟩ = some u) : w'.cell? ⟨b, o, none⟩ = some u :=
  (h.cell (p := ⟨b, o, none⟩) (World.block_lt_of_cell? w _ hc)).trans hc
theorem Row.below {w w' : World} {size n : Nat} {v : Value} {cs : List Value} (h : Row w size v n cs) (hb : Below w.heap.size w w') : Row w' size v n cs := h.keep (cell_below hb)
theorem Row.after {w : World} {size n : Nat} {v : Value} {cs : List Value} (h : Row w size v n cs) (x : After w) : Row x.w size v n cs := h.below x.h
theorem Row.alloc {w : World} {size n : Nat} {v : Value} {cs : List Value} (h : Row w size v n cs) (o : Obj) : Row (w.alloc o) size v n cs := h.below (bel_alloc (Below.refl _ _) o)
theorem Row.drew {w : World} {size n : Nat} {v : Value} {cs : List Value} (h : Row w size v n cs) : Row w.drew size v n cs := h
theorem Row.nil (w : World) (size : Nat) : Row w size (.slice none 0 0) 0 [] := ⟨by simp, none, 0, rfl, Nat.le_refl _, by decide, fun _ => rfl, fun h => by simp at h⟩
theorem Row.len_le {w : World} {size n : Nat} {v : Value} {cs : List Value} (h : Row w size v n cs) : n ≤ maxLen := by obtain ⟨_, a, c, _, h1, h2, _⟩ := h; omega

theorem row_of_own {w : World} {base size n : Nat} {e : TypeId} {v : Value} {cs : List Value} (h : w.ownsRow base e size v n cs) : Row w size v n cs := by
  have hc := fun g => h.cells (g := g)
  obtain ⟨hl, ⟨rfl, rfl⟩ | ⟨g, cap, cur, rfl, hb, hg, h1, h2, h3, h4⟩⟩ := h
  · have : cs = [] := by simpa using hl
    subst this
    exact Row.nil w size
  · refine ⟨hl, some ⟨g, 0, none⟩, cap, rfl, h1, h2, (fun h => by cases h), fun _ => ⟨g, 0, rfl, fun j u hj => ?_⟩⟩
    have := hc g rfl j u hj
    rw [Addr.add_lit] at this
    exact this

/-- What an append can take: a row, or nil. -/
theorem run_append_row {P : Program} {w : World} (base : Nat) (t ty e : TypeId) (i : TypeInfo) (z : Value) (size bytes : Nat) (ht : P.underlying t = some (.slice e)) (hi : P.info? e = some i) (hz : i.zero = some z)
    (hsize : i.size = size) (hby : i.bytes = bytes) (hzs : z.cells.size = size) (hsz : 0 < size)
    (v : Value) (n : Nat) (xs : List Value) (hown : w.ownsRow base e size v n xs)
    (x : Value) (m : Nat) (news : List Value) (hx : Row w size x m news) (h1 : ∀ u ∈ news, u.oneCell' = true)
    (h63 : n + m ≤ maxLen) (hbytes : (n + m) * bytes ≤ 140737488355328) (hbase : base ≤ w.heap.size) :
    ∃ v' w', (Builtin.append_ #[t, t] ty #[v, x]).run P w = .ok v' w' ∧ w'.ownsRow base e size v' (n + m) (xs ++ news) ∧ w.grownBy w' v.ownBlock := by
  obtain ⟨hl, a, c, rfl, k1, k2, k3, k4⟩ := hx
  by_cases hm : m = 0
  · subst hm
    have hn : news = [] := by simpa using hl
    subst hn
    simp only [Nat.add_zero, List.append_nil]
    cases a with
    | none =>
      have hc0 := k3 rfl
      subst hc0
      subst hsize
      obtain ⟨hxl, ⟨rfl, rfl⟩ | ⟨g, cap, cur, rfl, hbg, hg, hnc, hcm, hcs, htake⟩⟩ := id hown
      · refine ⟨.slice none 0 0, w, ?_, hown, ⟨rfl, rfl, rfl, Nat.le_refl _, fun _ _ _ => rfl⟩⟩
        simp [Builtin.append_, run_underlying ht, sizeOf, typeInfo, hi, Builtin.lenOf, Builtin.firstCells, loadCells, loadCellsFrom]
      · have hr := run_append_room_src (P := P) w t t ty e i ht hi g 0 n cap (.slice none 0 0) 0 [] (Src.ofNil w ht 0) (by omega) (by simp) (by simp)
        refine ⟨_, _, hr, ?_, ⟨rfl, rfl, rfl, by simp [World.setCells], fun _ _ _ => by simp [World.setCells]⟩⟩
        simpa [World.setCells] using hown
    | some ad =>
      obtain ⟨v', w', hr, h2, h3, _⟩ := run_append_own (P := P) w base t ty e i z size bytes ht hi hz hsize hby hzs hsz v n xs hown ad 0 c [] (by simp) (by simp) (by simp) (by omega) (by simpa using hbytes) hbase
      exact ⟨v', w', hr, by simpa using h2, h3⟩
  · have hpos : 0 < news.length := by rw [hl]; exact Nat.mul_pos (by omega) hsz
    obtain ⟨b, off, rfl, hc⟩ := k4 hpos
    obtain ⟨v', w', hr, h2, h3, _⟩ := run_append_own (P := P) w base t ty e i z size bytes ht hi hz hsize hby hzs hsz v n xs hown ⟨b, off, none⟩ m c news hl
      (fun j u hj => by rw [Addr.add_lit]; exact hc j u hj) h1 h63 hbytes hbase
    exact ⟨v', w', hr, h2, h3⟩

/-- THE OPERATION, for the walk. -/
theorem wpList_append_row {P : Program} {w : World} {ops : Array Oper} {rest : List Oper} {o : Oper} {a : Act} {Q : Exit → Act → World → Prop} (hgd : o.guard = none) (s x : Operand) (t : TypeId)
    (ho : o.op = .call { callee := .builtin .append, args := #[s, x], argTypes := #[t, t] })
    (base : Nat) (e : TypeId) (z : Value) (size bytes : Nat) (ht : P.underlying t = some (.slice e)) (hinfo : (P.info? e).map (fun i => (i.zero, i.size, i.bytes)) = some (some z, size, bytes))
    (hzs : z.cells.size = size) (hsz : 0 < size)
    (v : Value) (n : Nat) (xs : List Value) (hs : a.eval s = v) (hown : w.ownsRow base e size v n xs)
    (xv : Value) (m : Nat) (news : List Value) (hxv : a.eval x = xv) (hx : Row w size xv m news) (h1 : ∀ u ∈ news, u.oneCell' = true)
    (h63 : n + m ≤ maxLen) (hbytes : (n + m) * bytes ≤ 140737488355328) (hbase : base ≤ w.heap.size)
    (h : ∀ v' w', w'.ownsRow base e size v' (n + m) (xs ++ news) → w.grownBy w' v.ownBlock → wpList P ops Q rest (a.put o.dst v') w') : wpList P ops Q (o :: rest) a w := by
  obtain ⟨i, hi, hzz⟩ := Option.map_eq_some_iff.1 hinfo
  simp only [Prod.mk.injEq] at hzz
  obtain ⟨hz, hsi, hby⟩ := hzz
  refine wpList_plain hgd fun K hK => ?_
  obtain ⟨v', w', hr, h2, h3⟩ := run_append_row (P := P) base t o.type e i z size bytes ht hi hz hsi hby hzs hsz v n xs hown xv m news hx h1 h63 hbytes hbase
  unfold Oper.wp execOp
  simp only [ho, resolve, invoke, builtin, Sem.run_bind, Sem.run_pure, Result.andThen_ok, List.map_toArray, List.map_cons, List.map_nil, hs, hxv, hr]
  exact hK _ _ (h v' w' h2 h3)

/-- What has grown at a row of the call's own, seen from the call's base. -/
theorem bel_grown {w0 w w' : World} {base size n : Nat} {e : TypeId} {v : Value} {xs : List Value} (h : Below w0.heap.size w0 w) (hown : w.ownsRow w0.heap.size e size v n xs) (hg : w.grownBy w' v.ownBlock) : Below w0.heap.size w0 w' :=
  h.grown hg h.size fun k hk => (hown.lt k hk).1

theorem own_lower {w : World} {base base' size n : Nat} {e : TypeId} {v : Value} {xs : List Value} (h : w.ownsRow base e size v n xs) (hb : base' ≤ base) : w.ownsRow base' e size v n xs := by
  obtain ⟨hl, h | ⟨g, cap, cur, rfl, h0, h1⟩⟩ := h
  · exact ⟨hl, .inl h⟩
  · exact ⟨hl, .inr ⟨g, cap, cur, rfl, by omega, h1⟩⟩
theorem own_below {w w' : World} {base size n : Nat} {e : TypeId} {v : Value} {xs : List Value} (h : w.ownsRow base e size v n xs) (hb : Below w.heap.size w w') : w'.ownsRow base e size v n xs := by
  obtain ⟨hl, h | ⟨g, cap, cur, rfl, h0, h1, h2⟩⟩ := h
  · exact ⟨hl, .inl h⟩
  · have hg : g < w.heap.size := (Array.getElem?_eq_some_iff.1 h1).1
    exact ⟨hl, .inr ⟨g, cap, cur, rfl, h0, by rw [hb.block g hg]; exact h1, h2⟩⟩

/-! Bytes -/
def encU (bs : List UInt8) : List Value := bs.map fun b => .int .u8 (b.toNat : Int)
theorem encU_length (bs : List UInt8) : (encU bs).length = bs.length := by simp [encU]
theorem encU_append (a b : List UInt8) : encU (a ++ b) = encU a ++ encU b := by simp [encU]
theorem encU_get (bs : List UInt8) (j : Nat) : (encU bs)[j]? = (bs[j]?).map fun b => .int .u8 (b.toNat : Int) := by simp [encU]
theorem encU_one (bs : List UInt8) : ∀ u ∈ encU bs, u.oneCell' = true := by
  intro u hu
  obtain ⟨b, _, rfl⟩ := List.mem_map.1 hu
  rfl
def Byt (w : World) (v : Value) (bs : List UInt8) : Prop := Row w 1 v bs.length (encU bs)
theorem Byt.row {w : World} {v : Value} {bs : List UInt8} (h : Byt w v bs) : Row w 1 v bs.length (encU bs) := h
theorem Byt.open_ {w : World} {v : Value} {bs : List UInt8} (h : Byt w v bs) : ∃ a c, v = .slice a bs.length c ∧ bs.length ≤ c ∧ c ≤ maxLen ∧ (a = none → c = 0) ∧
    (0 < bs.length → ∃ b off, a = some ⟨b, off, none⟩ ∧ ∀ j, j < bs.length → w.cell? ⟨b, off + j, none⟩ = some (.int .u8 ((bs.getD j 0).toNat : Int))) := by
  obtain ⟨hl, a, c, rfl, h1, h2, h3, h4⟩ := h
  refine ⟨a, c, rfl, h1, h2, h3, fun hp => ?_⟩
  obtain ⟨b, off, rfl, hc⟩ := h4 (by simpa [encU] using hp)
  refine ⟨b, off, rfl, fun j hj => hc j _ ?_⟩
  rw [encU_get, List.getElem?_eq_getElem hj]
  simp [List.getD_eq_getElem?_getD, List.getElem?_eq_getElem hj]
theorem Byt.below {w w' : World} {v : Value} {bs : List UInt8} (h : Byt w v bs) (hb : Below w.heap.size w w') : Byt w' v bs := Row.below h hb
theorem Byt.after {w : World} {v : Value} {bs : List UInt8} (h : Byt w v bs) (x : After w) : Byt x.w v bs := Row.after h x
theorem Byt.alloc {w : World} {v : Value} {bs : List UInt8} (h : Byt w v bs) (o : Obj) : Byt (w.alloc o) v bs := Row.alloc h o
theorem Byt.drew {w : World} {v : Value} {bs : List UInt8} (h : Byt w v bs) : Byt w.drew v bs := h

/-- A slice of bytes that the call owns. -/
def OwnU (base : Nat) (w : World) (e : TypeId) (v : Value) (bs : List UInt8) : Prop := w.ownsRow base e 1 v bs.length (encU bs)
theorem OwnU.byt {base : Nat} {w : World} {e : TypeId} {v : Value} {bs : List UInt8} (h : OwnU base w e v bs) : Byt w v bs := row_of_own h
/-- What a maker of bytes leaves. -/
def MadeU (e : TypeId) (bs : List UInt8) (w : World) (x : Ending) (w' : World) : Prop := ∃ v, x = .returned v ∧ OwnU w.heap.size w' e v bs ∧ Below w.heap.size w w'


/-- A list of bytes as a text. -/
def bstr (bs : List UInt8) : ByteArray := ⟨bs.toArray⟩
theorem bstr_toList (bs : List UInt8) : (bstr bs).toList = bs := by rw [ByteArray.toList_eq]; rfl
theorem bstr_data (bs : List UInt8) : (bstr bs).data.toList = bs := rfl
theorem bstr_size (bs : List UInt8) : (bstr bs).size = bs.length := rfl
theorem bstr_of (s : ByteArray) : bstr s.data.toList = s := rfl

theorem conv_bytes {P : Program} {w : World} (src dst e : TypeId) (hs : P.underlying src = some (.slice e)) (he : P.underlying e = some (.int .u8)) (hd : P.underlying dst = some .string)
    {v : Value} {bs : List UInt8} (h : Byt w v bs) : (convert src dst v).run P w = .ok (.string (bstr bs)) w := by
  obtain ⟨a, c, rfl, h1, h2, h3, h4⟩ := h.open_
  cases a with
  | none =>
    have hc := h3 rfl
    have hb : bs = [] := List.eq_nil_of_length_eq_zero (by omega)
    subst hb
    exact run_convert_bytes_nil w src e hs he _ _ dst hd
  | some ad =>
    by_cases hp : 0 < bs.length
    · obtain ⟨b, off, he', hc⟩ := h4 hp
      cases he'
      have := run_convert_bytes_arg w src e hs he b off bs.length c (bs.map fun b => (b.toNat : Int)) (by simp) (fun i hi => by
        rw [hc i hi]
        congr 2
        simp [List.getD_eq_getElem?_getD, List.getElem?_eq_getElem hi]) dst hd
      rw [this]
      congr 2
      have e : ((fun n : Int => UInt8.ofNat n.toNat) ∘ fun b : UInt8 => (b.toNat : Int)) = id := by funext b; simp
      simp [strOfNums, bstr, e]
    · have hb : bs = [] := List.eq_nil_of_length_eq_zero (by omega)
      subst hb
      rw [run_convert_bytes_string w src dst e _ _ _ hs he hd, run_bytesToString w ad _ c [] (by simp [loadCells, loadCellsFrom])]
      rfl

theorem Byt.take {w : World} {a : Option Addr} {c : Nat} {bs : List UInt8} (h : Byt w (.slice a bs.length c) bs) (k : Nat) (hk : k ≤ bs.length) : Byt w (.slice a k c) (bs.take k) := by
  obtain ⟨a', c', he, h1, h2, h3, h4⟩ := Byt.open_ h
  injection he with e1 e2 e3
  subst e1; subst e3
  have hl : (bs.take k).length = k := by simp; omega
  refine ⟨by simp [encU_length], a, c, by rw [hl], by rw [hl]; omega, h2, h3, fun hp => ?_⟩
  have hp' : 0 < bs.length := by rw [encU_length, hl] at hp; omega
  obtain ⟨b, off, rfl, hc⟩ := h4 hp'
  refine ⟨b, off, rfl, fun j u hj => ?_⟩
  rw [encU_get, List.getElem?_take] at hj
  split at hj
  · rename_i hjk
    rw [hc j (by omega)]
    rw [List.getElem?_eq_getElem (by omega)] at hj
    simp at hj
    rw [← hj, List.getD_eq_getElem?_getD, List.getElem?_eq_getElem (by omega)]; rfl
  · cases hj

end Go.Proofs.YtolbmemogoojhaaGreat
