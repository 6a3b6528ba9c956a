/- The same rule, the frame written out by a mask. No program. -/
import Derived.Test.YtolbmemogoojhaaSlots
namespace Go.Proofs.Ytolbmemogoojhaa
open Go Go.RowKit Go.Deep
set_option linter.unusedVariables false
set_option linter.unusedSimpArgs false
def fillM : List Bool → (Nat → Value) → Nat → List Value → List Value
  | true :: m, u, k, _ :: l => u k :: fillM m u (k + 1) l
  | false :: m, u, k, c :: l => c :: fillM m u (k + 1) l
  | _, _, _, l => l
def maskB (ds : List Nat) : List Bool → Nat → Nat → Bool
  | b :: m, k, n + 1 => (ds.contains k == b) && maskB ds m (k + 1) n
  | [], k, n + 1 => !(ds.contains k) && maskB ds [] (k + 1) n
  | _, _, 0 => true
theorem fill_mask (ds : List Nat) (u : Nat → Value) : ∀ (l : List Value) (m : List Bool) (k : Nat), maskB ds m k l.length = true → fillR ds u k l = fillM m u k l
  | [], m, k, _ => by cases m with | nil => rfl | cons b m => cases b <;> rfl
  | c :: l, [], k, h => by
    simp only [List.length_cons, maskB, Bool.and_eq_true, Bool.not_eq_true'] at h
    have := fill_mask ds u l [] (k + 1) h.2
    rw [fillR, if_neg (by rw [h.1]; simp), this]
    cases l <;> rfl
  | c :: l, true :: m, k, h => by
    simp only [List.length_cons, maskB, Bool.and_eq_true, beq_iff_eq] at h
    rw [fillR, if_pos h.1, fill_mask ds u l m (k + 1) h.2]; rfl
  | c :: l, false :: m, k, h => by
    simp only [List.length_cons, maskB, Bool.and_eq_true, beq_iff_eq] at h
    rw [fillR, if_neg (by rw [h.1]; simp), fill_mask ds u l m (k + 1) h.2]; rfl
def HopM (P : Program) (l : List Oper) (W : World) (df : List Deferred) (L : List Value) (m : List Bool) (sp : List Spec) (o : Oper) (s : Spec) : Prop :=
  ∀ (u : Nat → Value) (w : World), Below W.heap.size W w → Knows sp w u s.deps → wpList P l.toArray (PostS w o s ⟨(fillM m u 0 L).toArray, df⟩) [o] ⟨(fillM m u 0 L).toArray, df⟩ w
def HopsM (P : Program) (l : List Oper) (W : World) (df : List Deferred) (L : List Value) (m : List Bool) (sp : List Spec) : List Oper → List Spec → Prop
  | o :: r, s :: t => HopM P l W df L m sp o s ∧ HopsM P l W df L m sp r t
  | _, _ => True
theorem hops_cons {P : Program} {l : List Oper} {W : World} {df : List Deferred} {L : List Value} {m : List Bool} {sp : List Spec} {o : Oper} {s : Spec} {r : List Oper} {t : List Spec} (h : HopM P l W df L m sp o s) (k : HopsM P l W df L m sp r t) : HopsM P l W df L m sp (o :: r) (s :: t) := ⟨h, k⟩
theorem stable_nil : Stable [] := fun _ h => (List.not_mem_nil h).elim
theorem stable_cons {s : Spec} {sp : List Spec} (h : ∀ (w w' : World) (v : Value), Below w.heap.size w w' → s.val w v → s.val w' v) (k : Stable sp) : Stable (s :: sp) := fun x hx => by
  rcases List.mem_cons.1 hx with rfl | hx
  · exact h
  · exact k x hx
/-- What is known of all slots behind the head. -/
def KnowsAll (w : World) (u : Nat → Value) : List Spec → Prop
  | [] => True
  | s :: t => (∀ d, s.dst = some d → s.val w (u d)) ∧ KnowsAll w u t
theorem knowsAll_of {w : World} {u : Nat → Value} : ∀ {sp : List Spec}, (∀ (j : Nat) (s : Spec) (d : Tmp), sp[j]? = some s → s.dst = some d → s.val w (u d)) → KnowsAll w u sp
  | [], _ => trivial
  | s :: t, h => ⟨fun d hd => h 0 s d rfl hd, knowsAll_of fun j s d hj hd => h (j + 1) s d (by simpa using hj) hd⟩
section
variable {P : Program} {l : List Oper} {sp : List Spec} {Q : Exit → Act → World → Prop} {L : List Value} {df : List Deferred}
theorem hops_mask {ds : List Nat} {m : List Bool} {w : World} (hmask : maskB ds m 0 L.length = true) : ∀ {r : List Oper} {t : List Spec}, HopsM P l w df L m sp r t → Hops P l w ⟨L.toArray, df⟩ ds sp r t
  | [], _, _ => trivial
  | _ :: _, [], _ => trivial
  | o :: r, s :: t, h => ⟨fun u w' hb hk => by rw [fill_mask ds u L m 0 hmask]; exact h.1 u w' hb hk, hops_mask hmask h.2⟩
theorem wp_slotsM {id : Nat} {w : World} (sp : List Spec) (ds : List Nat) (m : List Bool) (dd : List (Option Tmp × List (Nat × Nat))) (hdd : ddOf sp = dd) (hm : P.follows .mixedOrders = true) (hok : okB l ds dd = true) (hmask : maskB ds m 0 L.length = true) (hsz : (ds.all fun d => decide (d < L.length)) = true) (hst : Stable sp)
    (hops : HopsM P l w df L m sp (l.take sp.length) sp)
    (hfin : ∀ (u : Nat → Value) (w' : World), Below w.heap.size w w' → KnowsAll w' u sp → wpList P l.toArray Q (l.drop sp.length) ⟨(fillM m u 0 L).toArray, df⟩ w') :
    (Code.region id l.toArray true).wp P Q ⟨L.toArray, df⟩ w := by
  subst hdd
  refine wp_slots sp ds hm hok (by simpa using hsz) hst (hops_mask hmask hops) fun u w' hb hk => ?_
  have := hfin u w' hb (knowsAll_of hk)
  rw [← fill_mask ds u L m 0 hmask] at this
  exact this
theorem wp_slotsML {id : Nat} {w : World} (sp : List Spec) (ds : List Nat) (m : List Bool) (dd : List (Option Tmp × List (Nat × Nat))) (k : Nat) {ok : Oper} {sk : Spec} (hdd : ddOf sp = dd) (hm : P.follows .mixedOrders = true) (hok : okL l ds dd k = true) (hmask : maskB ds m 0 L.length = true) (hsz : (ds.all fun d => decide (d < L.length)) = true) (hst : Stable sp)
    (hko : l[k]? = some ok) (hks : sp[k]? = some sk) 
    (hops : HopsM P l w df L m sp (l.take sp.length) sp)
    (hlate : ∀ (u : Nat → Value) (w' : World), Below w.heap.size w w' → Knows sp w' u sk.deps → ∃ v, Yields P l.toArray ok v ⟨(fillM m u 0 L).toArray, df⟩ ∧ sk.val w' v)
    (hfin : ∀ (u : Nat → Value) (w' : World), Below w.heap.size w w' → KnowsAll w' u sp → wpList P l.toArray (fun e a w => e = .normal ∧ Q .normal a w) (l.drop sp.length) ⟨(fillM m u 0 L).toArray, df⟩ w') :
    (Code.region id l.toArray true).wp P Q ⟨L.toArray, df⟩ w := by
  subst hdd
  refine Code.wp_mono (Q := fun e a w => e = .normal ∧ Q .normal a w) (fun e a w h => by obtain ⟨rfl, h⟩ := h; exact h) ?_
  refine wp_slots_late sp ds k hm hok (by simpa using hsz) hst (hops_mask hmask hops) hko hks (fun _ _ _ _ _ h => by cases h.1) (fun u w' hb hk => ?_) fun u w' hb hk => ?_
  · have := hlate u w' hb hk
    rw [← fill_mask ds u L m 0 hmask] at this
    exact this
  · have := hfin u w' hb (knowsAll_of hk)
    rw [← fill_mask ds u L m 0 hmask] at this
    exact this
end
end Go.Proofs.Ytolbmemogoojhaa
