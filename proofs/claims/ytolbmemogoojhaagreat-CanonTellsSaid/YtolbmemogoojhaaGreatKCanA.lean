/- A region that draws its order and holds reads beside a chain of turning operations: the reads are taken first, while what they read stands. No program. -/
import Derived.Test.YtolbmemogoojhaaGreatKN8
import Derived.OrdersHeld
namespace Go.Proofs.YtolbmemogoojhaaGreat
open Go Go.RowKit Go.Deep
set_option linter.unusedVariables false
set_option linter.unusedSimpArgs false
set_option maxRecDepth 100000
section
variable {P : Program} {ops : Array Oper} {Q : Exit → Act → World → Prop} {md : Region.Mode} {S : World → Prop} {z : Nat}
theorem wp_monoE {o : Oper} {a : Act} {w : World} {K K' : Act → World → Prop} {Q Q' : Exit → Act → World → Prop} (hK : ∀ a w, K a w → K' a w) (hQ : ∀ e a w, e ≠ .normal → Q e a w → Q' e a w) (h : o.wp P a w K Q) : o.wp P a w K' Q' := by
  unfold Oper.wp at *
  generalize (execOp a.eval o).run P w = r at *
  cases r with
  | ok n w' =>
    cases n <;> simp only [Oper.upon] at h ⊢
    case value v => exact hK _ _ h
    case skip => exact hK _ _ h
    case defer d => exact hK _ _ h
    case enter f args =>
      refine Calls.mono h fun e w'' he => ?_
      cases e with
      | returned u => exact hK _ _ he
      | panicked c => exact hQ _ _ _ (by simp) he
      | outgrown => obtain ⟨a0, w0, he⟩ := he; exact ⟨a0, w0, hQ _ _ _ (by simp) he⟩
    case row row args => exact Rows.mono h fun u w'' he => hK _ _ he
    all_goals exact h.elim
  | halt x w' =>
    cases x <;> simp only [Oper.upon] at h ⊢
    case panic u => exact hQ _ _ _ (by simp) h
/-- One operation that comes up, by the walk's own arms. -/
theorem wpOp_of_list {i : Nat} {o : Oper} {K : Act → World → Prop} {a : Act} {w : World} (hi : ops[i]? = some o) (h : wpList P ops (Exit.then K Q) [o] a w) : wpOp P ops Q i K a w := by
  unfold wpOp
  simp only [hi]
  unfold wpList at h
  have hQ : ∀ (e : Exit) (a : Act) (w : World), e ≠ .normal → Exit.then K Q e a w → Q e a w := fun e a w he h => by
    cases e <;> first | exact absurd rfl he | exact h
  have hK : ∀ (a : Act) (w : World), wpList P ops (Exit.then K Q) [] a w → K a w := fun a w h => h
  split at h
  · rename_i hwant
    rw [if_pos hwant]
    rcases h with h | ⟨h1, a1, w1, h2⟩
    · exact .inl (wp_monoE hK hQ h)
    · exact .inr ⟨h1, a1, w1, hQ _ _ _ (by simp) h2⟩
  · rename_i hwant
    rw [if_neg hwant]
    exact hK _ _ h
/-- What stands while the last operation, z, has not come up. -/
def Till (z : Nat) (S : World → Prop) (listed : Array Bool) (w : World) : Prop := listed.getD z false = true ∨ S w
def wpAnyL (P : Program) (md : Region.Mode) (ops : Array Oper) (Q : Exit → Act → World → Prop) (S : World → Prop) (z : Nat) : Nat → Array Bool → Act → World → Prop
  | 0, listed, a, w => Region.ready md ops listed = [] ∧ Q .normal a w
  | fuel + 1, listed, a, w =>
    (Region.ready md ops listed = [] → Q .normal a w) ∧
    ∀ i ∈ Region.ready md ops listed, wpOp P ops Q i (fun a' w' => Till z S (listed.setIfInBounds i true) w' ∧ wpAnyL P md ops Q S z fuel (listed.setIfInBounds i true) a' w') a w
theorem wpAny_of_L : ∀ (fuel : Nat) (listed : Array Bool) (a : Act) (w : World), wpAnyL P md ops Q S z fuel listed a w → wpAny P md ops Q fuel listed a w
  | 0, _, _, _, h => h
  | fuel + 1, _, _, _, h => ⟨h.1, fun i hi => wpOp_mono (fun a' w' h' => wpAny_of_L fuel _ a' w' h'.2) (h.2 i hi)⟩
theorem ready_not {j i : Nat} {listed : Array Bool} (hj : j ∈ Region.ready md ops listed) (hu : listed.getD i true = false) (hw : Region.waitsFor md ops j i = true) : False := by
  obtain ⟨_, o, ho, hall⟩ := mem_ready.1 hj
  unfold Region.waitsFor at hw
  rw [ho] at hw
  obtain ⟨e, he, hb⟩ := Array.any_eq_true'.1 hw
  rw [Bool.and_eq_true, beq_iff_eq] at hb
  have h1 := hall e he hb.1
  rw [hb.2] at h1
  rcases Nat.lt_or_ge i listed.size with h' | h'
  · simp [h'] at hu h1; rw [hu] at h1; cases h1
  · simp [Array.getElem?_eq_none h'] at h1
theorem getD_ft {listed : Array Bool} {i : Nat} (h : listed.getD i true = false) : listed.getD i false = false := by
  rcases Nat.lt_or_ge i listed.size with h' | h'
  · simp [h'] at h ⊢; exact h
  · simp [Array.getElem?_eq_none h'] at h
theorem wpAnyL_first {i : Nat} {oi : Oper} {v : Value} (hi : ops[i]? = some oi) (hsel : ∀ (j : Nat) (o : Oper) cs b, ops[j]? = some o → o.op ≠ .select cs b)
    (hQ : ∀ c a w, Q (.panic c) (a.put oi.dst v) w → Q (.panic c) a w) (hzi : z ≠ i) (hwz : Region.waitsFor md ops z i = true) :
    ∀ (fuel : Nat) (listed : Array Bool) (a : Act) (w : World), listed.getD z false = false →
      (∀ j oj, ops[j]? = some oj → j ≠ i → listed.getD j true = false → (∀ e ∈ oj.after, Region.binds md e = true → e.on ≠ i) → oi.apart ops oj = true) →
      i ∈ Region.ready md ops listed → YieldsIf P ops S oi v a → S w →
      wpAnyL P md ops Q S z fuel (listed.setIfInBounds i true) (a.put oi.dst v) w → wpAnyL P md ops Q S z (fuel + 1) listed a w := by
  intro fuel
  induction fuel with
  | zero =>
    intro listed a w hz _ hr hy hS H
    refine ⟨fun h => (by rw [h] at hr; cases hr), fun j hj => ?_⟩
    by_cases hji : j = i
    · subst hji; exact hy.wpOp hi hS ⟨.inr hS, H⟩
    · have := ready_mono hj hji
      rw [H.1] at this
      cases this
  | succ fuel ih =>
    intro listed a w hz hfree hr hy hS H
    refine ⟨fun h => (by rw [h] at hr; cases hr), fun j hj => ?_⟩
    by_cases hji : j = i
    · subst hji; exact hy.wpOp hi hS ⟨.inr hS, H⟩
    · have hui := (mem_ready.1 hr).1
      have hjz : j ≠ z := fun e => ready_not (e ▸ hj) hui hwz
      have h1 := H.2 j (ready_mono hj hji)
      obtain ⟨hjun, oj, hoj, hall⟩ := mem_ready.1 hj
      have hnot : ∀ e ∈ oj.after, Region.binds md e = true → e.on ≠ i := fun e he hb heq => by
        have h1 := hall e he hb
        rw [heq, getD_ft hui] at h1; cases h1
      have h2 := wpOp_putIf hoj (hfree j oj hoj hji hjun hnot) (fun cs b => hsel i oi cs b hi) (fun cs b => hsel j oj cs b hoj) hQ hy h1
      have hz' : (listed.setIfInBounds j true).getD z false = false := by rw [getD_set_ne false hjz]; exact hz
      have hfree' : ∀ k ok, ops[k]? = some ok → k ≠ i → (listed.setIfInBounds j true).getD k true = false →
          (∀ e ∈ ok.after, Region.binds md e = true → e.on ≠ i) → oi.apart ops ok = true := fun k ok hk hki hun hno => by
        refine hfree k ok hk hki ?_ hno
        by_cases hjk : j = k
        · subst hjk; exact hjun
        · rw [getD_set_ne true hjk] at hun; exact hun
      refine wpOp_mono (fun a' w' h3 => ?_) h2
      have hS' : S w' := by
        rcases h3.2.1 with h | h
        · rw [getD_set_ne false hjz, getD_set_ne false (Ne.symm hzi), hz] at h; cases h
        · exact h
      refine ⟨.inr hS', ih (listed.setIfInBounds j true) a' w' hz' hfree' (ready_mono hr (Ne.symm hji)) h3.1 hS' ?_⟩
      rw [Array.setIfInBounds_comm _ _ hji]
      exact h3.2.2
/-- The beginning. -/
theorem wp_till {id : Nat} {a : Act} {w : World} (S : World → Prop) (z : Nat) (hm : P.follows .mixedOrders = true)
    (h : ∀ w', Below w.heap.size w w' → wpAnyL P .any ops Q S z ops.size (Array.replicate ops.size false) a w') : (Code.region id ops true).wp P Q a w :=
  wp_region_any hm (wpAny_of_L _ _ _ _ (h w.drew (bel_drew (Below.refl _ _))))
/-- A read, or what reads nothing, taken first. -/
theorem till_take {oi : Oper} {fuel : Nat} {listed : Array Bool} {a : Act} {w : World} (i : Nat) (v : Value) (hi : ops[i]? = some oi)
    (hb : (Region.noSelect ops && Region.free md ops listed i && (Region.ready md ops listed).contains i && !listed.getD z false && z != i && Region.waitsFor md ops z i) = true)
    (hQ : ∀ c a w, Q (.panic c) (a.put oi.dst v) w → Q (.panic c) a w)
    (hwant : Region.wanted oi (yielded ops a.tmps) = true) (hy : ∀ W, S W → (execOp a.eval oi).run P W = .ok (.value v) W) (hS : S w)
    (h : wpAnyL P md ops Q S z fuel (listed.setIfInBounds i true) (a.put oi.dst v) w) : wpAnyL P md ops Q S z (fuel + 1) listed a w := by
  simp only [Bool.and_eq_true, Bool.not_eq_true', bne_iff_ne] at hb
  obtain ⟨⟨⟨⟨⟨h1, h2⟩, h3⟩, h4⟩, h5⟩, h6⟩ := hb
  exact wpAnyL_first hi (Region.noSelect_spec h1) hQ h5 h6 fuel listed a w h4 (Region.free_spec hi h2) (by simpa using h3) (.inl ⟨hwant, hy⟩) hS h
/-- The one that may come up. -/
theorem till_next {o : Oper} {fuel : Nat} {listed : Array Bool} {a : Act} {w : World} (i : Nat) (hi : ops[i]? = some o) (hr : Region.ready md ops listed = [i])
    (h : wpList P ops (Exit.then (fun a' w' => Till z S (listed.setIfInBounds i true) w' ∧ wpAnyL P md ops Q S z fuel (listed.setIfInBounds i true) a' w') Q) [o] a w) : wpAnyL P md ops Q S z (fuel + 1) listed a w :=
  ⟨fun h0 => absurd (hr ▸ h0) (by simp), by
    rw [hr]; intro j hj
    rw [List.mem_singleton.1 hj]
    exact wpOp_of_list hi h⟩
theorem till_done {listed : Array Bool} {a : Act} {w : World} (hr : Region.ready md ops listed = []) (h : Q .normal a w) : ∀ fuel, wpAnyL P md ops Q S z fuel listed a w
  | 0 => ⟨hr, h⟩
  | _ + 1 => ⟨fun _ => h, by rw [hr]; simp⟩
end
end Go.Proofs.YtolbmemogoojhaaGreat
