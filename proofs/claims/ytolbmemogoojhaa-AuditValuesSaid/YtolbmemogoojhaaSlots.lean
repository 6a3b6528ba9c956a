/- A region that draws its order: each operation of a head yields a value of its own kind, whichever of the others ran before it; behind the head a tail, one operation behind the other. No program. -/
import Derived.Test.YtolbmemogoojhaaSep
import Derived.StillTail
namespace Go.Proofs.Ytolbmemogoojhaa
open Go Go.RowKit Go.Deep
set_option linter.unusedVariables false
set_option linter.unusedSimpArgs false

theorem wp_monoQ {P : Program} {o : Oper} {a : Act} {w : World} {K K' : Act → World → Prop} {Q Q' : Exit → Act → World → Prop} (hK : ∀ a w, K a w → K' a w) (hQ : ∀ e a w, e ≠ .normal → ¬ Q e a w) (h : o.wp P a w K Q) : o.wp P a w K' Q' := by
  unfold Oper.wp at *
  generalize (execOp a.eval o).run P w = r at *
  cases r with
  | ok n w' =>
    cases n <;> simp only [Oper.upon] at h ⊢
    case value v => exact hK _ _ h
    case skip => exact hK _ _ h
    case defer d => exact hK _ _ h
    case enter f args =>
      refine Calls.mono h fun e w'' he => ?_
      cases e with
      | returned u => exact hK _ _ he
      | panicked c => exact (hQ _ _ _ (by simp) he).elim
      | outgrown => exact he.elim fun a he => he.elim fun w he => (hQ _ _ _ (by simp) he).elim
    case row row args => exact Rows.mono h fun u w'' he => hK _ _ he
    all_goals exact h.elim
  | halt x w' =>
    cases x <;> simp only [Oper.upon] at h ⊢
    case panic u => exact (hQ _ _ _ (by simp) h).elim

/-- The frame, with letters in some slots. -/
def fillR (ds : List Nat) (u : Nat → Value) : Nat → List Value → List Value
  | _, [] => []
  | k, c :: l => (if ds.contains k then u k else c) :: fillR ds u (k + 1) l
theorem fillR_length (ds : List Nat) (u : Nat → Value) : ∀ (l : List Value) (k : Nat), (fillR ds u k l).length = l.length
  | [], _ => rfl
  | c :: l, k => by simp [fillR, fillR_length ds u l]
theorem fillR_get (ds : List Nat) (u : Nat → Value) : ∀ (l : List Value) (k i : Nat), (fillR ds u k l)[i]? = (l[i]?).map fun c => if ds.contains (k + i) then u (k + i) else c
  | [], _, _ => by simp [fillR]
  | c :: l, k, 0 => by simp [fillR]
  | c :: l, k, i + 1 => by
    have := fillR_get ds u l (k + 1) i
    simp only [fillR, List.getElem?_cons_succ, this]
    rw [show k + 1 + i = k + (i + 1) by omega]

structure Spec where
  dst : Option Tmp
  deps : List (Nat × Nat)
  val : World → Value → Prop
section
variable {P : Program} {l : List Oper}
def Knows (sp : List Spec) (w : World) (u : Nat → Value) : List (Nat × Nat) → Prop
  | [] => True
  | p :: ds => (∀ s, sp[p.1]? = some s → s.val w (u p.2)) ∧ Knows sp w u ds
/-- What is behind one operation. -/
def PostS (W : World) (o : Oper) (s : Spec) (a : Act) : Exit → Act → World → Prop := fun e a' w' => e = .normal ∧ Below W.heap.size W w' ∧ ∃ v, a' = a.put o.dst v ∧ s.val w' v
def Hops (P : Program) (l : List Oper) (W : World) (a0 : Act) (ds : List Nat) (sp : List Spec) : List Oper → List Spec → Prop
  | o :: r, s :: t => (∀ (u : Nat → Value) (w : World), Below W.heap.size W w → Knows sp w u s.deps → wpList P l.toArray (PostS w o s ⟨(fillR ds u 0 a0.tmps.toList).toArray, a0.defers⟩) [o] ⟨(fillR ds u 0 a0.tmps.toList).toArray, a0.defers⟩ w) ∧ Hops P l W a0 ds sp r t
  | _, _ => True
def Stable (sp : List Spec) : Prop := ∀ s ∈ sp, ∀ (w w' : World) (v : Value), Below w.heap.size w w' → s.val w v → s.val w' v
/-- What the kernel checks of the region. -/
def okB (l : List Oper) (ds : List Nat) (dd : List (Option Tmp × List (Nat × Nat))) : Bool :=
  let n := dd.length
  Region.noSelect l.toArray && decide (n ≤ l.length) &&
  ((List.range n).all fun i => match l[i]?, dd[i]? with
    | some o, some s => o.dst == s.1 && (match s.1 with | some d => ds.contains d | none => true) &&
        (match o.op with | .defer _ => false | _ => true) &&
        s.2.all (fun p => Region.waitsFor .any l.toArray i p.1 && (match dd[p.1]? with | some q => q.1 == some p.2 | none => false)) &&
        ((List.range n).all fun j => i == j || (match s.1, (dd[j]?).bind (·.1) with | some d, some d' => d != d' | _, _ => true)) &&
        o.after.all (fun e => !Region.binds .any e || decide (e.on < i))
    | _, _ => false) &&
  ds.all (fun d => dd.any fun s => s.1 == some d) &&
  (decide (n = l.length) || (Region.sinkB .any l.toArray n && Region.chainB .any l.toArray n)) &&
  Region.seqB .any l.toArray (l.length - n) n (Array.replicate n true ++ Array.replicate (l.length - n) false)
end
def cntU : Nat → Array Bool → Nat
  | 0, _ => 0
  | n + 1, listed => cntU n listed + (if listed.getD n true then 0 else 1)
theorem cntU_out {listed : Array Bool} {i : Nat} : ∀ n, n ≤ i → cntU n (listed.setIfInBounds i true) = cntU n listed
  | 0, _ => rfl
  | n + 1, h => by rw [cntU, cntU, cntU_out n (by omega), getD_set_ne true (by omega)]
theorem cntU_set {listed : Array Bool} {i : Nat} (hu : listed.getD i true = false) : ∀ n, i < n → cntU n (listed.setIfInBounds i true) + 1 = cntU n listed
  | 0, h => by omega
  | n + 1, h => by
    rw [cntU, cntU]
    by_cases hin : i = n
    · subst hin
      have hlt : i < listed.size := by
        rcases Nat.lt_or_ge i listed.size with h' | h'
        · exact h'
        · simp [Array.getElem?_eq_none h'] at hu
      rw [cntU_out i (Nat.le_refl _), hu]
      simp [hlt]
    · have := cntU_set hu n (by omega)
      rw [getD_set_ne true hin]
      omega
theorem cntU_zero {listed : Array Bool} : ∀ n, cntU n listed = 0 → ∀ i, i < n → listed.getD i true = true
  | 0, _, i, h => by omega
  | n + 1, h, i, hi => by
    rw [cntU] at h
    by_cases hin : i = n
    · subst hin
      by_cases hg : listed.getD i true = true
      · exact hg
      · rw [if_neg hg] at h; omega
    · exact cntU_zero n (by omega) i (by omega)
theorem cntU_pos {listed : Array Bool} : ∀ n, cntU n listed ≠ 0 → ∃ i, i < n ∧ listed.getD i true = false
  | 0, h => absurd rfl h
  | n + 1, h => by
    rw [cntU] at h
    by_cases hg : listed.getD n true = true
    · rw [if_pos hg] at h
      obtain ⟨i, h1, h2⟩ := cntU_pos n (by omega)
      exact ⟨i, by omega, h2⟩
    · exact ⟨n, by omega, by simpa using hg⟩
theorem getD_true_false {listed : Array Bool} {i : Nat} (h : listed.getD i true = true) (hi : i < listed.size) : listed.getD i false = true := by
  simp only [Array.getD_eq_getD_getElem?, Array.getElem?_eq_getElem hi, Option.getD_some] at h ⊢; exact h
structure Inv (l : List Oper) (n : Nat) (W : World) (a0 : Act) (ds : List Nat) (sp : List Spec) (listed : Array Bool) (a : Act) (w : World) : Prop where
  head : HeadInv .any l.toArray n listed
  bel : Below W.heap.size W w
  defers : a.defers = a0.defers
  size : a.tmps.size = a0.tmps.size
  old : ∀ d, ds.contains d = false → a.tmps.getD d undef = a0.tmps.getD d undef
  new : ∀ (j : Nat) (s : Spec), sp[j]? = some s → listed.getD j false = true → ∀ d, s.dst = some d → s.val w (a.tmps.getD d undef)
theorem Inv.act {l : List Oper} {n : Nat} {W : World} {a0 : Act} {ds : List Nat} {sp : List Spec} {listed : Array Bool} {a : Act} {w : World} (h : Inv l n W a0 ds sp listed a w) :
    a = ⟨(fillR ds (fun d => a.tmps.getD d undef) 0 a0.tmps.toList).toArray, a0.defers⟩ := by
  obtain ⟨t, df⟩ := a
  have h1 := h.defers; have h2 := h.size; have h3 := h.old
  simp only at h1 h2 h3
  subst h1
  congr 1
  apply Array.ext_getElem?
  intro i
  have e1 : ∀ L : List Value, L.toArray[i]? = L[i]? := fun L => by simp
  show t[i]? = (fillR ds (fun d => t.getD d undef) 0 a0.tmps.toList).toArray[i]?
  rw [e1 (fillR ds (fun d => t.getD d undef) 0 a0.tmps.toList), fillR_get, Nat.zero_add, Array.getElem?_toList]
  rcases Nat.lt_or_ge i t.size with hi | hi
  · have hi0 : i < a0.tmps.size := by omega
    rw [Array.getElem?_eq_getElem hi, Array.getElem?_eq_getElem hi0, Option.map_some]
    congr 1
    by_cases hc : ds.contains i = true
    · rw [if_pos hc]; simp [hi]
    · have := h3 i (by simpa using hc)
      rw [if_neg hc]
      simpa [hi, hi0] using this
  · rw [Array.getElem?_eq_none hi, Array.getElem?_eq_none (by omega)]; rfl
theorem hops_get {P : Program} {l : List Oper} {W : World} {a0 : Act} {ds : List Nat} {sp : List Spec} (r : List Oper) : ∀ (t : List Spec), Hops P l W a0 ds sp r t → ∀ (j : Nat) (o : Oper) (s : Spec), r[j]? = some o → t[j]? = some s →
    ∀ (u : Nat → Value) (w : World), Below W.heap.size W w → Knows sp w u s.deps → wpList P l.toArray (PostS w o s ⟨(fillR ds u 0 a0.tmps.toList).toArray, a0.defers⟩) [o] ⟨(fillR ds u 0 a0.tmps.toList).toArray, a0.defers⟩ w := by
  induction r with
  | nil => intro t h j o s h1 h2; cases h1
  | cons x r ih =>
    intro t h j o s h1 h2
    cases t with
    | nil => cases h2
    | cons y t =>
      obtain ⟨ha, hb⟩ := h
      cases j with
      | zero =>
        rw [List.getElem?_cons_zero] at h1 h2
        cases h1; cases h2
        exact ha
      | succ j =>
        rw [List.getElem?_cons_succ] at h1 h2
        exact ih t hb j o s h1 h2
theorem waits_spec {ops : Array Oper} {j i : Nat} {o : Oper} (ho : ops[j]? = some o) (h : Region.waitsFor .any ops j i = true) : ∃ e ∈ o.after, Region.binds .any e = true ∧ e.on = i := by
  obtain ⟨oj, h1, h2⟩ := Region.waitsFor_spec h
  rw [ho] at h1; cases h1; exact h2
theorem knows_of {sp : List Spec} {w : World} {u : Nat → Value} : ∀ {ds : List (Nat × Nat)}, (∀ p ∈ ds, ∀ s, sp[p.1]? = some s → s.val w (u p.2)) → Knows sp w u ds
  | [], _ => trivial
  | p :: ds, h => ⟨h p List.mem_cons_self, knows_of fun q hq => h q (List.mem_cons_of_mem _ hq)⟩
def ddOf (sp : List Spec) : List (Option Tmp × List (Nat × Nat)) := sp.map fun s => (s.dst, s.deps)
section
variable {P : Program} {l : List Oper} {W : World} {a0 : Act} {ds : List Nat} {sp : List Spec} {Q : Exit → Act → World → Prop}
theorem okB_at (h : okB l ds (ddOf sp) = true) {i : Nat} (hi : i < sp.length) : ∃ (o : Oper) (s : Spec), l[i]? = some o ∧ sp[i]? = some s ∧ o.dst = s.dst ∧ (∀ d, s.dst = some d → ds.contains d = true) ∧
    (∀ p ∈ s.deps, Region.waitsFor .any l.toArray i p.1 = true ∧ ∃ q, sp[p.1]? = some q ∧ q.dst = some p.2) ∧
    (∀ (j : Nat) (q : Spec) (d : Tmp), j ≠ i → sp[j]? = some q → s.dst = some d → q.dst ≠ some d) ∧ (∀ e ∈ o.after, Region.binds .any e = true → e.on < i) := by
  unfold okB at h
  simp only [Bool.and_eq_true] at h
  have h1 := List.all_eq_true.1 h.1.1.1.2 i (List.mem_range.2 (by simpa [ddOf] using hi))
  have hsp : sp[i]? = some sp[i] := List.getElem?_eq_getElem hi
  simp only [ddOf, List.getElem?_map, hsp, Option.map_some] at h1
  cases ho : l[i]? with
  | none => rw [ho] at h1; cases h1
  | some o =>
    rw [ho] at h1
    simp only [Bool.and_eq_true, beq_iff_eq] at h1
    obtain ⟨⟨⟨⟨⟨e1, e2⟩, e3⟩, e4⟩, e5⟩, e6⟩ := h1
    refine ⟨o, sp[i], rfl, hsp, e1, fun d hd => by rw [hd] at e2; exact e2, fun p hp => ?_, fun j q d hj hq hd hqd => ?_, fun e he hb => ?_⟩
    · have := List.all_eq_true.1 e4 p hp
      simp only [Bool.and_eq_true] at this
      refine ⟨this.1, ?_⟩
      have h2 := this.2
      cases hq : sp[p.1]? with
      | none => rw [hq] at h2; cases h2
      | some q => rw [hq] at h2; exact ⟨q, rfl, by simpa using h2⟩
    · have hjl : j < sp.length := (List.getElem?_eq_some_iff.1 hq).1
      have := List.all_eq_true.1 e5 j (List.mem_range.2 (by simpa [ddOf] using hjl))
      rw [hq, hd] at this
      simp only [Option.map_some, Option.bind_some, hqd, Bool.or_eq_true, beq_iff_eq, bne_self_eq_false, Bool.false_eq_true, or_false] at this
      exact hj this.symm
    · have := (Array.all_eq_true_iff_forall_mem.1 e6) e he
      simpa [hb] using this
theorem okB_ds (h : okB l ds (ddOf sp) = true) {d : Nat} (hd : ds.contains d = true) : ∃ (j : Nat) (s : Spec), sp[j]? = some s ∧ s.dst = some d := by
  unfold okB at h
  simp only [Bool.and_eq_true] at h
  have h1 := List.all_eq_true.1 h.1.1.2 d (by simpa using hd)
  obtain ⟨x, hx, he⟩ := List.any_eq_true.1 h1
  unfold ddOf at hx
  obtain ⟨s, hs, rfl⟩ := List.mem_map.1 hx
  obtain ⟨j, hj⟩ := List.getElem?_of_mem hs
  exact ⟨j, s, hj, by simpa using he⟩
theorem inv_step (hsz : ∀ d, ds.contains d = true → d < a0.tmps.size) (hok : okB l ds (ddOf sp) = true) (hst : Stable sp) (hops : Hops P l W a0 ds sp (l.take sp.length) sp) {listed : Array Bool} {a : Act} {w : World} (inv : Inv l sp.length W a0 ds sp listed a w) {i : Nat} (hi : i ∈ Region.ready .any l.toArray listed) (hin : i < sp.length) :
    wpOp P l.toArray Q i (fun a' w' => Inv l sp.length W a0 ds sp (listed.setIfInBounds i true) a' w') a w := by
  obtain ⟨o, s, ho, hs, hd, hds, hdeps, hdiff, hback⟩ := okB_at hok hin
  obtain ⟨hun, o', ho', hall⟩ := mem_ready.1 hi
  have hoo : l.toArray[i]? = some o := by simpa using ho
  rw [hoo] at ho'; cases ho'
  have hk : Knows sp w (fun d => a.tmps.getD d undef) s.deps := knows_of fun p hp q hq => by
    obtain ⟨h1, q', hq', hqd⟩ := hdeps p hp
    rw [hq] at hq'; cases hq'
    obtain ⟨e, he, hb, hon⟩ := waits_spec hoo h1
    have := hall e he hb
    rw [hon] at this
    exact inv.new p.1 q hq this p.2 hqd
  have hact := inv.act
  have hw := hops_get _ _ hops i o s (by rw [List.getElem?_take, if_pos hin]; exact ho) hs (fun d => a.tmps.getD d undef) w inv.bel hk
  rw [← hact] at hw
  have key : ∀ a' w', PostS w o s a .normal a' w' → Inv l sp.length W a0 ds sp (listed.setIfInBounds i true) a' w' := by
    rintro a' w' ⟨_, hb, v, rfl, hv⟩
    refine ⟨inv.head.set hi hin, inv.bel.trans (hb.mono inv.bel.size), ?_, ?_, fun d hd' => ?_, fun j q hq hl d hqd => ?_⟩
    · unfold Act.put; cases o.dst <;> exact inv.defers
    · unfold Act.put; cases o.dst <;> simp [inv.size]
    · unfold Act.put
      cases hdo : o.dst with
      | none => exact inv.old d hd'
      | some d0 =>
        have hne : d0 ≠ d := fun e => by rw [e] at hdo; rw [hds d (hd ▸ hdo)] at hd'; cases hd'
        have := inv.old d hd'
        simp only [Array.getD_eq_getD_getElem?] at this ⊢
        rw [Array.getElem?_setIfInBounds_ne hne]; exact this
    · by_cases hij : j = i
      · subst hij
        rw [hs] at hq; cases hq
        unfold Act.put
        rw [hd, hqd]
        have hcon := hds d hqd
        have hlt : d < a.tmps.size := by rw [inv.size]; exact hsz d hcon
        simpa [Array.getElem?_setIfInBounds, hlt] using hv
      · rw [getD_set_ne false (Ne.symm hij)] at hl
        have hold := inv.new j q hq hl d hqd
        have hne : o.dst ≠ some d := by
          intro e; rw [hd] at e; exact hdiff j q d hij hq e hqd
        have hsame : (a.put o.dst v).tmps.getD d undef = a.tmps.getD d undef := by
          unfold Act.put
          cases hdo : o.dst with
          | none => rfl
          | some d0 =>
            have : d0 ≠ d := fun e => hne (by rw [hdo, e])
            simp only [Array.getD_eq_getD_getElem?]
            rw [Array.getElem?_setIfInBounds_ne this]
        rw [hsame]
        exact hst q (List.mem_of_getElem? hq) w w' _ hb hold
  unfold wpOp
  simp only [hoo]
  unfold wpList at hw
  split at hw
  · rename_i hwant
    rw [if_pos hwant]
    rcases hw with hw | ⟨_, a1, w1, hbad, _⟩
    · exact .inl (wp_monoQ key (fun e a w he h => he h.1) hw)
    · cases hbad
  · rename_i hwant
    rw [if_neg hwant]
    exact key _ _ hw
theorem fin_slots (hok : okB l ds (ddOf sp) = true)
    (hfin : ∀ (u : Nat → Value) (w : World), Below W.heap.size W w → (∀ (j : Nat) (s : Spec) (d : Tmp), sp[j]? = some s → s.dst = some d → s.val w (u d)) → wpList P l.toArray Q (l.drop sp.length) ⟨(fillR ds u 0 a0.tmps.toList).toArray, a0.defers⟩ w)
    {listed : Array Bool} {a : Act} {w : World} (inv : Inv l sp.length W a0 ds sp listed a w) (hc : cntU sp.length listed = 0) : wpAny P .any l.toArray Q (l.length - sp.length) listed a w := by
  have h := hok
  unfold okB at h
  simp only [Bool.and_eq_true, decide_eq_true_eq] at h
  have hlen : sp.length ≤ l.length := by simpa [ddOf] using h.1.1.1.1.2
  have hseq := h.2
  have hdl : (ddOf sp).length = sp.length := by simp [ddOf]
  rw [hdl] at hseq
  have hall := cntU_zero _ hc
  have hsz : listed.size = l.length := by rw [inv.head.size]; simp
  have hL : listed = Array.replicate sp.length true ++ Array.replicate (l.length - sp.length) false := by
    apply Array.ext_getElem?
    intro i
    rcases Nat.lt_or_ge i listed.size with hi | hi
    · rw [Array.getElem?_append]
      by_cases hin : i < sp.length
      · rw [if_pos (by simpa using hin)]
        have := hall i hin
        simp only [Array.getD_eq_getD_getElem?, Array.getElem?_eq_getElem hi, Option.getD_some] at this
        simp [hi, hin, this]
      · rw [if_neg (by simpa using hin)]
        have := inv.head.tail i (by omega) (by simp; omega)
        simp only [Array.getD_eq_getD_getElem?, Array.getElem?_eq_getElem hi, Option.getD_some] at this
        rw [Array.getElem?_eq_getElem hi, this, Array.size_replicate, Array.getElem?_replicate, if_pos (by omega)]
    · rw [Array.getElem?_eq_none hi, Array.getElem?_eq_none (by simp; omega)]
  have hw := hfin (fun d => a.tmps.getD d undef) w inv.bel fun j s d hj hd => inv.new j s hj (getD_true_false (hall j (List.getElem?_eq_some_iff.1 hj).1) (by rw [hsz]; have := (List.getElem?_eq_some_iff.1 hj).1; omega)) d hd
  rw [← inv.act] at hw
  have hdrop : (l.drop sp.length).length = l.length - sp.length := by simp
  rw [← hdrop]
  refine wpAny_of_seq (l.drop sp.length) sp.length listed a w (fun j => by simp [List.getElem?_drop]) ?_ hw
  rw [hdrop, hL]; exact hseq
theorem wpAny_slots (hsz : ∀ d, ds.contains d = true → d < a0.tmps.size) (hok : okB l ds (ddOf sp) = true) (hst : Stable sp) (hops : Hops P l W a0 ds sp (l.take sp.length) sp)
    (hfin : ∀ (u : Nat → Value) (w : World), Below W.heap.size W w → (∀ (j : Nat) (s : Spec) (d : Tmp), sp[j]? = some s → s.dst = some d → s.val w (u d)) → wpList P l.toArray Q (l.drop sp.length) ⟨(fillR ds u 0 a0.tmps.toList).toArray, a0.defers⟩ w) :
    ∀ (f : Nat) (listed : Array Bool) (a : Act) (w : World), Inv l sp.length W a0 ds sp listed a w → f = cntU sp.length listed + (l.length - sp.length) → wpAny P .any l.toArray Q f listed a w := by
  intro f
  induction f with
  | zero =>
    intro listed a w inv hf
    have := fin_slots (Q := Q) hok hfin inv (by omega)
    rwa [show l.length - sp.length = 0 by omega] at this
  | succ f ih =>
    intro listed a w inv hf
    by_cases hc : cntU sp.length listed = 0
    · have := fin_slots (Q := Q) hok hfin inv hc
      rwa [show l.length - sp.length = f + 1 by omega] at this
    · obtain ⟨i0, hi0, hu0⟩ := cntU_pos _ hc
      have hrd : ∀ (k i : Nat), i < k → i < sp.length → listed.getD i true = false → Region.ready .any l.toArray listed ≠ [] := by
        intro k
        induction k with
        | zero => intro i h; omega
        | succ k ihk =>
          intro i hk hi hu
          obtain ⟨o, s, ho, hs, _, _, _, _, hback⟩ := okB_at hok hi
          by_cases hall : ∀ e ∈ o.after, Region.binds .any e = true → listed.getD e.on false = true
          · exact List.ne_nil_of_mem (mem_ready.2 ⟨hu, o, by simpa using ho, hall⟩)
          · simp only [Classical.not_forall] at hall
            obtain ⟨e, he, hb, hn⟩ := hall
            have hlt := hback e he hb
            refine ihk e.on (by omega) (by omega) ?_
            have hsz2 : listed.size = l.length := by rw [inv.head.size]; simp
            have hol : i < l.length := (List.getElem?_eq_some_iff.1 ho).1
            exact getD_in (by omega) (by simpa using hn)
      have htail : ∀ t, sp.length ≤ t → t ∉ Region.ready .any l.toArray listed := by
        intro t ht hr
        have h := hok
        unfold okB at h
        simp only [Bool.and_eq_true, decide_eq_true_eq, Bool.or_eq_true] at h
        have hdl : (ddOf sp).length = sp.length := by simp [ddOf]
        rw [hdl] at h
        obtain ⟨_, o, ho, _⟩ := mem_ready.1 hr
        have htl : t < l.length := by have := (Array.getElem?_eq_some_iff.1 ho).1; simpa using this
        rcases h.1.2 with h1 | h1
        · omega
        · exact tail_waits h1.1 h1.2 (by simp; omega) inv.head _ i0 rfl hi0 hu0 t ht hr
      refine ⟨fun h0 => absurd h0 (hrd (i0 + 1) i0 (by omega) hi0 hu0), fun i hi => ?_⟩
      have hin : i < sp.length := by
        rcases Nat.lt_or_ge i sp.length with h | h
        · exact h
        · exact absurd hi (htail i h)
      have hun := (mem_ready.1 hi).1
      exact wpOp_mono (fun a' w' h' => ih _ a' w' h' (by have := cntU_set hun sp.length hin; omega)) (inv_step hsz hok hst hops inv hi hin)
/-- THE REGION. -/
theorem wp_slots {id : Nat} {w : World} (sp : List Spec) (ds : List Nat) (hm : P.follows .mixedOrders = true) (hok : okB l ds (ddOf sp) = true) (hsz : (ds.all fun d => decide (d < a0.tmps.size)) = true) (hst : Stable sp)
    (hops : Hops P l w a0 ds sp (l.take sp.length) sp)
    (hfin : ∀ (u : Nat → Value) (w' : World), Below w.heap.size w w' → (∀ (j : Nat) (s : Spec) (d : Tmp), sp[j]? = some s → s.dst = some d → s.val w' (u d)) → wpList P l.toArray Q (l.drop sp.length) ⟨(fillR ds u 0 a0.tmps.toList).toArray, a0.defers⟩ w') :
    (Code.region id l.toArray true).wp P Q a0 w := by
  refine wp_region_any hm ?_
  have hlen : sp.length ≤ l.length := by
    have h := hok
    unfold okB at h
    simp only [Bool.and_eq_true, decide_eq_true_eq] at h
    simpa [ddOf] using h.1.1.1.1.2
  refine wpAny_slots (sp := sp) (ds := ds) (W := w) (a0 := a0) (fun d hd => ?_) hok hst hops hfin _ _ _ _ ⟨⟨by simp, fun j oj _ hl => (by rw [getD_replicate_false] at hl; cases hl), fun t _ ht => getD_in (by simpa using ht) (getD_replicate_false _ _)⟩, (Below.refl _ _).drew, rfl, rfl, fun _ _ => rfl, fun j s _ hl => (by rw [getD_replicate_false] at hl; cases hl)⟩ ?_
  · exact of_decide_eq_true (List.all_eq_true.1 hsz d (by simpa using hd))
  · have : ∀ n, n ≤ l.length → cntU n (Array.replicate l.toArray.size false) = n := by
      intro n
      induction n with
      | zero => intro _; rfl
      | succ n ih =>
        intro hn
        rw [cntU, ih (by omega)]
        simp [show n < l.length by omega]
    rw [this _ hlen]; simp; omega
theorem inv_put (hsz : ∀ d, ds.contains d = true → d < a0.tmps.size) (hok : okB l ds (ddOf sp) = true ∨ True) (hst : Stable sp) {listed : Array Bool} {a : Act} {w w' : World} (inv : Inv l sp.length W a0 ds sp listed a w) {i : Nat} (hi : i ∈ Region.ready .any l.toArray listed) (hin : i < sp.length)
    {o : Oper} {s : Spec} (hs : sp[i]? = some s) (hd : o.dst = s.dst) (hds : ∀ d, s.dst = some d → ds.contains d = true) (hdiff : ∀ (j : Nat) (q : Spec) (d : Tmp), j ≠ i → sp[j]? = some q → s.dst = some d → q.dst ≠ some d)
    (hb : Below w.heap.size w w') {v : Value} (hv : s.val w' v) : Inv l sp.length W a0 ds sp (listed.setIfInBounds i true) (a.put o.dst v) w' := by
  refine ⟨inv.head.set hi hin, inv.bel.trans (hb.mono inv.bel.size), ?_, ?_, fun d hd' => ?_, fun j q hq hl d hqd => ?_⟩
  · unfold Act.put; cases o.dst <;> exact inv.defers
  · unfold Act.put; cases o.dst <;> simp [inv.size]
  · unfold Act.put
    cases hdo : o.dst with
    | none => exact inv.old d hd'
    | some d0 =>
      have hne : d0 ≠ d := fun e => by rw [e] at hdo; rw [hds d (hd ▸ hdo)] at hd'; cases hd'
      have := inv.old d hd'
      simp only [Array.getD_eq_getD_getElem?] at this ⊢
      rw [Array.getElem?_setIfInBounds_ne hne]; exact this
  · by_cases hij : j = i
    · subst hij
      rw [hs] at hq; cases hq
      unfold Act.put
      rw [hd, hqd]
      have hcon := hds d hqd
      have hlt : d < a.tmps.size := by rw [inv.size]; exact hsz d hcon
      simpa [Array.getElem?_setIfInBounds, hlt] using hv
    · rw [getD_set_ne false (Ne.symm hij)] at hl
      have hold := inv.new j q hq hl d hqd
      have hne : o.dst ≠ some d := by
        intro e; rw [hd] at e; exact hdiff j q d hij hq e hqd
      have hsame : (a.put o.dst v).tmps.getD d undef = a.tmps.getD d undef := by
        unfold Act.put
        cases hdo : o.dst with
        | none => rfl
        | some d0 =>
          have : d0 ≠ d := fun e => hne (by rw [hdo, e])
          simp only [Array.getD_eq_getD_getElem?]
          rw [Array.getElem?_setIfInBounds_ne this]
      rw [hsame]
      exact hst q (List.mem_of_getElem? hq) w w' _ hb hold
end
section
variable {P : Program} {l : List Oper} {W : World} {a0 : Act} {ds : List Nat} {sp : List Spec} {Q : Exit → Act → World → Prop}
/-- What the kernel checks where one operation, number k, may come behind the tail. -/
def okL (l : List Oper) (ds : List Nat) (dd : List (Option Tmp × List (Nat × Nat))) (k : Nat) : Bool :=
  let n := dd.length
  Region.noSelect l.toArray && decide (n < l.length) && decide (k < n) &&
  ((List.range n).all fun i => match l[i]?, dd[i]? with
    | some o, some s => o.dst == s.1 && (match s.1 with | some d => ds.contains d | none => true) &&
        s.2.all (fun p => Region.waitsFor .any l.toArray i p.1 && (match dd[p.1]? with | some q => q.1 == some p.2 | none => false)) &&
        ((List.range n).all fun j => i == j || (match s.1, (dd[j]?).bind (·.1) with | some d, some d' => d != d' | _, _ => true)) &&
        o.after.all (fun e => !Region.binds .any e || decide (e.on < i))
    | _, _ => false) &&
  ((List.range n).all fun i => i == k || (List.range (n + 1)).any fun j => decide (i < j) && j != k && Region.waitsFor .any l.toArray j i) &&
  Region.chainB .any l.toArray n &&
  ((List.range l.length).all fun t => decide (t < n) || (match l[k]?, l[t]? with | some ok, some ot => ok.apart l.toArray ot | _, _ => false)) &&
  Region.seqB .any l.toArray (l.length - n) n (Array.replicate n true ++ Array.replicate (l.length - n) false)
theorem okL_n {k : Nat} (h : okL l ds (ddOf sp) k = true) : sp.length < l.length ∧ k < sp.length := by
  unfold okL at h
  simp only [Bool.and_eq_true, decide_eq_true_eq] at h
  have hdl : (ddOf sp).length = sp.length := by simp [ddOf]
  rw [hdl] at h
  exact ⟨h.1.1.1.1.1.1.2, h.1.1.1.1.1.2⟩
theorem okL_at {k : Nat} (h : okL l ds (ddOf sp) k = true) {i : Nat} (hi : i < sp.length) : ∃ (o : Oper) (s : Spec), l[i]? = some o ∧ sp[i]? = some s ∧ o.dst = s.dst ∧ (∀ d, s.dst = some d → ds.contains d = true) ∧
    (∀ p ∈ s.deps, Region.waitsFor .any l.toArray i p.1 = true ∧ ∃ q, sp[p.1]? = some q ∧ q.dst = some p.2) ∧
    (∀ (j : Nat) (q : Spec) (d : Tmp), j ≠ i → sp[j]? = some q → s.dst = some d → q.dst ≠ some d) ∧ (∀ e ∈ o.after, Region.binds .any e = true → e.on < i) := by
  unfold okL at h
  simp only [Bool.and_eq_true] at h
  have h1 := List.all_eq_true.1 h.1.1.1.1.2 i (List.mem_range.2 (by simpa [ddOf] using hi))
  have hsp : sp[i]? = some sp[i] := List.getElem?_eq_getElem hi
  simp only [ddOf, List.getElem?_map, hsp, Option.map_some] at h1
  cases ho : l[i]? with
  | none => rw [ho] at h1; cases h1
  | some o =>
    rw [ho] at h1
    simp only [Bool.and_eq_true, beq_iff_eq] at h1
    obtain ⟨⟨⟨⟨e1, e2⟩, e4⟩, e5⟩, e6⟩ := h1
    refine ⟨o, sp[i], rfl, hsp, e1, fun d hd => by rw [hd] at e2; exact e2, fun p hp => ?_, fun j q d hj hq hd hqd => ?_, fun e he hb => ?_⟩
    · have := List.all_eq_true.1 e4 p hp
      simp only [Bool.and_eq_true] at this
      refine ⟨this.1, ?_⟩
      have h2 := this.2
      cases hq : sp[p.1]? with
      | none => rw [hq] at h2; cases h2
      | some q => rw [hq] at h2; exact ⟨q, rfl, by simpa using h2⟩
    · have hjl : j < sp.length := (List.getElem?_eq_some_iff.1 hq).1
      have := List.all_eq_true.1 e5 j (List.mem_range.2 (by simpa [ddOf] using hjl))
      rw [hq, hd] at this
      simp only [Option.map_some, Option.bind_some, hqd, Bool.or_eq_true, beq_iff_eq, bne_self_eq_false, Bool.false_eq_true, or_false] at this
      exact hj this.symm
    · have := (Array.all_eq_true_iff_forall_mem.1 e6) e he
      simpa [hb] using this
theorem late_waits {k : Nat} (hok : okL l ds (ddOf sp) k = true) {listed : Array Bool} (inv : HeadInv .any l.toArray sp.length listed) :
    ∀ (d i : Nat), sp.length - i = d → i < sp.length → i ≠ k → listed.getD i true = false → ∀ t, sp.length ≤ t → t ∉ Region.ready .any l.toArray listed := by
  have h := hok
  unfold okL at h
  simp only [Bool.and_eq_true] at h
  have hdl : (ddOf sp).length = sp.length := by simp [ddOf]
  rw [hdl] at h
  have hs := h.1.1.1.2; have hc := h.1.1.2
  have hsz : l.toArray.size = l.length := by simp
  intro d
  induction d using Nat.strongRecOn with
  | _ d ih =>
    intro i hd hi hik hun t ht hr
    obtain ⟨_, ot, hot, hall⟩ := mem_ready.1 hr
    have htlt : t < l.toArray.size := (Array.getElem?_eq_some_iff.1 hot).1
    by_cases htn : t = sp.length
    · subst htn
      have h1 := List.all_eq_true.1 hs i (List.mem_range.2 hi)
      simp only [Bool.or_eq_true, beq_iff_eq] at h1
      rcases h1 with h1 | h1
      · exact hik h1
      · obtain ⟨j, hj, hj2⟩ := List.any_eq_true.1 h1
        simp only [Bool.and_eq_true, decide_eq_true_eq, bne_iff_ne, ne_eq] at hj2
        obtain ⟨oj, hoj, e, he, hb, hon⟩ := Region.waitsFor_spec hj2.2
        have hjle : j ≤ sp.length := by have := List.mem_range.1 hj; omega
        by_cases hjt : j = sp.length
        · subst hjt
          have : oj = ot := Option.some.inj (hoj.symm.trans hot)
          subst this
          have h2 := hall e he hb
          rw [hon, getD_both hun] at h2
          cases h2
        · cases hl : listed.getD j false with
          | true =>
            have h2 := inv.closed j oj hoj hl e he hb
            rw [hon, getD_both hun] at h2
            cases h2
          | false =>
            have hjs : j < listed.size := by rw [inv.size]; omega
            exact ih (sp.length - j) (by omega) j rfl (by omega) hj2.1.2 (getD_in hjs hl) sp.length (Nat.le_refl _) hr
    · have h1 := List.all_eq_true.1 hc t (List.mem_range.2 htlt)
      simp only [Bool.or_eq_true, decide_eq_true_eq] at h1
      rcases h1 with h1 | h1
      · omega
      · obtain ⟨o', ho', e, he, hb, hon⟩ := Region.waitsFor_spec h1
        have : o' = ot := Option.some.inj (ho'.symm.trans hot)
        subst this
        have h2 := hall e he hb
        rw [hon, getD_both (inv.tail (t - 1) (by omega) (by omega))] at h2
        cases h2
theorem fin_late {k : Nat} (hok : okL l ds (ddOf sp) k = true)
    (hfin : ∀ (u : Nat → Value) (w : World), Below W.heap.size W w → (∀ (j : Nat) (s : Spec) (d : Tmp), sp[j]? = some s → s.dst = some d → s.val w (u d)) → wpList P l.toArray Q (l.drop sp.length) ⟨(fillR ds u 0 a0.tmps.toList).toArray, a0.defers⟩ w)
    {listed : Array Bool} {a : Act} {w : World} (inv : Inv l sp.length W a0 ds sp listed a w) (hc : cntU sp.length listed = 0) : wpAny P .any l.toArray Q (l.length - sp.length) listed a w := by
  have h := hok
  unfold okL at h
  simp only [Bool.and_eq_true] at h
  have hlen := (okL_n hok).1
  have hseq := h.2
  have hdl : (ddOf sp).length = sp.length := by simp [ddOf]
  rw [hdl] at hseq
  have hall := cntU_zero _ hc
  have hsz : listed.size = l.length := by rw [inv.head.size]; simp
  have hL : listed = Array.replicate sp.length true ++ Array.replicate (l.length - sp.length) false := by
    apply Array.ext_getElem?
    intro i
    rcases Nat.lt_or_ge i listed.size with hi | hi
    · rw [Array.getElem?_append]
      by_cases hin : i < sp.length
      · rw [if_pos (by simpa using hin)]
        have := hall i hin
        simp only [Array.getD_eq_getD_getElem?, Array.getElem?_eq_getElem hi, Option.getD_some] at this
        simp [hi, hin, this]
      · rw [if_neg (by simpa using hin)]
        have := inv.head.tail i (by omega) (by simp; omega)
        simp only [Array.getD_eq_getD_getElem?, Array.getElem?_eq_getElem hi, Option.getD_some] at this
        rw [Array.getElem?_eq_getElem hi, this, Array.size_replicate, Array.getElem?_replicate, if_pos (by omega)]
    · rw [Array.getElem?_eq_none hi, Array.getElem?_eq_none (by simp; omega)]
  have hw := hfin (fun d => a.tmps.getD d undef) w inv.bel fun j s d hj hd => inv.new j s hj (getD_true_false (hall j (List.getElem?_eq_some_iff.1 hj).1) (by rw [hsz]; have := (List.getElem?_eq_some_iff.1 hj).1; omega)) d hd
  rw [← inv.act] at hw
  have hdrop : (l.drop sp.length).length = l.length - sp.length := by simp
  rw [← hdrop]
  refine wpAny_of_seq (l.drop sp.length) sp.length listed a w (fun j => by simp [List.getElem?_drop]) ?_ hw
  rw [hdrop, hL]; exact hseq
theorem cntU_none {listed : Array Bool} : ∀ n, (∀ i, i < n → listed.getD i true = true) → cntU n listed = 0
  | 0, _ => rfl
  | n + 1, h => by rw [cntU, cntU_none n fun i hi => h i (by omega), if_pos (h n (by omega))]
theorem wpAny_late {k : Nat} {ok : Oper} {sk : Spec} (hsz : ∀ d, ds.contains d = true → d < a0.tmps.size) (hok : okL l ds (ddOf sp) k = true) (hst : Stable sp) (hops : Hops P l W a0 ds sp (l.take sp.length) sp)
    (hko : l[k]? = some ok) (hks : sp[k]? = some sk) (hQ : ∀ c a d v w, Q (.panic c) (a.put d v) w → Q (.panic c) a w)
    (hlate : ∀ (u : Nat → Value) (w : World), Below W.heap.size W w → Knows sp w u sk.deps → ∃ v, Yields P l.toArray ok v ⟨(fillR ds u 0 a0.tmps.toList).toArray, a0.defers⟩ ∧ sk.val w v)
    (hfin : ∀ (u : Nat → Value) (w : World), Below W.heap.size W w → (∀ (j : Nat) (s : Spec) (d : Tmp), sp[j]? = some s → s.dst = some d → s.val w (u d)) → wpList P l.toArray Q (l.drop sp.length) ⟨(fillR ds u 0 a0.tmps.toList).toArray, a0.defers⟩ w) :
    ∀ (f : Nat) (listed : Array Bool) (a : Act) (w : World), Inv l sp.length W a0 ds sp listed a w → f = cntU sp.length listed + (l.length - sp.length) → wpAny P .any l.toArray Q f listed a w := by
  obtain ⟨hlen, hkn⟩ := okL_n hok
  intro f
  induction f with
  | zero => intro listed a w inv hf; omega
  | succ f ih =>
    intro listed a w inv hf
    have hsz2 : listed.size = l.length := by rw [inv.head.size]; simp
    by_cases hc : cntU sp.length listed = 0
    · have := fin_late (Q := Q) hok hfin inv hc
      rwa [show l.length - sp.length = f + 1 by omega] at this
    · by_cases hother : ∃ i, i < sp.length ∧ i ≠ k ∧ listed.getD i true = false
      · obtain ⟨i0, hi0, hik0, hu0⟩ := hother
        have hrd : ∀ (m i : Nat), i < m → i < sp.length → listed.getD i true = false → Region.ready .any l.toArray listed ≠ [] := by
          intro m
          induction m with
          | zero => intro i h; omega
          | succ m ihk =>
            intro i hk hi hu
            obtain ⟨o, s, ho, hs, _, _, _, _, hback⟩ := okL_at hok hi
            by_cases hall : ∀ e ∈ o.after, Region.binds .any e = true → listed.getD e.on false = true
            · exact List.ne_nil_of_mem (mem_ready.2 ⟨hu, o, by simpa using ho, hall⟩)
            · simp only [Classical.not_forall] at hall
              obtain ⟨e, he, hb, hn⟩ := hall
              have hlt := hback e he hb
              refine ihk e.on (by omega) (by omega) ?_
              have hol : i < l.length := (List.getElem?_eq_some_iff.1 ho).1
              exact getD_in (by omega) (by simpa using hn)
        have htail := late_waits hok inv.head _ i0 rfl hi0 hik0 hu0
        refine ⟨fun h0 => absurd h0 (hrd (i0 + 1) i0 (by omega) hi0 hu0), fun i hi => ?_⟩
        have hin : i < sp.length := by
          rcases Nat.lt_or_ge i sp.length with h | h
          · exact h
          · exact absurd hi (htail i h)
        have hun := (mem_ready.1 hi).1
        obtain ⟨o, s, ho, hs, hd, hds, hdeps, hdiff, hback⟩ := okL_at hok hin
        obtain ⟨_, o', ho', hall⟩ := mem_ready.1 hi
        have hoo : l.toArray[i]? = some o := by simpa using ho
        rw [hoo] at ho'; cases ho'
        have hk : Knows sp w (fun d => a.tmps.getD d undef) s.deps := knows_of fun p hp q hq => by
          obtain ⟨h1, q', hq', hqd⟩ := hdeps p hp
          rw [hq] at hq'; cases hq'
          obtain ⟨e, he, hb, hon⟩ := waits_spec hoo h1
          have := hall e he hb
          rw [hon] at this
          exact inv.new p.1 q hq this p.2 hqd
        have hact := inv.act
        have hw := hops_get _ _ hops i o s (by rw [List.getElem?_take, if_pos hin]; exact ho) hs (fun d => a.tmps.getD d undef) w inv.bel hk
        rw [← hact] at hw
        have key : ∀ a' w', PostS w o s a .normal a' w' → wpAny P .any l.toArray Q f (listed.setIfInBounds i true) a' w' := by
          rintro a' w' ⟨_, hb, v, rfl, hv⟩
          exact ih _ _ _ (inv_put hsz (.inr trivial) hst inv hi hin hs hd hds hdiff hb hv) (by have := cntU_set hun sp.length hin; omega)
        unfold wpOp
        simp only [hoo]
        unfold wpList at hw
        split at hw
        · rename_i hwant
          rw [if_pos hwant]
          rcases hw with hw | ⟨_, a1, w1, hbad, _⟩
          · exact .inl (wp_monoQ key (fun e a w he h => he h.1) hw)
          · cases hbad
        · rename_i hwant
          rw [if_neg hwant]
          exact key _ _ hw
      · have hall : ∀ i, i < sp.length → i ≠ k → listed.getD i true = true := fun i hi hik => by
          cases h : listed.getD i true with
          | true => rfl
          | false => exact absurd ⟨i, hi, hik, h⟩ hother
        have hku : listed.getD k true = false := by
          cases h : listed.getD k true with
          | false => rfl
          | true => exact absurd (cntU_none _ fun i hi => if hik : i = k then hik ▸ h else hall i hi hik) hc
        obtain ⟨o, s, ho, hs, hd, hds, hdeps, hdiff, hback⟩ := okL_at hok hkn
        rw [hko] at ho; cases ho
        rw [hks] at hs; cases hs
        have hoo : l.toArray[k]? = some ok := by simpa using hko
        have hr : k ∈ Region.ready .any l.toArray listed := mem_ready.2 ⟨hku, ok, hoo, fun e he hb => by
          have hlt := hback e he hb
          exact getD_true_false (hall e.on (by omega) (by omega)) (by omega)⟩
        have hk : Knows sp w (fun d => a.tmps.getD d undef) sk.deps := knows_of fun p hp q hq => by
          obtain ⟨h1, q', hq', hqd⟩ := hdeps p hp
          rw [hq] at hq'; cases hq'
          obtain ⟨e, he, hb, hon⟩ := waits_spec hoo h1
          have hlt := hback e he hb
          rw [hon] at hlt
          exact inv.new p.1 q hq (getD_true_false (hall p.1 (by omega) (by omega)) (by omega)) p.2 hqd
        obtain ⟨v, hy, hv⟩ := hlate (fun d => a.tmps.getD d undef) w inv.bel hk
        rw [← inv.act] at hy
        have h := hok
        unfold okL at h
        simp only [Bool.and_eq_true] at h
        have hap := h.1.2
        have hdl : (ddOf sp).length = sp.length := by simp [ddOf]
        rw [hdl] at hap
        refine wpAny_first hoo (Region.noSelect_spec h.1.1.1.1.1.1.1) (fun c a w hq => hQ c a _ _ w hq) f listed a w (fun j oj hj hjk hju hjw => ?_) hr hy (ih _ _ _ (inv_put hsz (.inr trivial) hst inv hr hkn hks hd hds hdiff (Below.refl _ _) hv) (by have := cntU_set hku sp.length hkn; omega))
        have hjl : j < l.length := by have := (Array.getElem?_eq_some_iff.1 hj).1; simpa using this
        rcases Nat.lt_or_ge j sp.length with hjn | hjn
        · rw [hall j hjn hjk] at hju; cases hju
        · have h1 := List.all_eq_true.1 hap j (List.mem_range.2 hjl)
          simp only [Bool.or_eq_true, decide_eq_true_eq] at h1
          rcases h1 with h1 | h1
          · omega
          · have hj' : l[j]? = some oj := by simpa using hj
            rw [hko, hj'] at h1; exact h1
theorem wp_slots_late {id : Nat} {w : World} (sp : List Spec) (ds : List Nat) (k : Nat) {ok : Oper} {sk : Spec} (hm : P.follows .mixedOrders = true) (hok : okL l ds (ddOf sp) k = true) (hsz : (ds.all fun d => decide (d < a0.tmps.size)) = true) (hst : Stable sp)
    (hops : Hops P l w a0 ds sp (l.take sp.length) sp)
    (hko : l[k]? = some ok) (hks : sp[k]? = some sk) (hQ : ∀ c a d v w, Q (.panic c) (a.put d v) w → Q (.panic c) a w)
    (hlate : ∀ (u : Nat → Value) (w' : World), Below w.heap.size w w' → Knows sp w' u sk.deps → ∃ v, Yields P l.toArray ok v ⟨(fillR ds u 0 a0.tmps.toList).toArray, a0.defers⟩ ∧ sk.val w' v)
    (hfin : ∀ (u : Nat → Value) (w' : World), Below w.heap.size w w' → (∀ (j : Nat) (s : Spec) (d : Tmp), sp[j]? = some s → s.dst = some d → s.val w' (u d)) → wpList P l.toArray Q (l.drop sp.length) ⟨(fillR ds u 0 a0.tmps.toList).toArray, a0.defers⟩ w') :
    (Code.region id l.toArray true).wp P Q a0 w := by
  refine wp_region_any hm ?_
  obtain ⟨hlen, hkn⟩ := okL_n hok
  refine wpAny_late (sp := sp) (ds := ds) (W := w) (a0 := a0) (fun d hd => ?_) hok hst hops hko hks hQ hlate hfin _ _ _ _ ⟨⟨by simp, fun j oj _ hl => (by rw [getD_replicate_false] at hl; cases hl), fun t _ ht => getD_in (by simpa using ht) (getD_replicate_false _ _)⟩, (Below.refl _ _).drew, rfl, rfl, fun _ _ => rfl, fun j s _ hl => (by rw [getD_replicate_false] at hl; cases hl)⟩ ?_
  · exact of_decide_eq_true (List.all_eq_true.1 hsz d (by simpa using hd))
  · have : ∀ n, n ≤ l.length → cntU n (Array.replicate l.toArray.size false) = n := by
      intro n
      induction n with
      | zero => intro _; rfl
      | succ n ih =>
        intro hn
        rw [cntU, ih (by omega)]
        simp [show n < l.length by omega]
    rw [this _ (by omega)]; simp; omega
end
end Go.Proofs.Ytolbmemogoojhaa
