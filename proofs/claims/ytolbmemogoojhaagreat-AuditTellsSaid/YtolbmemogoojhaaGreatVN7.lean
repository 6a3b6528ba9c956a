/- The rule of slots with a late one for which the tail may wait. No program. -/
import Derived.Test.YtolbmemogoojhaaGreatVN4
import Derived.Test.YtolbmemogoojhaaGreatVN6
namespace Go.Proofs.YtolbmemogoojhaaGreat
open Go Go.RowKit Go.Deep
set_option linter.unusedVariables false
set_option linter.unusedSimpArgs false
section
variable {P : Program} {l : List Oper} {W : World} {a0 : Act} {ds : List Nat} {sp : List Spec} {Q : Exit → Act → World → Prop}
/-- What the kernel checks where one operation, number k, may come behind the tail. -/
def okQ (l : List Oper) (ds : List Nat) (dd : List (Option Tmp × List (Nat × Nat))) (k : Nat) : Bool :=
  let n := dd.length
  Region.noSelect l.toArray && decide (n < l.length) && decide (k < n) &&
  ((List.range n).all fun i => match l[i]?, dd[i]? with
    | some o, some s => o.dst == s.1 && (match s.1 with | some d => ds.contains d | none => true) &&
        s.2.all (fun p => Region.waitsFor .any l.toArray i p.1 && (match dd[p.1]? with | some q => q.1 == some p.2 | none => false)) &&
        ((List.range n).all fun j => i == j || (match s.1, (dd[j]?).bind (·.1) with | some d, some d' => d != d' | _, _ => true)) &&
        o.after.all (fun e => !Region.binds .any e || decide (e.on < i))
    | _, _ => false) &&
  ((List.range n).all fun i => i == k || (List.range (n + 1)).any fun j => decide (i < j) && j != k && Region.waitsFor .any l.toArray j i) &&
  Region.chainB .any l.toArray n &&
  ((List.range l.length).all fun t => (decide (t < n) || Region.waitsFor .any l.toArray t k) || (match l[k]?, l[t]? with | some ok, some ot => ok.apart l.toArray ot | _, _ => false)) &&
  Region.seqB .any l.toArray (l.length - n) n (Array.replicate n true ++ Array.replicate (l.length - n) false)
theorem okQ_n {k : Nat} (h : okQ l ds (ddOf sp) k = true) : sp.length < l.length ∧ k < sp.length := by
  unfold okQ at h
  simp only [Bool.and_eq_true, decide_eq_true_eq] at h
  have hdl : (ddOf sp).length = sp.length := by simp [ddOf]
  rw [hdl] at h
  exact ⟨h.1.1.1.1.1.1.2, h.1.1.1.1.1.2⟩
theorem okQ_at {k : Nat} (h : okQ l ds (ddOf sp) k = true) {i : Nat} (hi : i < sp.length) : ∃ (o : Oper) (s : Spec), l[i]? = some o ∧ sp[i]? = some s ∧ o.dst = s.dst ∧ (∀ d, s.dst = some d → ds.contains d = true) ∧
    (∀ p ∈ s.deps, Region.waitsFor .any l.toArray i p.1 = true ∧ ∃ q, sp[p.1]? = some q ∧ q.dst = some p.2) ∧
    (∀ (j : Nat) (q : Spec) (d : Tmp), j ≠ i → sp[j]? = some q → s.dst = some d → q.dst ≠ some d) ∧ (∀ e ∈ o.after, Region.binds .any e = true → e.on < i) := by
  unfold okQ at h
  simp only [Bool.and_eq_true] at h
  have h1 := List.all_eq_true.1 h.1.1.1.1.2 i (List.mem_range.2 (by simpa [ddOf] using hi))
  have hsp : sp[i]? = some sp[i] := List.getElem?_eq_getElem hi
  simp only [ddOf, List.getElem?_map, hsp, Option.map_some] at h1
  cases ho : l[i]? with
  | none => rw [ho] at h1; cases h1
  | some o =>
    rw [ho] at h1
    simp only [Bool.and_eq_true, beq_iff_eq] at h1
    obtain ⟨⟨⟨⟨e1, e2⟩, e4⟩, e5⟩, e6⟩ := h1
    refine ⟨o, sp[i], rfl, hsp, e1, fun d hd => by rw [hd] at e2; exact e2, fun p hp => ?_, fun j q d hj hq hd hqd => ?_, fun e he hb => ?_⟩
    · have := List.all_eq_true.1 e4 p hp
      simp only [Bool.and_eq_true] at this
      refine ⟨this.1, ?_⟩
      have h2 := this.2
      cases hq : sp[p.1]? with
      | none => rw [hq] at h2; cases h2
      | some q => rw [hq] at h2; exact ⟨q, rfl, by simpa using h2⟩
    · have hjl : j < sp.length := (List.getElem?_eq_some_iff.1 hq).1
      have := List.all_eq_true.1 e5 j (List.mem_range.2 (by simpa [ddOf] using hjl))
      rw [hq, hd] at this
      simp only [Option.map_some, Option.bind_some, hqd, Bool.or_eq_true, beq_iff_eq, bne_self_eq_false, Bool.false_eq_true, or_false] at this
      exact hj this.symm
    · have := (Array.all_eq_true_iff_forall_mem.1 e6) e he
      simpa [hb] using this
theorem late_waitsQ {k : Nat} (hok : okQ l ds (ddOf sp) k = true) {listed : Array Bool} (inv : HeadInv .any l.toArray sp.length listed) :
    ∀ (d i : Nat), sp.length - i = d → i < sp.length → i ≠ k → listed.getD i true = false → ∀ t, sp.length ≤ t → t ∉ Region.ready .any l.toArray listed := by
  have h := hok
  unfold okQ at h
  simp only [Bool.and_eq_true] at h
  have hdl : (ddOf sp).length = sp.length := by simp [ddOf]
  rw [hdl] at h
  have hs := h.1.1.1.2; have hc := h.1.1.2
  have hsz : l.toArray.size = l.length := by simp
  intro d
  induction d using Nat.strongRecOn with
  | _ d ih =>
    intro i hd hi hik hun t ht hr
    obtain ⟨_, ot, hot, hall⟩ := mem_ready.1 hr
    have htlt : t < l.toArray.size := (Array.getElem?_eq_some_iff.1 hot).1
    by_cases htn : t = sp.length
    · subst htn
      have h1 := List.all_eq_true.1 hs i (List.mem_range.2 hi)
      simp only [Bool.or_eq_true, beq_iff_eq] at h1
      rcases h1 with h1 | h1
      · exact hik h1
      · obtain ⟨j, hj, hj2⟩ := List.any_eq_true.1 h1
        simp only [Bool.and_eq_true, decide_eq_true_eq, bne_iff_ne, ne_eq] at hj2
        obtain ⟨oj, hoj, e, he, hb, hon⟩ := Region.waitsFor_spec hj2.2
        have hjle : j ≤ sp.length := by have := List.mem_range.1 hj; omega
        by_cases hjt : j = sp.length
        · subst hjt
          have : oj = ot := Option.some.inj (hoj.symm.trans hot)
          subst this
          have h2 := hall e he hb
          rw [hon, getD_both hun] at h2
          cases h2
        · cases hl : listed.getD j false with
          | true =>
            have h2 := inv.closed j oj hoj hl e he hb
            rw [hon, getD_both hun] at h2
            cases h2
          | false =>
            have hjs : j < listed.size := by rw [inv.size]; omega
            exact ih (sp.length - j) (by omega) j rfl (by omega) hj2.1.2 (getD_in hjs hl) sp.length (Nat.le_refl _) hr
    · have h1 := List.all_eq_true.1 hc t (List.mem_range.2 htlt)
      simp only [Bool.or_eq_true, decide_eq_true_eq] at h1
      rcases h1 with h1 | h1
      · omega
      · obtain ⟨o', ho', e, he, hb, hon⟩ := Region.waitsFor_spec h1
        have : o' = ot := Option.some.inj (ho'.symm.trans hot)
        subst this
        have h2 := hall e he hb
        rw [hon, getD_both (inv.tail (t - 1) (by omega) (by omega))] at h2
        cases h2
theorem fin_lateQ {k : Nat} (hok : okQ l ds (ddOf sp) k = true)
    (hfin : ∀ (u : Nat → Value) (w : World), Below W.heap.size W w → (∀ (j : Nat) (s : Spec) (d : Tmp), sp[j]? = some s → s.dst = some d → s.val w (u d)) → wpList P l.toArray Q (l.drop sp.length) ⟨(fillR ds u 0 a0.tmps.toList).toArray, a0.defers⟩ w)
    {listed : Array Bool} {a : Act} {w : World} (inv : Inv l sp.length W a0 ds sp listed a w) (hc : cntU sp.length listed = 0) : wpAny P .any l.toArray Q (l.length - sp.length) listed a w := by
  have h := hok
  unfold okQ at h
  simp only [Bool.and_eq_true] at h
  have hlen := (okQ_n hok).1
  have hseq := h.2
  have hdl : (ddOf sp).length = sp.length := by simp [ddOf]
  rw [hdl] at hseq
  have hall := cntU_zero _ hc
  have hsz : listed.size = l.length := by rw [inv.head.size]; simp
  have hL : listed = Array.replicate sp.length true ++ Array.replicate (l.length - sp.length) false := by
    apply Array.ext_getElem?
    intro i
    rcases Nat.lt_or_ge i listed.size with hi | hi
    · rw [Array.getElem?_append]
      by_cases hin : i < sp.length
      · rw [if_pos (by simpa using hin)]
        have := hall i hin
        simp only [Array.getD_eq_getD_getElem?, Array.getElem?_eq_getElem hi, Option.getD_some] at this
        simp [hi, hin, this]
      · rw [if_neg (by simpa using hin)]
        have := inv.head.tail i (by omega) (by simp; omega)
        simp only [Array.getD_eq_getD_getElem?, Array.getElem?_eq_getElem hi, Option.getD_some] at this
        rw [Array.getElem?_eq_getElem hi, this, Array.size_replicate, Array.getElem?_replicate, if_pos (by omega)]
    · rw [Array.getElem?_eq_none hi, Array.getElem?_eq_none (by simp; omega)]
  have hw := hfin (fun d => a.tmps.getD d undef) w inv.bel fun j s d hj hd => inv.new j s hj (getD_true_false (hall j (List.getElem?_eq_some_iff.1 hj).1) (by rw [hsz]; have := (List.getElem?_eq_some_iff.1 hj).1; omega)) d hd
  rw [← inv.act] at hw
  have hdrop : (l.drop sp.length).length = l.length - sp.length := by simp
  rw [← hdrop]
  refine wpAny_of_seq (l.drop sp.length) sp.length listed a w (fun j => by simp [List.getElem?_drop]) ?_ hw
  rw [hdrop, hL]; exact hseq
theorem wpAny_lateQ {k : Nat} {ok : Oper} {sk : Spec} (hsz : ∀ d, ds.contains d = true → d < a0.tmps.size) (hok : okQ l ds (ddOf sp) k = true) (hst : Stable sp) (hops : Hops P l W a0 ds sp (l.take sp.length) sp)
    (hko : l[k]? = some ok) (hks : sp[k]? = some sk) (hQ : ∀ c a d v w, Q (.panic c) (a.put d v) w → Q (.panic c) a w)
    (hlate : ∀ (u : Nat → Value) (w : World), Below W.heap.size W w → Knows sp w u sk.deps → ∃ v, Yields P l.toArray ok v ⟨(fillR ds u 0 a0.tmps.toList).toArray, a0.defers⟩ ∧ sk.val w v)
    (hfin : ∀ (u : Nat → Value) (w : World), Below W.heap.size W w → (∀ (j : Nat) (s : Spec) (d : Tmp), sp[j]? = some s → s.dst = some d → s.val w (u d)) → wpList P l.toArray Q (l.drop sp.length) ⟨(fillR ds u 0 a0.tmps.toList).toArray, a0.defers⟩ w) :
    ∀ (f : Nat) (listed : Array Bool) (a : Act) (w : World), Inv l sp.length W a0 ds sp listed a w → f = cntU sp.length listed + (l.length - sp.length) → wpAny P .any l.toArray Q f listed a w := by
  obtain ⟨hlen, hkn⟩ := okQ_n hok
  intro f
  induction f with
  | zero => intro listed a w inv hf; omega
  | succ f ih =>
    intro listed a w inv hf
    have hsz2 : listed.size = l.length := by rw [inv.head.size]; simp
    by_cases hc : cntU sp.length listed = 0
    · have := fin_lateQ (Q := Q) hok hfin inv hc
      rwa [show l.length - sp.length = f + 1 by omega] at this
    · by_cases hother : ∃ i, i < sp.length ∧ i ≠ k ∧ listed.getD i true = false
      · obtain ⟨i0, hi0, hik0, hu0⟩ := hother
        have hrd : ∀ (m i : Nat), i < m → i < sp.length → listed.getD i true = false → Region.ready .any l.toArray listed ≠ [] := by
          intro m
          induction m with
          | zero => intro i h; omega
          | succ m ihk =>
            intro i hk hi hu
            obtain ⟨o, s, ho, hs, _, _, _, _, hback⟩ := okQ_at hok hi
            by_cases hall : ∀ e ∈ o.after, Region.binds .any e = true → listed.getD e.on false = true
            · exact List.ne_nil_of_mem (mem_ready.2 ⟨hu, o, by simpa using ho, hall⟩)
            · simp only [Classical.not_forall] at hall
              obtain ⟨e, he, hb, hn⟩ := hall
              have hlt := hback e he hb
              refine ihk e.on (by omega) (by omega) ?_
              have hol : i < l.length := (List.getElem?_eq_some_iff.1 ho).1
              exact getD_in (by omega) (by simpa using hn)
        have htail := late_waitsQ hok inv.head _ i0 rfl hi0 hik0 hu0
        refine ⟨fun h0 => absurd h0 (hrd (i0 + 1) i0 (by omega) hi0 hu0), fun i hi => ?_⟩
        have hin : i < sp.length := by
          rcases Nat.lt_or_ge i sp.length with h | h
          · exact h
          · exact absurd hi (htail i h)
        have hun := (mem_ready.1 hi).1
        obtain ⟨o, s, ho, hs, hd, hds, hdeps, hdiff, hback⟩ := okQ_at hok hin
        obtain ⟨_, o', ho', hall⟩ := mem_ready.1 hi
        have hoo : l.toArray[i]? = some o := by simpa using ho
        rw [hoo] at ho'; cases ho'
        have hk : Knows sp w (fun d => a.tmps.getD d undef) s.deps := knows_of fun p hp q hq => by
          obtain ⟨h1, q', hq', hqd⟩ := hdeps p hp
          rw [hq] at hq'; cases hq'
          obtain ⟨e, he, hb, hon⟩ := waits_spec hoo h1
          have := hall e he hb
          rw [hon] at this
          exact inv.new p.1 q hq this p.2 hqd
        have hact := inv.act
        have hw := hops_get _ _ hops i o s (by rw [List.getElem?_take, if_pos hin]; exact ho) hs (fun d => a.tmps.getD d undef) w inv.bel hk
        rw [← hact] at hw
        have key : ∀ a' w', PostS w o s a .normal a' w' → wpAny P .any l.toArray Q f (listed.setIfInBounds i true) a' w' := by
          rintro a' w' ⟨_, hb, v, rfl, hv⟩
          exact ih _ _ _ (inv_put hsz (.inr trivial) hst inv hi hin hs hd hds hdiff hb hv) (by have := cntU_set hun sp.length hin; omega)
        unfold wpOp
        simp only [hoo]
        unfold wpList at hw
        split at hw
        · rename_i hwant
          rw [if_pos hwant]
          rcases hw with hw | ⟨_, a1, w1, hbad, _⟩
          · exact .inl (wp_monoQ key (fun e a w he h => he h.1) hw)
          · cases hbad
        · rename_i hwant
          rw [if_neg hwant]
          exact key _ _ hw
      · have hall : ∀ i, i < sp.length → i ≠ k → listed.getD i true = true := fun i hi hik => by
          cases h : listed.getD i true with
          | true => rfl
          | false => exact absurd ⟨i, hi, hik, h⟩ hother
        have hku : listed.getD k true = false := by
          cases h : listed.getD k true with
          | false => rfl
          | true => exact absurd (cntU_none _ fun i hi => if hik : i = k then hik ▸ h else hall i hi hik) hc
        obtain ⟨o, s, ho, hs, hd, hds, hdeps, hdiff, hback⟩ := okQ_at hok hkn
        rw [hko] at ho; cases ho
        rw [hks] at hs; cases hs
        have hoo : l.toArray[k]? = some ok := by simpa using hko
        have hr : k ∈ Region.ready .any l.toArray listed := mem_ready.2 ⟨hku, ok, hoo, fun e he hb => by
          have hlt := hback e he hb
          exact getD_true_false (hall e.on (by omega) (by omega)) (by omega)⟩
        have hk : Knows sp w (fun d => a.tmps.getD d undef) sk.deps := knows_of fun p hp q hq => by
          obtain ⟨h1, q', hq', hqd⟩ := hdeps p hp
          rw [hq] at hq'; cases hq'
          obtain ⟨e, he, hb, hon⟩ := waits_spec hoo h1
          have hlt := hback e he hb
          rw [hon] at hlt
          exact inv.new p.1 q hq (getD_true_false (hall p.1 (by omega) (by omega)) (by omega)) p.2 hqd
        obtain ⟨v, hy, hv⟩ := hlate (fun d => a.tmps.getD d undef) w inv.bel hk
        rw [← inv.act] at hy
        have h := hok
        unfold okQ at h
        simp only [Bool.and_eq_true] at h
        have hap := h.1.2
        have hdl : (ddOf sp).length = sp.length := by simp [ddOf]
        rw [hdl] at hap
        refine wpAny_first hoo (Region.noSelect_spec h.1.1.1.1.1.1.1) (fun c a w hq => hQ c a _ _ w hq) f listed a w (fun j oj hj hjk hju hjw => ?_) hr hy (ih _ _ _ (inv_put hsz (.inr trivial) hst inv hr hkn hks hd hds hdiff (Below.refl _ _) hv) (by have := cntU_set hku sp.length hkn; omega))
        have hjl : j < l.length := by have := (Array.getElem?_eq_some_iff.1 hj).1; simpa using this
        rcases Nat.lt_or_ge j sp.length with hjn | hjn
        · rw [hall j hjn hjk] at hju; cases hju
        · have h1 := List.all_eq_true.1 hap j (List.mem_range.2 hjl)
          simp only [Bool.or_eq_true, decide_eq_true_eq] at h1
          rcases h1 with (h1 | h1) | h1
          · omega
          · obtain ⟨o', ho', e, he, hb, hon⟩ := Region.waitsFor_spec h1
            rw [hj] at ho'; cases ho'
            exact absurd hon (hjw e he hb)
          · have hj' : l[j]? = some oj := by simpa using hj
            rw [hko, hj'] at h1; exact h1
theorem wp_slotsQ0 {id : Nat} {w : World} (sp : List Spec) (ds : List Nat) (k : Nat) {ok : Oper} {sk : Spec} (hm : P.follows .mixedOrders = true) (hok : okQ l ds (ddOf sp) k = true) (hsz : (ds.all fun d => decide (d < a0.tmps.size)) = true) (hst : Stable sp)
    (hops : Hops P l w a0 ds sp (l.take sp.length) sp)
    (hko : l[k]? = some ok) (hks : sp[k]? = some sk) (hQ : ∀ c a d v w, Q (.panic c) (a.put d v) w → Q (.panic c) a w)
    (hlate : ∀ (u : Nat → Value) (w' : World), Below w.heap.size w w' → Knows sp w' u sk.deps → ∃ v, Yields P l.toArray ok v ⟨(fillR ds u 0 a0.tmps.toList).toArray, a0.defers⟩ ∧ sk.val w' v)
    (hfin : ∀ (u : Nat → Value) (w' : World), Below w.heap.size w w' → (∀ (j : Nat) (s : Spec) (d : Tmp), sp[j]? = some s → s.dst = some d → s.val w' (u d)) → wpList P l.toArray Q (l.drop sp.length) ⟨(fillR ds u 0 a0.tmps.toList).toArray, a0.defers⟩ w') :
    (Code.region id l.toArray true).wp P Q a0 w := by
  refine wp_region_any hm ?_
  obtain ⟨hlen, hkn⟩ := okQ_n hok
  refine wpAny_lateQ (sp := sp) (ds := ds) (W := w) (a0 := a0) (fun d hd => ?_) hok hst hops hko hks hQ hlate hfin _ _ _ _ ⟨⟨by simp, fun j oj _ hl => (by rw [getD_replicate_false] at hl; cases hl), fun t _ ht => getD_in (by simpa using ht) (getD_replicate_false _ _)⟩, (Below.refl _ _).drew, rfl, rfl, fun _ _ => rfl, fun j s _ hl => (by rw [getD_replicate_false] at hl; cases hl)⟩ ?_
  · exact of_decide_eq_true (List.all_eq_true.1 hsz d (by simpa using hd))
  · have : ∀ n, n ≤ l.length → cntU n (Array.replicate l.toArray.size false) = n := by
      intro n
      induction n with
      | zero => intro _; rfl
      | succ n ih =>
        intro hn
        rw [cntU, ih (by omega)]
        simp [show n < l.length by omega]
    rw [this _ (by omega)]; simp; omega
end
section
variable {P : Program} {l : List Oper} {sp : List Spec} {Q : Exit → Act → World → Prop} {L : List Value} {df : List Deferred}
theorem wp_slotsMQ {id : Nat} {w : World} (sp : List Spec) (ds : List Nat) (m : List Bool) (dd : List (Option Tmp × List (Nat × Nat))) (k : Nat) {ok : Oper} {sk : Spec} (hdd : ddOf sp = dd) (hm : P.follows .mixedOrders = true) (hok : okQ l ds dd k = true) (hmask : maskB ds m 0 L.length = true) (hsz : (ds.all fun d => decide (d < L.length)) = true) (hst : Stable sp)
    (hko : l[k]? = some ok) (hks : sp[k]? = some sk) 
    (hops : HopsM P l w df L m sp (l.take sp.length) sp)
    (hlate : ∀ (u : Nat → Value) (w' : World), Below w.heap.size w w' → Knows sp w' u sk.deps → ∃ v, Yields P l.toArray ok v ⟨(fillM m u 0 L).toArray, df⟩ ∧ sk.val w' v)
    (hfin : ∀ (u : Nat → Value) (w' : World), Below w.heap.size w w' → KnowsAll w' u sp → wpList P l.toArray (fun e a w => e = .normal ∧ Q .normal a w) (l.drop sp.length) ⟨(fillM m u 0 L).toArray, df⟩ w') :
    (Code.region id l.toArray true).wp P Q ⟨L.toArray, df⟩ w := by
  subst hdd
  refine Code.wp_mono (Q := fun e a w => e = .normal ∧ Q .normal a w) (fun e a w h => by obtain ⟨rfl, h⟩ := h; exact h) ?_
  refine wp_slotsQ0 sp ds k hm hok (by simpa using hsz) hst (hops_mask hmask hops) hko hks (fun _ _ _ _ _ h => by cases h.1) (fun u w' hb hk => ?_) fun u w' hb hk => ?_
  · have := hlate u w' hb hk
    rw [← fill_mask ds u L m 0 hmask] at this
    exact this
  · have := hfin u w' hb (knowsAll_of hk)
    rw [← fill_mask ds u L m 0 hmask] at this
    exact this
end
end Go.Proofs.YtolbmemogoojhaaGreat
/- A book's rows are none of the blocks that hold a book. -/
namespace Go.Proofs.YtolbmemogoojhaaGreat
open Go Go.RowKit Go.Deep
set_option linter.unusedVariables false
set_option linter.unusedSimpArgs false
set_option maxRecDepth 100000
theorem row_but {W W' : World} {size n k : Nat} {v u : Value} {t : TypeId} {cs : List Value} (h : Row W size v n cs) (hk : Blk W k t #[u]) (h0 : cs[0]? ≠ some u) (hb : But k W W') : Row W' size v n cs := by
  obtain ⟨hl, a, c, rfl, h1, h2, h3, h4⟩ := h
  refine ⟨hl, a, c, rfl, h1, h2, h3, fun hp => ?_⟩
  obtain ⟨b, off, rfl, hc⟩ := h4 hp
  refine ⟨b, off, rfl, fun j x hj => ?_⟩
  have hx := hc j x hj
  have hne : b ≠ k := by
    rintro rfl
    obtain ⟨c0, hc0⟩ : ∃ c0, cs[0]? = some c0 := ⟨_, List.getElem?_eq_getElem hp⟩
    have := hc 0 c0 hc0
    rw [hk.cell] at this
    match off, this with
    | 0, this =>
      simp only [Nat.add_zero, List.getElem?_toArray, List.getElem?_cons_zero, Option.some.injEq] at this
      exact h0 (by rw [hc0, this])
    | off + 1, this => simp at this
  exact (hb.cell (p := ⟨b, off + j, none⟩) (World.block_lt_of_cell? W _ hx) hne).trans hx
theorem recsL_first : ∀ {l : RS} {u : Value}, (∀ p ∈ l, p.1.ok) → (∃ a n c, u = .slice a n c) → (recsL l)[0]? ≠ some u
  | [], u, _, _ => by simp [recsL]
  | p :: l, u, h, hu => by
    obtain ⟨a, n, c, rfl⟩ := hu
    obtain ⟨b0, b1, b2, b3, b4, b5, b6, b7, b8, b9, b10, b11, b12, b13, b14, b15, e⟩ := len16 (h p mH)
    have : (recsL (p :: l))[0]? = some (.int .u8 b0.toNat) := by
      simp only [recsL, rA, recA, e, encU, List.map_cons]
      rfl
    rw [this]; simp
theorem fieldsL_first (l : List F4) {u : Value} (hu : ∃ a n c, u = .slice a n c) : (fieldsL l)[0]? ≠ some u := by
  obtain ⟨a, n, c, rfl⟩ := hu
  cases l with
  | nil => simp [fieldsL]
  | cons f l => simp [fieldsL]
/-- A store over a block that holds a book turns no book's rows. -/
theorem Recs.but {W W' : World} {v u : Value} {L : BK} {k : Nat} {t : TypeId} (h : Recs W v L) (hk : Blk W k t #[u]) (hu : ∃ a n c, u = .slice a n c) (hb : But k W W') : Recs W' v L := by
  obtain ⟨l, e, h1, h2⟩ := h
  exact ⟨l, e, row_but h1 hk (recsL_first (fun p hp => (h2 p hp).1) hu) hb, fun p hp => ⟨(h2 p hp).1, row_but (h2 p hp).2 hk (fieldsL_first _ hu) hb⟩⟩
section
variable {ops : Array Oper} {rest : List Oper} {a : Act} {w0 w : World} {Q : Exit → Act → World → Prop} {Γ Γ' : List Res} {dst : Option Tmp} {typ t : TypeId} {x y : Operand} {pos : String} {af : Array Edge} {gd : Option (Nat × Bool)} {b : Nat} {v v' s : Value} {L : BK}
end
/-- A book that a call gave; a new variable. -/
def GaveB (f : Value → Value) (J : BK) (W : World) (v : Value) : Prop := ∃ s, v = f s ∧ Recs W s J
theorem GaveB.keep {f : Value → Value} {J : BK} (w w' : World) (v : Value) (hb : Below w.heap.size w w') (h : GaveB f J w v) : GaveB f J w' v := by
  obtain ⟨s, e, h1⟩ := h
  exact ⟨s, e, h1.below hb⟩
def NewB (W0 : World) (W : World) (v : Value) : Prop := ∃ k, v = .pointer (some ⟨k, 0, none⟩) ∧ Blk W k 24 #[.slice none 0 0] ∧ W0.heap.size ≤ k
theorem NewB.keep {W0 : World} (w w' : World) (v : Value) (hb : Below w.heap.size w w') (h : NewB W0 w v) : NewB W0 w' v := by
  obtain ⟨k, e, h1, h2⟩ := h
  exact ⟨k, e, (hb.block k h1.lt).trans h1, h2⟩
end Go.Proofs.YtolbmemogoojhaaGreat
/- Records that a call gave: what is read of them, and nothing else, as a resource. -/
namespace Go.Proofs.YtolbmemogoojhaaGreat
open Go Go.RowKit Go.Deep
set_option linter.unusedVariables false
set_option linter.unusedSimpArgs false
set_option maxRecDepth 100000
def blkOf : Value → Option Nat
  | .slice (some ⟨b, _, none⟩) _ _ => some b
  | _ => none
def rsFoot (s : Value) (l : RS) (b : Nat) : Prop := (l ≠ [] ∧ blkOf s = some b) ∨ ∃ p ∈ l, p.1.f ≠ [] ∧ blkOf p.2 = some b
theorem row_stay {W W' : World} {size n : Nat} {v : Value} {cs : List Value} (h : Row W size v n cs) (k : cs ≠ [] → ∀ b, blkOf v = some b → W'.heap[b]? = W.heap[b]?) : Row W' size v n cs := by
  obtain ⟨hl, a, c, rfl, h1, h2, h3, h4⟩ := h
  refine ⟨hl, a, c, rfl, h1, h2, h3, fun hp => ?_⟩
  obtain ⟨b, off, rfl, hc⟩ := h4 hp
  exact ⟨b, off, rfl, fun j u hj => (World.cell?_of_block (w := W) (a := ⟨b, off + j, none⟩) (k (by intro e; rw [e] at hp; cases hp) b rfl)).trans (hc j u hj)⟩
theorem row_blk {W : World} {size n : Nat} {v : Value} {cs : List Value} (h : Row W size v n cs) (hne : cs ≠ []) {b : Nat} (hb : blkOf v = some b) : ∃ off c0, cs[0]? = some c0 ∧ W.cell? ⟨b, off, none⟩ = some c0 := by
  obtain ⟨hl, a, c, rfl, h1, h2, h3, h4⟩ := h
  have hp : 0 < cs.length := by cases cs with | nil => exact absurd rfl hne | cons _ _ => simp
  obtain ⟨b', off, rfl, hc⟩ := h4 hp
  cases hb
  exact ⟨off + 0, cs[0], List.getElem?_eq_getElem hp, hc 0 _ (List.getElem?_eq_getElem hp)⟩
theorem recsL_ne {l : RS} (h : l ≠ []) (hok : ∀ p ∈ l, p.1.ok) : recsL l ≠ [] := by
  intro e
  have := recsL_length hok
  rw [e] at this
  cases l with
  | nil => exact h rfl
  | cons p l => simp at this
theorem fieldsL_ne {l : List F4} (h : l ≠ []) : fieldsL l ≠ [] := by cases l with | nil => exact absurd rfl h | cons f l => simp [fieldsL]
def Res.rs (s : Value) (l : RS) : Res := ⟨rsFoot s l, fun W => RecsS W s l, fun {w w'} h k => ⟨row_stay h.1 fun hne b hb => k b (.inl ⟨fun e => hne (by rw [e]; rfl), hb⟩), fun p hp => ⟨(h.2 p hp).1, row_stay (h.2 p hp).2 fun hne b hb => k b (.inr ⟨p, hp, fun e => hne (by rw [e]; rfl), hb⟩)⟩⟩, fun {w b} h hf => by
  rcases hf with ⟨h1, h2⟩ | ⟨p, hp, h1, h2⟩
  · obtain ⟨off, c0, _, hc⟩ := row_blk h.1 (recsL_ne h1 fun p hp => (h.2 p hp).1) h2
    exact World.block_lt_of_cell? w _ hc
  · obtain ⟨off, c0, _, hc⟩ := row_blk (h.2 p hp).2 (fieldsL_ne h1) h2
    exact World.block_lt_of_cell? w _ hc⟩
theorem rs_reads (s : Value) (l : RS) (W : World) (h : (Res.rs s l).holds W) : Recs W s (l.map (·.1)) := ⟨l, rfl, h⟩
theorem recs_other : ∀ {l m : RS}, (∀ p ∈ l, p.1.ok) → (∀ p ∈ m, p.1.ok) → l.map (·.1) = m.map (·.1) → recsL l = recsL m → l = m
  | [], [], _, _, _, _ => rfl
  | [], _ :: _, _, _, h, _ => by cases h
  | _ :: _, [], _, _, h, _ => by cases h
  | p :: l, q :: m, hl, hm, h, e => by
    simp only [List.map_cons, List.cons.injEq] at h
    have e1 := List.append_inj (show (rA p.1 p.2).toList ++ recsL l = (rA q.1 q.2).toList ++ recsL m from e) (by simp [rA_size (hl p mH), rA_size (hm q mH)])
    have e2 : p.2 = q.2 := by
      have h1 := (rA_get (hl p mH) p.2).2.2.2
      have h2 := (rA_get (hm q mH) q.2).2.2.2
      have e3 : rA p.1 p.2 = rA q.1 q.2 := Array.ext' e1.1
      rw [e3] at h1
      exact Option.some.inj (h1.symm.trans h2)
    rw [recs_other (fun x hx => hl x (mT _ hx)) (fun x hx => hm x (mT _ hx)) h.2 e1.2, Prod.ext h.1 e2]
/-- What is read lies in what was made. -/
theorem read_foot {r : Res} {s : Value} {J : BK} (hr : ∀ W, r.holds W → Recs W s J) {W : World} (h : r.holds W) : ∃ l : RS, l.map (·.1) = J ∧ RecsS W s l ∧ ∀ b, rsFoot s l b → r.foot b := by
  obtain ⟨l, hl, hs⟩ := hr W h
  refine ⟨l, hl, hs, fun b hb => ?_⟩
  refine Classical.byContradiction fun hn => ?_
  obtain ⟨W', hW⟩ : ∃ W' : World, W' = { W with heap := W.heap.setIfInBounds b (.map #[] 0) } := ⟨_, rfl⟩
  have hother : ∀ k, k ≠ b → W'.heap[k]? = W.heap[k]? := fun k hk => by rw [hW]; simp [Array.getElem?_setIfInBounds, Ne.symm hk]
  have hcell : ∀ off, W'.cell? ⟨b, off, none⟩ = none := fun off => by
    unfold World.cell?
    rw [hW]
    by_cases hlt : b < W.heap.size
    · simp [Array.getElem?_setIfInBounds, hlt]
    · simp [Array.getElem?_setIfInBounds, hlt]
  have h' : r.holds W' := r.stay h fun k hk => hother k fun e => hn (e ▸ hk)
  obtain ⟨l', hl', hs'⟩ := hr W' h'
  have ok : ∀ p ∈ l, p.1.ok := fun p hp => (hs.2 p hp).1
  have ok' : ∀ p ∈ l', p.1.ok := fun p hp => (hs'.2 p hp).1
  have hlen : l.length = l'.length := by rw [← List.length_map (f := (·.1)), hl, ← hl', List.length_map]
  by_cases hsb : l ≠ [] ∧ blkOf s = some b
  · have hne' : l' ≠ [] := fun e => hsb.1 (List.eq_nil_of_length_eq_zero (by rw [hlen, e]; rfl))
    obtain ⟨off, c0, _, hc⟩ := row_blk hs'.1 (recsL_ne hne' ok') hsb.2
    rw [hcell] at hc; cases hc
  · rcases hb with hb | ⟨p, hp, hpf, hpb⟩
    · exact hsb hb
    · have hne : l ≠ [] := fun e => by rw [e] at hp; cases hp
      have e1 : recsL l = recsL l' := by
        apply List.ext_getElem?
        intro i
        obtain ⟨_, a, c, ea, _, _, _, h4⟩ := hs.1
        obtain ⟨_, a', c', ea', _, _, _, h4'⟩ := hs'.1
        have hpos : 0 < (recsL l).length := List.length_pos_iff.2 (recsL_ne hne ok)
        have hpos' : 0 < (recsL l').length := by rw [recsL_length ok', ← hlen, ← recsL_length ok]; exact hpos
        obtain ⟨bs, off, e2, hc⟩ := h4 hpos
        obtain ⟨bs', off', e2', hc'⟩ := h4' hpos'
        rw [ea, e2] at ea'
        rw [e2'] at ea'
        injection ea' with e3 _ _
        simp only [Option.some.injEq, Addr.mk.injEq, and_true] at e3
        obtain ⟨rfl, rfl⟩ := e3
        have hbs : bs ≠ b := fun e => hsb ⟨hne, by rw [ea, e2, e]; rfl⟩
        have hc2 : ∀ j, W'.cell? ⟨bs, off + j, none⟩ = W.cell? ⟨bs, off + j, none⟩ := fun j => World.cell?_of_block (w := W) (a := ⟨bs, off + j, none⟩) (hother bs hbs)
        have hll : (recsL l).length = (recsL l').length := by rw [recsL_length ok, recsL_length ok', hlen]
        rcases Nat.lt_or_ge i (recsL l).length with hi | hi
        · have k1 := hc i _ (List.getElem?_eq_getElem hi)
          have k2 := hc' i _ (List.getElem?_eq_getElem (by rw [← hll]; exact hi))
          rw [hc2, k1] at k2
          rw [List.getElem?_eq_getElem hi, List.getElem?_eq_getElem (by rw [← hll]; exact hi)]
          exact k2
        · rw [List.getElem?_eq_none hi, List.getElem?_eq_none (by rw [← hll]; exact hi)]
      have e5 := recs_other ok ok' (hl.trans hl'.symm) e1
      subst e5
      obtain ⟨off, c0, _, hc⟩ := row_blk (hs'.2 p hp).2 (fieldsL_ne hpf) hpb
      rw [hcell] at hc; cases hc
/-- Records as read, made since a world. -/
def MadeS (W0 : World) (f : Value → Value) (J : BK) (W : World) (v : Value) : Prop := ∃ (s : Value) (l : RS), v = f s ∧ l.map (·.1) = J ∧ (Res.rs s l).holds W ∧ ∀ b, rsFoot s l b → W0.heap.size ≤ b
theorem MadeS.keep {W0 : World} {f : Value → Value} {J : BK} (w w' : World) (v : Value) (hb : Below w.heap.size w w') (h : MadeS W0 f J w v) : MadeS W0 f J w' v := by
  obtain ⟨s, l, e, h0, h1, h2⟩ := h
  exact ⟨s, l, e, h0, Res.keep h1 hb, h2⟩
theorem MadeS.of {W0 w w' : World} {f : Value → Value} {J : BK} {s : Value} {r : Res} (hr : ∀ W, r.holds W → Recs W s J) (h : St w w' [r]) (hb : W0.heap.size ≤ w.heap.size) : MadeS W0 f J w' (f s) := by
  obtain ⟨l, h1, h2, h3⟩ := read_foot hr (h.get mH)
  exact ⟨s, l, rfl, h1, h2, fun b hf => Nat.le_trans hb (h.base _ mH b (h3 b hf))⟩
theorem rs_apart {W : World} {s u : Value} {l : RS} {k : Nat} {t : TypeId} (h : (Res.rs s l).holds W) (hk : Blk W k t #[u]) (hu : ∃ a n c, u = .slice a n c) : ¬ rsFoot s l k := by
  have key : ∀ {size n : Nat} {v : Value} {cs : List Value}, Row W size v n cs → cs ≠ [] → cs[0]? ≠ some u → blkOf v ≠ some k := by
    intro size n v cs hrow hne h0 hb
    obtain ⟨off, c0, e, hc⟩ := row_blk hrow hne hb
    rw [hk.cell] at hc
    match off, hc with
    | 0, hc =>
      simp only [List.getElem?_toArray, List.getElem?_cons_zero, Option.some.injEq] at hc
      exact h0 (by rw [e, hc])
    | off + 1, hc => simp at hc
  rintro (⟨h1, h2⟩ | ⟨p, hp, h1, h2⟩)
  · exact key h.1 (recsL_ne h1 fun p hp => (h.2 p hp).1) (recsL_first (fun p hp => (h.2 p hp).1) hu) h2
  · exact key (h.2 p hp).2 (fieldsL_ne h1) (fieldsL_first _ hu) h2
/-- Both: what a call gave, and a new variable, whichever came first. -/
theorem St.both {w0 w w' : World} {Γ : List Res} {s : Value} {l : RS} {k : Nat} (H : St w0 w Γ) (hb : Below w.heap.size w w') (h : (Res.rs s l).holds w') (hf : ∀ b, rsFoot s l b → w.heap.size ≤ b) (hk : Blk w' k 24 #[.slice none 0 0]) (hkb : w.heap.size ≤ k) :
    St w0 w' (Res.blk k 24 #[.slice none 0 0] :: Res.rs s l :: Γ) := by
  refine H.comp (Δ := [_, _]) ⟨hb, fun r hr b hb2 => ?_, fun r hr => ?_, ?_⟩
  · rcases List.mem_cons.1 hr with rfl | hr
    · cases hb2; exact hkb
    · rw [List.mem_singleton.1 hr] at hb2; exact hf b hb2
  · rcases List.mem_cons.1 hr with rfl | hr
    · exact hk
    · rw [List.mem_singleton.1 hr]; exact h
  · refine List.Pairwise.cons (fun r hr b hb2 => ?_) (List.pairwise_singleton _ _)
    rw [List.mem_singleton.1 hr]
    cases hb2
    exact rs_apart h hk ⟨_, _, _, rfl⟩
end Go.Proofs.YtolbmemogoojhaaGreat
