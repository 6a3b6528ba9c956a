/- Records that a call gave: what is read of them, and nothing else, as a resource. -/
import Derived.Test.YtolbmemogoojhaaBookZ
namespace Go.Proofs.Ytolbmemogoojhaa
open Go Go.RowKit Go.Deep
set_option linter.unusedVariables false
set_option linter.unusedSimpArgs false
set_option maxRecDepth 100000
def blkOf : Value → Option Nat
  | .slice (some ⟨b, _, none⟩) _ _ => some b
  | _ => none
def rsFoot (s : Value) (l : RS) (b : Nat) : Prop := (l ≠ [] ∧ blkOf s = some b) ∨ ∃ p ∈ l, p.1.f ≠ [] ∧ blkOf p.2 = some b
theorem row_stay {W W' : World} {size n : Nat} {v : Value} {cs : List Value} (h : Row W size v n cs) (k : cs ≠ [] → ∀ b, blkOf v = some b → W'.heap[b]? = W.heap[b]?) : Row W' size v n cs := by
  obtain ⟨hl, a, c, rfl, h1, h2, h3, h4⟩ := h
  refine ⟨hl, a, c, rfl, h1, h2, h3, fun hp => ?_⟩
  obtain ⟨b, off, rfl, hc⟩ := h4 hp
  exact ⟨b, off, rfl, fun j u hj => (World.cell?_of_block (w := W) (a := ⟨b, off + j, none⟩) (k (by intro e; rw [e] at hp; cases hp) b rfl)).trans (hc j u hj)⟩
theorem row_blk {W : World} {size n : Nat} {v : Value} {cs : List Value} (h : Row W size v n cs) (hne : cs ≠ []) {b : Nat} (hb : blkOf v = some b) : ∃ off c0, cs[0]? = some c0 ∧ W.cell? ⟨b, off, none⟩ = some c0 := by
  obtain ⟨hl, a, c, rfl, h1, h2, h3, h4⟩ := h
  have hp : 0 < cs.length := by cases cs with | nil => exact absurd rfl hne | cons _ _ => simp
  obtain ⟨b', off, rfl, hc⟩ := h4 hp
  cases hb
  exact ⟨off + 0, cs[0], List.getElem?_eq_getElem hp, hc 0 _ (List.getElem?_eq_getElem hp)⟩
theorem recsL_ne {l : RS} (h : l ≠ []) (hok : ∀ p ∈ l, p.1.ok) : recsL l ≠ [] := by
  intro e
  have := recsL_length hok
  rw [e] at this
  cases l with
  | nil => exact h rfl
  | cons p l => simp at this
theorem fieldsL_ne {l : List F4} (h : l ≠ []) : fieldsL l ≠ [] := by cases l with | nil => exact absurd rfl h | cons f l => simp [fieldsL]
def Res.rs (s : Value) (l : RS) : Res := ⟨rsFoot s l, fun W => RecsS W s l, fun {w w'} h k => ⟨row_stay h.1 fun hne b hb => k b (.inl ⟨fun e => hne (by rw [e]; rfl), hb⟩), fun p hp => ⟨(h.2 p hp).1, row_stay (h.2 p hp).2 fun hne b hb => k b (.inr ⟨p, hp, fun e => hne (by rw [e]; rfl), hb⟩)⟩⟩, fun {w b} h hf => by
  rcases hf with ⟨h1, h2⟩ | ⟨p, hp, h1, h2⟩
  · obtain ⟨off, c0, _, hc⟩ := row_blk h.1 (recsL_ne h1 fun p hp => (h.2 p hp).1) h2
    exact World.block_lt_of_cell? w _ hc
  · obtain ⟨off, c0, _, hc⟩ := row_blk (h.2 p hp).2 (fieldsL_ne h1) h2
    exact World.block_lt_of_cell? w _ hc⟩
theorem rs_reads (s : Value) (l : RS) (W : World) (h : (Res.rs s l).holds W) : Recs W s (l.map (·.1)) := ⟨l, rfl, h⟩
theorem recs_other : ∀ {l m : RS}, (∀ p ∈ l, p.1.ok) → (∀ p ∈ m, p.1.ok) → l.map (·.1) = m.map (·.1) → recsL l = recsL m → l = m
  | [], [], _, _, _, _ => rfl
  | [], _ :: _, _, _, h, _ => by cases h
  | _ :: _, [], _, _, h, _ => by cases h
  | p :: l, q :: m, hl, hm, h, e => by
    simp only [List.map_cons, List.cons.injEq] at h
    have e1 := List.append_inj (show (rA p.1 p.2).toList ++ recsL l = (rA q.1 q.2).toList ++ recsL m from e) (by simp [rA_size (hl p List.mem_cons_self), rA_size (hm q List.mem_cons_self)])
    have e2 : p.2 = q.2 := by
      have h1 := (rA_get (hl p List.mem_cons_self) p.2).2.2.2
      have h2 := (rA_get (hm q List.mem_cons_self) q.2).2.2.2
      have e3 : rA p.1 p.2 = rA q.1 q.2 := Array.ext' e1.1
      rw [e3] at h1
      exact Option.some.inj (h1.symm.trans h2)
    rw [recs_other (fun x hx => hl x (List.mem_cons_of_mem _ hx)) (fun x hx => hm x (List.mem_cons_of_mem _ hx)) h.2 e1.2, Prod.ext h.1 e2]
/-- What is read lies in what was made. -/
theorem read_foot {r : Res} {s : Value} {J : BK} (hr : ∀ W, r.holds W → Recs W s J) {W : World} (h : r.holds W) : ∃ l : RS, l.map (·.1) = J ∧ RecsS W s l ∧ ∀ b, rsFoot s l b → r.foot b := by
  obtain ⟨l, hl, hs⟩ := hr W h
  refine ⟨l, hl, hs, fun b hb => ?_⟩
  refine Classical.byContradiction fun hn => ?_
  obtain ⟨W', hW⟩ : ∃ W' : World, W' = { W with heap := W.heap.setIfInBounds b (.map #[] 0) } := ⟨_, rfl⟩
  have hother : ∀ k, k ≠ b → W'.heap[k]? = W.heap[k]? := fun k hk => by rw [hW]; simp [Array.getElem?_setIfInBounds, Ne.symm hk]
  have hcell : ∀ off, W'.cell? ⟨b, off, none⟩ = none := fun off => by
    unfold World.cell?
    rw [hW]
    by_cases hlt : b < W.heap.size
    · simp [Array.getElem?_setIfInBounds, hlt]
    · simp [Array.getElem?_setIfInBounds, hlt]
  have h' : r.holds W' := r.stay h fun k hk => hother k fun e => hn (e ▸ hk)
  obtain ⟨l', hl', hs'⟩ := hr W' h'
  have ok : ∀ p ∈ l, p.1.ok := fun p hp => (hs.2 p hp).1
  have ok' : ∀ p ∈ l', p.1.ok := fun p hp => (hs'.2 p hp).1
  have hlen : l.length = l'.length := by rw [← List.length_map (f := (·.1)), hl, ← hl', List.length_map]
  by_cases hsb : l ≠ [] ∧ blkOf s = some b
  · have hne' : l' ≠ [] := fun e => hsb.1 (List.eq_nil_of_length_eq_zero (by rw [hlen, e]; rfl))
    obtain ⟨off, c0, _, hc⟩ := row_blk hs'.1 (recsL_ne hne' ok') hsb.2
    rw [hcell] at hc; cases hc
  · rcases hb with hb | ⟨p, hp, hpf, hpb⟩
    · exact hsb hb
    · have hne : l ≠ [] := fun e => by rw [e] at hp; cases hp
      have e1 : recsL l = recsL l' := by
        apply List.ext_getElem?
        intro i
        obtain ⟨_, a, c, ea, _, _, _, h4⟩ := hs.1
        obtain ⟨_, a', c', ea', _, _, _, h4'⟩ := hs'.1
        have hpos : 0 < (recsL l).length := List.length_pos_iff.2 (recsL_ne hne ok)
        have hpos' : 0 < (recsL l').length := by rw [recsL_length ok', ← hlen, ← recsL_length ok]; exact hpos
        obtain ⟨bs, off, e2, hc⟩ := h4 hpos
        obtain ⟨bs', off', e2', hc'⟩ := h4' hpos'
        rw [ea, e2] at ea'
        rw [e2'] at ea'
        injection ea' with e3 _ _
        simp only [Option.some.injEq, Addr.mk.injEq, and_true] at e3
        obtain ⟨rfl, rfl⟩ := e3
        have hbs : bs ≠ b := fun e => hsb ⟨hne, by rw [ea, e2, e]; rfl⟩
        have hc2 : ∀ j, W'.cell? ⟨bs, off + j, none⟩ = W.cell? ⟨bs, off + j, none⟩ := fun j => World.cell?_of_block (w := W) (a := ⟨bs, off + j, none⟩) (hother bs hbs)
        have hll : (recsL l).length = (recsL l').length := by rw [recsL_length ok, recsL_length ok', hlen]
        rcases Nat.lt_or_ge i (recsL l).length with hi | hi
        · have k1 := hc i _ (List.getElem?_eq_getElem hi)
          have k2 := hc' i _ (List.getElem?_eq_getElem (by rw [← hll]; exact hi))
          rw [hc2, k1] at k2
          rw [List.getElem?_eq_getElem hi, List.getElem?_eq_getElem (by rw [← hll]; exact hi)]
          exact k2
        · rw [List.getElem?_eq_none hi, List.getElem?_eq_none (by rw [← hll]; exact hi)]
      have e5 := recs_other ok ok' (hl.trans hl'.symm) e1
      subst e5
      obtain ⟨off, c0, _, hc⟩ := row_blk (hs'.2 p hp).2 (fieldsL_ne hpf) hpb
      rw [hcell] at hc; cases hc
/-- Records as read, made since a world. -/
def MadeS (W0 : World) (f : Value → Value) (J : BK) (W : World) (v : Value) : Prop := ∃ (s : Value) (l : RS), v = f s ∧ l.map (·.1) = J ∧ (Res.rs s l).holds W ∧ ∀ b, rsFoot s l b → W0.heap.size ≤ b
theorem MadeS.keep {W0 : World} {f : Value → Value} {J : BK} (w w' : World) (v : Value) (hb : Below w.heap.size w w') (h : MadeS W0 f J w v) : MadeS W0 f J w' v := by
  obtain ⟨s, l, e, h0, h1, h2⟩ := h
  exact ⟨s, l, e, h0, Res.keep h1 hb, h2⟩
theorem MadeS.of {W0 w w' : World} {f : Value → Value} {J : BK} {s : Value} {r : Res} (hr : ∀ W, r.holds W → Recs W s J) (h : St w w' [r]) (hb : W0.heap.size ≤ w.heap.size) : MadeS W0 f J w' (f s) := by
  obtain ⟨l, h1, h2, h3⟩ := read_foot hr (h.get List.mem_cons_self)
  exact ⟨s, l, rfl, h1, h2, fun b hf => Nat.le_trans hb (h.base _ List.mem_cons_self b (h3 b hf))⟩
theorem rs_apart {W : World} {s u : Value} {l : RS} {k : Nat} {t : TypeId} (h : (Res.rs s l).holds W) (hk : Blk W k t #[u]) (hu : ∃ a n c, u = .slice a n c) : ¬ rsFoot s l k := by
  have key : ∀ {size n : Nat} {v : Value} {cs : List Value}, Row W size v n cs → cs ≠ [] → cs[0]? ≠ some u → blkOf v ≠ some k := by
    intro size n v cs hrow hne h0 hb
    obtain ⟨off, c0, e, hc⟩ := row_blk hrow hne hb
    rw [hk.cell] at hc
    match off, hc with
    | 0, hc =>
      simp only [List.getElem?_toArray, List.getElem?_cons_zero, Option.some.injEq] at hc
      exact h0 (by rw [e, hc])
    | off + 1, hc => simp at hc
  rintro (⟨h1, h2⟩ | ⟨p, hp, h1, h2⟩)
  · exact key h.1 (recsL_ne h1 fun p hp => (h.2 p hp).1) (recsL_first (fun p hp => (h.2 p hp).1) hu) h2
  · exact key (h.2 p hp).2 (fieldsL_ne h1) (fieldsL_first _ hu) h2
/-- Both: what a call gave, and a new variable, whichever came first. -/
theorem St.both {w0 w w' : World} {Γ : List Res} {s : Value} {l : RS} {k : Nat} (H : St w0 w Γ) (hb : Below w.heap.size w w') (h : (Res.rs s l).holds w') (hf : ∀ b, rsFoot s l b → w.heap.size ≤ b) (hk : Blk w' k 24 #[.slice none 0 0]) (hkb : w.heap.size ≤ k) :
    St w0 w' (Res.blk k 24 #[.slice none 0 0] :: Res.rs s l :: Γ) := by
  refine H.comp (Δ := [_, _]) ⟨hb, fun r hr b hb2 => ?_, fun r hr => ?_, ?_⟩
  · rcases List.mem_cons.1 hr with rfl | hr
    · cases hb2; exact hkb
    · rw [List.mem_singleton.1 hr] at hb2; exact hf b hb2
  · rcases List.mem_cons.1 hr with rfl | hr
    · exact hk
    · rw [List.mem_singleton.1 hr]; exact h
  · refine List.Pairwise.cons (fun r hr b hb2 => ?_) (List.pairwise_singleton _ _)
    rw [List.mem_singleton.1 hr]
    cases hb2
    exact rs_apart h hk ⟨_, _, _, rfl⟩
end Go.Proofs.Ytolbmemogoojhaa
