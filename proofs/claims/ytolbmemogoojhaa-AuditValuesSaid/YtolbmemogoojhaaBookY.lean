/- The plain laws of BookParts and BookNames. No program. -/
import Derived.Test.YtolbmemogoojhaaBookX
namespace Go.Proofs.Ytolbmemogoojhaa
open Go Go.RowKit Go.Deep
set_option linter.unusedVariables false
set_option linter.unusedSimpArgs false
set_option maxRecDepth 100000
/-- The records taken so far. -/
def taken (L : BK) (first : Nat) (i : Nat) (r : RD) : Prop := ∃ k, k < i ∧ L[(k + first) % L.length]? = some r
def takenB (L : BK) (first i : Nat) (r : RD) : Bool := (List.range i).any fun k => match L[(k + first) % L.length]? with | some x => rSame x r | none => false
theorem takenB_iff {L : BK} {first i : Nat} {r : RD} : takenB L first i r = true ↔ taken L first i r := by
  unfold takenB taken
  rw [List.any_eq_true]
  constructor
  · rintro ⟨k, hk, h⟩
    refine ⟨k, List.mem_range.1 hk, ?_⟩
    cases hx : L[(k + first) % L.length]? with
    | none => rw [hx] at h; cases h
    | some x => rw [hx] at h; rw [(rSame_iff _ _).1 h]
  · rintro ⟨k, hk, h⟩
    refine ⟨k, List.mem_range.2 hk, ?_⟩
    rw [h]; exact (rSame_iff _ _).2 rfl
def pOut (L : BK) (first i : Nat) : BK := L.filter fun r => takenB L first i r
theorem asc_filter : ∀ {l : BK} (p : RD → Bool), Asc l → Asc (l.filter p)
  | [], _, _ => trivial
  | r :: l, p, h => by
    rw [List.filter_cons]
    split
    · exact ⟨fun x hx => h.1 x (List.mem_filter.1 hx).1, asc_filter p h.2⟩
    · exact asc_filter p h.2
theorem pOut_good {L : BK} {first i : Nat} (h : Good L) : Good (pOut L first i) := ⟨asc_filter _ h.1, fun r hr => h.2 r (List.mem_filter.1 hr).1⟩
theorem pOut_may {L : BK} {first i : Nat} (h : bMay L = true) : bMay (pOut L first i) = true := by
  obtain ⟨h1, h2⟩ := bMay_iff.1 h
  exact bMay_iff.2 ⟨pOut_good h1, Nat.le_trans (List.length_filter_le _ _) h2⟩
theorem pOut_zero (L : BK) (first : Nat) : pOut L first 0 = [] := by
  unfold pOut
  rw [List.filter_eq_nil_iff]
  rintro r _ h
  obtain ⟨k, hk, _⟩ := takenB_iff.1 h
  omega
theorem pOut_all {L : BK} {first : Nat} (hf : first < L.length) : pOut L first L.length = L := by
  unfold pOut
  rw [List.filter_eq_self]
  intro r hr
  refine takenB_iff.2 ?_
  obtain ⟨m, hm, e⟩ := List.getElem_of_mem hr
  by_cases h : first ≤ m
  · refine ⟨m - first, by omega, ?_⟩
    rw [show m - first + first = m by omega, Nat.mod_eq_of_lt hm, List.getElem?_eq_getElem hm, e]
  · refine ⟨m + L.length - first, by omega, ?_⟩
    rw [show m + L.length - first + first = m + L.length by omega, Nat.add_mod_right, Nat.mod_eq_of_lt hm, List.getElem?_eq_getElem hm, e]
theorem good_one {r : RD} (h : rMay r = true) : Good [r] := ⟨⟨fun x hx => (List.not_mem_nil hx).elim, trivial⟩, fun x hx => by rw [List.mem_singleton.1 hx]; exact h⟩
theorem good_inj {l : BK} (h : Good l) {x y : RD} (hx : x ∈ l) (hy : y ∈ l) (e : x.id = y.id) : x = y := by
  have h1 := bFind_of h.1 hx
  have h2 := bFind_of h.1 hy
  rw [e, h2] at h1
  exact (Option.some.inj h1).symm
theorem find_mem_iff {l : BK} (h : Good l) {i : IDL} {r : RD} : bFind l i = some r ↔ r ∈ l ∧ r.id = i :=
  ⟨bFind_mem, fun ⟨h1, h2⟩ => by rw [← h2]; exact bFind_of h.1 h1⟩
theorem pOut_succ {L : BK} {first i : Nat} {r : RD} (h : bMay L = true) (hr : L[(i + first) % L.length]? = some r) : bCan [r] (pOut L first i) = 0 ∧ bJ [r] (pOut L first i) = pOut L first (i + 1) := by
  obtain ⟨g, hl⟩ := bMay_iff.1 h
  have hm : r ∈ L := List.mem_of_getElem? hr
  have g1 := good_one (g.2 r hm)
  have g2 : Good (pOut L first i) := pOut_good g
  have g3 : Good (pOut L first (i + 1)) := pOut_good g
  have e : bBoth [r] (pOut L first i) = pOut L first (i + 1) := by
    refine asc_ext_b (bBoth_good g1 g2).1 g3.1 fun k => ?_
    rw [bBoth_find g1 g2]
    have hs : ∀ x : RD, taken L first (i + 1) x ↔ (x = r ∨ taken L first i x) := by
      intro x
      constructor
      · rintro ⟨j, hj, hx⟩
        by_cases hji : j = i
        · subst hji; rw [hr] at hx; exact .inl (Option.some.inj hx).symm
        · exact .inr ⟨j, by omega, hx⟩
      · rintro (rfl | ⟨j, hj, hx⟩)
        · exact ⟨i, by omega, hr⟩
        · exact ⟨j, by omega, hx⟩
    have mem : ∀ (n : Nat) (x : RD), x ∈ pOut L first n ↔ x ∈ L ∧ taken L first n x := fun n x => by
      unfold pOut; rw [List.mem_filter, takenB_iff]
    by_cases hk : r.id = k
    · subst hk
      have e1 : bFind [r] r.id = some r := by unfold bFind; rw [if_pos rfl]
      rw [e1]
      have e3 : bFind (pOut L first (i + 1)) r.id = some r := (find_mem_iff g3).2 ⟨(mem _ _).2 ⟨hm, (hs r).2 (.inl rfl)⟩, rfl⟩
      rw [e3]
      cases h2 : bFind (pOut L first i) r.id with
      | none => rfl
      | some y =>
        obtain ⟨k1, k2⟩ := bFind_mem h2
        have : y = r := good_inj g ((mem _ _).1 k1).1 hm k2
        subst this
        show some (rBoth y y) = some y
        rw [both_self (g.2 y hm)]
    · have e1 : bFind [r] k = none := by unfold bFind; rw [if_neg hk]; rfl
      rw [e1]
      show bFind (pOut L first i) k = _
      cases h2 : bFind (pOut L first i) k with
      | some y =>
        obtain ⟨k1, k2⟩ := bFind_mem h2
        obtain ⟨m1, m2⟩ := (mem _ _).1 k1
        exact ((find_mem_iff g3).2 ⟨(mem _ _).2 ⟨m1, (hs y).2 (.inr m2)⟩, k2⟩).symm
      | none =>
        cases h3 : bFind (pOut L first (i + 1)) k with
        | none => rfl
        | some y =>
          obtain ⟨k1, k2⟩ := bFind_mem h3
          obtain ⟨m1, m2⟩ := (mem _ _).1 k1
          rcases (hs y).1 m2 with rfl | m3
          · exact absurd k2 hk
          · have := (find_mem_iff g2).2 ⟨(mem _ _).2 ⟨m1, m3⟩, k2⟩
            rw [h2] at this; cases this
  have hc : bCan [r] (pOut L first i) = 0 := bCan_ok.2 ⟨bMay_iff.2 ⟨g1, by simp⟩, pOut_may h, by rw [e]; exact (bMay_iff.1 (pOut_may h)).2⟩
  exact ⟨hc, by rw [bBoth_eq hc, e]⟩
theorem idLt_iff (a b : IDL) : idLt a b = true ↔ a < b := by unfold idLt; exact decide_eq_true_iff
theorem idLt_self (a : IDL) : idLt a a = false := by
  cases h : idLt a a
  · rfl
  · exact absurd ((idLt_iff _ _).1 h) (idl_irrefl a)
theorem idLt_asym {a b : IDL} (h : idLt a b = true) : idLt b a = false := by
  cases k : idLt b a
  · rfl
  · exact absurd ((idLt_iff _ _).1 k) (idl_asymm ((idLt_iff _ _).1 h))
theorem idLt_trans {a b c : IDL} (h : idLt a b = true) (k : idLt b c = true) : idLt a c = true :=
  (idLt_iff _ _).2 (idl_trans ((idLt_iff _ _).1 h) ((idLt_iff _ _).1 k))
theorem idLt_ne {a b : IDL} (h : a ≠ b) (k : idLt a b = false) : idLt b a = true := by
  rcases idl_tri a b with h1 | h1 | h1
  · rw [(idLt_iff _ _).2 h1] at k; cases k
  · exact absurd h1 h
  · exact (idLt_iff _ _).2 h1
/-- The names of a book that may be rise. -/
theorem names_rise : ∀ {L : BK} {i : Nat} {x y : RD}, Asc L → L[i]? = some x → L[i + 1]? = some y → idLt x.id y.id = true
  | r :: l, 0, x, y, h, hx, hy => by
    cases hx
    exact (idLt_iff _ _).2 (h.1 y (List.mem_of_getElem? (i := 0) (by simpa using hy)))
  | r :: l, i + 1, x, y, h, hx, hy => names_rise (L := l) h.2 (by simpa using hx) (by simpa using hy)
end Go.Proofs.Ytolbmemogoojhaa
