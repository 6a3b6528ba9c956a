/- Books: the plain law. No program. -/
import Derived.Test.YtolbmemogoojhaaM9
import Derived.Test.YtolbmemogoojhaaM6
namespace Go.Proofs.Ytolbmemogoojhaa
set_option linter.unusedVariables false
set_option linter.unusedSimpArgs false

abbrev BK := List RD
abbrev IDL := List UInt8
theorem idl_irrefl (a : IDL) : ¬ a < a := List.lt_irrefl a
theorem idl_trans {a b c : IDL} (h : a < b) (k : b < c) : a < c := List.lt_trans h k
theorem idl_asymm {a b : IDL} (h : a < b) : ¬ b < a := List.lt_asymm h
theorem idl_tri (a b : IDL) : a < b ∨ a = b ∨ b < a := by
  by_cases h1 : a < b
  · exact .inl h1
  · by_cases h2 : b < a
    · exact .inr (.inr h2)
    · exact .inr (.inl (List.le_antisymm (List.not_lt.1 h2) (List.not_lt.1 h1)))
theorem idl_ne {a b : IDL} (h : a < b) : a ≠ b := fun e => idl_irrefl b (e ▸ h)

def bFind : BK → IDL → Option RD
  | [], _ => none
  | r :: l, i => if r.id = i then some r else bFind l i
def Asc : BK → Prop
  | [] => True
  | r :: l => (∀ x ∈ l, r.id < x.id) ∧ Asc l
def Good (l : BK) : Prop := Asc l ∧ ∀ r ∈ l, rMay r = true
theorem good_nil : Good [] := ⟨trivial, fun _ h => (List.not_mem_nil h).elim⟩
theorem good_tail {r : RD} {l : BK} (h : Good (r :: l)) : Good l := ⟨h.1.2, fun x hx => h.2 x (List.mem_cons_of_mem _ hx)⟩
theorem bFind_mem : ∀ {l : BK} {i : IDL} {r : RD}, bFind l i = some r → r ∈ l ∧ r.id = i
  | x :: l, i, r, h => by
    unfold bFind at h
    split at h
    · rename_i hx; cases h; exact ⟨List.mem_cons_self, hx⟩
    · obtain ⟨h1, h2⟩ := bFind_mem h; exact ⟨List.mem_cons_of_mem _ h1, h2⟩
theorem bFind_none : ∀ {l : BK} {i : IDL}, bFind l i = none ↔ ∀ r ∈ l, r.id ≠ i
  | [], i => ⟨fun _ _ h => (List.not_mem_nil h).elim, fun _ => rfl⟩
  | x :: l, i => by
    unfold bFind
    by_cases hx : x.id = i
    · rw [if_pos hx]; exact ⟨(fun h => by cases h), fun h => absurd hx (h x List.mem_cons_self)⟩
    · rw [if_neg hx, bFind_none]
      exact ⟨(fun h r hr => by rcases List.mem_cons.1 hr with rfl | hr; exact hx; exact h r hr), fun h r hr => h r (List.mem_cons_of_mem _ hr)⟩
theorem bFind_of : ∀ {l : BK} {r : RD}, Asc l → r ∈ l → bFind l r.id = some r
  | x :: l, r, ha, hr => by
    unfold bFind
    rcases List.mem_cons.1 hr with rfl | hr
    · rw [if_pos rfl]
    · rw [if_neg (idl_ne (ha.1 r hr)), bFind_of ha.2 hr]
theorem asc_ext_b : ∀ {l m : BK}, Asc l → Asc m → (∀ i, bFind l i = bFind m i) → l = m
  | [], [], _, _, _ => rfl
  | [], y :: m, _, _, h => by have := h y.id; simp [bFind] at this
  | x :: l, [], _, _, h => by have := h x.id; simp [bFind] at this
  | x :: l, y :: m, hl, hm, h => by
    have h1 := h x.id
    have h2 := h y.id
    rw [bFind, if_pos rfl] at h1
    rw [bFind.eq_2 y.id y m, if_pos rfl] at h2
    have hxm := bFind_mem h1.symm
    have hyl := bFind_mem h2
    have hxy : x = y := by
      rcases List.mem_cons.1 hxm.1 with e | h3
      · exact e
      · rcases List.mem_cons.1 hyl.1 with e | h4
        · exact e.symm
        · exact absurd (hm.1 x h3) (idl_asymm (hl.1 y h4))
    subst hxy
    rw [asc_ext_b hl.2 hm.2 fun i => by
      have := h i
      unfold bFind at this
      by_cases hi : x.id = i
      · subst hi
        rw [bFind_none.2 fun r hr => (idl_ne (hl.1 r hr)).symm, bFind_none.2 fun r hr => (idl_ne (hm.1 r hr)).symm]
      · rwa [if_neg hi, if_neg hi] at this]

/-! A record more. -/
def bPut : BK → RD → BK
  | [], r => [r]
  | x :: l, r => if r.id < x.id then r :: x :: l else if x.id = r.id then rJoin x r :: l else x :: bPut l r
def bOne : Option RD → RD → RD
  | none, r => r
  | some x, r => rJoin x r
theorem rJoin_id {x r : RD} (hx : rMay x = true) (hr : rMay r = true) (hi : x.id = r.id) : (rJoin x r).id = r.id := by
  rw [join_eq hx hr hi, ← hi]; rfl
theorem rJoin_may {x r : RD} (hx : rMay x = true) (hr : rMay r = true) (hi : x.id = r.id) : rMay (rJoin x r) = true := by
  rw [join_eq hx hr hi]; exact both_may hx hr
theorem bPut_mem {l : BK} {r : RD} (hl : Good l) (hr : rMay r = true) : ∀ x ∈ bPut l r, rMay x = true ∧ (x.id = r.id ∨ ∃ y ∈ l, x.id = y.id) := by
  induction l with
  | nil => intro x hx; simp [bPut] at hx; subst hx; exact ⟨hr, .inl rfl⟩
  | cons y l ih =>
    intro x hx
    unfold bPut at hx
    split at hx
    · rcases List.mem_cons.1 hx with rfl | hx
      · exact ⟨hr, .inl rfl⟩
      · exact ⟨hl.2 x hx, .inr ⟨x, hx, rfl⟩⟩
    · split at hx
      · rename_i he
        rcases List.mem_cons.1 hx with rfl | hx
        · exact ⟨rJoin_may (hl.2 y List.mem_cons_self) hr he, .inl (rJoin_id (hl.2 y List.mem_cons_self) hr he)⟩
        · exact ⟨hl.2 x (List.mem_cons_of_mem _ hx), .inr ⟨x, List.mem_cons_of_mem _ hx, rfl⟩⟩
      · rcases List.mem_cons.1 hx with rfl | hx
        · exact ⟨hl.2 x List.mem_cons_self, .inr ⟨x, List.mem_cons_self, rfl⟩⟩
        · obtain ⟨h1, h2⟩ := ih (good_tail hl) x hx
          exact ⟨h1, h2.imp id fun ⟨z, hz, e⟩ => ⟨z, List.mem_cons_of_mem _ hz, e⟩⟩
theorem bPut_good {l : BK} {r : RD} (hl : Good l) (hr : rMay r = true) : Good (bPut l r) := by
  refine ⟨?_, fun x hx => (bPut_mem hl hr x hx).1⟩
  induction l with
  | nil => exact ⟨fun x hx => (List.not_mem_nil hx).elim, trivial⟩
  | cons y l ih =>
    unfold bPut
    split
    · rename_i h
      exact ⟨fun x hx => by rcases List.mem_cons.1 hx with rfl | hx; exact h; exact idl_trans h (hl.1.1 x hx), hl.1⟩
    · rename_i h
      split
      · rename_i he
        refine ⟨fun x hx => ?_, hl.1.2⟩
        rw [rJoin_id (hl.2 y List.mem_cons_self) hr he, ← he]
        exact hl.1.1 x hx
      · rename_i he
        have hlt : y.id < r.id := by
          rcases idl_tri y.id r.id with h1 | h1 | h1
          · exact h1
          · exact absurd h1 he
          · exact absurd h1 h
        refine ⟨fun x hx => ?_, ih (good_tail hl)⟩
        rcases (bPut_mem (good_tail hl) hr x hx).2 with e | ⟨z, hz, e⟩
        · rw [e]; exact hlt
        · rw [e]; exact hl.1.1 z hz
theorem bFind_bPut {l : BK} {r : RD} (hl : Good l) (hr : rMay r = true) (i : IDL) : bFind (bPut l r) i = if r.id = i then some (bOne (bFind l i) r) else bFind l i := by
  induction l with
  | nil => simp only [bPut, bFind]; split <;> rfl
  | cons y l ih =>
    unfold bPut
    split
    · rename_i h
      by_cases hi : r.id = i
      · subst hi
        rw [if_pos rfl, bFind, if_pos rfl, bFind, if_neg (idl_ne h).symm, bFind_none.2 fun x hx => (idl_ne (idl_trans h (hl.1.1 x hx))).symm]; rfl
      · rw [if_neg hi, bFind, if_neg hi]
    · split
      · rename_i he
        have hj := rJoin_id (hl.2 y List.mem_cons_self) hr he
        by_cases hi : r.id = i
        · subst hi
          rw [if_pos rfl, bFind, if_pos hj, bFind, if_pos he]; rfl
        · rw [if_neg hi, bFind, if_neg (by rw [hj]; exact hi), bFind, if_neg (by rw [he]; exact hi)]
      · rename_i he
        rw [bFind, bFind, ih (good_tail hl)]
        by_cases hy : y.id = i
        · rw [if_pos hy, if_pos hy, if_neg (fun e => he (hy.trans e.symm))]
        · rw [if_neg hy, if_neg hy]
def bPuts (m l : BK) : BK := l.foldl bPut m
theorem bPuts_good : ∀ {l m : BK}, Good m → (∀ r ∈ l, rMay r = true) → Good (bPuts m l)
  | [], m, hm, _ => hm
  | r :: l, m, hm, hl => bPuts_good (l := l) (bPut_good hm (hl r List.mem_cons_self)) fun x hx => hl x (List.mem_cons_of_mem _ hx)
theorem bPuts_take {m l : BK} {j : Nat} {r : RD} (h : l[j]? = some r) : bPuts m (l.take (j + 1)) = bPut (bPuts m (l.take j)) r := by
  rw [List.take_add_one, h]; simp [bPuts]
def bComb : Option RD → Option RD → Option RD
  | none, y => y
  | x, none => x
  | some x, some y => some (rBoth x y)
theorem bComb_none (x : Option RD) : bComb x none = x := by cases x <;> rfl
theorem find_bPuts : ∀ {l m : BK} (i : IDL), Good m → Good l → bFind (bPuts m l) i = bComb (bFind m i) (bFind l i)
  | [], m, i, _, _ => (bComb_none _).symm
  | r :: l, m, i, hm, hl => by
    have hr := hl.2 r List.mem_cons_self
    have h1 := find_bPuts i (bPut_good hm hr) (good_tail hl)
    show bFind (bPuts (bPut m r) l) i = _
    rw [h1, bFind_bPut hm hr, bFind]
    by_cases hi : r.id = i
    · rw [if_pos hi, if_pos hi]
      have hn : bFind l i = none := bFind_none.2 fun x hx => by rw [← hi]; exact (idl_ne (hl.1.1 x hx)).symm
      rw [hn, bComb_none]
      cases hf : bFind m i with
      | none => rfl
      | some x =>
        have := bFind_mem hf
        show some (rJoin x r) = some (rBoth x r)
        rw [join_eq (hm.2 x this.1) hr (this.2.trans hi.symm)]
    · rw [if_neg hi, if_neg hi]
def bBoth (a b : BK) : BK := bPuts (bPuts [] a) b
theorem bPuts_nil {a : BK} (h : Good a) : bPuts [] a = a := asc_ext_b (bPuts_good good_nil h.2).1 h.1 fun i => by rw [find_bPuts i good_nil h]; rfl
theorem bBoth_good {a b : BK} (ha : Good a) (hb : Good b) : Good (bBoth a b) := bPuts_good (bPuts_good good_nil ha.2) hb.2
theorem bBoth_find {a b : BK} (ha : Good a) (hb : Good b) (i : IDL) : bFind (bBoth a b) i = bComb (bFind a i) (bFind b i) := by
  unfold bBoth; rw [bPuts_nil ha, find_bPuts i ha hb]
theorem bBoth_app (a b : BK) : bBoth a b = bPuts [] (a ++ b) := by unfold bBoth bPuts; rw [List.foldl_append]
theorem find_good {l : BK} (h : Good l) {i : IDL} {r : RD} (hf : bFind l i = some r) : rMay r = true ∧ r.id = i := ⟨h.2 r (bFind_mem hf).1, (bFind_mem hf).2⟩
theorem bBoth_comm {a b : BK} (ha : Good a) (hb : Good b) : bBoth a b = bBoth b a := by
  refine asc_ext_b (bBoth_good ha hb).1 (bBoth_good hb ha).1 fun i => ?_
  rw [bBoth_find ha hb, bBoth_find hb ha]
  cases h1 : bFind a i with
  | none => rw [bComb_none]; rfl
  | some x =>
    cases h2 : bFind b i with
    | none => rfl
    | some y =>
      obtain ⟨m1, e1⟩ := find_good ha h1
      obtain ⟨m2, e2⟩ := find_good hb h2
      show some _ = some _
      rw [both_comm m1 m2 (e1.trans e2.symm)]
theorem bBoth_self {a : BK} (ha : Good a) : bBoth a a = a := by
  refine asc_ext_b (bBoth_good ha ha).1 ha.1 fun i => ?_
  rw [bBoth_find ha ha]
  cases h1 : bFind a i with
  | none => rfl
  | some x => show some _ = some _; rw [both_self (find_good ha h1).1]
theorem bBoth_assoc {a b c : BK} (ha : Good a) (hb : Good b) (hc : Good c) : bBoth (bBoth a b) c = bBoth a (bBoth b c) := by
  refine asc_ext_b (bBoth_good (bBoth_good ha hb) hc).1 (bBoth_good ha (bBoth_good hb hc)).1 fun i => ?_
  rw [bBoth_find (bBoth_good ha hb) hc, bBoth_find ha hb, bBoth_find ha (bBoth_good hb hc), bBoth_find hb hc]
  cases h1 : bFind a i with
  | none => rfl
  | some x =>
    cases h2 : bFind b i with
    | none => rfl
    | some y =>
      cases h3 : bFind c i with
      | none => rfl
      | some z =>
        show some _ = some _
        rw [both_assoc (find_good ha h1).1 (find_good hb h2).1 (find_good hc h3).1]

/-! Whether one may be; whether two are the same; what one adds. -/
def bMayL : Option IDL → BK → Bool
  | _, [] => true
  | p, r :: l => rMay r && (match p with | none => true | some q => decide (q < r.id)) && bMayL (some r.id) l
def bMay (l : BK) : Bool := bMayL none l && decide (l.length ≤ 10)
theorem bMayL_iff : ∀ {l : BK} {p : Option IDL}, bMayL p l = true ↔ Good l ∧ ∀ q, p = some q → ∀ x ∈ l, q < x.id
  | [], p => ⟨fun _ => ⟨good_nil, fun _ _ _ h => (List.not_mem_nil h).elim⟩, fun _ => rfl⟩
  | r :: l, p => by
    unfold bMayL
    rw [Bool.and_eq_true, Bool.and_eq_true, bMayL_iff]
    constructor
    · rintro ⟨⟨h1, h2⟩, h3, h4⟩
      have h5 := h4 r.id rfl
      refine ⟨⟨⟨h5, h3.1⟩, fun x hx => by rcases List.mem_cons.1 hx with rfl | hx; exact h1; exact h3.2 x hx⟩, fun q hq x hx => ?_⟩
      subst hq
      have h6 : q < r.id := by simpa using h2
      rcases List.mem_cons.1 hx with rfl | hx
      · exact h6
      · exact idl_trans h6 (h5 x hx)
    · rintro ⟨h1, h2⟩
      refine ⟨⟨h1.2 r List.mem_cons_self, ?_⟩, good_tail h1, fun q hq x hx => by cases hq; exact h1.1.1 x hx⟩
      cases p with
      | none => rfl
      | some q => simpa using h2 q rfl r List.mem_cons_self
theorem bMay_iff {l : BK} : bMay l = true ↔ Good l ∧ l.length ≤ 10 := by
  unfold bMay
  rw [Bool.and_eq_true, bMayL_iff, decide_eq_true_eq]
  exact ⟨fun ⟨h, k⟩ => ⟨h.1, k⟩, fun ⟨h, k⟩ => ⟨⟨h, fun q hq => by cases hq⟩, k⟩⟩
def bSame : BK → BK → Bool
  | [], [] => true
  | r :: l, r' :: m => rSame r r' && bSame l m
  | _, _ => false
theorem bSame_iff : ∀ l m : BK, bSame l m = true ↔ l = m
  | [], [] => ⟨fun _ => rfl, fun _ => rfl⟩
  | [], y :: m => ⟨(fun h => by cases h), (fun h => by cases h)⟩
  | x :: l, [] => ⟨(fun h => by cases h), (fun h => by cases h)⟩
  | x :: l, y :: m => by
    rw [bSame, Bool.and_eq_true, rSame_iff, bSame_iff l m, List.cons.injEq]
/-- Two together: the book, and the error's number. -/
def bCan (a b : BK) : Int := if (bMay a && bMay b) = true then (if (bBoth a b).length ≤ 10 then 0 else 4) else 1
def bJ (a b : BK) : BK := if bCan a b = 0 then bBoth a b else []
theorem bCan_ok {a b : BK} : bCan a b = 0 ↔ bMay a = true ∧ bMay b = true ∧ (bBoth a b).length ≤ 10 := by
  unfold bCan
  by_cases h : (bMay a && bMay b) = true
  · rw [if_pos h]
    rw [Bool.and_eq_true] at h
    by_cases k : (bBoth a b).length ≤ 10
    · rw [if_pos k]; simp [h, k]
    · rw [if_neg k]; simp [h, k]
  · rw [if_neg h]
    rw [Bool.and_eq_true] at h
    constructor
    · intro e; cases e
    · rintro ⟨h1, h2, _⟩; exact absurd ⟨h1, h2⟩ h
def bLeq (a b : BK) : Bool := decide (bCan a b = 0) && bSame (bJ a b) b
theorem bLeq_iff {a b : BK} : bLeq a b = true ↔ bMay a = true ∧ bMay b = true ∧ bBoth a b = b := by
  unfold bLeq
  rw [Bool.and_eq_true, decide_eq_true_eq, bSame_iff]
  constructor
  · rintro ⟨h1, h2⟩
    obtain ⟨m1, m2, _⟩ := bCan_ok.1 h1
    unfold bJ at h2; rw [if_pos h1] at h2
    exact ⟨m1, m2, h2⟩
  · rintro ⟨h1, h2, h3⟩
    have hc : bCan a b = 0 := bCan_ok.2 ⟨h1, h2, by rw [h3]; exact (bMay_iff.1 h2).2⟩
    unfold bJ; rw [if_pos hc]
    exact ⟨hc, h3⟩
theorem bLeq_self (a : BK) : bLeq a a = bMay a := by
  rw [Bool.eq_iff_iff, bLeq_iff]
  exact ⟨fun h => h.1, fun h => ⟨h, h, bBoth_self (bMay_iff.1 h).1⟩⟩
theorem bLeq_anti {a b : BK} (h : bLeq a b = true) (k : bLeq b a = true) : a = b := by
  obtain ⟨h1, h2, h3⟩ := bLeq_iff.1 h
  obtain ⟨_, _, k3⟩ := bLeq_iff.1 k
  rw [← h3, bBoth_comm (bMay_iff.1 h1).1 (bMay_iff.1 h2).1, k3]
theorem bLeq_trans {a b c : BK} (h : bLeq a b = true) (k : bLeq b c = true) : bLeq a c = true := by
  obtain ⟨h1, h2, h3⟩ := bLeq_iff.1 h
  obtain ⟨_, k2, k3⟩ := bLeq_iff.1 k
  refine bLeq_iff.2 ⟨h1, k2, ?_⟩
  have ga := (bMay_iff.1 h1).1; have gb := (bMay_iff.1 h2).1; have gc := (bMay_iff.1 k2).1
  calc bBoth a c = bBoth a (bBoth b c) := by rw [k3]
    _ = bBoth (bBoth a b) c := (bBoth_assoc ga gb gc).symm
    _ = bBoth b c := by rw [h3]
    _ = c := k3
theorem bLeq_both1 {a b : BK} (h : bCan a b = 0) : bLeq a (bBoth a b) = true := by
  obtain ⟨h1, h2, h3⟩ := bCan_ok.1 h
  have ga := (bMay_iff.1 h1).1; have gb := (bMay_iff.1 h2).1
  refine bLeq_iff.2 ⟨h1, bMay_iff.2 ⟨bBoth_good ga gb, h3⟩, ?_⟩
  rw [← bBoth_assoc ga ga gb, bBoth_self ga]
theorem bCan_comm (a b : BK) : bCan a b = bCan b a := by
  unfold bCan
  rw [Bool.and_comm]
  split
  · rename_i h
    rw [Bool.and_eq_true] at h
    rw [bBoth_comm (bMay_iff.1 h.2).1 (bMay_iff.1 h.1).1]
  · rfl
theorem bBoth_comm' {a b : BK} (h : bCan a b = 0) : bBoth a b = bBoth b a := by
  obtain ⟨h1, h2, h3⟩ := bCan_ok.1 h
  exact bBoth_comm (bMay_iff.1 h1).1 (bMay_iff.1 h2).1
theorem bJ_comm (a b : BK) : bJ a b = bJ b a := by
  unfold bJ
  rw [bCan_comm b a]
  split
  · rename_i h; exact bBoth_comm' h
  · rfl
theorem bLeq_both2 {a b : BK} (h : bCan a b = 0) : bLeq b (bBoth a b) = true := by
  rw [bBoth_comm' h]; exact bLeq_both1 (by rw [bCan_comm]; exact h)
theorem bBoth_may {a b : BK} (h : bCan a b = 0) : bMay (bBoth a b) = true := by
  obtain ⟨h1, h2, h3⟩ := bCan_ok.1 h
  exact bMay_iff.2 ⟨bBoth_good (bMay_iff.1 h1).1 (bMay_iff.1 h2).1, h3⟩
end Go.Proofs.Ytolbmemogoojhaa
