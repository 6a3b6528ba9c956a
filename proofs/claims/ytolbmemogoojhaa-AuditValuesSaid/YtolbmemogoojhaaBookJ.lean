/- Two books joined by way of a map: the plain law. -/
import Derived.Test.YtolbmemogoojhaaRecs
namespace Go.Proofs.Ytolbmemogoojhaa
open Go Go.RowKit Go.Deep
set_option linter.unusedVariables false
set_option linter.unusedSimpArgs false
abbrev AL := List (IDK × (RD × Value))
def alV (m : AL) : List (IDK × Value) := m.map fun p => (p.1, .agg (rA p.2.1 p.2.2))
def alFind : AL → IDK → Option (RD × Value)
  | [], _ => none
  | p :: l, k => if p.1 = k then some p.2 else alFind l k
def alPut : AL → IDK → RD × Value → AL
  | [], k, x => [(k, x)]
  | p :: l, k, x => if p.1 = k then (k, x) :: l else p :: alPut l k x
theorem gPut_alV (k : IDK) (x : RD × Value) : ∀ m : AL, gPut (alV m) k (.agg (rA x.1 x.2)) = alV (alPut m k x)
  | [] => rfl
  | p :: l => by
    have ih := gPut_alV k x l
    unfold alV at ih ⊢
    rw [List.map_cons, gPut, alPut]
    by_cases h : p.1 = k
    · rw [if_pos h, if_pos h]; rfl
    · rw [if_neg h, if_neg h, ih]; rfl
theorem gIx_alV (k : IDK) : ∀ m : AL, (gIx (alV m) k = none ∧ alFind m k = none) ∨ ∃ (j : Nat) (x : RD × Value), gIx (alV m) k = some (j, .agg (rA x.1 x.2)) ∧ alFind m k = some x
  | [] => .inl ⟨rfl, rfl⟩
  | p :: l => by
    have ih := gIx_alV k l
    unfold alV at ih ⊢
    rw [List.map_cons, gIx, alFind]
    by_cases h : p.1 = k
    · rw [if_pos h, if_pos h]; exact .inr ⟨0, p.2, rfl, rfl⟩
    · rw [if_neg h, if_neg h]
      rcases ih with ⟨h1, h2⟩ | ⟨j, x, h1, h2⟩
      · exact .inl ⟨by rw [h1]; rfl, h2⟩
      · exact .inr ⟨j + 1, x, by rw [h1]; rfl, h2⟩
theorem alFind_mem : ∀ {m : AL} {k : IDK} {x : RD × Value}, alFind m k = some x → (k, x) ∈ m
  | p :: l, k, x, h => by
    unfold alFind at h
    split at h
    · rename_i hk; cases h; subst hk; exact List.mem_cons_self
    · exact List.mem_cons_of_mem _ (alFind_mem h)
theorem alPut_mem : ∀ {m : AL} {k : IDK} {x : RD × Value} {p : IDK × (RD × Value)}, p ∈ alPut m k x → p ∈ m ∨ p = (k, x)
  | [], k, x, p, h => by simp [alPut] at h; exact .inr h
  | q :: l, k, x, p, h => by
    unfold alPut at h
    split at h
    · rcases List.mem_cons.1 h with rfl | h
      · exact .inr rfl
      · exact .inl (List.mem_cons_of_mem _ h)
    · rcases List.mem_cons.1 h with rfl | h
      · exact .inl List.mem_cons_self
      · rcases alPut_mem h with h | h
        · exact .inl (List.mem_cons_of_mem _ h)
        · exact .inr h
theorem alFind_put (k : IDK) (x : RD × Value) (k' : IDK) : ∀ m : AL, alFind (alPut m k x) k' = if k = k' then some x else alFind m k'
  | [] => by simp only [alPut, alFind]
  | p :: l => by
    unfold alPut
    by_cases h : p.1 = k
    · rw [if_pos h, alFind, alFind]
      by_cases h2 : k = k'
      · rw [if_pos h2, if_pos h2]
      · rw [if_neg h2, if_neg h2, if_neg (by rw [h]; exact h2)]
    · rw [if_neg h, alFind, alFind, alFind_put k x k' l]
      by_cases h2 : p.1 = k'
      · rw [if_pos h2, if_pos h2, if_neg (fun e => h (h2.trans e.symm))]
      · rw [if_neg h2, if_neg h2]
theorem alPut_new {k : IDK} {x : RD × Value} : ∀ {m : AL}, alFind m k = none → alPut m k x = m ++ [(k, x)]
  | [], _ => rfl
  | p :: l, h => by
    unfold alFind at h
    split at h
    · cases h
    · rename_i hk
      rw [alPut, if_neg hk, alPut_new h]; rfl
theorem alPut_old {k : IDK} {x y : RD × Value} : ∀ {m : AL}, alFind m k = some y → (alPut m k x).map (·.1) = m.map (·.1)
  | p :: l, h => by
    unfold alFind at h
    split at h
    · rename_i hk
      rw [alPut, if_pos hk]; simp [hk]
    · rename_i hk
      rw [alPut, if_neg hk]; simp [alPut_old h]
theorem alFind_key : ∀ {m : AL} {k : IDK}, k ∈ m.map (·.1) → ∃ x, alFind m k = some x
  | p :: l, k, h => by
    unfold alFind
    by_cases hk : p.1 = k
    · rw [if_pos hk]; exact ⟨_, rfl⟩
    · rw [if_neg hk]
      rcases List.mem_cons.1 h with h | h
      · exact absurd h.symm hk
      · exact alFind_key h
theorem bPut_len : ∀ {l : BK} {r : RD}, Good l → rMay r = true → (bPut l r).length = if bFind l r.id = none then l.length + 1 else l.length
  | [], r, _, _ => rfl
  | y :: l, r, hl, hr => by
    unfold bPut bFind
    split
    · rename_i h
      rw [if_neg (idl_ne h).symm, bFind_none.2 fun x hx => (idl_ne (idl_trans h (hl.1.1 x hx))).symm, if_pos rfl]; rfl
    · split
      · rename_i he
        simp
      · rename_i he
        rw [List.length_cons, bPut_len (good_tail hl) hr, List.length_cons]
        split <;> rfl
/-- What the map and the names are, behind some records. -/
structure JInv (P : BK) (m : AL) (names : List IDK) : Prop where
  keys : names = m.map (·.1)
  nodup : names.Nodup
  find : ∀ k : IDK, bFind P k.1 = (alFind m k).map (·.1)
  len : P.length = m.length
  good : Good P
  ok : ∀ r ∈ P, r.ok
theorem jinv_nil : JInv [] [] [] := ⟨rfl, List.nodup_nil, fun _ => rfl, rfl, good_nil, fun _ h => (List.not_mem_nil h).elim⟩
theorem bPut_ok {l : BK} {r : RD} (hl : Good l) (hr : rMay r = true) (h : ∀ x ∈ l, x.ok) (hk : r.ok) : ∀ x ∈ bPut l r, x.ok := fun x hx => by
  rcases (bPut_mem hl hr x hx).2 with e | ⟨y, hy, e⟩
  · unfold RD.ok; rw [e]; exact hk
  · unfold RD.ok; rw [e]; exact h y hy
theorem jinv_new {P : BK} {m : AL} {names : List IDK} (h : JInv P m names) {r : RD} (s : Value) (hr : rMay r = true) {k : IDK} (hk : k.1 = r.id) (hf : alFind m k = none) : JInv (bPut P r) (alPut m k (r, s)) (names ++ [k]) := by
  have hb : bFind P r.id = none := by rw [← hk, h.find k, hf]; rfl
  refine ⟨by rw [alPut_new hf, h.keys]; simp, ?_, fun k' => ?_, ?_, bPut_good h.good hr, bPut_ok h.good hr h.ok (by unfold RD.ok; rw [← hk]; exact k.2)⟩
  · rw [List.nodup_append]
    refine ⟨h.nodup, by simp, fun a ha b hb' => ?_⟩
    simp only [List.mem_singleton] at hb'
    subst hb'
    intro e
    subst e
    rw [h.keys] at ha
    obtain ⟨x, hx⟩ := alFind_key ha
    rw [hf] at hx; cases hx
  · rw [bFind_bPut h.good hr, alFind_put]
    by_cases e : k = k'
    · subst e
      rw [if_pos rfl, if_pos hk.symm, hk, hb]; rfl
    · rw [if_neg e, if_neg (fun e2 => e (Subtype.ext (hk.trans e2))), h.find]
  · rw [bPut_len h.good hr, if_pos hb, alPut_new hf, h.len]; simp
theorem jinv_old {P : BK} {m : AL} {names : List IDK} (h : JInv P m names) {r q : RD} {sq : Value} (s : Value) (hr : rMay r = true) {k : IDK} (hk : k.1 = r.id) (hf : alFind m k = some (q, sq)) : JInv (bPut P r) (alPut m k (rJoin q r, s)) names ∧ rMay q = true ∧ q.id = r.id := by
  have hb : bFind P r.id = some q := by rw [← hk, h.find k, hf]; rfl
  have hq := find_good h.good hb
  refine ⟨⟨by rw [h.keys, alPut_old hf], h.nodup, fun k' => ?_, ?_, bPut_good h.good hr, bPut_ok h.good hr h.ok (by unfold RD.ok; rw [← hk]; exact k.2)⟩, hq.1, hq.2⟩
  · rw [bFind_bPut h.good hr, alFind_put]
    by_cases e : k = k'
    · subst e
      rw [if_pos rfl, if_pos hk.symm, hk, hb]; rfl
    · rw [if_neg e, if_neg (fun e2 => e (Subtype.ext (hk.trans e2))), h.find]
  · rw [bPut_len h.good hr, if_neg (by rw [hb]; simp)]
    have := congrArg List.length (alPut_old (x := (rJoin q r, s)) hf)
    simp only [List.length_map] at this
    rw [this, h.len]
def alGet (m : AL) (k : IDK) : RD × Value := (alFind m k).getD (noRD, .slice none 0 0)
/-- The records by their names, sorted, are the book. -/
theorem jinv_out {P : BK} {m : AL} {names ns : List IDK} (h : JInv P m names) (hp : ns.Perm names) (hs : ns.Pairwise fun a b => ¬ b.1 < a.1) : (ns.map (alGet m)).map (·.1) = P := by
  have hget : ∀ k ∈ ns, ∃ x, alFind m k = some x ∧ alGet m k = x ∧ bFind P k.1 = some x.1 ∧ x.1.id = k.1 := fun k hk => by
    have hk' : k ∈ m.map (·.1) := by rw [← h.keys]; exact hp.subset hk
    obtain ⟨x, hx⟩ := alFind_key hk'
    have hb : bFind P k.1 = some x.1 := by rw [h.find, hx]; rfl
    exact ⟨x, hx, by unfold alGet; rw [hx]; rfl, hb, (bFind_mem hb).2⟩
  have hid : ∀ k ∈ ns, (alGet m k).1.id = k.1 := fun k hk => by obtain ⟨x, _, h2, _, h4⟩ := hget k hk; rw [h2, h4]
  have hnd : ns.Nodup := hp.nodup_iff.2 h.nodup
  have hasc : ∀ (l : List IDK), (∀ k ∈ l, k ∈ ns) → l.Nodup → (l.Pairwise fun a b => ¬ b.1 < a.1) → Asc ((l.map (alGet m)).map (·.1)) := by
    intro l
    induction l with
    | nil => intro _ _ _; trivial
    | cons k l ih =>
      intro hin hn hpw
      obtain ⟨n1, n2⟩ := List.nodup_cons.1 hn
      obtain ⟨p1, p2⟩ := List.pairwise_cons.1 hpw
      refine ⟨fun x hx => ?_, ih (fun k hk => hin k (List.mem_cons_of_mem _ hk)) n2 p2⟩
      simp only [List.map_map, List.mem_map, Function.comp_apply] at hx
      obtain ⟨k', hk', rfl⟩ := hx
      show (alGet m k).1.id < (alGet m k').1.id
      rw [hid k (hin k List.mem_cons_self), hid k' (hin k' (List.mem_cons_of_mem _ hk'))]
      rcases idl_tri k.1 k'.1 with h1 | h1 | h1
      · exact h1
      · exact absurd (Subtype.ext h1 ▸ hk') n1
      · exact absurd h1 (p1 k' hk')
  refine asc_ext_b (hasc ns (fun _ h => h) hnd hs) h.good.1 fun i => ?_
  have key : ∀ (l : List IDK), (∀ k ∈ l, k ∈ ns) → bFind ((l.map (alGet m)).map (·.1)) i = if ∃ k ∈ l, k.1 = i then bFind P i else none := by
    intro l
    induction l with
    | nil => intro _; simp [bFind]
    | cons k l ih =>
      intro hin
      have hk := hin k List.mem_cons_self
      rw [List.map_cons, List.map_cons, bFind, hid k hk, ih fun k hk => hin k (List.mem_cons_of_mem _ hk)]
      by_cases e : k.1 = i
      · obtain ⟨x, _, h2, h3, _⟩ := hget k hk
        rw [if_pos e, if_pos ⟨k, List.mem_cons_self, e⟩, h2, ← e, h3]
      · rw [if_neg e]
        by_cases e2 : ∃ k ∈ l, k.1 = i
        · rw [if_pos e2, if_pos (by obtain ⟨k', h1, h2⟩ := e2; exact ⟨k', List.mem_cons_of_mem _ h1, h2⟩)]
        · rw [if_neg e2, if_neg (by
            rintro ⟨k', h1, h2⟩
            rcases List.mem_cons.1 h1 with rfl | h1
            · exact e h2
            · exact e2 ⟨k', h1, h2⟩)]
  rw [key ns fun _ h => h]
  split
  · rfl
  · rename_i hno
    cases hb : bFind P i with
    | none => rfl
    | some r =>
      exfalso
      obtain ⟨hm, hi⟩ := bFind_mem hb
      have hx := h.find ⟨i, by rw [← hi]; exact h.ok r hm⟩
      rw [hb] at hx
      cases ha : alFind m ⟨i, by rw [← hi]; exact h.ok r hm⟩ with
      | none => rw [ha] at hx; cases hx
      | some y =>
        refine hno ⟨⟨i, by rw [← hi]; exact h.ok r hm⟩, ?_, rfl⟩
        refine hp.mem_iff.2 ?_
        have e : ∀ x, x ∈ m.map (·.1) → x ∈ names := fun x hx => by rw [h.keys]; exact hx
        exact e _ (List.mem_map.2 ⟨_, alFind_mem ha, rfl⟩)
end Go.Proofs.Ytolbmemogoojhaa
