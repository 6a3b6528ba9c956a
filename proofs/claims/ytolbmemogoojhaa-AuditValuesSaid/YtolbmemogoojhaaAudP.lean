/- What is looked through: the plain law. No program. -/
import Derived.Test.YtolbmemogoojhaaBookY
namespace Go.Proofs.Ytolbmemogoojhaa
open Go Go.RowKit Go.Deep
set_option linter.unusedVariables false
set_option linter.unusedSimpArgs false
set_option maxRecDepth 100000
instance memDec (s : ByteArray) (l : List ByteArray) : Decidable (s ∈ l) := decidable_of_iff (l.any (fun x => decide (x = s)) = true) (by
  rw [List.any_eq_true]
  exact ⟨fun ⟨x, h1, h2⟩ => of_decide_eq_true h2 ▸ h1, fun h => ⟨s, h, decide_eq_true rfl⟩⟩)
/-- Texts, each once. -/
def onceP (l : List ByteArray) (s : ByteArray) : List ByteArray := if s ∈ l then l else l ++ [s]
def onces (l ss : List ByteArray) : List ByteArray := ss.foldl onceP l
theorem onceP_mem (l : List ByteArray) (s x : ByteArray) : x ∈ onceP l s ↔ x ∈ l ∨ x = s := by
  unfold onceP
  split
  · rename_i h
    exact ⟨.inl, fun k => k.elim id fun e => e ▸ h⟩
  · simp
theorem onceP_nodup {l : List ByteArray} (h : l.Nodup) (s : ByteArray) : (onceP l s).Nodup := by
  unfold onceP
  split
  · exact h
  · rename_i k
    rw [List.nodup_append]
    exact ⟨h, by simp, fun a ha b hb e => by rw [List.mem_singleton.1 hb] at e; exact k (e ▸ ha)⟩
theorem onceP_len (l : List ByteArray) (s : ByteArray) : l.length ≤ (onceP l s).length ∧ (onceP l s).length ≤ l.length + 1 ∧ 0 < (onceP l s).length := by
  unfold onceP
  split
  · rename_i h
    exact ⟨Nat.le_refl _, Nat.le_succ _, List.length_pos_of_mem h⟩
  · simp
theorem onces_mem : ∀ (ss l : List ByteArray) (x : ByteArray), x ∈ onces l ss ↔ x ∈ l ∨ x ∈ ss
  | [], l, x => by simp [onces]
  | s :: ss, l, x => by
    show x ∈ onces (onceP l s) ss ↔ _
    rw [onces_mem ss, onceP_mem, List.mem_cons, or_assoc]
theorem onces_nodup : ∀ (ss : List ByteArray) {l : List ByteArray}, l.Nodup → (onces l ss).Nodup
  | [], l, h => h
  | s :: ss, l, h => onces_nodup ss (onceP_nodup h s)
theorem onces_len : ∀ (ss l : List ByteArray), (onces l ss).length ≤ l.length + ss.length
  | [], l => Nat.le_refl _
  | s :: ss, l => by
    have := onces_len ss (onceP l s)
    have := (onceP_len l s).2.1
    show (onces (onceP l s) ss).length ≤ _
    simp only [List.length_cons]; omega
theorem onces_app (l a b : List ByteArray) : onces l (a ++ b) = onces (onces l a) b := by unfold onces; rw [List.foldl_append]
def valsR (r : RD) : List ByteArray := r.f.map fun f => f.2.2.2
def valsB (L : BK) : List ByteArray := L.flatMap valsR
def auValues (LL : List BK) : List ByteArray := onces [] (LL.flatMap valsB)
theorem auValues_nodup (LL : List BK) : (auValues LL).Nodup := onces_nodup _ List.nodup_nil
theorem auValues_mem {LL : List BK} {L : BK} {r : RD} {f : F4} (h1 : L ∈ LL) (h2 : r ∈ L) (h3 : f ∈ r.f) : f.2.2.2 ∈ auValues LL :=
  (onces_mem _ _ _).2 (.inr (List.mem_flatMap.2 ⟨L, h1, List.mem_flatMap.2 ⟨r, h2, List.mem_map.2 ⟨f, h3, rfl⟩⟩⟩))
/-- A text's parts of eight bytes. -/
def cuts (s : ByteArray) : List ByteArray := (List.range (s.size - 7)).map fun i => s.extract i (i + 8)
def auParts (l : List ByteArray) : List ByteArray := onces [] (l.flatMap cuts)
theorem cuts_len (s : ByteArray) : (cuts s).length = s.size - 7 := by unfold cuts; simp
theorem cuts_size {s x : ByteArray} (h : x ∈ cuts s) : x.size = 8 := by
  unfold cuts at h
  obtain ⟨i, hi, rfl⟩ := List.mem_map.1 h
  have := List.mem_range.1 hi
  rw [ByteArray.size_extract]; omega
def mostL : List ByteArray → Nat
  | [] => 0
  | s :: l => (s.size - 7) + mostL l
theorem most_len : ∀ l : List ByteArray, (l.flatMap cuts).length = mostL l
  | [] => rfl
  | s :: l => by rw [List.flatMap_cons, List.length_append, cuts_len, most_len l]; rfl
theorem auParts_law (l : List ByteArray) : (∀ x ∈ auParts l, x.size = 8) ∧ (auParts l).Nodup ∧ (auParts l).length ≤ mostL l ∧ ((mostL l = 0) ↔ (auParts l).length = 0) := by
  have hle : (auParts l).length ≤ mostL l := by
    have := onces_len (l.flatMap cuts) []
    rw [most_len] at this
    simpa [auParts] using this
  refine ⟨fun x hx => ?_, onces_nodup _ List.nodup_nil, hle, fun h => by omega, fun h => ?_⟩
  · rcases (onces_mem _ _ _).1 hx with h | h
    · cases h
    · obtain ⟨s, _, hs⟩ := List.mem_flatMap.1 h
      exact cuts_size hs
  · rw [← most_len]
    cases hc : l.flatMap cuts with
    | nil => rfl
    | cons x t =>
      have : x ∈ auParts l := (onces_mem _ _ _).2 (.inr (by rw [hc]; exact List.mem_cons_self))
      rw [List.length_eq_zero_iff] at h
      rw [h] at this; cases this
theorem nodup_ne {l : List ByteArray} (h : l.Nodup) {i j : Nat} {x y : ByteArray} (hi : l[i]? = some x) (hj : l[j]? = some y) (hij : i ≠ j) : x ≠ y := by
  rintro rfl
  exact hij ((List.getElem?_inj (List.getElem?_eq_some_iff.1 hi).1 h).1 (hi.trans hj.symm))

/-! Books together. -/
def bAt (LL : List BK) (i : Int) : BK := LL.getD i.toNat []
def auJ (LL : List BK) : BK → List Int → Int × BK
  | J, [] => (0, J)
  | J, i :: l => if 0 ≤ i ∧ i < (LL.length : Int) then (if bCan J (bAt LL i) = 0 then auJ LL (bJ J (bAt LL i)) l else (bCan J (bAt LL i), [])) else (6, [])
theorem asc_len : ∀ {A X : BK}, Asc A → Asc X → (∀ r ∈ A, ∃ y ∈ X, y.id = r.id) → A.length ≤ X.length
  | [], _, _, _, _ => Nat.zero_le _
  | a :: A, [], _, _, h => by obtain ⟨y, hy, _⟩ := h a List.mem_cons_self; cases hy
  | a :: A, x :: X, ha, hx, h => by
    by_cases e : a.id = x.id
    · have := asc_len (A := A) (X := X) ha.2 hx.2 fun r hr => by
        obtain ⟨y, hy, e2⟩ := h r (List.mem_cons_of_mem _ hr)
        rcases List.mem_cons.1 hy with rfl | hy
        · exact absurd (e.trans e2) (idl_ne (ha.1 r hr))
        · exact ⟨y, hy, e2⟩
      simp only [List.length_cons]; omega
    · have hlt : x.id < a.id := by
        obtain ⟨y, hy, e2⟩ := h a List.mem_cons_self
        rcases List.mem_cons.1 hy with rfl | hy
        · exact absurd e2.symm e
        · rw [← e2]; exact hx.1 y hy
      have := asc_len (A := a :: A) (X := X) ha hx.2 fun r hr => by
        obtain ⟨y, hy, e2⟩ := h r hr
        rcases List.mem_cons.1 hy with rfl | hy
        · rcases List.mem_cons.1 hr with rfl | hr
          · exact absurd e2.symm e
          · have := ha.1 r hr
            rw [← e2] at this
            exact absurd hlt (idl_asymm this)
        · exact ⟨y, hy, e2⟩
      simp only [List.length_cons] at this ⊢; omega
theorem bLeq_len {A X : BK} (h : bLeq A X = true) : A.length ≤ X.length := by
  obtain ⟨h1, h2, h3⟩ := bLeq_iff.1 h
  have g1 := (bMay_iff.1 h1).1
  have g2 := (bMay_iff.1 h2).1
  refine asc_len g1.1 g2.1 fun r hr => ?_
  have := bBoth_find g1 g2 r.id
  rw [h3, bFind_of g1.1 hr] at this
  cases hx : bFind X r.id with
  | none => rw [hx] at this; cases this
  | some y => exact ⟨y, (bFind_mem hx).1, (bFind_mem hx).2⟩
theorem bLeq_lub {A B Y : BK} (h : bLeq A Y = true) (k : bLeq B Y = true) : bCan A B = 0 ∧ bLeq (bJ A B) Y = true := by
  obtain ⟨h1, h2, h3⟩ := bLeq_iff.1 h
  obtain ⟨k1, k2, k3⟩ := bLeq_iff.1 k
  have g1 := (bMay_iff.1 h1).1
  have g2 := (bMay_iff.1 k1).1
  have g3 := (bMay_iff.1 h2).1
  have e : bBoth (bBoth A B) Y = Y := by rw [bBoth_assoc g1 g2 g3, k3, h3]
  have hlen : (bBoth A B).length ≤ Y.length := by
    refine asc_len (bBoth_good g1 g2).1 g3.1 fun r hr => ?_
    have := bBoth_find (bBoth_good g1 g2) g3 r.id
    rw [e, bFind_of (bBoth_good g1 g2).1 hr] at this
    cases hx : bFind Y r.id with
    | none => rw [hx] at this; cases this
    | some y => exact ⟨y, (bFind_mem hx).1, (bFind_mem hx).2⟩
  have hc : bCan A B = 0 := bCan_ok.2 ⟨h1, k1, Nat.le_trans hlen (bMay_iff.1 h2).2⟩
  refine ⟨hc, ?_⟩
  rw [bBoth_eq hc]
  exact bLeq_iff.2 ⟨bBoth_may hc, h2, e⟩
theorem auJ_ok {LL : List BK} : ∀ {l : List Int} {J X : BK}, bMay J = true → auJ LL J l = (0, X) →
    bMay X = true ∧ bLeq J X = true ∧ (∀ i ∈ l, (0 ≤ i ∧ i < (LL.length : Int)) ∧ bLeq (bAt LL i) X = true) ∧ (∀ Y, bLeq J Y = true → (∀ i ∈ l, bLeq (bAt LL i) Y = true) → bLeq X Y = true)
  | [], J, X, hJ, h => by
    cases h
    exact ⟨hJ, by rw [bLeq_self]; exact hJ, fun i hi => (List.not_mem_nil hi).elim, fun Y hY _ => hY⟩
  | i :: l, J, X, hJ, h => by
    unfold auJ at h
    split at h
    · rename_i hr
      split at h
      · rename_i hc
        obtain ⟨h1, h2, h3, h4⟩ := auJ_ok (bJ_may hc) h
        have e := bBoth_eq hc
        refine ⟨h1, bLeq_trans (by rw [e]; exact bLeq_both1 hc) h2, fun k hk => ?_, fun Y hY hall => h4 Y (bLeq_lub hY (hall i List.mem_cons_self)).2 fun k hk => hall k (List.mem_cons_of_mem _ hk)⟩
        rcases List.mem_cons.1 hk with rfl | hk
        · exact ⟨hr, bLeq_trans (by rw [e]; exact bLeq_both2 hc) h2⟩
        · exact h3 k hk
      · rename_i hc
        exact absurd (congrArg Prod.fst h) hc
    · cases h
theorem auJ_do {LL : List BK} {X : BK} : ∀ {l : List Int} {J : BK}, bLeq J X = true → (∀ i ∈ l, (0 ≤ i ∧ i < (LL.length : Int)) ∧ bLeq (bAt LL i) X = true) → ∃ Z, auJ LL J l = (0, Z)
  | [], J, _, _ => ⟨J, rfl⟩
  | i :: l, J, hJ, h => by
    obtain ⟨h1, h2⟩ := h i List.mem_cons_self
    obtain ⟨k1, k2⟩ := bLeq_lub hJ h2
    unfold auJ
    rw [if_pos h1, if_pos k1]
    exact auJ_do k2 fun k hk => h k (List.mem_cons_of_mem _ hk)
theorem auJ_same {LL : List BK} {l l' : List Int} {X : BK} (h : auJ LL [] l = (0, X)) (hs : ∀ i, i ∈ l ↔ i ∈ l') : auJ LL [] l' = (0, X) := by
  obtain ⟨h1, h2, h3, h4⟩ := auJ_ok (J := []) rfl h
  obtain ⟨Z, hZ⟩ := auJ_do (l := l') h2 fun i hi => h3 i ((hs i).2 hi)
  obtain ⟨k1, k2, k3, k4⟩ := auJ_ok (J := []) rfl hZ
  rw [hZ, bLeq_anti (k4 X h2 fun i hi => (h3 i ((hs i).2 hi)).2) (h4 Z k2 fun i hi => (k3 i ((hs i).1 hi)).2)]
theorem auJ_err {LL : List BK} : ∀ {l : List Int} {J : BK} {d : Int} {X : BK}, auJ LL J l = (d, X) → d ≠ 0 → X = []
  | [], J, d, X, h, hd => by cases h; exact absurd rfl hd
  | i :: l, J, d, X, h, hd => by
    unfold auJ at h
    split at h
    · split at h
      · exact auJ_err h hd
      · exact (congrArg Prod.snd h).symm
    · exact (congrArg Prod.snd h).symm
def turned : List Int → List Int := fun of => of.reverse.flatMap fun i => [i, i]
theorem turned_mem (l : List Int) (i : Int) : i ∈ l ↔ i ∈ turned l := by unfold turned; simp
theorem bCan_nil {B : BK} : bCan [] B = if bMay B = true then 0 else 1 := by
  cases h : bMay B
  · unfold bCan; rw [h]; rfl
  · rw [if_pos rfl]
    refine bCan_ok.2 ⟨rfl, h, ?_⟩
    obtain ⟨h1, h2⟩ := bMay_iff.1 h
    unfold bBoth
    show (bPuts [] B).length ≤ 10
    rw [bPuts_nil h1]; exact h2
theorem bJ_nil {B : BK} (h : bMay B = true) : bJ [] B = B := by
  rw [bBoth_eq (by rw [bCan_nil, if_pos h])]
  exact bPuts_nil (bMay_iff.1 h).1
theorem auJ_one {LL : List BK} {i : Int} : auJ LL [] [i] = if 0 ≤ i ∧ i < (LL.length : Int) then (if bMay (bAt LL i) = true then (0, bAt LL i) else (1, [])) else (6, []) := by
  unfold auJ
  split
  · rw [bCan_nil]
    cases h : bMay (bAt LL i)
    · rfl
    · simp only [if_true]
      rw [bJ_nil h]; rfl
  · rfl
end Go.Proofs.Ytolbmemogoojhaa
