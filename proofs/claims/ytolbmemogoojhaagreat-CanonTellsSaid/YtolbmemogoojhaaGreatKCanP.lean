/- A book's bytes, and the book whose bytes they are: the plain law. No program. -/
import Derived.Test.YtolbmemogoojhaaGreatKCanA
namespace Go.Proofs.YtolbmemogoojhaaGreat
open Go Go.RowKit Go.Deep
set_option linter.unusedVariables false
set_option linter.unusedSimpArgs false
set_option maxRecDepth 100000
/-- A field's bytes, a record's, a book's. -/
def fBytes (f : F4) : List UInt8 := UInt8.ofNat f.1.toNat :: cBytes f.2.1 f.2.2.1 f.2.2.2
def rBytes (r : RD) : List UInt8 := r.id ++ (stBytes r.N r.R ++ (putL r.f.length ++ r.f.flatMap fBytes))
def bBytes (L : BK) : List UInt8 := putL L.length ++ L.flatMap rBytes
def bPutP (L : BK) : List UInt8 := if bMay L = true then bBytes L else []
theorem bPutP_yes {L : BK} (h : bMay L = true) : bPutP L = bBytes L := by unfold bPutP; rw [if_pos h]
/-- What the reader reads: a number, a list, a field, a record, a book. -/
def gMany (most : Nat) (bs : List UInt8) : Option (Nat × List UInt8) :=
  match getR bs with
  | none => none
  | some (n, u) => if n ≤ most then some (n, bs.drop u) else none
def gList {α : Type} (g : List UInt8 → Option (α × List UInt8)) : Nat → List UInt8 → Option (List α × List UInt8)
  | 0, bs => some ([], bs)
  | n + 1, bs => match g bs with
    | none => none
    | some (a, t) => match gList g n t with
      | none => none
      | some (l, t') => some (a :: l, t')
def gField : List UInt8 → Option (F4 × List UInt8)
  | [] => none
  | c :: t => if (cGet t).2.2.2.2 = true then some (((c.toNat : Int), (cGet t).1, (cGet t).2.1, (cGet t).2.2.1), t.drop (cGet t).2.2.2.1) else none
def gRec (bs : List UInt8) : Option (RD × List UInt8) :=
  if bs.length < 16 then none
  else if (stGet (bs.drop 16)).2.2.2 = true then
    match gMany 8 ((bs.drop 16).drop (stGet (bs.drop 16)).2.2.1) with
    | none => none
    | some (n, t) => match gList gField n t with
      | none => none
      | some (l, t') => some (⟨bs.take 16, (stGet (bs.drop 16)).1, (stGet (bs.drop 16)).2.1, l⟩, t')
  else none
def gBk (bs : List UInt8) : Option (BK × List UInt8) :=
  match gMany 10 bs with
  | none => none
  | some (n, t) => gList gRec n t
def gBook (bs : List UInt8) : Option BK :=
  match gBk bs with
  | none => none
  | some (L, t) => if t = [] ∧ bMay L = true then some L else none
/-! A list is read one by one. -/
def pre {α : Type} (acc : List α) (o : Option (List α × List UInt8)) : Option (List α × List UInt8) := o.map fun p => (acc ++ p.1, p.2)
section
variable {α : Type} {g : List UInt8 → Option (α × List UInt8)}
theorem pre_nil (o : Option (List α × List UInt8)) : pre [] o = o := by cases o <;> rfl
theorem pre_zero (acc : List α) (t : List UInt8) : pre acc (gList g 0 t) = some (acc, t) := by simp [pre, gList]
theorem pre_none {acc : List α} {m : Nat} {t : List UInt8} (h : g t = none) : pre acc (gList g (m + 1) t) = none := by simp [pre, gList, h]
theorem pre_some {acc : List α} {m : Nat} {t t' : List UInt8} {a : α} (h : g t = some (a, t')) : pre acc (gList g (m + 1) t) = pre (acc ++ [a]) (gList g m t') := by
  rw [gList, h]
  simp only
  cases gList g m t' with
  | none => rfl
  | some p => obtain ⟨l, u⟩ := p; simp [pre]
theorem gList_put (P : α → Prop) (put : α → List UInt8) (h : ∀ a x, P a → g (put a ++ x) = some (a, x)) : ∀ (l : List α) (x : List UInt8), (∀ a ∈ l, P a) → gList g l.length (l.flatMap put ++ x) = some (l, x)
  | [], x, _ => rfl
  | a :: l, x, hl => by
    rw [List.flatMap_cons, List.append_assoc, List.length_cons, gList, h a _ (hl a mH)]
    simp only
    rw [gList_put P put h l x fun b hb => hl b (mT _ hb)]
theorem gList_get (P : α → Prop) (put : α → List UInt8) (h : ∀ bs a t, g bs = some (a, t) → P a ∧ bs = put a ++ t) : ∀ (n : Nat) (bs : List UInt8) (l : List α) (t : List UInt8), gList g n bs = some (l, t) → l.length = n ∧ (∀ a ∈ l, P a) ∧ bs = l.flatMap put ++ t
  | 0, bs, l, t, hg => by
    rw [gList] at hg
    injection hg with hg
    injection hg with h1 h2
    subst h1 h2
    exact ⟨rfl, (fun a ha => nomatch ha), rfl⟩
  | n + 1, bs, l, t, hg => by
    rw [gList] at hg
    cases h1 : g bs with
    | none => rw [h1] at hg; cases hg
    | some p =>
      obtain ⟨a, t1⟩ := p
      rw [h1] at hg
      simp only at hg
      cases h2 : gList g n t1 with
      | none => rw [h2] at hg; cases hg
      | some p2 =>
        obtain ⟨l2, t2⟩ := p2
        rw [h2] at hg
        simp only at hg
        injection hg with hg
        injection hg with h3 h4
        subst h3 h4
        obtain ⟨k1, k2, k3⟩ := gList_get P put h n t1 l2 t2 h2
        obtain ⟨k4, k5⟩ := h bs a t1 h1
        refine ⟨by rw [List.length_cons, k1], fun b hb => ?_, by rw [k5, k3, List.flatMap_cons, List.append_assoc]⟩
        rcases List.mem_cons.1 hb with rfl | hb
        · exact k4
        · exact k2 b hb
end
theorem gMany_put {most n : Nat} (h : n ≤ most) (hm : most < 18446744073709551616) (x : List UInt8) : gMany most (putL n ++ x) = some (n, x) := by
  unfold gMany
  rw [getR_put n x (by omega)]
  simp only
  rw [if_pos h, List.drop_left]
theorem gMany_get {most n : Nat} {bs t : List UInt8} (h : gMany most bs = some (n, t)) : n ≤ most ∧ bs = putL n ++ t := by
  unfold gMany at h
  cases h1 : getR bs with
  | none => rw [h1] at h; cases h
  | some p =>
    obtain ⟨n1, u⟩ := p
    rw [h1] at h
    simp only at h
    by_cases h2 : n1 ≤ most
    · rw [if_pos h2] at h
      injection h with h
      injection h with h3 h4
      subst h3 h4
      obtain ⟨_, _, _, _, h5⟩ := getR_some h1
      exact ⟨h2, by rw [h5, List.take_append_drop]⟩
    · rw [if_neg h2] at h; cases h
/-! Fields. -/
def fOk (f : F4) : Prop := 0 ≤ f.1 ∧ f.1 < 256 ∧ cMay f.2.1 f.2.2.1 f.2.2.2 = true
theorem gField_put (f : F4) (x : List UInt8) (h : fOk f) : gField (fBytes f ++ x) = some (f, x) := by
  obtain ⟨no, N, R, s⟩ := f
  obtain ⟨h1, h2, h3⟩ := h
  dsimp only at h1 h2 h3
  unfold fBytes
  rw [List.cons_append, gField]
  dsimp only
  rw [c_back1 h3 x]
  simp only [if_true, List.drop_left]
  have e : ((UInt8.ofNat no.toNat).toNat : Int) = no := by rw [UInt8.toNat_ofNat', Nat.mod_eq_of_lt (by omega)]; omega
  rw [e]
theorem gField_get (bs : List UInt8) (f : F4) (t : List UInt8) (h : gField bs = some (f, t)) : fOk f ∧ bs = fBytes f ++ t := by
  cases bs with
  | nil => cases h
  | cons c b =>
    rw [gField] at h
    rcases c_back2 b with h0 | ⟨N, R, s, k, h1, h2, h3, h4⟩
    · rw [h0] at h; simp at h
    · rw [h1] at h
      simp only [if_true] at h
      injection h with h
      injection h with h5 h6
      subst h5 h6
      have := c.toNat_lt
      refine ⟨⟨by dsimp only; omega, by dsimp only; omega, h2⟩, ?_⟩
      unfold fBytes
      dsimp only
      rw [h4, List.cons_append, List.take_append_drop, Int.toNat_natCast, UInt8.ofNat_toNat]
/-! Records. -/
def rOk (r : RD) : Prop := r.ok ∧ stMay r.N r.R = true ∧ r.f.length ≤ 8 ∧ ∀ f ∈ r.f, fOk f
theorem gRec_put (r : RD) (x : List UInt8) (h : rOk r) : gRec (rBytes r ++ x) = some (r, x) := by
  obtain ⟨h1, h2, h3, h4⟩ := h
  unfold RD.ok at h1
  have e : rBytes r ++ x = r.id ++ (stBytes r.N r.R ++ (putL r.f.length ++ (r.f.flatMap fBytes ++ x))) := by unfold rBytes; simp only [List.append_assoc]
  have ed : (rBytes r ++ x).drop 16 = stBytes r.N r.R ++ (putL r.f.length ++ (r.f.flatMap fBytes ++ x)) := by rw [e, List.drop_left' h1]
  have et : (rBytes r ++ x).take 16 = r.id := by rw [e, List.take_left' h1]
  unfold gRec
  rw [ed, et, st_back1 h2, if_neg (by rw [e, List.length_append, h1]; omega)]
  simp only [if_true, List.drop_left]
  rw [gMany_put h3 (by omega)]
  simp only
  rw [gList_put fOk fBytes gField_put r.f x h4]
theorem gRec_get (bs : List UInt8) (r : RD) (t : List UInt8) (h : gRec bs = some (r, t)) : rOk r ∧ bs = rBytes r ++ t := by
  unfold gRec at h
  by_cases hl : bs.length < 16
  · rw [if_pos hl] at h; cases h
  · rw [if_neg hl] at h
    rcases st_back2 (bs.drop 16) with h0 | ⟨N, R, u, h1, h2, h3, h4, h5⟩
    · rw [h0] at h; simp at h
    · rw [h1] at h
      simp only [if_true] at h
      cases hm : gMany 8 ((bs.drop 16).drop u) with
      | none => rw [hm] at h; cases h
      | some p =>
        obtain ⟨n, t1⟩ := p
        rw [hm] at h
        simp only at h
        cases hg : gList gField n t1 with
        | none => rw [hg] at h; cases h
        | some p2 =>
          obtain ⟨l, t2⟩ := p2
          rw [hg] at h
          simp only at h
          injection h with h
          injection h with h6 h7
          subst h6 h7
          obtain ⟨k1, k2⟩ := gMany_get hm
          obtain ⟨k3, k4, k5⟩ := gList_get fOk fBytes gField_get n t1 l t2 hg
          refine ⟨⟨?_, h2, by dsimp only; omega, k4⟩, ?_⟩
          · show (bs.take 16).length = 16
            rw [List.length_take]; omega
          · unfold rBytes
            dsimp only
            rw [h5, k3]
            have e : bs = bs.take 16 ++ ((bs.drop 16).take u ++ (putL n ++ (l.flatMap fBytes ++ t2))) := by
              rw [← k5, ← k2, List.take_append_drop, List.take_append_drop]
            simp only [List.append_assoc]
            exact e
/-! Books. -/
def bOk (L : BK) : Prop := L.length ≤ 10 ∧ ∀ r ∈ L, rOk r
theorem bOk_of {L : BK} (h : bMay L = true) (h16 : ∀ r ∈ L, r.ok) : bOk L := by
  obtain ⟨h1, h2⟩ := bMay_iff.1 h
  refine ⟨h2, fun r hr => ?_⟩
  have hr' := h1.2 r hr
  obtain ⟨k1, _, k2, k3⟩ := rMay_iff.1 hr'
  refine ⟨h16 r hr, k1, rMay_few hr', fun f hf => ?_⟩
  obtain ⟨_, k4, k5⟩ := asc_mem k2 hf
  exact ⟨k4, by omega, (k3 f hf).1⟩
theorem gBk_put {L : BK} (h : bOk L) (x : List UInt8) : gBk (bBytes L ++ x) = some (L, x) := by
  unfold gBk bBytes
  rw [List.append_assoc, gMany_put h.1 (by omega)]
  simp only
  exact gList_put rOk rBytes gRec_put L x h.2
theorem gBook_back {L : BK} (h : bMay L = true) (k : ∀ r ∈ L, r.ok) : gBook (bBytes L) = some L := by
  have := gBk_put (bOk_of h k) []
  rw [List.append_nil] at this
  unfold gBook
  rw [this]
  simp only [h, and_self, if_true]
/-! How long. -/
theorem putL_small {n : Nat} (h : n < 128) : putL n = [UInt8.ofNat n] := by
  unfold putL
  rw [show n / 128 = 0 by omega, hi_zero, Nat.mod_eq_of_lt h]; rfl
theorem putL_len {n k : Nat} (h : n / 128 < 128 ^ k) : (putL n).length ≤ k + 1 := by
  have := hi_length_le k _ h
  rw [putL_length]; omega
theorem stBytes_7 {N R : Int} (h : stMay N R = true) : (stBytes N R).length ≤ 7 := by
  have hb := stMay_le h
  have e : stBytes N R = putL (8 * N + R).toNat := by unfold stBytes; rw [if_pos h]
  rw [e]
  exact putL_len (k := 6) (by have : (128 : Nat) ^ 6 = 4398046511104 := by decide
                              omega)
theorem cBytes_len {N R : Int} {s : ByteArray} (h : cMay N R s = true) : (cBytes N R s).length ≤ 9 + s.size := by
  obtain ⟨_, h1, h2⟩ := cMay_le h
  have e : cBytes N R s = stBytes N R ++ textL s := by unfold cBytes; rw [if_pos h]
  have h3 := stBytes_7 h1
  have h4 := putL_len (n := s.size) (k := 1) (by omega)
  have h5 : s.data.toList.length = s.size := by simp
  rw [e, List.length_append]
  unfold textL
  rw [List.length_append, h5]
  omega
def mostF : List F4 → Nat
  | [] => 0
  | f :: l => 12 + f.2.2.2.size + mostF l
def mostR : BK → Nat
  | [] => 0
  | r :: L => 25 + mostF r.f + mostR L
theorem mostF_len : ∀ {l : List F4}, (∀ f ∈ l, fOk f) → (l.flatMap fBytes).length ≤ mostF l ∧ mostF l ≤ l.length * 212
  | [], _ => ⟨Nat.le_refl _, Nat.le_refl _⟩
  | f :: l, h => by
    obtain ⟨h1, h2⟩ := mostF_len fun g hg => h g (mT _ hg)
    have h3 := (h f mH).2.2
    have h4 := cBytes_len h3
    have h5 := (cMay_le h3).2.2
    rw [List.flatMap_cons, List.length_append, mostF, List.length_cons]
    unfold fBytes at *
    rw [List.length_cons]
    constructor <;> omega
theorem mostR_len : ∀ {L : BK}, (∀ r ∈ L, rOk r) → (L.flatMap rBytes).length ≤ mostR L ∧ mostR L ≤ L.length * 2000
  | [], _ => ⟨Nat.le_refl _, Nat.le_refl _⟩
  | r :: L, h => by
    obtain ⟨h1, h2⟩ := mostR_len fun g hg => h g (mT _ hg)
    obtain ⟨k1, k2, k3, k4⟩ := h r mH
    obtain ⟨h3, h4⟩ := mostF_len k4
    have h5 := stBytes_7 k2
    unfold RD.ok at k1
    have h6 : (rBytes r).length ≤ 25 + mostF r.f := by
      unfold rBytes
      rw [List.length_append, List.length_append, List.length_append, k1, putL_small (show r.f.length < 128 by omega)]
      simp only [List.length_cons, List.length_nil]
      omega
    rw [List.flatMap_cons, List.length_append, mostR, List.length_cons]
    constructor <;> omega
theorem bBytes_len {L : BK} (h : bOk L) : (bBytes L).length ≤ 2 + mostR L ∧ mostR L ≤ 20000 := by
  obtain ⟨h1, h2⟩ := mostR_len h.2
  have h3 := h.1
  unfold bBytes
  rw [List.length_append, putL_small (show L.length < 128 by omega)]
  simp only [List.length_cons, List.length_nil]
  constructor <;> omega
theorem bPutP_len {L : BK} (k : ∀ r ∈ L, r.ok) : (bPutP L).length ≤ 80000 := by
  unfold bPutP
  split
  · rename_i h
    have := bBytes_len (bOk_of h k)
    omega
  · simp
theorem can_small {L : BK} (h : bMay L = true) (k : ∀ r ∈ L, r.ok) : (bBytes L).length ≤ 100000 ∧ L.length ≤ 1000000 ∧ (∀ r ∈ L, r.f.length ≤ 1000000 ∧ ∀ f ∈ r.f, 0 ≤ f.1 ∧ f.1 < 8) := by
  have hok := bOk_of h k
  obtain ⟨h1, h2⟩ := bBytes_len hok
  have h3 := hok.1
  refine ⟨by omega, by omega, fun r hr => ⟨by have := (hok.2 r hr).2.2.1; omega, fun f hf => ?_⟩⟩
  have hr' := (bMay_iff.1 h).1.2 r hr
  obtain ⟨_, _, k2, _⟩ := rMay_iff.1 hr'
  obtain ⟨_, k4, k5⟩ := asc_mem k2 hf
  exact ⟨k4, k5⟩
end Go.Proofs.YtolbmemogoojhaaGreat
