/- Rows of records; maps whose keys are names. -/
import Derived.Test.YtolbmemogoojhaaSepR
import Derived.Test.YtolbmemogoojhaaBookP
import Derived.Stop.BytesEq
namespace Go.Proofs.Ytolbmemogoojhaa
open Go Go.RowKit Go.Deep
set_option linter.unusedVariables false
set_option linter.unusedSimpArgs false
set_option maxRecDepth 100000
/-- Records, each with the slice of its fields. -/
abbrev RS := List (RD × Value)
def recsL : RS → List Value
  | [] => []
  | p :: l => (rA p.1 p.2).toList ++ recsL l
theorem recsL_append (a b : RS) : recsL (a ++ b) = recsL a ++ recsL b := by
  induction a with
  | nil => rfl
  | cons p a ih => simp [recsL, ih]
theorem recsL_length : ∀ {l : RS}, (∀ p ∈ l, p.1.ok) → (recsL l).length = l.length * 19
  | [], _ => rfl
  | p :: l, h => by
    rw [recsL, List.length_append, recsL_length fun q hq => h q (List.mem_cons_of_mem _ hq), Array.length_toList, rA_size (h p List.mem_cons_self), List.length_cons]; omega
theorem recsL_get : ∀ {l : RS} {j : Nat} {p : RD × Value}, (∀ p ∈ l, p.1.ok) → l[j]? = some p → ∀ (k : Nat) (u : Value), (rA p.1 p.2)[k]? = some u → (recsL l)[j * 19 + k]? = some u
  | q :: l, 0, p, h, hj, k, u, hk => by
    simp only [List.getElem?_cons_zero, Option.some.injEq] at hj
    subst hj
    have hlt := (Array.getElem?_eq_some_iff.1 hk).1
    rw [recsL, Nat.zero_mul, Nat.zero_add, List.getElem?_append_left (by simpa using hlt), Array.getElem?_toList]
    exact hk
  | q :: l, j + 1, p, h, hj, k, u, hk => by
    have := recsL_get (fun x hx => h x (List.mem_cons_of_mem _ hx)) (by simpa using hj) k u hk
    have hs : (rA q.1 q.2).toList.length = 19 := by rw [Array.length_toList]; exact rA_size (h q List.mem_cons_self)
    rw [recsL, List.getElem?_append_right (by omega), hs]
    rw [show (j + 1) * 19 + k - 19 = j * 19 + k by omega]
    exact this
def RecsS (w : World) (v : Value) (l : RS) : Prop := Row w 19 v l.length (recsL l) ∧ ∀ p ∈ l, p.1.ok ∧ Flds w p.2 p.1.f
/-- A slice reads as these records. -/
def Recs (w : World) (v : Value) (L : BK) : Prop := ∃ l : RS, l.map (·.1) = L ∧ RecsS w v l
theorem RecsS.below {w w' : World} {v : Value} {l : RS} (h : RecsS w v l) (hb : Below w.heap.size w w') : RecsS w' v l := ⟨Row.below h.1 hb, fun p hp => ⟨(h.2 p hp).1, (h.2 p hp).2.below hb⟩⟩
theorem Recs.below {w w' : World} {v : Value} {L : BK} (h : Recs w v L) (hb : Below w.heap.size w w') : Recs w' v L := by obtain ⟨l, e, h⟩ := h; exact ⟨l, e, h.below hb⟩
theorem Recs.nil (w : World) : Recs w (.slice none 0 0) [] := ⟨[], rfl, Row.nil w 19, fun _ h => (List.not_mem_nil h).elim⟩
theorem Recs.slice {w : World} {v : Value} {L : BK} (h : Recs w v L) : ∃ a c, v = .slice a L.length c ∧ L.length ≤ maxLen ∧ (a = none → c = 0) := by
  obtain ⟨l, rfl, ⟨_, a, c, rfl, h1, h2, h3, _⟩, _⟩ := h
  exact ⟨a, c, by simp, by simp; omega, h3⟩
theorem Recs.ok {w : World} {v : Value} {L : BK} (h : Recs w v L) : ∀ r ∈ L, r.ok := by
  obtain ⟨l, rfl, _, h2⟩ := h
  intro r hr
  obtain ⟨p, hp, rfl⟩ := List.mem_map.1 hr
  exact (h2 p hp).1
/-- The j-th one: where it lies. -/
theorem Recs.at {w : World} {a : Option Addr} {n c : Nat} {L : BK} (h : Recs w (.slice a n c) L) {j : Nat} {r : RD} (hj : L[j]? = some r) :
    ∃ b off s, a = some ⟨b, off, none⟩ ∧ b < w.heap.size ∧ RecAt w b (off + j * 19) r s ∧ Flds w s r.f := by
  obtain ⟨l, rfl, hrow, h2⟩ := h
  rw [List.getElem?_map, Option.map_eq_some_iff] at hj
  obtain ⟨p, hp, rfl⟩ := hj
  have hmem := List.mem_of_getElem? hp
  obtain ⟨hok, hf⟩ := h2 p hmem
  have hoks : ∀ p ∈ l, p.1.ok := fun p hp => (h2 p hp).1
  obtain ⟨hl, a', c', he, _, _, _, h4⟩ := hrow
  injection he with e1 e2 e3
  subst e1
  have hjl := (List.getElem?_eq_some_iff.1 hp).1
  obtain ⟨b, off, rfl, hc⟩ := h4 (by rw [hl]; omega)
  have hg : RecAt w b (off + j * 19) p.1 p.2 := ⟨fun k u hk => by rw [Nat.add_assoc]; exact hc _ _ (recsL_get hoks hp k u hk), hok⟩
  obtain ⟨_, h16, _⟩ := rA_get hok p.2
  exact ⟨b, off, p.2, rfl, World.block_lt_of_cell? w _ (hg.1 16 _ h16), hg, hf⟩
theorem recsL_one : ∀ {l : RS}, (∀ p ∈ l, p.2.oneCell' = true) → ∀ u ∈ recsL l, u.oneCell' = true
  | [], _, u, hu => by cases hu
  | p :: l, h, u, hu => by
    rcases List.mem_append.1 hu with hu | hu
    · exact (Array.all_eq_true_iff_forall_mem.1 (rA_one' p.1 (h p List.mem_cons_self))) u (by simpa using hu)
    · exact recsL_one (fun q hq => h q (List.mem_cons_of_mem _ hq)) u hu

/-! Names as keys. -/
def IDK := { l : List UInt8 // l.length = 16 }
instance : DecidableEq IDK := fun a b => decidable_of_iff (a.1 = b.1) Subtype.ext_iff.symm
def encK (k : IDK) : Value := .agg (encU k.1).toArray
theorem run_equal_id (a b : List UInt8) (ha : a.length = 16) (hb : b.length = 16) (W : World) : (Op.equal 33 (.agg (encU a).toArray) (.agg (encU b).toArray)).run Try.prog W = .ok (a == b) W := by
  have := run_equalIn_bytes (P := Try.prog) W 9998 33 5 16 (by kernel_rfl) (by kernel_rfl) (fun w => by simp [sizeOf, typeInfo]; kernel_rfl) a b ha hb
  have e : ∀ l : List UInt8, encU l = l.map Extern.Stop.cell := fun l => rfl
  rw [e, e]
  exact this
theorem findAsk_id (k : IDK) : ∀ (es : List MapEntry) (m : List (IDK × Value)) (i : Nat) (W : World), es.map (fun e => (e.key, e.val)) = m.map (fun p => (encK p.1, p.2)) →
    (Instr.findAsking 33 (encK k) es i).run Try.prog W = .ok ((gIx m k).map fun p => (i + p.1, p.2)) W
  | [], [], i, W, _ => rfl
  | [], _ :: _, _, _, h => by cases h
  | _ :: _, [], _, _, h => by cases h
  | e :: es, p :: m, i, W, h => by
    simp only [List.map_cons, List.cons.injEq, Prod.mk.injEq] at h
    obtain ⟨⟨h1, h2⟩, h3⟩ := h
    unfold Instr.findAsking
    rw [h1]
    simp only [Sem.run_bind, encK, run_equal_id k.1 p.1.1 k.2 p.1.2, Result.andThen_ok]
    by_cases hk : p.1 = k
    · rw [gIx, if_pos hk, hk]; simp [h2, Sem.run_pure]
    · have hk' : (k.1 == p.1.1) = false := by
        rw [beq_eq_false_iff_ne]; exact fun e => hk (Subtype.ext e.symm)
      rw [gIx, if_neg hk, hk']
      have := findAsk_id k es m (i + 1) W h3
      simp only [Bool.false_eq_true, if_false]
      unfold encK at this
      rw [this]
      cases gIx m k with
      | none => rfl
      | some r => simp; omega
theorem sameBits_u8 (n : Nat) : ∀ l : List UInt8, ((encU l).zip (encU l)).all (fun x => match x with | (x, y) => Instr.sameBits n x y) = true
  | [] => rfl
  | b :: l => by
    have := sameBits_u8 n l
    simp only [encU, List.map_cons, List.zip_cons_cons, List.all_cons] at this ⊢
    rw [this]
    simp [Instr.sameBits]
theorem len16 {l : List UInt8} (h : l.length = 16) : ∃ b0 b1 b2 b3 b4 b5 b6 b7 b8 b9 b10 b11 b12 b13 b14 b15, l = [b0, b1, b2, b3, b4, b5, b6, b7, b8, b9, b10, b11, b12, b13, b14, b15] := by
  match l, h with
  | [a0, a1, a2, a3, a4, a5, a6, a7, a8, a9, a10, a11, a12, a13, a14, a15], _ => exact ⟨a0, a1, a2, a3, a4, a5, a6, a7, a8, a9, a10, a11, a12, a13, a14, a15, rfl⟩
theorem keyID : KeyOk Try.prog 33 encK where
  check w em k := by
    obtain ⟨l, hl⟩ := k
    obtain ⟨b0, b1, b2, b3, b4, b5, b6, b7, b8, b9, b10, b11, b12, b13, b14, b15, rfl⟩ := len16 hl
    cases em <;> kernel_rfl
  find w k m es h := by
    unfold Instr.findKey
    have hu : Try.prog.underlying 33 = some (.array 16 5) := by kernel_rfl
    simp only [Sem.run_bind, run_underlying hu, Result.andThen_ok]
    cases es with
    | nil =>
      cases m with
      | nil => rfl
      | cons p m => cases h
    | cons e es =>
      have := findAsk_id k (e :: es) m 0 w h
      have e1 : Instr.findNow (.array 16 5) (encK k) (e :: es) 0 = none := by simp [Instr.findNow, Instr.sameNow]
      rw [e1]
      simp only
      rw [this]
      cases gIx m k with
      | none => rfl
      | some r => simp
  stays w k := by
    unfold Instr.keyThatStays encK
    have : Instr.sameBits 10000 (.agg (encU k.1).toArray) (.agg (encU k.1).toArray) = true := by
      rw [Instr.sameBits]
      simp only [beq_self_eq_true, Bool.true_and]
      exact sameBits_u8 9999 k.1
    rw [this]; simp [Sem.run_pure]
end Go.Proofs.Ytolbmemogoojhaa
