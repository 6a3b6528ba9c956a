/- The varint's bytes keep the numbers' order: a lesser number has no more bytes, and, of as many, lesser ones. Plain. -/
import Derived.Test.YtbcgjagpdnbaiaaVar
namespace Go.Proofs.Ytbcgjagpdnbaiaa
open Go
set_option linter.unusedVariables false
set_option linter.unusedSimpArgs false

theorem hi_mono : ∀ (m n : Nat), m ≤ n → (hi m).length ≤ (hi n).length := by
  intro m n h
  have := lt_hi _ n (Nat.le_refl _)
  exact hi_length_le _ m (by omega)
theorem u8_lt (a b : Nat) (ha : a < 256) (hb : b < 256) : UInt8.ofNat a < UInt8.ofNat b ↔ a < b := by
  rw [UInt8.lt_iff_toNat_lt, u8_ofNat_toNat a ha, u8_ofNat_toNat b hb]
theorem list_lt_append {a b : List UInt8} (h : a < b) (hl : a.length = b.length) (x y : List UInt8) : a ++ x < b ++ y := by
  induction a generalizing b with
  | nil => cases b with
    | nil => exact absurd h (List.lt_irrefl _)
    | cons c b => simp at hl
  | cons c a ih =>
    cases b with
    | nil => simp at hl
    | cons d b =>
      rw [List.cons_append, List.cons_append, List.cons_lt_cons_iff]
      rw [List.cons_lt_cons_iff] at h
      rcases h with h | ⟨h, h2⟩
      · exact .inl h
      · exact .inr ⟨h, ih h2 (by simpa using hl)⟩
theorem list_lt_last (a : List UInt8) (c d : UInt8) (h : c < d) : a ++ [c] < a ++ [d] := by
  induction a with
  | nil => rw [List.nil_append, List.nil_append, List.cons_lt_cons_iff]; exact .inl h
  | cons e a ih => rw [List.cons_append, List.cons_append, List.cons_lt_cons_iff]; exact .inr ⟨rfl, ih⟩
theorem hi_lt : ∀ (n m : Nat), m < n → (hi m).length = (hi n).length → hi m < hi n := by
  intro n
  induction n using Nat.strongRecOn with
  | _ n ih =>
    intro m h hl
    have hn : n ≠ 0 := by omega
    by_cases hm : m = 0
    · subst hm
      rw [hi_zero] at hl
      exact absurd (hi_length_eq_zero (m := n) hl.symm) hn
    · rw [hi_pos hn, hi_pos hm] at hl ⊢
      simp only [List.length_append, List.length_singleton, Nat.add_right_cancel_iff] at hl
      rcases Nat.lt_or_ge (m / 128) (n / 128) with hq | hq
      · exact list_lt_append (ih (n / 128) (Nat.div_lt_self (by omega) (by omega)) (m / 128) hq hl) hl _ _
      · have he : m / 128 = n / 128 := by have := Nat.div_le_div_right (c := 128) (Nat.le_of_lt h); omega
        rw [he]
        exact list_lt_last _ _ _ ((u8_lt _ _ (by omega) (by omega)).2 (by omega))
theorem putL_mono (m n : Nat) (h : m ≤ n) : (putL m).length ≤ (putL n).length := by
  rw [putL_length, putL_length]
  have := hi_mono (m / 128) (n / 128) (Nat.div_le_div_right h)
  omega
theorem putL_lt (m n : Nat) (h : m < n) (hl : (putL m).length = (putL n).length) : putL m < putL n := by
  rw [putL_length, putL_length] at hl
  unfold putL
  rcases Nat.lt_or_ge (m / 128) (n / 128) with hq | hq
  · exact list_lt_append (hi_lt _ _ hq (by omega)) (by omega) _ _
  · have he : m / 128 = n / 128 := by have := Nat.div_le_div_right (c := 128) (Nat.le_of_lt h); omega
    rw [he]
    exact list_lt_last _ _ _ ((u8_lt _ _ (by omega) (by omega)).2 (by omega))
/-- The order of the bytes is the order of the numbers. -/
theorem putL_order (m n : Nat) : (decide ((putL m).length < (putL n).length) || (decide ((putL m).length = (putL n).length) && decide (putL m < putL n))) = decide (m < n) := by
  rcases Nat.lt_trichotomy m n with h | h | h
  · have h1 := putL_mono m n (by omega)
    rcases Nat.lt_or_ge (putL m).length (putL n).length with h2 | h2
    · simp [h, h2]
    · have h3 : (putL m).length = (putL n).length := by omega
      simp [h, h3, putL_lt m n h h3]
  · subst h; simp [List.lt_irrefl]
  · have h1 := putL_mono n m (by omega)
    have hn : ¬ m < n := by omega
    rcases Nat.lt_or_ge (putL n).length (putL m).length with h2 | h2
    · have : ¬ (putL m).length < (putL n).length := by omega
      have : ¬ (putL m).length = (putL n).length := by omega
      simp [*]
    · have h3 : (putL m).length = (putL n).length := by omega
      have h4 := putL_lt n m h h3.symm
      have h5 : ¬ putL m < putL n := fun h5 => List.lt_irrefl _ (List.lt_trans h4 h5)
      simp [hn, h3, h5]
end Go.Proofs.Ytbcgjagpdnbaiaa
