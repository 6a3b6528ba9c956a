/- Numbers as bytes, seven bits a group: plain lists, no program. -/
namespace Go.Proofs.Ytgckgbonhbabpaa
set_option linter.unusedVariables false

/-- The groups ahead of the last one. -/
def hi (m : Nat) : List UInt8 := if h : m = 0 then [] else hi (m / 128) ++ [UInt8.ofNat (m % 128 + 128)]
termination_by m
decreasing_by omega
def putL (n : Nat) : List UInt8 := hi (n / 128) ++ [UInt8.ofNat (n % 128)]

theorem hi_zero : hi 0 = [] := by rw [hi]; simp
theorem hi_pos {m : Nat} (h : m ≠ 0) : hi m = hi (m / 128) ++ [UInt8.ofNat (m % 128 + 128)] := by rw [hi]; simp [h]
theorem hi_length_le : ∀ (k m : Nat), m < 128 ^ k → (hi m).length ≤ k
  | 0, m, h => by have : m = 0 := by simpa using h
                  subst this; simp [hi_zero]
  | k + 1, m, h => by
    by_cases h0 : m = 0
    · subst h0; simp [hi_zero]
    · rw [hi_pos h0]
      have := hi_length_le k (m / 128) (by rw [Nat.pow_succ] at h; omega)
      simp; omega
theorem hi_length_eq_zero {m : Nat} (h : (hi m).length = 0) : m = 0 := by
  by_cases h0 : m = 0
  · exact h0
  · rw [hi_pos h0] at h; simp at h
theorem lt_hi : ∀ (k m : Nat), (hi m).length ≤ k → m < 128 ^ k
  | 0, m, h => by have := hi_length_eq_zero (by omega : (hi m).length = 0); subst this; simp
  | k + 1, m, h => by
    by_cases h0 : m = 0
    · subst h0; exact Nat.pow_pos (by omega)
    · rw [hi_pos h0] at h
      have := lt_hi k (m / 128) (by simp at h; omega)
      rw [Nat.pow_succ]; omega
theorem putL_length (n : Nat) : (putL n).length = (hi (n / 128)).length + 1 := by simp [putL]
theorem putL_le (n : Nat) (h : n < 18446744073709551616) : 1 ≤ (putL n).length ∧ (putL n).length ≤ 10 := by
  have := hi_length_le 9 (n / 128) (by have : (128 : Nat) ^ 9 = 9223372036854775808 := by decide
                                       omega)
  rw [putL_length]; omega

theorem hi_range (m : Nat) : hi m = (List.range (hi m).length).map fun p => UInt8.ofNat (m / 128 ^ ((hi m).length - 1 - p) % 128 + 128) := by
  induction m using Nat.strongRecOn with
  | _ m ih =>
    by_cases h0 : m = 0
    · subst h0; simp [hi_zero]
    · have e := hi_pos h0
      have hl : (hi m).length = (hi (m / 128)).length + 1 := by rw [e]; simp
      rw [hl, List.range_succ, List.map_append]
      conv => lhs; rw [e, ih (m / 128) (by omega)]
      congr 1
      · apply List.map_congr_left
        intro p hp
        have hp' := List.mem_range.1 hp
        rw [show (hi (m / 128)).length + 1 - 1 - p = ((hi (m / 128)).length - 1 - p) + 1 by omega, Nat.pow_succ, Nat.mul_comm, ← Nat.div_div_eq_div_mul]
      · simp

/-- What Put has written behind i rounds. -/
def arrU (n k i : Nat) : List UInt8 := (List.range k).map fun p => if k - 1 - p < i then UInt8.ofNat (n / 128 ^ (k - 1 - p) % 128 + 128) else 0
theorem arrU_length (n k i : Nat) : (arrU n k i).length = k := by simp [arrU]
theorem arrU_set (n k i : Nat) (hi : i < k) : (arrU n k i).set (k - 1 - i) (UInt8.ofNat (n / 128 ^ i % 128 + 128)) = arrU n k (i + 1) := by
  apply List.ext_getElem
  · simp [arrU]
  · intro p h1 h2
    have hp : p < k := by simpa [arrU] using h2
    rw [List.getElem_set]
    simp only [arrU, List.getElem_map, List.getElem_range]
    split
    · rename_i h; subst h
      rw [if_pos (by omega), show k - 1 - (k - 1 - i) = i by omega]
    · rename_i h
      by_cases hlt : k - 1 - p < i
      · rw [if_pos hlt, if_pos (by omega)]
      · rw [if_neg hlt, if_neg (by omega)]
theorem arrU_last (n k : Nat) (hk : k = (putL n).length) : (arrU n k k).set (k - 1) (UInt8.ofNat (n % 128)) = putL n := by
  have hl := putL_length n
  have hr := hi_range (n / 128)
  have hk1 : k = (hi (n / 128)).length + 1 := by omega
  subst hk1
  generalize hL : (hi (n / 128)).length = L at *
  unfold putL
  rw [hr]
  apply List.ext_getElem
  · simp [arrU]
  · intro p h1 h2
    have hp : p < L + 1 := by simpa [arrU] using h1
    rw [List.getElem_set]
    split
    · rename_i h
      have : p = L := by omega
      subst this
      rw [List.getElem_append_right (by simp)]
      simp
    · rename_i h
      have hpL : p < L := by omega
      rw [List.getElem_append_left (by simpa using hpL)]
      simp only [arrU, List.getElem_map, List.getElem_range]
      rw [if_pos (by omega), show L + 1 - 1 - p = (L - 1 - p) + 1 by omega, Nat.pow_succ, Nat.mul_comm, ← Nat.div_div_eq_div_mul]
theorem arrU_cleared (n k : Nat) (hk : 1 ≤ k) : (arrU n k k)[k - 1]? = some (UInt8.ofNat (n % 128 + 128)) := by
  rw [List.getElem?_eq_getElem (by rw [arrU_length]; omega)]
  simp only [arrU, List.getElem_map, List.getElem_range]
  rw [if_pos (by omega), show k - 1 - (k - 1) = 0 by omega]
  simp

/-! Get -/
def getF : Nat → Nat → List UInt8 → Option (Nat × Nat)
  | _, _, [] => none
  | i, n, c :: r =>
    if i = 10 ∨ (i = 9 ∧ 0 < n / 144115188075855872) ∨ (i = 0 ∧ c.toNat = 128) then none
    else if c.toNat < 128 then some (n * 128 + c.toNat % 128, i + 1) else getF (i + 1) (n * 128 + c.toNat % 128) r
def getR (bs : List UInt8) : Option (Nat × Nat) := getF 0 0 bs

theorem u8_ofNat_toNat (x : Nat) (h : x < 256) : (UInt8.ofNat x).toNat = x := by simp [Nat.mod_eq_of_lt h]
theorem u8_of (c : UInt8) (x : Nat) (h : c.toNat = x) : UInt8.ofNat x = c := by subst h; simp

theorem getF_hi (m : Nat) (rest : List UInt8) (h : (hi m).length ≤ 9) : getF 0 0 (hi m ++ rest) = getF (hi m).length m rest := by
  induction m using Nat.strongRecOn generalizing rest with
  | _ m ih =>
    by_cases h0 : m = 0
    · subst h0; simp [hi_zero]
    · have e := hi_pos h0
      have hl : (hi m).length = (hi (m / 128)).length + 1 := by rw [e]; simp
      have hb : (UInt8.ofNat (m % 128 + 128)).toNat = m % 128 + 128 := u8_ofNat_toNat _ (by omega)
      rw [hl]
      conv => lhs; rw [e, List.append_assoc, ih (m / 128) (by omega) _ (by omega)]
      rw [List.singleton_append, getF, hb, if_neg, if_neg (by omega), show m / 128 * 128 + (m % 128 + 128) % 128 = m by omega]
      rintro (h1 | ⟨h1, _⟩ | ⟨h1, h2⟩)
      · omega
      · omega
      · have := hi_length_eq_zero h1
        omega

theorem getR_put (n : Nat) (x : List UInt8) (h : n < 18446744073709551616) : getR (putL n ++ x) = some (n, (putL n).length) := by
  have hl := putL_le n h
  rw [putL_length] at hl
  have hb : (UInt8.ofNat (n % 128)).toNat = n % 128 := u8_ofNat_toNat _ (by omega)
  unfold getR
  conv => lhs; rw [putL, List.append_assoc, getF_hi _ _ (by omega)]
  rw [List.singleton_append, getF, hb, if_neg, if_pos (by omega), putL_length, show n / 128 * 128 + n % 128 % 128 = n by omega]
  rintro (h1 | ⟨h1, h2⟩ | ⟨h1, h2⟩)
  · omega
  · omega
  · omega

theorem getF_some : ∀ (r : List UInt8) (i a n u : Nat), (hi a).length = i → i ≤ 10 → getF i a r = some (n, u) →
    n < 18446744073709551616 ∧ i < u ∧ u ≤ i + r.length ∧ u ≤ 10 ∧ putL n = (hi a ++ r).take u
  | [], i, a, n, u, _, _, h => by simp [getF] at h
  | c :: r, i, a, n, u, hi_, h10, h => by
    have hc : c.toNat < 256 := c.toNat_lt
    rw [getF] at h
    split at h
    · cases h
    rename_i hno
    have ha := lt_hi i a (by omega)
    split at h
    · rename_i hlt
      simp only [Option.some.injEq, Prod.mk.injEq] at h
      obtain ⟨rfl, rfl⟩ := h
      refine ⟨?_, by omega, by simp <;> omega, by omega, ?_⟩
      · have h9 : (128 : Nat) ^ 9 = 9223372036854775808 := by decide
        rcases Nat.lt_or_ge i 9 with h8 | h8
        · have : (128 : Nat) ^ i ≤ 128 ^ 8 := Nat.pow_le_pow_right (by omega) (by omega)
          have h8' : (128 : Nat) ^ 8 = 72057594037927936 := by decide
          omega
        · omega
      · unfold putL
        rw [show (a * 128 + c.toNat % 128) / 128 = a by omega, show (a * 128 + c.toNat % 128) % 128 = c.toNat by omega, u8_of c _ rfl]
        rw [show hi a ++ c :: r = (hi a ++ [c]) ++ r by simp, List.take_left' (by simp <;> omega)]
    · rename_i hge
      have e : hi (a * 128 + c.toNat % 128) = hi a ++ [c] := by
        have hne : a * 128 + c.toNat % 128 ≠ 0 := by
          intro h0
          have a0 : a = 0 := by omega
          subst a0
          rw [hi_zero] at hi_
          simp at hi_
          omega
        rw [hi_pos hne, show (a * 128 + c.toNat % 128) / 128 = a by omega, show (a * 128 + c.toNat % 128) % 128 + 128 = c.toNat by omega, u8_of c _ rfl]
      have := getF_some r (i + 1) _ n u (by rw [e]; simp; omega) (by omega) h
      rw [e] at this
      obtain ⟨h1, h2, h3, h4, h5⟩ := this
      exact ⟨h1, by omega, by simp <;> omega, h4, by simpa using h5⟩

theorem getR_some {x : List UInt8} {n u : Nat} (h : getR x = some (n, u)) : n < 18446744073709551616 ∧ 0 < u ∧ u ≤ x.length ∧ u ≤ 10 ∧ putL n = x.take u := by
  have := getF_some x 0 0 n u (by simp [hi_zero]) (by omega) h
  simpa [hi_zero] using this

/-- One number alone begins a text. -/
theorem putL_prefix {n m : Nat} {x y : List UInt8} (hn : n < 18446744073709551616) (hm : m < 18446744073709551616) (h : putL n ++ x = putL m ++ y) : n = m := by
  have h1 := getR_put n x hn
  rw [h, getR_put m y hm] at h1
  simp only [Option.some.injEq, Prod.mk.injEq] at h1
  exact h1.1.symm

/-! The reference's Get -/
def rgetF : Nat → Nat → List UInt8 → List UInt8 → Option (Nat × Nat)
  | _, _, _, [] => none
  | i, n, p, c :: r =>
    if 10 ≤ i then none
    else if c.toNat < 128 then (if putL ((128 * n + c.toNat % 128) % 18446744073709551616) = p ++ [c] then some ((128 * n + c.toNat % 128) % 18446744073709551616, i + 1) else none)
    else rgetF (i + 1) ((128 * n + c.toNat % 128) % 18446744073709551616) (p ++ [c]) r
def rgetR (bs : List UInt8) : Option (Nat × Nat) := rgetF 0 0 [] bs

theorem rgetF_some : ∀ (r : List UInt8) (i a : Nat) (p : List UInt8) (n u : Nat), p.length = i → rgetF i a p r = some (n, u) →
    n < 18446744073709551616 ∧ u ≤ i + r.length ∧ putL n = (p ++ r).take u ∧ u = (putL n).length
  | [], _, _, _, _, _, _, h => by simp [rgetF] at h
  | c :: r, i, a, p, n, u, hp, h => by
    rw [rgetF] at h
    split at h
    · cases h
    split at h
    · split at h
      · rename_i hlt he
        simp only [Option.some.injEq, Prod.mk.injEq] at h
        obtain ⟨rfl, rfl⟩ := h
        refine ⟨Nat.mod_lt _ (by omega), by simp <;> omega, ?_, by rw [he]; simp [hp]⟩
        rw [he, show p ++ c :: r = (p ++ [c]) ++ r by simp, List.take_left' (by simp [hp])]
      · cases h
    · have := rgetF_some r (i + 1) _ (p ++ [c]) n u (by simp [hp]) h
      obtain ⟨h1, h2, h3, h4⟩ := this
      exact ⟨h1, by simp <;> omega, by simpa using h3, h4⟩

theorem rgetF_hi (m : Nat) (hm : m < 18446744073709551616) (rest : List UInt8) (h : (hi m).length ≤ 9) : rgetF 0 0 [] (hi m ++ rest) = rgetF (hi m).length m (hi m) rest := by
  induction m using Nat.strongRecOn generalizing rest with
  | _ m ih =>
    by_cases h0 : m = 0
    · subst h0; simp [hi_zero]
    · have e := hi_pos h0
      have hl : (hi m).length = (hi (m / 128)).length + 1 := by rw [e]; simp
      have hb : (UInt8.ofNat (m % 128 + 128)).toNat = m % 128 + 128 := u8_ofNat_toNat _ (by omega)
      rw [hl]
      conv => lhs; rw [e, List.append_assoc, ih (m / 128) (by omega) (by omega) _ (by omega)]
      rw [List.singleton_append, rgetF, hb, if_neg (by omega), if_neg (by omega), show (128 * (m / 128) + (m % 128 + 128) % 128) % 18446744073709551616 = m by omega, ← e]

theorem rgetR_put (n : Nat) (x : List UInt8) (h : n < 18446744073709551616) : rgetR (putL n ++ x) = some (n, (putL n).length) := by
  have hl := putL_le n h
  rw [putL_length] at hl
  have hb : (UInt8.ofNat (n % 128)).toNat = n % 128 := u8_ofNat_toNat _ (by omega)
  unfold rgetR
  conv => lhs; rw [putL, List.append_assoc, rgetF_hi _ (by omega) _ (by omega)]
  have e : (128 * (n / 128) + n % 128 % 128) % 18446744073709551616 = n := by omega
  rw [List.singleton_append, rgetF, hb, if_neg (by omega), if_pos (by omega), e, if_pos (by rfl), putL_length]

theorem rget_eq (x : List UInt8) : rgetR x = getR x := by
  cases h : rgetR x with
  | some q =>
    obtain ⟨n, u⟩ := q
    obtain ⟨h1, h2, h3, h4⟩ := rgetF_some x 0 0 [] n u rfl h
    simp only [List.nil_append] at h3
    have : x = putL n ++ x.drop u := by rw [h3, List.take_append_drop]
    rw [this, getR_put n _ h1, h4]
  | none =>
    cases h2 : getR x with
    | none => rfl
    | some q =>
      obtain ⟨n, u⟩ := q
      obtain ⟨k1, k2, k3, k4, k5⟩ := getR_some h2
      have : x = putL n ++ x.drop u := by rw [k5, List.take_append_drop]
      rw [this, rgetR_put n _ k1] at h
      cases h

end Go.Proofs.Ytgckgbonhbabpaa
