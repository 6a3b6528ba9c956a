/- A book's rows are none of the blocks that hold a book. -/
import Derived.Test.YtolbmemogoojhaaBookY
import Derived.Test.YtolbmemogoojhaaSlotsQ
namespace Go.Proofs.Ytolbmemogoojhaa
open Go Go.RowKit Go.Deep
set_option linter.unusedVariables false
set_option linter.unusedSimpArgs false
set_option maxRecDepth 100000
theorem row_but {W W' : World} {size n k : Nat} {v u : Value} {t : TypeId} {cs : List Value} (h : Row W size v n cs) (hk : Blk W k t #[u]) (h0 : cs[0]? ≠ some u) (hb : But k W W') : Row W' size v n cs := by
  obtain ⟨hl, a, c, rfl, h1, h2, h3, h4⟩ := h
  refine ⟨hl, a, c, rfl, h1, h2, h3, fun hp => ?_⟩
  obtain ⟨b, off, rfl, hc⟩ := h4 hp
  refine ⟨b, off, rfl, fun j x hj => ?_⟩
  have hx := hc j x hj
  have hne : b ≠ k := by
    rintro rfl
    obtain ⟨c0, hc0⟩ : ∃ c0, cs[0]? = some c0 := ⟨_, List.getElem?_eq_getElem hp⟩
    have := hc 0 c0 hc0
    rw [hk.cell] at this
    match off, this with
    | 0, this =>
      simp only [Nat.add_zero, List.getElem?_toArray, List.getElem?_cons_zero, Option.some.injEq] at this
      exact h0 (by rw [hc0, this])
    | off + 1, this => simp at this
  exact (hb.cell (p := ⟨b, off + j, none⟩) (World.block_lt_of_cell? W _ hx) hne).trans hx
theorem recsL_first : ∀ {l : RS} {u : Value}, (∀ p ∈ l, p.1.ok) → (∃ a n c, u = .slice a n c) → (recsL l)[0]? ≠ some u
  | [], u, _, _ => by simp [recsL]
  | p :: l, u, h, hu => by
    obtain ⟨a, n, c, rfl⟩ := hu
    obtain ⟨b0, b1, b2, b3, b4, b5, b6, b7, b8, b9, b10, b11, b12, b13, b14, b15, e⟩ := len16 (h p List.mem_cons_self)
    have : (recsL (p :: l))[0]? = some (.int .u8 b0.toNat) := by
      simp only [recsL, rA, recA, e, encU, List.map_cons]
      rfl
    rw [this]; simp
theorem fieldsL_first (l : List F4) {u : Value} (hu : ∃ a n c, u = .slice a n c) : (fieldsL l)[0]? ≠ some u := by
  obtain ⟨a, n, c, rfl⟩ := hu
  cases l with
  | nil => simp [fieldsL]
  | cons f l => simp [fieldsL]
/-- A store over a block that holds a book turns no book's rows. -/
theorem Recs.but {W W' : World} {v u : Value} {L : BK} {k : Nat} {t : TypeId} (h : Recs W v L) (hk : Blk W k t #[u]) (hu : ∃ a n c, u = .slice a n c) (hb : But k W W') : Recs W' v L := by
  obtain ⟨l, e, h1, h2⟩ := h
  exact ⟨l, e, row_but h1 hk (recsL_first (fun p hp => (h2 p hp).1) hu) hb, fun p hp => ⟨(h2 p hp).1, row_but (h2 p hp).2 hk (fieldsL_first _ hu) hb⟩⟩
section
variable {ops : Array Oper} {rest : List Oper} {a : Act} {w0 w : World} {Q : Exit → Act → World → Prop} {Γ Γ' : List Res} {dst : Option Tmp} {typ t : TypeId} {x y : Operand} {pos : String} {af : Array Edge} {gd : Option (Nat × Bool)} {b : Nat} {v v' s : Value} {L : BK}
theorem st_bkR (H : St w0 w Γ) (hR : Recs w s L) (hw : Region.wanted (⟨dst, .store 24 x y, typ, pos, af, gd⟩ : Oper) (yielded ops a.tmps) = true) (hx : a.eval x = .pointer (some ⟨b, 0, none⟩)) (hy : a.eval y = .agg #[v'])
    (u : Upd Γ (Res.blk b t #[v]) (Res.blk b t #[v']) Γ') (hv : ∃ a n c, v = .slice a n c) (h1 : v'.oneCell' = true) (h : ∀ w', St w0 w' Γ' → Recs w' s L → wpList Try.prog ops Q rest (a.put dst undef) w') : wpList Try.prog ops Q (⟨dst, .store 24 x y, typ, pos, af, gd⟩ :: rest) a w :=
  wpList_store_part hw 24 x y rfl dst rfl b 0 #[v'] hx hy t #[v] (H.holds _ u.mem) bk_info (Nat.le_refl _) (by simp [h1]) #[v'] rfl fun w' k c _ => h w' (H.upd u (Chg.of_but c) k fun _ e => .inl e) (hR.but (H.holds _ u.mem) hv c)
end
theorem Recs.isSlice {w : World} {v : Value} {L : BK} (h : Recs w v L) : ∃ a n c, v = .slice a n c := by obtain ⟨a, c, e, _⟩ := h.slice; exact ⟨a, _, c, e⟩
/-- A book that a call gave; a new variable. -/
def GaveB (f : Value → Value) (J : BK) (W : World) (v : Value) : Prop := ∃ s, v = f s ∧ Recs W s J
theorem GaveB.keep {f : Value → Value} {J : BK} (w w' : World) (v : Value) (hb : Below w.heap.size w w') (h : GaveB f J w v) : GaveB f J w' v := by
  obtain ⟨s, e, h1⟩ := h
  exact ⟨s, e, h1.below hb⟩
def NewB (W0 : World) (W : World) (v : Value) : Prop := ∃ k, v = .pointer (some ⟨k, 0, none⟩) ∧ Blk W k 24 #[.slice none 0 0] ∧ W0.heap.size ≤ k
theorem NewB.keep {W0 : World} (w w' : World) (v : Value) (hb : Below w.heap.size w w') (h : NewB W0 w v) : NewB W0 w' v := by
  obtain ⟨k, e, h1, h2⟩ := h
  exact ⟨k, e, (hb.block k h1.lt).trans h1, h2⟩
end Go.Proofs.Ytolbmemogoojhaa
