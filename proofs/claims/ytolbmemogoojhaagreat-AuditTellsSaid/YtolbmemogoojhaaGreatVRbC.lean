/- The document's books: a record more. -/
import Derived.Test.YtolbmemogoojhaaGreatVRbB
namespace Go.Proofs.YtolbmemogoojhaaGreat
open Go Go.RowKit Go.Deep
set_option linter.unusedVariables false
set_option linter.unusedSimpArgs false
set_option maxRecDepth 100000
theorem St.rowSliceR {w : World} {e : TypeId} {size n : Nat} {v : Value} {cs : List Value} (h : (Res.row e size v n cs).holds w) : ∃ a n c, v = .slice a n c := by
  obtain ⟨_, ⟨rfl, _⟩ | ⟨g, cap, cur, rfl, _⟩⟩ := h
  · exact ⟨_, _, _, rfl⟩
  · exact ⟨_, _, _, rfl⟩
def MadeV (W0 : World) (r : RD) (W : World) (v : Value) : Prop := ∃ sv s', v = sv ∧ s'.oneCell' = true ∧ Row W 19 sv 1 (recsL [(r, s')]) ∧ (Res.row 82 4 s' r.f.length (fieldsL r.f)).holds W ∧ ∀ b, (Res.row 82 4 s' r.f.length (fieldsL r.f)).foot b → W0.heap.size ≤ b
theorem MadeV.keep {W0 : World} {r : RD} (w w' : World) (v : Value) (hb : Below w.heap.size w w') (h : MadeV W0 r w v) : MadeV W0 r w' v := by
  obtain ⟨sv, s, e, h0, h1, h2, h3⟩ := h
  exact ⟨sv, s, e, h0, Row.below h1 hb, Res.keep h2 hb, h3⟩
def NewRc (W0 : World) (W : World) (v : Value) : Prop := ∃ k, v = .pointer (some ⟨k, 0, none⟩) ∧ (Res.rc k noRD (.slice none 0 0)).holds W ∧ W0.heap.size ≤ k
theorem NewRc.keep {W0 : World} (w w' : World) (v : Value) (hb : Below w.heap.size w w') (h : NewRc W0 w v) : NewRc W0 w' v := by
  obtain ⟨k, e, h1, h2⟩ := h
  exact ⟨k, e, Res.keep h1 hb, h2⟩
theorem St.bothR {w0 w w' : World} {Γ : List Res} {s : Value} {n : Nat} {cs : List Value} {k : Nat} {r : RD} {z : Value} (H : St w0 w Γ) (hb : Below w.heap.size w w') (h : (Res.row 82 4 s n cs).holds w') (hf : ∀ b, (Res.row 82 4 s n cs).foot b → w.heap.size ≤ b) (hk : (Res.rc k r z).holds w') (hkb : w.heap.size ≤ k) :
    St w0 w' (Res.rc k r z :: Res.row 82 4 s n cs :: Γ) := by
  refine H.comp (Δ := [_, _]) ⟨hb, fun x hx b hb2 => ?_, fun x hx => ?_, ?_⟩
  · rcases List.mem_cons.1 hx with rfl | hx
    · cases hb2; exact hkb
    · rw [List.mem_singleton.1 hx] at hb2; exact hf b hb2
  · rcases List.mem_cons.1 hx with rfl | hx
    · exact hk
    · rw [List.mem_singleton.1 hx]; exact h
  · refine List.Pairwise.cons (fun x hx b hb2 => ?_) (List.pairwise_singleton _ _)
    rw [List.mem_singleton.1 hx]
    cases hb2
    intro hf2
    obtain ⟨_, ⟨rfl, _⟩ | ⟨g, cap, cur, rfl, _, hg, _⟩⟩ := h
    · cases hf2
    · cases hf2
      have h1 := hk.1
      unfold Blk at h1
      rw [hg] at h1
      simp at h1
/-- How far it is. -/
def PInv (m : BK) (r : RD) (j : Nat) (dn : Bool) (L : RS) : Prop := (dn = false ∧ bPut m r = L.map (·.1) ++ bPut (m.drop j) r) ∨ (dn = true ∧ bPut m r = L.map (·.1) ++ m.drop j ∧ ∀ x ∈ m.drop j, r.id < x.id)
theorem asc_drop : ∀ {m : BK} (j : Nat), Asc m → Asc (m.drop j)
  | m, 0, h => h
  | [], _ + 1, _ => trivial
  | x :: m, j + 1, h => asc_drop j h.2
theorem PInv.fresh {m : BK} {r : RD} {j : Nat} {L : RS} {y : RD} {s sy : Value} (ha : Asc m) (hy : m[j]? = some y) (h : PInv m r j false L) (hlt : r.id < y.id) : PInv m r (j + 1) true ((L ++ [(r, s)]) ++ [(y, sy)]) := by
  rcases h with ⟨_, h⟩ | ⟨h, _⟩
  · have hd := asc_drop j ha
    rw [drop_at hy] at h hd
    rw [bPut, if_pos hlt] at h
    exact .inr ⟨rfl, by rw [h]; simp, fun x hx => idl_trans hlt (hd.1 x hx)⟩
  · cases h
theorem PInv.join {m : BK} {r : RD} {j : Nat} {L : RS} {y : RD} {s : Value} (ha : Asc m) (hy : m[j]? = some y) (h : PInv m r j false L) (he : y.id = r.id) : PInv m r (j + 1) true (L ++ [(rJoin y r, s)]) := by
  rcases h with ⟨_, h⟩ | ⟨h, _⟩
  · have hd := asc_drop j ha
    rw [drop_at hy] at h hd
    rw [bPut, if_neg (by rw [he]; exact idl_irrefl _), if_pos he] at h
    exact .inr ⟨rfl, by rw [h]; simp, fun x hx => by rw [← he]; exact hd.1 x hx⟩
  · cases h
theorem PInv.next {m : BK} {r : RD} {j : Nat} {L : RS} {y : RD} {sy : Value} (hy : m[j]? = some y) (h : PInv m r j false L) (hn : ¬ r.id < y.id) (he : ¬ y.id = r.id) : PInv m r (j + 1) false (L ++ [(y, sy)]) := by
  rcases h with ⟨_, h⟩ | ⟨h, _⟩
  · rw [drop_at hy, bPut, if_neg hn, if_neg he] at h
    exact .inl ⟨rfl, by rw [h]; simp⟩
  · cases h
theorem PInv.done {m : BK} {r : RD} {j : Nat} {L : RS} {y : RD} {sy : Value} (hy : m[j]? = some y) (h : PInv m r j true L) : r.id < y.id ∧ PInv m r (j + 1) true (L ++ [(y, sy)]) := by
  rcases h with ⟨h, _⟩ | ⟨_, h, k⟩
  · cases h
  · rw [drop_at hy] at h k
    exact ⟨k y mH, .inr ⟨rfl, by rw [h]; simp, fun x hx => k x (mT _ hx)⟩⟩
def LOk (R : Res) (L : RS) : Prop := (∀ p ∈ L, p.1.ok ∧ p.2.oneCell' = true) ∧ ∀ W, R.holds W → ∀ p ∈ L, Flds W p.2 p.1.f
theorem LOk.more {R : Res} {L : RS} {r : RD} {s : Value} (h : LOk R L) (hok : r.ok) (hs : s.oneCell' = true) : LOk ((Res.row 82 4 s r.f.length (fieldsL r.f)).and R) (L ++ [(r, s)]) := by
  refine ⟨fun p hp => ?_, fun W hW p hp => ?_⟩
  · rcases List.mem_append.1 hp with hp | hp
    · exact h.1 p hp
    · rw [List.mem_singleton.1 hp]; exact ⟨hok, hs⟩
  · rcases List.mem_append.1 hp with hp | hp
    · exact h.2 W hW.2 p hp
    · rw [List.mem_singleton.1 hp]; exact Res.row_reads hW.1
theorem LOk.recs {R : Res} {L : RS} {v : Value} {m : BK} (h : LOk R L) (e : m = L.map (·.1)) (W : World) (hW : (R.and (Res.row 33 19 v L.length (recsL L))).holds W) : Recs W v m :=
  ⟨L, e.symm, Res.row_reads hW.2, fun p hp => ⟨(h.1 p hp).1, h.2 W hW.1 p hp⟩⟩
end Go.Proofs.YtolbmemogoojhaaGreat
