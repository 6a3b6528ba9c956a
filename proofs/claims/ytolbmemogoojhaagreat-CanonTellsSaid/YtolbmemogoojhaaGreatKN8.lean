/- What is looked through: the plain law. No program. -/
import Derived.Test.YtolbmemogoojhaaGreatKN6
namespace Go.Proofs.YtolbmemogoojhaaGreat
open Go Go.RowKit Go.Deep
set_option linter.unusedVariables false
set_option linter.unusedSimpArgs false
set_option maxRecDepth 100000
instance memDec (s : ByteArray) (l : List ByteArray) : Decidable (s ∈ l) := decidable_of_iff (l.any (fun x => decide (x = s)) = true) (by
  rw [List.any_eq_true]
  exact ⟨fun ⟨x, h1, h2⟩ => of_decide_eq_true h2 ▸ h1, fun h => ⟨s, h, decide_eq_true rfl⟩⟩)
/-! Books together. -/
end Go.Proofs.YtolbmemogoojhaaGreat
/- Texts, each once: what is kept of them. -/
namespace Go.Proofs.YtolbmemogoojhaaGreat
open Go Go.RowKit Go.Deep
set_option linter.unusedVariables false
set_option linter.unusedSimpArgs false
set_option maxRecDepth 100000
theorem row1_at {w : World} {v : Value} {n : Nat} {cs : List Value} {u : Value} {j : Nat} (h : Row w 1 v n cs) (hj : cs[j]? = some u) : ∃ b off c, v = .slice (some ⟨b, off, none⟩) n c ∧ Sub w b (off + j) #[u] := by
  obtain ⟨hl, a, c, rfl, h1, h2, h3, h4⟩ := h
  have hlt := (List.getElem?_eq_some_iff.1 hj).1
  obtain ⟨b, off, rfl, hc⟩ := h4 (by omega)
  refine ⟨b, off, c, rfl, fun k x hk => ?_⟩
  match k with
  | 0 =>
    simp only [List.getElem?_toArray, List.getElem?_cons_zero, Option.some.injEq] at hk
    subst hk
    exact hc j u hj
  | k + 1 => simp at hk
section
variable {ops : Array Oper} {rest : List Oper} {a : Act} {w0 w : World} {Q : Exit → Act → World → Prop} {Γ Γ' : List Res} {dst : Option Tmp} {ty typ t : TypeId} {x y : Operand} {pos : String} {af : Array Edge} {gd : Option (Nat × Bool)} {b : Nat} {u v v' : Value} {S : ByteArray}
end
end Go.Proofs.YtolbmemogoojhaaGreat
/- Rows of books; all values of books. -/
namespace Go.Proofs.YtolbmemogoojhaaGreat
open Go Go.RowKit Go.Deep
set_option linter.unusedVariables false
set_option linter.unusedSimpArgs false
set_option maxRecDepth 100000
/-- A slice reads as these books. -/
def Bks (w : World) (v : Value) (LL : List BK) : Prop := ∃ l : List (BK × Value), l.map (·.1) = LL ∧ Row w 1 v l.length (l.map (·.2)) ∧ ∀ p ∈ l, Recs w p.2 p.1
theorem Bks.below {w w' : World} {v : Value} {LL : List BK} (h : Bks w v LL) (hb : Below w.heap.size w w') : Bks w' v LL := by
  obtain ⟨l, e, h1, h2⟩ := h
  exact ⟨l, e, Row.below h1 hb, fun p hp => (h2 p hp).below hb⟩
theorem Bks.slice {w : World} {v : Value} {LL : List BK} (h : Bks w v LL) : ∃ a c, v = .slice a LL.length c ∧ LL.length ≤ maxLen ∧ (a = none → c = 0) := by
  obtain ⟨l, rfl, ⟨_, a, c, rfl, h1, h2, h3, _⟩, _⟩ := h
  exact ⟨a, c, by simp, by simp; omega, h3⟩
theorem Bks.at {w : World} {a : Option Addr} {n c : Nat} {LL : List BK} (h : Bks w (.slice a n c) LL) {j : Nat} {L : BK} (hj : LL[j]? = some L) :
    ∃ b off s, a = some ⟨b, off, none⟩ ∧ Sub w b (off + j) #[s] ∧ Recs w s L := by
  obtain ⟨l, rfl, hrow, h2⟩ := h
  rw [List.getElem?_map, Option.map_eq_some_iff] at hj
  obtain ⟨p, hp, rfl⟩ := hj
  obtain ⟨b, off, c', he, hs⟩ := row1_at hrow (u := p.2) (j := j) (by rw [List.getElem?_map, hp]; rfl)
  injection he with e1 e2 e3
  exact ⟨b, off, p.2, e1, hs, h2 p (List.mem_of_getElem? hp)⟩
end Go.Proofs.YtolbmemogoojhaaGreat
/- All parts of texts, of eight bytes. -/
namespace Go.Proofs.YtolbmemogoojhaaGreat
open Go Go.RowKit Go.Deep
set_option linter.unusedVariables false
set_option linter.unusedSimpArgs false
set_option maxRecDepth 100000
section
variable {ops : Array Oper} {rest : List Oper} {a : Act} {w : World} {Q : Exit → Act → World → Prop} {dst : Option Tmp} {typ t : TypeId} {x y z : Operand} {pos : String} {af : Array Edge} {v l h u : Value} {k : Int}
end
end Go.Proofs.YtolbmemogoojhaaGreat
