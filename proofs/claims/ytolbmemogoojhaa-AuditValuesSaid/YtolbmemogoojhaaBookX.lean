/- The plain laws of BookNew and BookKills. No program. -/
import Derived.Test.YtolbmemogoojhaaBookW
namespace Go.Proofs.Ytolbmemogoojhaa
open Go Go.RowKit Go.Deep
set_option linter.unusedVariables false
set_option linter.unusedSimpArgs false
set_option maxRecDepth 100000
theorem stl_trans {a b c d e f : Int} (h : stLess a b c d = true) (k : stLess c d e f = true) : stLess a b e f = true := by rw [stl] at *; omega
/-- Below or even. -/
theorem stl_le {a b c d e f : Int} (h : stLess c d a b = false) (k : stLess c d e f = true) : stLess a b e f = true := by rw [stl] at *; rw [stl_f] at h; omega
theorem stl_lef {a b c d e f : Int} (h : stLess c d a b = false) (k : stLess e f c d = false) : stLess e f a b = false := by rw [stl_f] at *; omega
theorem fLast_ge : ∀ (l : List F4) (p : Int × Int), stLess (fLast p l).1 (fLast p l).2 p.1 p.2 = false ∧ ∀ f ∈ l, stLess (fLast p l).1 (fLast p l).2 f.2.1 f.2.2.1 = false
  | [], p => ⟨by rw [stl_f]; show ¬ _; simp only [fLast, List.foldl_nil]; omega, fun f hf => (List.not_mem_nil hf).elim⟩
  | g :: l, p => by
    have ih := fLast_ge l (sMx p g.2.1 g.2.2.1)
    have e : fLast p (g :: l) = fLast (sMx p g.2.1 g.2.2.1) l := rfl
    rw [e]
    have h1 : stLess (sMx p g.2.1 g.2.2.1).1 (sMx p g.2.1 g.2.2.1).2 p.1 p.2 = false := mx_ge1 _ _ _ _
    have h2 : stLess (sMx p g.2.1 g.2.2.1).1 (sMx p g.2.1 g.2.2.1).2 g.2.1 g.2.2.1 = false := mx_ge2 _ _ _ _
    refine ⟨stl_lef h1 ih.1, fun f hf => ?_⟩
    rcases List.mem_cons.1 hf with rfl | hf
    · exact stl_lef h2 ih.1
    · exact ih.2 f hf
theorem rLast_ge (r : RD) (p : Int × Int) : stLess (rLast p r).1 (rLast p r).2 p.1 p.2 = false ∧ stLess (rLast p r).1 (rLast p r).2 r.N r.R = false ∧ ∀ f ∈ r.f, stLess (rLast p r).1 (rLast p r).2 f.2.1 f.2.2.1 = false := by
  have h := fLast_ge r.f (sMx p r.N r.R)
  have h1 : stLess (sMx p r.N r.R).1 (sMx p r.N r.R).2 p.1 p.2 = false := mx_ge1 _ _ _ _
  have h2 : stLess (sMx p r.N r.R).1 (sMx p r.N r.R).2 r.N r.R = false := mx_ge2 _ _ _ _
  exact ⟨stl_lef h1 h.1, stl_lef h2 h.1, h.2⟩
theorem bLast_ge' : ∀ (L : BK) (p : Int × Int), stLess (L.foldl rLast p).1 (L.foldl rLast p).2 p.1 p.2 = false ∧ ∀ r ∈ L, stLess (L.foldl rLast p).1 (L.foldl rLast p).2 r.N r.R = false ∧ ∀ f ∈ r.f, stLess (L.foldl rLast p).1 (L.foldl rLast p).2 f.2.1 f.2.2.1 = false
  | [], p => ⟨by rw [stl_f]; show ¬ _; simp only [List.foldl_nil]; omega, fun r hr => (List.not_mem_nil hr).elim⟩
  | x :: L, p => by
    have ih := bLast_ge' L (rLast p x)
    have e : (x :: L).foldl rLast p = L.foldl rLast (rLast p x) := rfl
    rw [e]
    obtain ⟨h1, h2, h3⟩ := rLast_ge x p
    refine ⟨stl_lef h1 ih.1, fun r hr => ?_⟩
    rcases List.mem_cons.1 hr with rfl | hr
    · exact ⟨stl_lef h2 ih.1, fun f hf => stl_lef (h3 f hf) ih.1⟩
    · exact ih.2 r hr
theorem bLast_ge (L : BK) : stLess (bLast L).1 (bLast L).2 0 0 = false ∧ ∀ r ∈ L, stLess (bLast L).1 (bLast L).2 r.N r.R = false ∧ ∀ f ∈ r.f, stLess (bLast L).1 (bLast L).2 f.2.1 f.2.2.1 = false := bLast_ge' L (0, 0)
/-- The next stamp is greater than all. -/
def Over (L : BK) (N R : Int) : Prop := stLess 0 0 N R = true ∧ ∀ r ∈ L, stLess r.N r.R N R = true ∧ ∀ f ∈ r.f, stLess f.2.1 f.2.2.1 N R = true
theorem next_over {L : BK} {rep N R c : Int} (h : stNext (bLast L).1 (bLast L).2 rep = (N, R, c)) (hc : c = 0) : Over L N R ∧ R = rep ∧ stMay N R = true := by
  unfold stNext at h
  subst hc
  split at h
  · rename_i hm
    split at h
    · cases h
    · rename_i hn
      have e1 : (bLast L).1 + 1 = N := congrArg Prod.fst h
      have e2 : rep = R := congrArg (fun p => p.2.1) h
      have hl : stLess (bLast L).1 (bLast L).2 N R = true := by rw [stl]; omega
      obtain ⟨g1, g2⟩ := bLast_ge L
      refine ⟨⟨stl_le g1 hl, fun r hr => ⟨stl_le (g2 r hr).1 hl, fun f hf => stl_le ((g2 r hr).2 f hf) hl⟩⟩, e2.symm, ?_⟩
      have := stMay_le hm.1
      rw [← e1, ← e2, stMay_next _ _ this.1 this.2.1 hm.2.1 hm.2.2]
      simp [hn]
  · cases h
theorem bWithP_err {L : BK} {rep : Int} {x : Int → Int → RD} {d : Int} {J : BK} (h : bWithP L rep x = (d, J)) : d = 0 ∨ ((d = 1 ∨ d = 4) ∧ J = []) := by
  unfold bWithP at h
  dsimp only at h
  have e1 := congrArg Prod.fst h
  have e2 := congrArg Prod.snd h
  dsimp only at e1 e2
  by_cases hc : (stNext (bLast L).1 (bLast L).2 rep).2.2 = 0
  · rw [if_pos hc] at e1 e2
    by_cases hd : d = 0
    · exact .inl hd
    · right
      constructor
      · rw [← e1] at hd ⊢
        unfold bCan at hd ⊢
        split
        · rename_i h1
          rw [if_pos h1] at hd
          split
          · rename_i h2; rw [if_pos h2] at hd; exact absurd rfl hd
          · exact .inr rfl
        · exact .inl rfl
      · rw [← e2]; unfold bJ; rw [if_neg (by rw [e1]; exact hd)]
  · rw [if_neg hc] at e1 e2
    right
    refine ⟨?_, e2.symm⟩
    rw [← e1]
    unfold stNext at hc ⊢
    split
    · split
      · exact .inr rfl
      · rename_i h1 h2; rw [if_pos h1, if_neg h2] at hc; exact absurd rfl hc
    · exact .inl rfl
theorem bWithP_ok {L : BK} {rep : Int} {x : Int → Int → RD} {J : BK} (h : bWithP L rep x = (0, J)) : ∃ N R, Over L N R ∧ R = rep ∧ stMay N R = true ∧ bCan L [x N R] = 0 ∧ J = bJ L [x N R] := by
  unfold bWithP at h
  dsimp only at h
  have e1 := congrArg Prod.fst h
  have e2 := congrArg Prod.snd h
  dsimp only at e1 e2
  obtain ⟨⟨N, R, c⟩, hn⟩ : ∃ p, stNext (bLast L).1 (bLast L).2 rep = p := ⟨_, rfl⟩
  rw [hn] at e1 e2
  dsimp only at e1 e2
  by_cases hc : c = 0
  · rw [if_pos hc] at e1 e2
    obtain ⟨h1, h2, h3⟩ := next_over hn hc
    exact ⟨N, R, h1, h2, h3, e1, e2.symm⟩
  · rw [if_neg hc] at e1
    exact absurd e1 hc
theorem bWrite_err {L : BK} {key : IDK} {no rep : Int} {v : ByteArray} {d : Int} {J : BK} (h : bWrite L key no rep v = (d, J)) (hd : d ≠ 0) : J = [] := by
  unfold bWrite at h
  split at h
  · rcases bWithP_err h with h | h
    · exact absurd h hd
    · exact h.2
  · cases h; rfl
theorem bWrite_ok {L : BK} {key : IDK} {no rep : Int} {v : ByteArray} {J : BK} (h : bWrite L key no rep v = (0, J)) : bMay L = true ∧ ∃ N R, Over L N R ∧ R = rep ∧ bCan L [rW key no v N R] = 0 ∧ J = bJ L [rW key no v N R] := by
  unfold bWrite at h
  split at h
  · rename_i hm
    obtain ⟨N, R, h1, h2, _, h3, h4⟩ := bWithP_ok h
    exact ⟨hm.1, N, R, h1, h2, h3, h4⟩
  · cases h
theorem mx_lt {a b c d : Int} (h : stLess a b c d = true) : mxN a b c d = c ∧ mxR a b c d = d := by unfold mxN mxR; rw [h]; exact ⟨rfl, rfl⟩
theorem mx_ge {a b c d : Int} (h : stLess a b c d = false) : mxN a b c d = a ∧ mxR a b c d = b := by unfold mxN mxR; rw [h]; exact ⟨rfl, rfl⟩
theorem cL_of {a b : C3} (h : stLess a.1 a.2.1 b.1 b.2.1 = true) : cL a b = true := by
  refine (cLess_iff _ _ _ _ _ _).2 (.inl ?_)
  exact (stl _ _ _ _).1 h
theorem cJ_of {a b : C3} (h : stLess a.1 a.2.1 b.1 b.2.1 = true) : cJ a b = b := cJ_right (cL_of h)
/-- A value more: the record of the name is there, and its cell. -/
theorem write_finds {L : BK} {key : IDK} {no N R : Int} {v : ByteArray} (hL : bMay L = true) (ho : Over L N R) (hc : bCan L [rW key no v N R] = 0) :
    ∃ z, bFind (bJ L [rW key no v N R]) key.1 = some z ∧ fFind z.f no = some (N, R, v) ∧ ((∀ y, bFind L key.1 = some y → y.f = [] → z.N = y.N ∧ z.R = y.R ∧ z.f = [(no, N, R, v)])) := by
  obtain ⟨x, hx⟩ : ∃ x, rW key no v N R = x := ⟨_, rfl⟩
  have xi : x.id = key.1 := by rw [← hx]; rfl
  have xN : x.N = 0 := by rw [← hx]; rfl
  have xR : x.R = 0 := by rw [← hx]; rfl
  have xf : x.f = [(no, N, R, v)] := by rw [← hx]; rfl
  have xff : ∀ k, fFind x.f k = if no = k then some (N, R, v) else none := fun k => by rw [xf]; rfl
  rw [hx] at hc ⊢
  have hb := bJ_find hc key.1
  have hfx : bFind [x] key.1 = some x := by unfold bFind; rw [if_pos xi]
  rw [hfx] at hb
  have hmx : rMay x = true := (bMay_iff.1 (bCan_ok.1 hc).2.1).1.2 x List.mem_cons_self
  cases hy : bFind L key.1 with
  | none =>
    rw [hy] at hb
    exact ⟨x, hb, by rw [xff, if_pos rfl], (fun y h => by cases h)⟩
  | some y =>
    rw [hy] at hb
    refine ⟨rBoth y x, hb, ?_⟩
    obtain ⟨my, iy⟩ := find_good (bMay_iff.1 hL).1 hy
    have ym := (bFind_mem hy).1
    obtain ⟨o1, o2⟩ := ho.2 y ym
    have hyN : (rBoth y x).N = y.N ∧ (rBoth y x).R = y.R := by
      have hge : stLess y.N y.R x.N x.R = false := by
        rw [xN, xR, stl_f]
        have := stMay_ge (rMay_iff.1 my).1
        omega
      exact mx_ge hge
    have hlv : stLess (rBoth y x).N (rBoth y x).R N R = true := by rw [hyN.1, hyN.2]; exact o1
    constructor
    · rw [both_find my hmx, xff, if_pos rfl]
      cases hu : fFind y.f no with
      | none => exact live_some hlv
      | some u =>
        show live _ _ (some (cJ u (N, R, v))) = _
        rw [cJ_of (a := u) (b := (N, R, v)) (o2 _ (fFind_mem hu))]
        exact live_some hlv
    · rintro y' h1 hyf
      cases h1
      refine ⟨hyN.1, hyN.2, ?_⟩
      rw [← xf]
      refine asc_ext (both_asc _ _) (rMay_asc hmx) fun k => ?_
      rw [both_find my hmx, hyf, xff]
      show live _ _ (if no = k then some (N, R, v) else none) = _
      split
      · exact live_some hlv
      · rfl
theorem new_law {L : BK} {key : IDK} {no rep : Int} {v : ByteArray} {J : BK} (h : bWrite L key no rep v = (0, J)) :
    ∃ z N, bFind J key.1 = some z ∧ fFind z.f no = some (N, rep, v) ∧ bLeq L J = true ∧ bMay J = true ∧ Over L N rep := by
  obtain ⟨hm, N, R, ho, rfl, hc, rfl⟩ := bWrite_ok h
  obtain ⟨z, h1, h2, _⟩ := write_finds hm ho hc
  exact ⟨z, N, h1, h2, by rw [bBoth_eq hc]; exact bLeq_both1 hc, bJ_may hc, ho⟩
theorem bKill_ok {L : BK} {key : IDK} {rep : Int} {J : BK} (h : bKill L key rep = (0, J)) : bMay L = true ∧ (bFindP L key.1).2 = true ∧ ∃ N R, Over L N R ∧ bCan L [rK key N R] = 0 ∧ J = bJ L [rK key N R] := by
  unfold bKill at h
  split at h
  · rename_i hm
    split at h
    · rename_i hf
      obtain ⟨N, R, h1, h2, _, h3, h4⟩ := bWithP_ok h
      exact ⟨hm.1, hf, N, R, h1, h3, h4⟩
    · cases h
  · cases h
theorem bKill_err {L : BK} {key : IDK} {rep : Int} {d : Int} {J : BK} (h : bKill L key rep = (d, J)) (hd : d ≠ 0) : J = [] ∧ (d = 6 → bFindP L key.1 = (noRD, false)) := by
  unfold bKill at h
  split at h
  · split at h
    · rcases bWithP_err h with h | h
      · exact absurd h hd
      · exact ⟨h.2, by omega⟩
    · rename_i hf
      cases h
      refine ⟨rfl, fun _ => ?_⟩
      unfold bFindP at hf ⊢
      split
      · rename_i r hr; rw [hr] at hf; exact absurd rfl hf
      · rfl
  · cases h; exact ⟨rfl, by omega⟩
theorem bPut_lenf {l : BK} {r y : RD} (hl : Asc l) (hy : bFind l r.id = some y) : (bPut l r).length = l.length := by
  induction l with
  | nil => cases hy
  | cons x l ih =>
    unfold bFind at hy
    unfold bPut
    split at hy
    · rename_i hx
      rw [if_neg (by rw [hx]; exact idl_irrefl _), if_pos hx]; rfl
    · rename_i hx
      have hm := bFind_mem hy
      have hlt := hl.1 y hm.1
      rw [hm.2] at hlt
      rw [if_neg (idl_asymm hlt), if_neg hx]
      simp only [List.length_cons, ih hl.2 hy]
theorem kill_law {L : BK} {key : IDK} {rep : Int} {J : BK} (h : bKill L key rep = (0, J)) :
    ∃ y z, bFind L key.1 = some y ∧ bFind J key.1 = some z ∧ z.f = [] ∧ stLess y.N y.R z.N z.R = true ∧ bLeq L J = true ∧ bMay J = true ∧ J.length = L.length := by
  obtain ⟨hm, hf, N, R, ho, hc, rfl⟩ := bKill_ok h
  obtain ⟨y, hy⟩ : ∃ y, bFind L key.1 = some y := by
    unfold bFindP at hf
    split at hf
    · rename_i r hr; exact ⟨r, hr⟩
    · cases hf
  obtain ⟨x, hx⟩ : ∃ x, rK key N R = x := ⟨_, rfl⟩
  have xi : x.id = key.1 := by rw [← hx]; rfl
  have xN : x.N = N := by rw [← hx]; rfl
  have xR : x.R = R := by rw [← hx]; rfl
  have xf : x.f = [] := by rw [← hx]; rfl
  rw [hx] at hc ⊢
  have hb := bJ_find hc key.1
  have hfx : bFind [x] key.1 = some x := by unfold bFind; rw [if_pos xi]
  rw [hfx, hy] at hb
  have hmx : rMay x = true := (bMay_iff.1 (bCan_ok.1 hc).2.1).1.2 x List.mem_cons_self
  obtain ⟨my, iy⟩ := find_good (bMay_iff.1 hm).1 hy
  obtain ⟨o1, o2⟩ := ho.2 y (bFind_mem hy).1
  have hlt : stLess y.N y.R x.N x.R = true := by rw [xN, xR]; exact o1
  have hyN : (rBoth y x).N = x.N ∧ (rBoth y x).R = x.R := mx_lt hlt
  refine ⟨y, rBoth y x, hy, hb, ?_, ?_, by rw [bBoth_eq hc]; exact bLeq_both1 hc, bJ_may hc, ?_⟩
  · rw [← xf]
    refine asc_ext (both_asc _ _) (rMay_asc hmx) fun k => ?_
    rw [both_find my hmx, xf]
    show live _ _ (comb _ none) = none
    rw [comb_none, hyN.1, hyN.2, xN, xR]
    cases hu : fFind y.f k with
    | none => rfl
    | some u =>
      have := o2 _ (fFind_mem hu)
      refine live_dead ?_
      dsimp only at this
      rw [stl] at this; rw [stl_f]; omega
  · rw [hyN.1, hyN.2]; exact hlt
  · rw [bBoth_eq hc]
    unfold bBoth
    rw [bPuts_nil (bMay_iff.1 hm).1]
    exact bPut_lenf (bMay_iff.1 hm).1.1 (by rw [xi]; exact hy)
/-- What is written on what is dead is there again. -/
theorem again_law {C : BK} {key : IDK} {no rep : Int} {v : ByteArray} {D : BK} {r : RD} (h : bWrite C key no rep v = (0, D)) (hr : bFind C key.1 = some r) (hf : r.f = []) :
    ∃ z N, bFind D key.1 = some z ∧ fFind z.f no = some (N, rep, v) ∧ z.N = r.N ∧ z.R = r.R ∧ z.f.length = 1 := by
  obtain ⟨hm, N, R, ho, rfl, hc, rfl⟩ := bWrite_ok h
  obtain ⟨z, h1, h2, h3⟩ := write_finds hm ho hc
  obtain ⟨k1, k2, k3⟩ := h3 r hr hf
  exact ⟨z, N, h1, h2, k1, k2, by rw [k3]; rfl⟩
end Go.Proofs.Ytolbmemogoojhaa
