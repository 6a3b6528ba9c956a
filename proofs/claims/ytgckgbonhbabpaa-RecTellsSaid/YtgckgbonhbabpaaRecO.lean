/- Records: the laws of RecOnly in plain words; fields beside a record's block. -/
import Derived.Test.YtgckgbonhbabpaaRecN
namespace Go.Proofs.Ytgckgbonhbabpaa
open Go Go.RowKit Go.Deep
set_option linter.unusedVariables false
set_option linter.unusedSimpArgs false
set_option maxRecDepth 100000
theorem rA_nostr {r : RD} {s : Value} (hs : ∃ a n c, s = .slice a n c) (i : Nat) (S : ByteArray) : (rA r s)[i]? ≠ some (.string S) := by
  obtain ⟨a, n, c, rfl⟩ := hs
  intro h
  have hm : Value.string S ∈ rA r (.slice a n c) := Array.mem_of_getElem? h
  unfold rA recA at hm
  simp only [Array.mem_append, List.mem_toArray, List.mem_cons, List.not_mem_nil, or_false] at hm
  rcases hm with h | h | h | h
  · unfold encU at h
    obtain ⟨b, _, hb⟩ := List.mem_map.1 h
    cases hb
  · cases h
  · cases h
  · cases h
theorem flds_but {w w' : World} {g : Nat} {t : TypeId} {r : RD} {s0 v : Value} {l : List F4} (h : Flds w v l) (k : Blk w g t (rA r s0)) (hs : ∃ a n c, s0 = .slice a n c) (hb : But g w w') : Flds w' v l := by
  obtain ⟨hl, a, c, rfl, h1, h2, h3, h4⟩ := h
  refine ⟨hl, a, c, rfl, h1, h2, h3, fun hp => ?_⟩
  obtain ⟨b, off, rfl, hc⟩ := h4 hp
  have hne : b ≠ g := by
    rintro rfl
    cases l with
    | nil => simp [fieldsL] at hp
    | cons f l =>
      have := hc 3 (.string f.2.2.2) rfl
      rw [k.cell] at this
      exact rA_nostr hs _ _ this
  refine ⟨b, off, rfl, fun j u hj => ?_⟩
  have := hc j u hj
  rw [hb.cell (p := ⟨b, off + j, none⟩) (World.block_lt_of_cell? w _ this) hne]; exact this
theorem flds_cut {w : World} {b off n c : Nat} {l : List F4} (h : Flds w (.slice (some ⟨b, off, none⟩) n c) l) {j : Nat} {f : F4} (hj : l[j]? = some f) : Flds w (.slice (some ⟨b, off + j * 4, none⟩) 1 (c - j)) [f] := by
  obtain ⟨b', off', he, hlt, g0, g1, g2, g3⟩ := h.at hj
  simp only [Option.some.injEq, Addr.mk.injEq, and_true] at he
  obtain ⟨rfl, rfl⟩ := he
  have hjl := (List.getElem?_eq_some_iff.1 hj).1
  obtain ⟨_, a, c', he, h1, h2, _⟩ := h
  injection he with e1 e2 e3
  subst e3; subst e2
  refine ⟨rfl, _, _, rfl, by simp; omega, by omega, (fun h => by cases h), fun _ => ⟨_, _, rfl, fun i u hi => ?_⟩⟩
  match i, hi with
  | 0, hi => simp [fieldsL] at hi; subst hi; exact g0
  | 1, hi => simp [fieldsL] at hi; subst hi; exact g1
  | 2, hi => simp [fieldsL] at hi; subst hi; exact g2
  | 3, hi => simp [fieldsL] at hi; subst hi; exact g3
  | i + 4, hi => simp [fieldsL] at hi
theorem asc_take : ∀ {l : List F4} {lo hi : Int} (n : Nat), AscB lo hi l → AscB lo hi (l.take n)
  | [], _, _, n, _ => by rw [List.take_nil]; trivial
  | f :: l, lo, hi, 0, _ => trivial
  | f :: l, lo, hi, n + 1, h => ⟨h.1, h.2.1, asc_take n h.2.2⟩
theorem asc_before : ∀ {l : List F4} {lo hi : Int} {i : Nat} {f : F4}, AscB lo hi l → l[i]? = some f → fFind (l.take i) f.1 = none
  | [], _, _, i, f, _, h => by simp at h
  | g :: l, lo, hi, 0, f, _, _ => rfl
  | g :: l, lo, hi, i + 1, f, h, hf => by
    have hf' : l[i]? = some f := by simpa using hf
    have := (asc_mem h.2.2 (List.mem_of_getElem? hf')).2.1
    show (if g.1 = f.1 then some g.2 else fFind (l.take i) f.1) = none
    rw [if_neg (by omega)]; exact asc_before h.2.2 hf'
theorem fFind_append (x y : List F4) (k : Int) : fFind (x ++ y) k = match fFind x k with | some c => some c | none => fFind y k := by
  induction x with
  | nil => rfl
  | cons f x ih =>
    show (if f.1 = k then some f.2 else fFind (x ++ y) k) = match (if f.1 = k then some f.2 else fFind x k) with | some c => some c | none => fFind y k
    by_cases h : f.1 = k
    · rw [if_pos h, if_pos h]
    · rw [if_neg h, if_neg h, ih]
theorem rMay_sub {a : RD} (h : rMay a = true) {l : List F4} (hne : l ≠ []) (hasc : AscB 0 8 l) (hsub : ∀ f ∈ l, f ∈ a.f) : rMay ⟨a.id, a.N, a.R, l⟩ = true := by
  obtain ⟨a1, a2, a3, a4⟩ := rMay_iff.1 h
  exact rMay_iff.2 ⟨a1, fun h => hne h.1, hasc, fun f hf => a4 f (hsub f hf)⟩
theorem only_law {a : RD} (h : rMay a = true) {i : Nat} {f : F4} (hf : a.f[i]? = some f) (hi : 0 < i) :
    rCan ⟨a.id, a.N, a.R, [f]⟩ ⟨a.id, a.N, a.R, a.f.take i⟩ = true ∧ rJoin ⟨a.id, a.N, a.R, [f]⟩ ⟨a.id, a.N, a.R, a.f.take i⟩ = ⟨a.id, a.N, a.R, a.f.take (i + 1)⟩ := by
  have hasc := rMay_asc h
  have hmem := List.mem_of_getElem? hf
  have hil := (List.getElem?_eq_some_iff.1 hf).1
  have hb := asc_mem hasc hmem
  have m1 : rMay ⟨a.id, a.N, a.R, [f]⟩ = true := rMay_sub h (by simp) ⟨hb.2.1, hb.2.2, trivial⟩ (by simpa using hmem)
  have hne : ∀ k, 0 < k → a.f.take k ≠ [] := fun k hk he => by
    have := congrArg List.length he
    simp at this
    rcases this with h | h
    · omega
    · rw [h] at hil; simp at hil
  have m2 : rMay ⟨a.id, a.N, a.R, a.f.take i⟩ = true := rMay_sub h (hne i hi) (asc_take i hasc) (fun g hg => List.mem_of_mem_take hg)
  have m3 : rMay ⟨a.id, a.N, a.R, a.f.take (i + 1)⟩ = true := rMay_sub h (hne _ (by omega)) (asc_take _ hasc) (fun g hg => List.mem_of_mem_take hg)
  refine ⟨can_iff.2 ⟨m1, m2, rfl⟩, ?_⟩
  rw [join_eq m1 m2 rfl]
  refine rd_ext (both_may m1 m2) m3 rfl (mx_self _ _).1 (mx_self _ _).2 fun k => ?_
  rw [both_find m1 m2, show (rBoth ⟨a.id, a.N, a.R, [f]⟩ ⟨a.id, a.N, a.R, a.f.take i⟩).N = a.N from (mx_self _ _).1, show (rBoth ⟨a.id, a.N, a.R, [f]⟩ ⟨a.id, a.N, a.R, a.f.take i⟩).R = a.R from (mx_self _ _).2]
  have e : comb (fFind [f] k) (fFind (a.f.take i) k) = fFind (a.f.take (i + 1)) k := by
    rw [List.take_add_one, hf, fFind_append]
    by_cases hk : f.1 = k
    · have h1 := asc_before hasc hf
      rw [hk] at h1
      rw [h1]
      simp [fFind, hk, comb]
    · have : fFind [f] k = none := by simp [fFind, hk]
      rw [this, show (some f).toList = [f] from rfl, this]
      cases fFind (a.f.take i) k <;> rfl
  show live a.N a.R (comb (fFind [f] k) (fFind (a.f.take i) k)) = fFind (a.f.take (i + 1)) k
  rw [e]
  exact live_own m3 k
end Go.Proofs.Ytgckgbonhbabpaa
