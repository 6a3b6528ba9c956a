/- Records as data; the contracts in that dress; Leq. -/
import Derived.Test.YtolbmemogoojhaaGreatKM8
import Derived.Great.BuildSlice
import Derived.Test.YtolbmemogoojhaaGreatKM6
namespace Go.Proofs.YtolbmemogoojhaaGreat
open Go Go.RowKit Go.Deep
set_option linter.unusedVariables false
set_option linter.unusedSimpArgs false
set_option maxRecDepth 100000

/-- A record. -/
structure RD where
  id : List UInt8
  N : Int
  R : Int
  f : List F4
def RD.ok (r : RD) : Prop := r.id.length = 16
def rA (r : RD) (s : Value) : Array Value := recA (encU r.id).toArray r.N r.R s
def idA (r : RD) : Array Value := (encU r.id).toArray
theorem idA_size {r : RD} (h : r.ok) : (idA r).size = 16 := encU_arr16 h
theorem rA_size {r : RD} {s : Value} (h : r.ok) : (rA r s).size = 19 := recA_size (encU_arr16 h)
theorem rA_info {r : RD} {s : Value} (h : r.ok) : (Tryz.prog.info? 33).map (·.size) = some (rA r s).size := info_rec (encU_arr16 h)
theorem rA_cells {w : World} {b : Nat} {t : TypeId} {r : RD} {s : Value} (h : Blk w b t (rA r s)) (hr : r.ok) :
    w.cell? ⟨b, 16, none⟩ = some (.int .i64 r.N) ∧ w.cell? ⟨b, 17, none⟩ = some (.int .i64 r.R) ∧ w.cell? ⟨b, 18, none⟩ = some s ∧ Sub w b 0 (idA r) ∧ Sub w b 0 (rA r s) := rec_cells h (encU_arr16 hr)
/-- The record of no name, dead since none, without fields. -/
def noRD : RD := ⟨zid, 0, 0, []⟩
theorem noRD_ok : noRD.ok := zid_length
def noA : Array Value := rA noRD (.slice none 0 0)
theorem noA_size : noA.size = 19 := rA_size noRD_ok
theorem noA_zero : (Tryz.prog.info? 33).map (·.zero) = some (some (.agg noA)) := zero_rec
theorem noA_built : Tryz.prog.built 33 [] = some noA := built_none
def rMay (r : RD) : Bool := recMay r.N r.R r.f
def rSame (r r' : RD) : Bool := recSame r.id r.N r.R r.f r'.id r'.N r'.R r'.f
def rCan (r r' : RD) : Bool := rMay r && rMay r' && (r.id == r'.id)
def rBoth (r r' : RD) : RD := ⟨r.id, mxN r.N r.R r'.N r'.R, mxR r.N r.R r'.N r'.R, outTo (mxN r.N r.R r'.N r'.R) (mxR r.N r.R r'.N r'.R) (putAll (putAll [] r.f) r'.f) 8⟩
def rJoin (r r' : RD) : RD := if rCan r r' = true then rBoth r r' else noRD
theorem rJoin_ok {r r' : RD} (h : r.ok) : (rJoin r r').ok := by unfold rJoin; split; exact h; exact noRD_ok
theorem rSame_iff (r r' : RD) : rSame r r' = true ↔ r = r' := by
  cases r; cases r'
  simp only [rSame, recSame, Bool.and_eq_true, beq_iff_eq, stEq_iff, fsEq_iff, RD.mk.injEq]
  constructor
  · rintro ⟨⟨rfl, rfl, rfl⟩, rfl⟩; exact ⟨rfl, rfl, rfl, rfl⟩
  · rintro ⟨rfl, rfl, rfl, rfl⟩; exact ⟨⟨rfl, rfl, rfl⟩, rfl⟩

theorem rmayD {r : RD} {s : Value} {b : Bool} (hr : r.ok) (h : rMay r = b) (w : World) (hv : Flds w s r.f) : Calls Tryz.prog 56 #[.agg (rA r s)] w fun e w' => e = .returned (.bool b) ∧ Below w.heap.size w w' :=
  recmay_v (encU_arr16 hr) h w hv
theorem rsameD {r r' : RD} {s s' : Value} {b : Bool} (hr : r.ok) (hr' : r'.ok) (h : rSame r r' = b) (w : World) (hv : Flds w s r.f) (hv' : Flds w s' r'.f) : Calls Tryz.prog 58 #[.agg (rA r s), .agg (rA r' s')] w fun e w' => e = .returned (.bool b) ∧ Below w.heap.size w w' := by
  subst h; exact recsame_c r.id r'.id hr hr' r.N r.R r'.N r'.R s s' r.f r'.f w hv hv'
theorem rjoinO {r r' j : RD} {s s' : Value} {d : Bool} (hr : r.ok) (hr' : r'.ok) (h : rCan r r' = d) (hj : rJoin r r' = j) (w : World) (hv : Flds w s r.f) (hv' : Flds w s' r'.f) :
    Calls Tryz.prog 51 #[.agg (rA r s), .agg (rA r' s')] w fun e w' => ∃ sj, e = .returned (.tuple #[.agg (rA j sj), .bool d]) ∧ OwnF w.heap.size w' sj j.f ∧ Below w.heap.size w w' := by
  subst h hj
  cases hc : rCan r r'
  · have e : rJoin r r' = noRD := by unfold rJoin; rw [if_neg (by rw [hc]; simp)]
    rw [e]
    exact (recjoin_no r.id r'.id hr hr' r.N r.R r'.N r'.R s s' r.f r'.f w hv hv' hc).mono fun e w' ⟨h1, h2⟩ => ⟨_, h1, OwnF.nil _ _, h2⟩
  · have e : rJoin r r' = rBoth r r' := by unfold rJoin; rw [if_pos hc]
    rw [e]
    simp only [rCan, Bool.and_eq_true, beq_iff_eq] at hc
    have := recjoin_yes r.id hr r.N r.R r'.N r'.R s s' r.f r'.f w hv hv' hc.1.1 hc.1.2
    have e2 : (.agg (rA r' s') : Value) = .agg (recA (encU r.id).toArray r'.N r'.R s') := by unfold rA; rw [hc.2]
    rw [e2]
    exact this
end Go.Proofs.YtolbmemogoojhaaGreat
/- Few fields; reads by what a part of a block holds. -/
namespace Go.Proofs.YtolbmemogoojhaaGreat
open Go Go.RowKit Go.Deep
set_option linter.unusedVariables false
set_option linter.unusedSimpArgs false
set_option maxRecDepth 100000

section
variable {P : Program} {ops : Array Oper} {rest : List Oper} {o : Oper} {a : Act} {w : World} {Q : Exit → Act → World → Prop}
theorem run_load_one (w : World) (b off : Nat) (ty : TypeId) (v : Value) (d : TypeDesc) (h : Sub w b off #[v]) (hu : P.underlying ty = some d) (hd : (match d with | .struct _ | .array _ _ => true | _ => false) = false) :
    (loadVar ty ⟨b, off, none⟩).run P w = .ok v w := by
  have hc : w.cell? ⟨b, off, none⟩ = some v := by have := h 0 v rfl; rwa [Nat.add_zero] at this
  have hagg : (isAgg ty).run P w = .ok false w := by
    unfold isAgg
    rw [Sem.run_bind, run_underlying hu w]
    cases d <;> simp_all
  simp [loadVar, Sem.run_bind, hagg, go_sem, hc]
theorem wpList_load_one (hw : Region.wanted o (yielded ops a.tmps) = true) (ty : TypeId) (x : Operand) (ho : o.op = .load ty x) (dst : Option Tmp) (hdst : o.dst = dst)
    (b off : Nat) (hx : a.eval x = .pointer (some ⟨b, off, none⟩)) (v : Value) (d : TypeDesc) (hg : Sub w b off #[v])
    (hu : P.underlying ty = some d) (hd : (match d with | .struct _ | .array _ _ => true | _ => false) = false)
    (h : wpList P ops Q rest (a.put dst v) w) : wpList P ops Q (o :: rest) a w := by
  subst hdst
  refine BigFrame.wpList_want hw fun K hK => ?_
  unfold Oper.wp execOp
  simp only [ho, hx, Instr.loadAt, Instr.sureAddr, Sem.run_bind, Sem.run_pure, Result.andThen_ok, run_load_one w b off ty v d hg hu hd]
  exact hK _ _ h
end
theorem Blk.subOne {w : World} {b : Nat} {t : TypeId} {cs : Array Value} (h : Blk w b t cs) (i : Nat) {v : Value} (hv : cs[i]? = some v) : Sub w b i #[v] := fun j u hj => by
  cases j with
  | zero => rw [Nat.add_zero, h.cell, hv]; simpa using hj
  | succ j => simp at hj
theorem rA_at {r : RD} {s : Value} (hr : r.ok) : (rA r s)[16]? = some (.int .i64 r.N) ∧ (rA r s)[17]? = some (.int .i64 r.R) ∧ (rA r s)[18]? = some s := by
  have := encU_arr16 hr
  unfold rA recA
  refine ⟨?_, ?_, ?_⟩ <;> (rw [Array.getElem?_append, if_neg (by rw [this]; decide), this]; rfl)
theorem rA_subs {w : World} {b : Nat} {t : TypeId} {r : RD} {s : Value} (h : Blk w b t (rA r s)) (hr : r.ok) : Sub w b 0 (rA r s) ∧ Sub w b 0 (idA r) ∧ Sub w b 16 #[.int .i64 r.N, .int .i64 r.R] ∧ Sub w b 18 #[s] := by
  obtain ⟨h1, h2, h3⟩ := rA_at (s := s) hr
  refine ⟨h.subA, Blk.sub0 h, fun j u hj => ?_, h.subOne 18 h3⟩
  match j, hj with
  | 0, hj => rw [Nat.add_zero, h.cell, h1]; simpa using hj
  | 1, hj => rw [h.cell, h2]; simpa using hj
  | j + 2, hj => simp at hj
theorem stamp_info : (Tryz.prog.info? 30).map (·.size) = some 2 := by kernel_rfl
theorem idA_info {r : RD} (h : r.ok) : (Tryz.prog.info? 26).map (·.size) = some (idA r).size := info_id (idA_size h)

def fFew : List F4 → Bool
  | [] => true
  | f :: l => decide (f.2.2.2.size ≤ 300) && fFew l
def rFew (r : RD) : Bool := decide (r.f.length ≤ 12) && fFew r.f
theorem fFew_step {l : List F4} {j : Nat} {f : F4} (h : l[j]? = some f) : fFew (l.drop j) = (decide (f.2.2.2.size ≤ 300) && fFew (l.drop (j + 1))) := by
  have h1 := List.getElem?_eq_some_iff.1 h
  rw [List.drop_eq_getElem_cons h1.1, h1.2]; rfl
theorem fFew_end {l : List F4} {j : Nat} (h : l.length ≤ j) : fFew (l.drop j) = true := by rw [List.drop_of_length_le h]; rfl
theorem run_lenS (s : ByteArray) (n : Nat) (h : s.size = n) (W : World) : (Builtin.len_ #[9] 3 #[.string s]).run Tryz.prog W = .ok (.int .i64 (n : Int)) W := by
  subst h
  have := Tryz.underlying9
  simp [go_sem, this]
set_option maxHeartbeats 1600000 in
theorem few6_c (r : RD) (hr : r.ok) (s : Value) (w : World) (hv : Flds w s r.f) : Calls Tryz.prog 46 #[.agg (rA r s)] w fun e w' => e = .returned (.bool (rFew r)) ∧ Below w.heap.size w w' := by
  have hAc := @after_cell
  have hAf := @after_frozen
  have hSz := sz_facts
  have hlen1 := len_row (ti := 0) hv Tryz.underlying31
  obtain ⟨_, a, c, rfl, q1, hm1, _⟩ := id hv
  unfold maxLen at hm1
  obtain ⟨l, hl⟩ : ∃ l, r.f = l := ⟨_, rfl⟩
  have hE : Hid (rFew r = (decide (l.length ≤ 12) && fFew l)) := Lib.hid (by unfold rFew; rw [hl])
  rw [hl] at hv q1 hlen1 ⊢
  obtain ⟨n, hn⟩ : ∃ n, l.length = n := ⟨_, rfl⟩
  rw [hn] at hlen1 q1 hv hE ⊢
  have Hv := Lib.hid hv; have Hn := Lib.hid hn; have Hr := Lib.hid hr
  clear hv hn hl hr
  have hbox : ∀ w1, Blk w1 w.heap.size 33 (rA r (.slice a n c)) → _ := fun w1 k => rA_cells k Hr.out
  by_cases h12 : n ≤ 12
  · have hE2 : Hid (rFew r = fFew l) := Lib.hid (by rw [hE.out]; simp [h12])
    go_enter Tryz.func46, Tryz.ntmps46
    go_wp2_with ((fail_if_success have := k1); refine wpList_box_blk rfl 33 _ rfl _ rfl (rA r (.slice a n c)) rfl ?_; intro w1 k1 b1 s1; obtain ⟨y1, rfl⟩ := after_of b1; obtain ⟨c16, c17, c18, csub, call⟩ := hbox _ k1; clear hbox)
    go_loopw [3] (fun i wr => ∃ j : Nat, j ≤ n ∧ i = .int .i64 j ∧ Hid (fFew l = fFew (l.drop j)) ∧ wr = y1.w) (fun i _ => n - (intOf i).toNat)
    case atStart => exact ⟨0, by omega, rfl, Lib.hid rfl, rfl⟩
    case round =>
      obtain ⟨j, hj, rfl, I, rfl⟩ := hrel
      by_cases hlt : j < n
      · obtain ⟨⟨i', cN, cR, cS⟩, hf⟩ : ∃ f, l[j]? = some f := ⟨_, List.getElem?_eq_getElem (by rw [Hn.out]; exact hlt)⟩
        obtain ⟨b, off, rfl, hbw, g0, g1, g2, g3⟩ := Hv.out.at hf
        have Hst := Lib.hid (fFew_step hf)
        clear hf
        have g0 := cell_below (y1.h) _ _ _ g0; have g1 := cell_below (y1.h) _ _ _ g1; have g2 := cell_below (y1.h) _ _ _ g2; have g3 := cell_below (y1.h) _ _ _ g3
        dsimp only at g0 g1 g2 g3
        obtain ⟨m, hm⟩ : ∃ m, cS.size = m := ⟨_, rfl⟩
        have hlenS := run_lenS cS m hm
        have Hm := Lib.hid hm; clear hm
        by_cases h3 : m ≤ 300
        · have Hend : Hid (fFew l = fFew (l.drop (j + 1))) := Lib.hid (by rw [I.out, Hst.out]; simp [Hm.out, h3])
          go_wp2
          go_roundw
          case rel => exact ⟨j + 1, by omega, by go_num, Hend, by first | rfl | trivial⟩
          case measure => simp [intOf]; omega
        · have Hend : Hid (rFew r = false) := Lib.hid (by rw [hE2.out, I.out, Hst.out]; simp [Hm.out, h3])
          go_wp2
          all_goals first | (rw [Exit.noGoto_ret]; go_ret) | go_ret
          all_goals exact ⟨by rw [Hend.out]; rfl, by (repeat (first | exact Below.refl _ _ | assumption | refine bel_alloc ?_ _ | refine bel_after _ ?_ | refine bel_drewN ?_ _ | refine bel_drew ?_ | refine bel_set ?_ (by first | omega | (simp only [zYA, zYD, zYC]; omega) | (simp; omega)) _))⟩
      · have hjn : j = n := by omega
        subst hjn
        have Hend : Hid (rFew r = true) := Lib.hid (by rw [hE2.out, I.out]; exact fFew_end (by rw [Hn.out]; exact Nat.le_refl _))
        go_wp2
        all_goals first | (rw [Exit.noGoto_ret]; go_ret) | go_ret
        all_goals exact ⟨by rw [Hend.out]; rfl, by (repeat (first | exact Below.refl _ _ | assumption | refine bel_alloc ?_ _ | refine bel_after _ ?_ | refine bel_drewN ?_ _ | refine bel_drew ?_ | refine bel_set ?_ (by first | omega | (simp only [zYA, zYD, zYC]; omega) | (simp; omega)) _))⟩
  · have Hend : Hid (rFew r = false) := Lib.hid (by rw [hE.out]; simp [h12])
    go_enter Tryz.func46, Tryz.ntmps46
    go_wp2_with ((fail_if_success have := k1); refine wpList_box_blk rfl 33 _ rfl _ rfl (rA r (.slice a n c)) rfl ?_; intro w1 k1 b1 s1; obtain ⟨y1, rfl⟩ := after_of b1; obtain ⟨c16, c17, c18, csub, call⟩ := hbox _ k1; clear hbox)
    all_goals first | (rw [Exit.noGoto_ret]; go_ret) | go_ret
    all_goals exact ⟨by rw [Hend.out]; rfl, by (repeat (first | exact Below.refl _ _ | assumption | refine bel_alloc ?_ _ | refine bel_after _ ?_ | refine bel_drewN ?_ _ | refine bel_drew ?_ | refine bel_set ?_ (by first | omega | (simp only [zYA, zYD, zYC]; omega) | (simp; omega)) _))⟩
theorem few6_v {r : RD} {s : Value} {b : Bool} (hr : r.ok) (h : rFew r = b) (w : World) (hv : Flds w s r.f) : Calls Tryz.prog 46 #[.agg (rA r s)] w fun e w' => e = .returned (.bool b) ∧ Below w.heap.size w w' := by
  subst h; exact few6_c r hr s w hv
theorem cell_zero : (Tryz.prog.info? 68).map (·.zero) = some (some (.agg #[.int .i64 0, .int .i64 0, .string ⟨#[]⟩])) := by kernel_rfl
theorem cell_info {N R : Int} {s : ByteArray} : (Tryz.prog.info? 68).map (·.size) = some (#[Value.int .i64 N, .int .i64 R, .string s]).size := by kernel_rfl
theorem cell_one {N R : Int} {s : ByteArray} : (#[Value.int .i64 N, .int .i64 R, .string s]).all (·.oneCell') = true := by simp [Value.oneCell']
end Go.Proofs.YtolbmemogoojhaaGreat
/- The chapter's example of records. -/
namespace Go.Proofs.YtolbmemogoojhaaGreat
open Go Go.RowKit Go.Deep
set_option linter.unusedVariables false
set_option linter.unusedSimpArgs false
set_option maxRecDepth 100000

end Go.Proofs.YtolbmemogoojhaaGreat
/- Records: the laws of what is joined, in plain words. -/
namespace Go.Proofs.YtolbmemogoojhaaGreat
open Go Go.RowKit Go.Deep
set_option linter.unusedVariables false
set_option linter.unusedSimpArgs false

/-! Stamps -/
theorem stl (N R N' R' : Int) : stLess N R N' R' = true ↔ (N < N' ∨ N = N' ∧ R < R') := by simp [stLess]
theorem stl_f (N R N' R' : Int) : stLess N R N' R' = false ↔ ¬ (N < N' ∨ N = N' ∧ R < R') := by simp only [stLess, decide_eq_false_iff_not]
theorem mx_cases (N R N' R' : Int) : (stLess N R N' R' = true ∧ mxN N R N' R' = N' ∧ mxR N R N' R' = R') ∨ (stLess N R N' R' = false ∧ mxN N R N' R' = N ∧ mxR N R N' R' = R) := by
  unfold mxN mxR; cases stLess N R N' R' <;> simp
theorem mx_ge1 (N R N' R' : Int) : stLess (mxN N R N' R') (mxR N R N' R') N R = false := by
  rcases mx_cases N R N' R' with ⟨h1, h2, h3⟩ | ⟨h1, h2, h3⟩ <;> rw [h2, h3] <;> simp only [stl, stl_f] at * <;> omega
/-! Cells of one number -/
def comb : Option C3 → Option C3 → Option C3
  | some a, some b => some (cJ a b)
  | some a, none => some a
  | none, y => y
theorem comb_none (x : Option C3) : comb x none = x := by cases x <;> rfl
/-- What was written behind a stamp. -/
def live (N R : Int) (x : Option C3) : Option C3 := x.filter fun c => stLess N R c.1 c.2.1
theorem live_some {N R : Int} {c : C3} (h : stLess N R c.1 c.2.1 = true) : live N R (some c) = some c := by simp [live, h]
theorem live_dead {N R : Int} {c : C3} (h : stLess N R c.1 c.2.1 = false) : live N R (some c) = none := by simp [live, h]
theorem live_eq {N R : Int} {x : Option C3} {c : C3} : live N R x = some c ↔ x = some c ∧ stLess N R c.1 c.2.1 = true := by
  cases x with
  | none => simp [live]
  | some d =>
    cases h : stLess N R d.1 d.2.1
    · rw [live_dead h]; constructor
      · intro h; cases h
      · rintro ⟨h1, h2⟩; cases h1; rw [h] at h2; cases h2
    · rw [live_some h]; constructor
      · intro h1; cases h1; exact ⟨rfl, h⟩
      · exact fun h1 => h1.1
/-- Of two cells the greater one has no lesser stamp. -/
theorem cL_stamp {a b : C3} (h : cL a b = true) : stLess b.1 b.2.1 a.1 a.2.1 = false := by
  have := (cLess_iff _ _ _ _ _ _).1 h
  unfold Ord3.lt keyC at this
  simp only at this
  rw [stl_f]
  omega
theorem cJ_stamp (a b : C3) : stLess (cJ a b).1 (cJ a b).2.1 a.1 a.2.1 = false ∧ stLess (cJ a b).1 (cJ a b).2.1 b.1 b.2.1 = false := by
  cases h : cL a b
  · rw [cJ_left h]
    refine ⟨by rw [stl_f]; omega, ?_⟩
    cases h2 : cL b a
    · rw [cL_tri h h2]; rw [stl_f]; omega
    · exact cL_stamp h2
  · rw [cJ_right h]
    exact ⟨cL_stamp h, by rw [stl_f]; omega⟩
/-! Fields by rising numbers -/
def AscB (lo hi : Int) : List F4 → Prop
  | [] => True
  | f :: l => lo ≤ f.1 ∧ f.1 < hi ∧ AscB (f.1 + 1) hi l
theorem asc_lo : ∀ {l : List F4} {lo lo' hi : Int}, AscB lo hi l → lo' ≤ lo → AscB lo' hi l
  | [], _, _, _, _, _ => trivial
  | f :: l, _, _, _, h, h' => ⟨by have := h.1; omega, h.2⟩
theorem asc_out : ∀ {l : List F4} {lo hi k : Int}, AscB lo hi l → (k < lo ∨ hi ≤ k) → fFind l k = none
  | [], _, _, _, _, _ => rfl
  | f :: l, lo, hi, k, h, hk => by
    obtain ⟨h1, h2, h3⟩ := h
    unfold fFind
    rw [if_neg (by omega)]
    exact asc_out h3 (by omega)
theorem asc_mem : ∀ {l : List F4} {lo hi : Int} {f : F4}, AscB lo hi l → f ∈ l → fFind l f.1 = some f.2 ∧ lo ≤ f.1 ∧ f.1 < hi
  | g :: l, lo, hi, f, h, hf => by
    obtain ⟨h1, h2, h3⟩ := h
    rcases List.mem_cons.1 hf with rfl | hf
    · exact ⟨by simp [fFind], h1, h2⟩
    · obtain ⟨k1, k2, k3⟩ := asc_mem h3 hf
      refine ⟨?_, by omega, k3⟩
      unfold fFind
      rw [if_neg (by omega)]; exact k1
/-- The fields of so many numbers. -/
def cn (g : Int → Option C3) (s n : Nat) : List F4 := (List.range' s n).filterMap fun i : Nat => (g (i : Int)).map fun c => ((i : Int), c)
theorem cn_succ (g : Int → Option C3) (s n : Nat) : cn g s (n + 1) = ((g (s : Int)).map fun c => ((s : Int), c)).toList ++ cn g (s + 1) n := by
  unfold cn
  rw [List.range'_succ, List.filterMap_cons]
  cases h : g (s : Int) <;> simp [h]
theorem cn_asc (g : Int → Option C3) : ∀ (n s : Nat), AscB s (s + n : Nat) (cn g s n)
  | 0, s => trivial
  | n + 1, s => by
    rw [cn_succ]
    have ih := cn_asc g n (s + 1)
    rw [show s + 1 + n = s + (n + 1) by omega] at ih
    cases h : g (s : Int) with
    | none => exact asc_lo ih (by omega)
    | some c => exact ⟨by simp, by simp; omega, by simpa using ih⟩
theorem cn_find (g : Int → Option C3) (k : Int) : ∀ (n s : Nat), (s : Int) ≤ k → k < (s + n : Nat) → fFind (cn g s n) k = g k
  | 0, s, h1, h2 => by omega
  | n + 1, s, h1, h2 => by
    rw [cn_succ]
    by_cases hk : k = s
    · subst hk
      cases h : g (s : Int) with
      | none => exact asc_out (cn_asc g n (s + 1)) (by omega)
      | some c => simp [fFind]
    · have ih := cn_find g k n (s + 1) (by omega) (by omega)
      cases h : g (s : Int) with
      | none => exact ih
      | some c =>
        show fFind ((((s : Int), c)) :: cn g (s + 1) n) k = g k
        unfold fFind
        rw [if_neg (fun h => hk h.symm)]; exact ih
theorem cn_congr {g g' : Int → Option C3} : ∀ (n s : Nat), (∀ k : Int, (s : Int) ≤ k → g k = g' k) → cn g s n = cn g' s n
  | 0, s, _ => rfl
  | n + 1, s, h => by rw [cn_succ, cn_succ, h s (by omega), cn_congr n (s + 1) fun k hk => h k (by omega)]
theorem asc_cn : ∀ (n s : Nat) (l : List F4), AscB s (s + n : Nat) l → l = cn (fFind l) s n
  | 0, s, l, h => by
    cases l with
    | nil => rfl
    | cons f l => exact absurd h.2.1 (by have := h.1; omega)
  | n + 1, s, l, h => by
    rw [cn_succ]
    rw [show s + (n + 1) = s + 1 + n by omega] at h
    cases l with
    | nil =>
      have := asc_cn n (s + 1) [] trivial
      simp only [fFind]
      exact this
    | cons f l =>
      obtain ⟨h1, h2, h3⟩ := h
      by_cases hf : f.1 = s
      · have e : fFind (f :: l) (s : Int) = some f.2 := by unfold fFind; rw [if_pos hf]
        have ih := asc_cn n (s + 1) l (by rw [hf] at h3; exact h3)
        rw [e]
        have e2 : cn (fFind (f :: l)) (s + 1) n = cn (fFind l) (s + 1) n := cn_congr n (s + 1) fun k hk => by
          show (if f.1 = k then some f.2 else fFind l k) = fFind l k
          rw [if_neg (by omega)]
        rw [e2, ← ih]
        simp only [Option.map_some, Option.toList_some, List.cons_append, List.nil_append, List.cons.injEq, and_true]
        rw [← hf]
      · have e : fFind (f :: l) (s : Int) = none := asc_out (lo := s + 1) (hi := (s + 1 + n : Nat)) ⟨by omega, h2, h3⟩ (.inl (by omega))
        rw [e]
        exact asc_cn n (s + 1) (f :: l) ⟨by omega, h2, h3⟩
/-! What may be -/
theorem fMay_iff {N R : Int} : ∀ {l : List F4} {last : Int}, fMay N R last l = true ↔ AscB (last + 1) 8 l ∧ ∀ f ∈ l, cMay f.2.1 f.2.2.1 f.2.2.2 = true ∧ stLess N R f.2.1 f.2.2.1 = true
  | [], _ => by simp [fMay, AscB]
  | f :: l, last => by
    have ih := fMay_iff (N := N) (R := R) (l := l) (last := f.1)
    simp only [fMay, Bool.and_eq_true, decide_eq_true_eq, ih, AscB, List.mem_cons, forall_eq_or_imp]
    constructor
    · rintro ⟨⟨⟨⟨h1, h2⟩, h3⟩, h4⟩, h5, h6⟩; exact ⟨⟨by omega, h2, h5⟩, ⟨h3, h4⟩, h6⟩
    · rintro ⟨⟨h1, h2, h5⟩, ⟨h3, h4⟩, h6⟩; exact ⟨⟨⟨⟨by omega, h2⟩, h3⟩, h4⟩, h5, h6⟩
theorem rMay_iff {r : RD} : rMay r = true ↔ stMay r.N r.R = true ∧ ¬ (r.f = [] ∧ r.N = 0 ∧ r.R = 0) ∧ AscB 0 8 r.f ∧ ∀ f ∈ r.f, cMay f.2.1 f.2.2.1 f.2.2.2 = true ∧ stLess r.N r.R f.2.1 f.2.2.1 = true := by
  unfold rMay recMay
  rw [Bool.and_eq_true, Bool.and_eq_true, fMay_iff, and_assoc]
  refine and_congr_right fun _ => and_congr ?_ Iff.rfl
  rw [Bool.not_eq_true', Bool.and_eq_false_iff]
  have e : stEq r.N r.R 0 0 = false ↔ ¬ (r.N = 0 ∧ r.R = 0) := by
    constructor
    · exact stEq_false
    · intro h; cases hs : stEq r.N r.R 0 0; rfl; exact absurd (stEq_true hs) h
  rw [e]
  cases r.f <;> simp
theorem rMay_asc {r : RD} (h : rMay r = true) : AscB 0 8 r.f := (rMay_iff.1 h).2.2.1
theorem rMay_at {r : RD} (h : rMay r = true) {k : Int} {c : C3} (hk : fFind r.f k = some c) : cMay c.1 c.2.1 c.2.2 = true ∧ stLess r.N r.R c.1 c.2.1 = true :=
  (rMay_iff.1 h).2.2.2 _ (fFind_mem hk)
theorem fFind_fPut (l : List F4) (k : Int) (c : C3) (k' : Int) : fFind (fPut l k c) k' = if k = k' then some c else fFind l k' := by
  induction l with
  | nil => simp [fPut, fFind]
  | cons f l ih =>
    unfold fPut
    by_cases h : f.1 = k
    · rw [if_pos h]
      unfold fFind
      by_cases h2 : k = k'
      · simp [h2]
      · rw [if_neg h2, if_neg h2, if_neg (by rw [h]; exact h2)]
    · rw [if_neg h]
      unfold fFind
      rw [ih]
      by_cases h2 : f.1 = k'
      · rw [if_pos h2, if_neg (by rw [← h2]; exact fun e => h e.symm), if_pos h2]
      · rw [if_neg h2, if_neg h2]
theorem find_putAll : ∀ {l : List F4} {m : List F4} {lo hi : Int} (k : Int), AscB lo hi l → fFind (putAll m l) k = comb (fFind m k) (fFind l k)
  | [], m, _, _, k, _ => by rw [show fFind [] k = none from rfl, comb_none]; rfl
  | f :: l, m, lo, hi, k, h => by
    obtain ⟨h1, h2, h3⟩ := h
    show fFind (putAll (putF m f) l) k = _
    rw [find_putAll k h3]
    have e : fFind (putF m f) k = if f.1 = k then comb (fFind m k) (some f.2) else fFind m k := by
      unfold putF
      cases hm : fFind m f.1 with
      | none =>
        simp only
        rw [fFind_fPut]
        by_cases hk : f.1 = k
        · rw [if_pos hk, if_pos hk, ← hk, hm]; rfl
        · rw [if_neg hk, if_neg hk]
      | some was =>
        simp only
        rw [fFind_fPut]
        by_cases hk : f.1 = k
        · rw [if_pos hk, if_pos hk, ← hk, hm]; rfl
        · rw [if_neg hk, if_neg hk]
    rw [e]
    by_cases hk : f.1 = k
    · rw [if_pos hk, show fFind (f :: l) k = some f.2 by unfold fFind; rw [if_pos hk], asc_out h3 (.inl (by omega)), comb_none]
    · rw [if_neg hk, show fFind (f :: l) k = fFind l k by rw [fFind, if_neg hk]]
theorem outTo_cn (N R : Int) (m : List F4) : outTo N R m 8 = cn (fun k => live N R (fFind m k)) 0 8 := by
  unfold outTo cn
  rw [List.range_eq_range']
  congr 1
  funext i
  unfold outAt
  show _ = Option.map _ (live N R (fFind m (i : Int)))
  cases h : fFind m (i : Int) with
  | none => rfl
  | some c =>
    simp only
    cases h2 : stLess N R c.1 c.2.1
    · rw [live_dead h2]; rfl
    · rw [live_some h2]; rfl
theorem both_find {r r' : RD} (h : rMay r = true) (h' : rMay r' = true) (k : Int) : fFind (rBoth r r').f k = live (rBoth r r').N (rBoth r r').R (comb (fFind r.f k) (fFind r'.f k)) := by
  have e : (rBoth r r').f = cn (fun k => live (rBoth r r').N (rBoth r r').R (fFind (putAll (putAll [] r.f) r'.f) k)) 0 8 := outTo_cn _ _ _
  rw [e]
  by_cases hk : 0 ≤ k ∧ k < 8
  · rw [cn_find _ _ _ _ (by simpa using hk.1) (by simpa using hk.2), find_putAll k (rMay_asc h'), find_putAll k (rMay_asc h)]
    rfl
  · have ho : k < 0 ∨ 8 ≤ k := by omega
    rw [asc_out (cn_asc _ _ _) (by simpa using ho), asc_out (rMay_asc h) ho, asc_out (rMay_asc h') ho]
    rfl
theorem both_asc (r r' : RD) : AscB 0 8 (rBoth r r').f := by
  have e : (rBoth r r').f = cn (fun k => live (rBoth r r').N (rBoth r r').R (fFind (putAll (putAll [] r.f) r'.f) k)) 0 8 := outTo_cn _ _ _
  rw [e]; exact cn_asc _ 8 0
theorem stMay_mx {N R N' R' : Int} (h : stMay N R = true) (h' : stMay N' R' = true) : stMay (mxN N R N' R') (mxR N R N' R') = true := by
  rcases mx_cases N R N' R' with ⟨_, h2, h3⟩ | ⟨_, h2, h3⟩ <;> rw [h2, h3] <;> assumption
theorem comb_some {x y : Option C3} {c : C3} (h : comb x y = some c) : x = some c ∨ y = some c := by
  cases x with
  | none => exact .inr h
  | some a =>
    cases y with
    | none => exact .inl h
    | some b =>
      simp only [comb, Option.some.injEq] at h
      rcases cJ_pick a b with h1 | h1
      · left; rw [← h, h1]
      · right; rw [← h, h1]
theorem stMay_ge {N R : Int} (h : stMay N R = true) : 0 ≤ N ∧ 0 ≤ R := by
  simp only [stMay, Bool.or_eq_true, decide_eq_true_eq] at h; omega
theorem both_may {r r' : RD} (h : rMay r = true) (h' : rMay r' = true) : rMay (rBoth r r') = true := by
  obtain ⟨a1, a2, a3, a4⟩ := rMay_iff.1 h
  obtain ⟨b1, b2, b3, b4⟩ := rMay_iff.1 h'
  rw [rMay_iff]
  refine ⟨stMay_mx a1 b1, ?_, both_asc r r', fun f hf => ?_⟩
  · rintro ⟨e1, e2, e3⟩
    have g1 := stMay_ge a1
    have g2 := stMay_ge b1
    have hz : r.N = 0 ∧ r.R = 0 := by
      have h1 := mx_ge1 r.N r.R r'.N r'.R
      have e2' : mxN r.N r.R r'.N r'.R = 0 := e2
      have e3' : mxR r.N r.R r'.N r'.R = 0 := e3
      rw [e2', e3', stl_f] at h1
      omega
    cases hl : r.f with
    | nil => exact a2 ⟨hl, hz⟩
    | cons f l =>
      have hm : f ∈ r.f := by rw [hl]; exact mH
      have hf := (asc_mem a3 hm).1
      have hlv := (a4 f hm).2
      have hb := both_find h h' f.1
      rw [e1, hf, show fFind [] f.1 = none from rfl, e2, e3] at hb
      rw [hz.1, hz.2] at hlv
      cases hy : fFind r'.f f.1 with
      | none => rw [hy, comb_none, live_some hlv] at hb; cases hb
      | some c =>
        rw [hy] at hb
        have hs := (cJ_stamp f.2 c).1
        have : stLess 0 0 (cJ f.2 c).1 (cJ f.2 c).2.1 = true := by rw [stl] at *; rw [stl_f] at hs; omega
        rw [show comb (some f.2) (some c) = some (cJ f.2 c) from rfl, live_some this] at hb
        cases hb
  · have hk := (asc_mem (both_asc r r') hf).1
    rw [both_find h h'] at hk
    obtain ⟨h1, h2⟩ := live_eq.1 hk
    refine ⟨?_, h2⟩
    rcases comb_some h1 with h3 | h3
    · exact (rMay_at h h3).1
    · exact (rMay_at h' h3).1
theorem can_iff {r r' : RD} : rCan r r' = true ↔ rMay r = true ∧ rMay r' = true ∧ r.id = r'.id := by simp [rCan, and_assoc]
theorem join_eq {r r' : RD} (h : rMay r = true) (h' : rMay r' = true) (hi : r.id = r'.id) : rJoin r r' = rBoth r r' := by
  unfold rJoin; rw [if_pos (can_iff.2 ⟨h, h', hi⟩)]
end Go.Proofs.YtolbmemogoojhaaGreat
/- An argument that is a record, or a field, opened. -/
namespace Go.Proofs.YtolbmemogoojhaaGreat
set_option maxRecDepth 100000
open Go Go.RowKit Go.ChangeShapes Go.WideShapes Go.ChangeAt
set_option linter.unusedVariables false
set_option linter.unusedSimpArgs false
section
variable {H : Type} {enc : TypeId × Value → H} {w : World} {base base' : Nat} {spare : Nat → Bool} {held : Bool}
theorem cells_cell : Tryz.prog.cellsOf 68 = 3 := by kernel_rfl
theorem cells_field : Tryz.prog.cellsOf 82 = 4 := by kernel_rfl
theorem cells_u8 : Tryz.prog.cellsOf 5 = 1 := by kernel_rfl
theorem cells_id : Tryz.prog.cellsOf 26 = 16 := by kernel_rfl
theorem cells_fs : Tryz.prog.cellsOf 31 = 1 := by kernel_rfl
theorem cells_rec : Tryz.prog.cellsOf 33 = 19 := by kernel_rfl
theorem rd_field {cs : List Value} (h : Rd enc Tryz.prog w base spare held 82 cs) : ∃ f : F4, cs = [.int .i64 f.1, .int .i64 f.2.1, .int .i64 f.2.2.1, .string f.2.2.2] := by
  obtain ⟨hl, hf⟩ := h.struct Tryz.underlying82
  have hl2 : cs.length = 4 := hl.trans cells_field
  match cs, hl2 with
  | [c0, c1, c2, c3], _ =>
    simp only [List.mem_cons, List.not_mem_nil, or_false, forall_eq_or_imp, forall_eq] at hf
    rw [cells_int, cells_cell] at hf
    obtain ⟨i, h1, w1⟩ := hf.1.int Tryz.underlying3
    obtain ⟨N, R, s, h2, _⟩ := rd_cell hf.2
    simp at h1 h2
    exact ⟨(i, N, R, s), by rw [h1, h2.1, h2.2.1, h2.2.2]⟩
theorem rd_fields : ∀ (n : Nat) (es : List Value), es.length = n * 4 → (∀ i, i < n → Rd enc Tryz.prog w base spare held 82 ((es.drop (i * 4)).take 4)) → ∃ l : List F4, l.length = n ∧ es = fieldsL l
  | 0, es, hl, _ => ⟨[], rfl, (List.eq_nil_of_length_eq_zero (by omega)).trans rfl⟩
  | n + 1, es, hl, h => by
    match es, hl with
    | a :: b :: c :: d :: es, hl =>
      have h0 := h 0 (by omega)
      simp only [Nat.zero_mul, List.drop_zero, List.take_succ_cons, List.take_zero] at h0
      obtain ⟨f, he⟩ := rd_field h0
      obtain ⟨l, h1, rfl⟩ := rd_fields n es (by simp at hl; omega) fun i hi => by
        have := h (i + 1) (by omega)
        rw [show (i + 1) * 4 = i * 4 + 4 by omega] at this
        simpa using this
      simp at he
      exact ⟨f :: l, by simp [h1], by rw [he.1, he.2.1, he.2.2.1, he.2.2.2]; rfl⟩
    | [], hl => simp at hl
    | [_], hl => simp at hl; omega
    | [_, _], hl => simp at hl; omega
    | [_, _, _], hl => simp at hl; omega
theorem rd_id {cs : List Value} (h : Rd enc Tryz.prog w base spare held 26 cs) : ∃ bs : List UInt8, bs.length = 16 ∧ cs = encU bs := by
  obtain ⟨hl, hf⟩ := h.array Tryz.underlying26
  have hl2 : cs.length = 16 := hl.trans cells_id
  rw [cells_u8] at hf
  obtain ⟨bs, rfl⟩ := rd_u8s 16 cs hl2 fun i hi => by have := hf i hi; rwa [Nat.mul_one] at this
  exact ⟨bs, by rw [encU_length] at hl2; exact hl2, rfl⟩
theorem rd_rec {cs : List Value} (h : Rd enc Tryz.prog w base spare held 33 cs) : ∃ (r : RD) (s : Value), cs = (rA r s).toList ∧ r.ok ∧ Flds w s r.f := by
  obtain ⟨hl, hf⟩ := h.struct Tryz.underlying33
  have hl2 : cs.length = 19 := hl.trans cells_rec
  simp only [List.mem_cons, List.not_mem_nil, or_false, forall_eq_or_imp, forall_eq] at hf
  rw [cells_id, cells_stamp, cells_fs] at hf
  obtain ⟨h1, h2, h3⟩ := hf
  obtain ⟨bs, hb, e1⟩ := rd_id h1
  obtain ⟨N, R, e2, _⟩ := rd_stamp h2
  obtain ⟨v, n, es, e3, hrow, hel⟩ := h3.row (s := 4) Tryz.underlying31 cells_field (by omega)
  obtain ⟨l, hln, rfl⟩ := rd_fields n es hrow.1 hel
  subst hln
  refine ⟨⟨bs, N, R, l⟩, v, ?_, hb, hrow⟩
  simp only [List.drop_zero] at e1
  have ec : cs = cs.take 16 ++ ((cs.drop 16).take 2 ++ (cs.drop 18).take 1) := by
    apply List.ext_getElem?
    intro i
    rw [List.getElem?_append, List.getElem?_append]
    simp only [List.length_take, List.length_drop, hl2, List.getElem?_take, List.getElem?_drop]
    by_cases h16 : i < 16
    · rw [if_pos (by omega), if_pos h16]
    · rw [if_neg (by omega)]
      by_cases h18 : i < 18
      · rw [if_pos (by omega), if_pos (by omega)]; congr 1; omega
      · rw [if_neg (by omega)]
        by_cases h19 : i < 19
        · rw [if_pos (by omega)]; congr 1; omega
        · rw [if_neg (by omega), List.getElem?_eq_none (by omega)]
  rw [ec, e1, e2, e3]
  simp [rA, recA]
end
end Go.Proofs.YtolbmemogoojhaaGreat
/- A name put into a record that lies in a block. -/
namespace Go.Proofs.YtolbmemogoojhaaGreat
open Go Go.RowKit Go.Deep
set_option linter.unusedVariables false
set_option linter.unusedSimpArgs false
set_option maxRecDepth 100000
section
variable {P : Program} {ops : Array Oper} {rest : List Oper} {o : Oper} {a : Act} {w : World} {Q : Exit → Act → World → Prop}
/-- A part of a block is written, the world a letter. -/
theorem wpList_store_part (hw : Region.wanted o (yielded ops a.tmps) = true) (ty : TypeId) (x y : Operand) (ho : o.op = .store ty x y) (dst : Option Tmp) (hdst : o.dst = dst)
    (g off : Nat) (cells : Array Value) (hx : a.eval x = .pointer (some ⟨g, off, none⟩)) (hy : a.eval y = .agg cells)
    (t : TypeId) (cur : Array Value) (hg : Blk w g t cur) (hi : (P.info? ty).map (·.size) = some cells.size)
    (hfit : off + cells.size ≤ cur.size) (h1 : cells.all (·.oneCell') = true) (new : Array Value) (hnew : (cur.toList.take off ++ cells.toList ++ cur.toList.drop (off + cells.size)).toArray = new)
    (h : ∀ w', Blk w' g t new → But g w w' → w'.heap.size = w.heap.size → wpList P ops Q rest (a.put dst undef) w') : wpList P ops Q (o :: rest) a w := by
  subst hdst; subst hnew
  have hst := run_storeCells_at (P := P) g off t cells.toList 0 cur w hg (by simpa using hfit) (fun v hv => (Array.all_eq_true_iff_forall_mem.1 h1) v (by simpa using hv))
  have hv : (storeVar ty ⟨g, off, none⟩ (.agg cells)).run P w = .ok () (w.setRow g (cur.toList.take off ++ cells.toList ++ cur.toList.drop (off + cells.size)).toArray) := by
    cases hq : P.info? ty with
    | none => simp [hq] at hi
    | some i =>
      have hs : cells.size = i.size := by simp [hq] at hi; omega
      simp only [Nat.add_zero, Array.length_toList] at hst
      simp [storeVar, sizeOf, typeInfo, hq, Value.cells, hs]
      rw [hs, List.append_assoc] at hst
      exact hst
  refine BigFrame.wpList_want hw fun K hK => ?_
  unfold Oper.wp execOp
  simp only [ho, hx, hy, Instr.storeAt, Instr.sureAddr, Sem.run_bind, Sem.run_pure, Result.andThen_ok, hv]
  exact hK _ _ (h _ (hg.setRow _) ((But.refl _ _).setRow _) (by simp))
end
end Go.Proofs.YtolbmemogoojhaaGreat
/- Records: the laws of RecCells, RecDead, RecOnly in plain words. -/
namespace Go.Proofs.YtolbmemogoojhaaGreat
open Go Go.RowKit Go.Deep
set_option linter.unusedVariables false
set_option linter.unusedSimpArgs false
set_option maxRecDepth 100000
end Go.Proofs.YtolbmemogoojhaaGreat
/- Records: the laws of RecDead in plain words; fields and stamps in blocks. -/
namespace Go.Proofs.YtolbmemogoojhaaGreat
open Go Go.RowKit Go.Deep
set_option linter.unusedVariables false
set_option linter.unusedSimpArgs false
set_option maxRecDepth 100000
theorem quiet_load_one {P : Program} {o : Oper} {a : Act} {C : World → Prop} {K : Act → Prop} (ty : TypeId) (x : Operand) (ho : o.op = .load ty x) (dst : Option Tmp) (hdst : o.dst = dst)
    (b off : Nat) (hx : a.eval x = .pointer (some ⟨b, off, none⟩)) (v : Value) (d : TypeDesc) (hg : ∀ w, C w → Sub w b off #[v])
    (hu : P.underlying ty = some d) (hd : (match d with | .struct _ | .array _ _ => true | _ => false) = false) (h : K (a.put dst v)) : o.quiet P a C K := by
  subst hdst
  refine ⟨v, fun w hw => ?_, h⟩
  unfold Oper.quietAt execOp
  simp only [ho, hx, Instr.loadAt, Instr.sureAddr, Sem.run_bind, Sem.run_pure, Result.andThen_ok, run_load_one w b off ty v d (hg w hw) hu hd]
  exact ⟨rfl, rfl⟩
theorem fld_subs {w : World} {b : Nat} {t : TypeId} {i N R : Int} {S : ByteArray} (h : Blk w b t #[.int .i64 i, .int .i64 N, .int .i64 R, .string S]) :
    Sub w b 0 #[.int .i64 i, .int .i64 N, .int .i64 R, .string S] ∧ Sub w b 0 #[.int .i64 i] ∧ Sub w b 1 #[.int .i64 N, .int .i64 R, .string S] ∧ Sub w b 1 #[.int .i64 N, .int .i64 R] ∧ Sub w b 3 #[.string S] := by
  refine ⟨h.subA, h.subOne 0 rfl, fun j u hj => ?_, fun j u hj => ?_, h.subOne 3 rfl⟩
  · match j, hj with
    | 0, hj => rw [h.cell]; simpa using hj
    | 1, hj => rw [h.cell]; simpa using hj
    | 2, hj => rw [h.cell]; simpa using hj
    | j + 3, hj => simp at hj
  · match j, hj with
    | 0, hj => rw [h.cell]; simpa using hj
    | 1, hj => rw [h.cell]; simpa using hj
    | j + 2, hj => simp at hj
theorem field_info {i N R : Int} {s : ByteArray} : (Tryz.prog.info? 82).map (·.size) = some (#[Value.int .i64 i, .int .i64 N, .int .i64 R, .string s]).size := by kernel_rfl
theorem built_id_f {A : Array Value} (h : A.size = 16) (a : Option Addr) (n c : Nat) : Tryz.prog.built 33 [(0, .agg A), (2, .slice a n c)] = some (recA A 0 0 (.slice a n c)) := by
  obtain ⟨a0, a1, a2, a3, a4, a5, a6, a7, a8, a9, a10, a11, a12, a13, a14, a15, rfl⟩ := arr16 h
  kernel_rfl
end Go.Proofs.YtolbmemogoojhaaGreat
/- Records: the laws of RecOnly in plain words; fields beside a record's block. -/
namespace Go.Proofs.YtolbmemogoojhaaGreat
open Go Go.RowKit Go.Deep
set_option linter.unusedVariables false
set_option linter.unusedSimpArgs false
set_option maxRecDepth 100000
end Go.Proofs.YtolbmemogoojhaaGreat
