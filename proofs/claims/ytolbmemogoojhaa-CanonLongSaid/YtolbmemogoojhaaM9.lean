/- Records as data; the contracts in that dress; Leq. -/
import Derived.Test.YtolbmemogoojhaaM8
import Derived.Great.BuildSlice
import Derived.Test.YtolbmemogoojhaaM6
namespace Go.Proofs.Ytolbmemogoojhaa
open Go Go.RowKit Go.Deep
set_option linter.unusedVariables false
set_option linter.unusedSimpArgs false
set_option maxRecDepth 100000

/-- A record. -/
structure RD where
  id : List UInt8
  N : Int
  R : Int
  f : List F4
def RD.ok (r : RD) : Prop := r.id.length = 16
def rA (r : RD) (s : Value) : Array Value := recA (encU r.id).toArray r.N r.R s
def idA (r : RD) : Array Value := (encU r.id).toArray
theorem idA_size {r : RD} (h : r.ok) : (idA r).size = 16 := encU_arr16 h
theorem rA_size {r : RD} {s : Value} (h : r.ok) : (rA r s).size = 19 := recA_size (encU_arr16 h)
theorem rA_info {r : RD} {s : Value} (h : r.ok) : (Try.prog.info? 38).map (·.size) = some (rA r s).size := info_rec (encU_arr16 h)
theorem rA_one {w : World} {r : RD} {s : Value} (h : Flds w s r.f) : (rA r s).all (·.oneCell') = true := recA_one (encU_all _) (flds_one h)
theorem rA_cells {w : World} {b : Nat} {t : TypeId} {r : RD} {s : Value} (h : Blk w b t (rA r s)) (hr : r.ok) :
    w.cell? ⟨b, 16, none⟩ = some (.int .i64 r.N) ∧ w.cell? ⟨b, 17, none⟩ = some (.int .i64 r.R) ∧ w.cell? ⟨b, 18, none⟩ = some s ∧ Sub w b 0 (idA r) ∧ Sub w b 0 (rA r s) := rec_cells h (encU_arr16 hr)
/-- The record of no name, dead since none, without fields. -/
def noRD : RD := ⟨zid, 0, 0, []⟩
theorem noRD_ok : noRD.ok := zid_length
def noA : Array Value := rA noRD (.slice none 0 0)
theorem noA_size : noA.size = 19 := rA_size noRD_ok
theorem noA_zero : (Try.prog.info? 38).map (·.zero) = some (some (.agg noA)) := zero_rec
theorem noA_built : Try.prog.built 38 [] = some noA := built_none
def rMay (r : RD) : Bool := recMay r.N r.R r.f
def rSame (r r' : RD) : Bool := recSame r.id r.N r.R r.f r'.id r'.N r'.R r'.f
def rCan (r r' : RD) : Bool := rMay r && rMay r' && (r.id == r'.id)
def rBoth (r r' : RD) : RD := ⟨r.id, mxN r.N r.R r'.N r'.R, mxR r.N r.R r'.N r'.R, outTo (mxN r.N r.R r'.N r'.R) (mxR r.N r.R r'.N r'.R) (putAll (putAll [] r.f) r'.f) 8⟩
def rJoin (r r' : RD) : RD := if rCan r r' = true then rBoth r r' else noRD
def rLeq (r r' : RD) : Bool := rCan r r' && rSame (rJoin r r') r'
theorem rJoin_ok {r r' : RD} (h : r.ok) : (rJoin r r').ok := by unfold rJoin; split; exact h; exact noRD_ok
theorem rSame_iff (r r' : RD) : rSame r r' = true ↔ r = r' := by
  cases r; cases r'
  simp only [rSame, recSame, Bool.and_eq_true, beq_iff_eq, stEq_iff, fsEq_iff, RD.mk.injEq]
  constructor
  · rintro ⟨⟨rfl, rfl, rfl⟩, rfl⟩; exact ⟨rfl, rfl, rfl, rfl⟩
  · rintro ⟨rfl, rfl, rfl, rfl⟩; exact ⟨⟨rfl, rfl, rfl⟩, rfl⟩

theorem rmayD {r : RD} {s : Value} {b : Bool} (hr : r.ok) (h : rMay r = b) (w : World) (hv : Flds w s r.f) : Calls Try.prog 48 #[.agg (rA r s)] w fun e w' => e = .returned (.bool b) ∧ Below w.heap.size w w' :=
  recmay_v (encU_arr16 hr) h w hv
theorem rsameD {r r' : RD} {s s' : Value} {b : Bool} (hr : r.ok) (hr' : r'.ok) (h : rSame r r' = b) (w : World) (hv : Flds w s r.f) (hv' : Flds w s' r'.f) : Calls Try.prog 28 #[.agg (rA r s), .agg (rA r' s')] w fun e w' => e = .returned (.bool b) ∧ Below w.heap.size w w' := by
  subst h; exact recsame_c r.id r'.id hr hr' r.N r.R r'.N r'.R s s' r.f r'.f w hv hv'
theorem rfindD {r : RD} {s : Value} {no fN fR : Int} {fS : ByteArray} {d : Bool} (hr : r.ok) (h : fFindP r.f no = (fN, fR, fS, d)) (w : World) (hv : Flds w s r.f) : Calls Try.prog 30 #[.agg (rA r s), .int .i64 no] w fun e w' => e = .returned (.tuple #[.agg #[.int .i64 fN, .int .i64 fR, .string fS], .bool d]) ∧ Below w.heap.size w w' :=
  recfind_c _ (encU_arr16 hr) r.N r.R s r.f no w hv h
theorem rjoinO {r r' j : RD} {s s' : Value} {d : Bool} (hr : r.ok) (hr' : r'.ok) (h : rCan r r' = d) (hj : rJoin r r' = j) (w : World) (hv : Flds w s r.f) (hv' : Flds w s' r'.f) :
    Calls Try.prog 27 #[.agg (rA r s), .agg (rA r' s')] w fun e w' => ∃ sj, e = .returned (.tuple #[.agg (rA j sj), .bool d]) ∧ OwnF w.heap.size w' sj j.f ∧ Below w.heap.size w w' := by
  subst h hj
  cases hc : rCan r r'
  · have e : rJoin r r' = noRD := by unfold rJoin; rw [if_neg (by rw [hc]; simp)]
    rw [e]
    exact (recjoin_no r.id r'.id hr hr' r.N r.R r'.N r'.R s s' r.f r'.f w hv hv' hc).mono fun e w' ⟨h1, h2⟩ => ⟨_, h1, OwnF.nil _ _, h2⟩
  · have e : rJoin r r' = rBoth r r' := by unfold rJoin; rw [if_pos hc]
    rw [e]
    simp only [rCan, Bool.and_eq_true, beq_iff_eq] at hc
    have := recjoin_yes r.id hr r.N r.R r'.N r'.R s s' r.f r'.f w hv hv' hc.1.1 hc.1.2
    have e2 : (.agg (rA r' s') : Value) = .agg (recA (encU r.id).toArray r'.N r'.R s') := by unfold rA; rw [hc.2]
    rw [e2]
    exact this
theorem rjoinD {r r' j : RD} {s s' : Value} {d : Bool} (hr : r.ok) (hr' : r'.ok) (h : rCan r r' = d) (hj : rJoin r r' = j) (w : World) (hv : Flds w s r.f) (hv' : Flds w s' r'.f) :
    Calls Try.prog 27 #[.agg (rA r s), .agg (rA r' s')] w fun e w' => ∃ sj, e = .returned (.tuple #[.agg (rA j sj), .bool d]) ∧ Flds w' sj j.f ∧ Below w.heap.size w w' :=
  (rjoinO hr hr' h hj w hv hv').mono fun e w' ⟨s, h1, h2, h3⟩ => ⟨s, h1, h2.flds, h3⟩
end Go.Proofs.Ytolbmemogoojhaa
/- Few fields; reads by what a part of a block holds. -/
namespace Go.Proofs.Ytolbmemogoojhaa
open Go Go.RowKit Go.Deep
set_option linter.unusedVariables false
set_option linter.unusedSimpArgs false
set_option maxRecDepth 100000

section
variable {P : Program} {ops : Array Oper} {rest : List Oper} {o : Oper} {a : Act} {w : World} {Q : Exit → Act → World → Prop}
theorem run_load_one (w : World) (b off : Nat) (ty : TypeId) (v : Value) (d : TypeDesc) (h : Sub w b off #[v]) (hu : P.underlying ty = some d) (hd : (match d with | .struct _ | .array _ _ => true | _ => false) = false) :
    (loadVar ty ⟨b, off, none⟩).run P w = .ok v w := by
  have hc : w.cell? ⟨b, off, none⟩ = some v := by have := h 0 v rfl; rwa [Nat.add_zero] at this
  have hagg : (isAgg ty).run P w = .ok false w := by
    unfold isAgg
    rw [Sem.run_bind, run_underlying hu w]
    cases d <;> simp_all
  simp [loadVar, Sem.run_bind, hagg, go_sem, hc]
theorem wpList_load_one (hw : Region.wanted o (yielded ops a.tmps) = true) (ty : TypeId) (x : Operand) (ho : o.op = .load ty x) (dst : Option Tmp) (hdst : o.dst = dst)
    (b off : Nat) (hx : a.eval x = .pointer (some ⟨b, off, none⟩)) (v : Value) (d : TypeDesc) (hg : Sub w b off #[v])
    (hu : P.underlying ty = some d) (hd : (match d with | .struct _ | .array _ _ => true | _ => false) = false)
    (h : wpList P ops Q rest (a.put dst v) w) : wpList P ops Q (o :: rest) a w := by
  subst hdst
  refine BigFrame.wpList_want hw fun K hK => ?_
  unfold Oper.wp execOp
  simp only [ho, hx, Instr.loadAt, Instr.sureAddr, Sem.run_bind, Sem.run_pure, Result.andThen_ok, run_load_one w b off ty v d hg hu hd]
  exact hK _ _ h
end
theorem Blk.subOne {w : World} {b : Nat} {t : TypeId} {cs : Array Value} (h : Blk w b t cs) (i : Nat) {v : Value} (hv : cs[i]? = some v) : Sub w b i #[v] := fun j u hj => by
  cases j with
  | zero => rw [Nat.add_zero, h.cell, hv]; simpa using hj
  | succ j => simp at hj
theorem rA_at {r : RD} {s : Value} (hr : r.ok) : (rA r s)[16]? = some (.int .i64 r.N) ∧ (rA r s)[17]? = some (.int .i64 r.R) ∧ (rA r s)[18]? = some s := by
  have := encU_arr16 hr
  unfold rA recA
  refine ⟨?_, ?_, ?_⟩ <;> (rw [Array.getElem?_append, if_neg (by rw [this]; decide), this]; rfl)
theorem rA_subs {w : World} {b : Nat} {t : TypeId} {r : RD} {s : Value} (h : Blk w b t (rA r s)) (hr : r.ok) : Sub w b 0 (rA r s) ∧ Sub w b 0 (idA r) ∧ Sub w b 16 #[.int .i64 r.N, .int .i64 r.R] ∧ Sub w b 18 #[s] := by
  obtain ⟨h1, h2, h3⟩ := rA_at (s := s) hr
  refine ⟨h.subA, Blk.sub0 h, fun j u hj => ?_, h.subOne 18 h3⟩
  match j, hj with
  | 0, hj => rw [Nat.add_zero, h.cell, h1]; simpa using hj
  | 1, hj => rw [h.cell, h2]; simpa using hj
  | j + 2, hj => simp at hj
theorem stamp_info : (Try.prog.info? 35).map (·.size) = some 2 := by kernel_rfl
theorem idA_info {r : RD} (h : r.ok) : (Try.prog.info? 33).map (·.size) = some (idA r).size := info_id (idA_size h)

def fFew : List F4 → Bool
  | [] => true
  | f :: l => decide (f.2.2.2.size ≤ 300) && fFew l
def rFew (r : RD) : Bool := decide (r.f.length ≤ 12) && fFew r.f
theorem fFew_step {l : List F4} {j : Nat} {f : F4} (h : l[j]? = some f) : fFew (l.drop j) = (decide (f.2.2.2.size ≤ 300) && fFew (l.drop (j + 1))) := by
  have h1 := List.getElem?_eq_some_iff.1 h
  rw [List.drop_eq_getElem_cons h1.1, h1.2]; rfl
theorem fFew_end {l : List F4} {j : Nat} (h : l.length ≤ j) : fFew (l.drop j) = true := by rw [List.drop_of_length_le h]; rfl
theorem run_lenS (s : ByteArray) (n : Nat) (h : s.size = n) (W : World) : (Builtin.len_ #[9] 3 #[.string s]).run Try.prog W = .ok (.int .i64 (n : Int)) W := by
  subst h
  have := Try.underlying9
  simp [go_sem, this]
set_option maxHeartbeats 1600000 in
theorem few6_c (r : RD) (hr : r.ok) (s : Value) (w : World) (hv : Flds w s r.f) : Calls Try.prog 47 #[.agg (rA r s)] w fun e w' => e = .returned (.bool (rFew r)) ∧ Below w.heap.size w w' := by
  have hAc := @after_cell
  have hAf := @after_frozen
  have hSz := sz_facts
  have hlen1 := len_row (ti := 0) hv Try.underlying36
  obtain ⟨_, a, c, rfl, q1, hm1, _⟩ := id hv
  unfold maxLen at hm1
  obtain ⟨l, hl⟩ : ∃ l, r.f = l := ⟨_, rfl⟩
  have hE : Hid (rFew r = (decide (l.length ≤ 12) && fFew l)) := Lib.hid (by unfold rFew; rw [hl])
  rw [hl] at hv q1 hlen1 ⊢
  obtain ⟨n, hn⟩ : ∃ n, l.length = n := ⟨_, rfl⟩
  rw [hn] at hlen1 q1 hv hE ⊢
  have Hv := Lib.hid hv; have Hn := Lib.hid hn; have Hr := Lib.hid hr
  clear hv hn hl hr
  have hbox : ∀ w1, Blk w1 w.heap.size 38 (rA r (.slice a n c)) → _ := fun w1 k => rA_cells k Hr.out
  by_cases h12 : n ≤ 12
  · have hE2 : Hid (rFew r = fFew l) := Lib.hid (by rw [hE.out]; simp [h12])
    go_enter Try.func47, Try.ntmps47
    go_wp2_with ((fail_if_success have := k1); refine wpList_box_blk rfl 38 _ rfl _ rfl (rA r (.slice a n c)) rfl ?_; intro w1 k1 b1 s1; obtain ⟨y1, rfl⟩ := after_of b1; obtain ⟨c16, c17, c18, csub, call⟩ := hbox _ k1; clear hbox)
    go_loopw [3] (fun i wr => ∃ j : Nat, j ≤ n ∧ i = .int .i64 j ∧ Hid (fFew l = fFew (l.drop j)) ∧ wr = y1.w) (fun i _ => n - (intOf i).toNat)
    case atStart => exact ⟨0, by omega, rfl, Lib.hid rfl, rfl⟩
    case round =>
      obtain ⟨j, hj, rfl, I, rfl⟩ := hrel
      by_cases hlt : j < n
      · obtain ⟨⟨i', cN, cR, cS⟩, hf⟩ : ∃ f, l[j]? = some f := ⟨_, List.getElem?_eq_getElem (by rw [Hn.out]; exact hlt)⟩
        obtain ⟨b, off, rfl, hbw, g0, g1, g2, g3⟩ := Hv.out.at hf
        have Hst := Lib.hid (fFew_step hf)
        clear hf
        have g0 := cell_below (y1.h) _ _ _ g0; have g1 := cell_below (y1.h) _ _ _ g1; have g2 := cell_below (y1.h) _ _ _ g2; have g3 := cell_below (y1.h) _ _ _ g3
        dsimp only at g0 g1 g2 g3
        obtain ⟨m, hm⟩ : ∃ m, cS.size = m := ⟨_, rfl⟩
        have hlenS := run_lenS cS m hm
        have Hm := Lib.hid hm; clear hm
        by_cases h3 : m ≤ 300
        · have Hend : Hid (fFew l = fFew (l.drop (j + 1))) := Lib.hid (by rw [I.out, Hst.out]; simp [Hm.out, h3])
          go_wp2
          go_roundw
          case rel => exact ⟨j + 1, by omega, by go_num, Hend, by first | rfl | trivial⟩
          case measure => simp [intOf]; omega
        · have Hend : Hid (rFew r = false) := Lib.hid (by rw [hE2.out, I.out, Hst.out]; simp [Hm.out, h3])
          go_wp2
          all_goals first | (rw [Exit.noGoto_ret]; go_ret) | go_ret
          all_goals exact ⟨by rw [Hend.out]; rfl, by (repeat (first | exact Below.refl _ _ | assumption | refine bel_alloc ?_ _ | refine bel_after _ ?_ | refine bel_drewN ?_ _ | refine bel_drew ?_ | refine bel_set ?_ (by first | omega | (simp only [World.size_alloc, World.size_drew, World.size_setCell]; omega) | (simp; omega)) _))⟩
      · have hjn : j = n := by omega
        subst hjn
        have Hend : Hid (rFew r = true) := Lib.hid (by rw [hE2.out, I.out]; exact fFew_end (by rw [Hn.out]; exact Nat.le_refl _))
        go_wp2
        all_goals first | (rw [Exit.noGoto_ret]; go_ret) | go_ret
        all_goals exact ⟨by rw [Hend.out]; rfl, by (repeat (first | exact Below.refl _ _ | assumption | refine bel_alloc ?_ _ | refine bel_after _ ?_ | refine bel_drewN ?_ _ | refine bel_drew ?_ | refine bel_set ?_ (by first | omega | (simp only [World.size_alloc, World.size_drew, World.size_setCell]; omega) | (simp; omega)) _))⟩
  · have Hend : Hid (rFew r = false) := Lib.hid (by rw [hE.out]; simp [h12])
    go_enter Try.func47, Try.ntmps47
    go_wp2_with ((fail_if_success have := k1); refine wpList_box_blk rfl 38 _ rfl _ rfl (rA r (.slice a n c)) rfl ?_; intro w1 k1 b1 s1; obtain ⟨y1, rfl⟩ := after_of b1; obtain ⟨c16, c17, c18, csub, call⟩ := hbox _ k1; clear hbox)
    all_goals first | (rw [Exit.noGoto_ret]; go_ret) | go_ret
    all_goals exact ⟨by rw [Hend.out]; rfl, by (repeat (first | exact Below.refl _ _ | assumption | refine bel_alloc ?_ _ | refine bel_after _ ?_ | refine bel_drewN ?_ _ | refine bel_drew ?_ | refine bel_set ?_ (by first | omega | (simp only [World.size_alloc, World.size_drew, World.size_setCell]; omega) | (simp; omega)) _))⟩
theorem few6_v {r : RD} {s : Value} {b : Bool} (hr : r.ok) (h : rFew r = b) (w : World) (hv : Flds w s r.f) : Calls Try.prog 47 #[.agg (rA r s)] w fun e w' => e = .returned (.bool b) ∧ Below w.heap.size w w' := by
  subst h; exact few6_c r hr s w hv
theorem cell_zero : (Try.prog.info? 46).map (·.zero) = some (some (.agg #[.int .i64 0, .int .i64 0, .string ⟨#[]⟩])) := by kernel_rfl
theorem cell_info {N R : Int} {s : ByteArray} : (Try.prog.info? 46).map (·.size) = some (#[Value.int .i64 N, .int .i64 R, .string s]).size := by kernel_rfl
theorem cell_one {N R : Int} {s : ByteArray} : (#[Value.int .i64 N, .int .i64 R, .string s]).all (·.oneCell') = true := by simp [Value.oneCell']
theorem Blk.subS {w : World} {b : Nat} {t : TypeId} {N R : Int} {s : Value} (h : Blk w b t #[.int .i64 N, .int .i64 R, s]) : Sub w b 0 #[.int .i64 N, .int .i64 R] := fun j u hj => by
  match j, hj with
  | 0, hj => rw [h.cell]; simpa using hj
  | 1, hj => rw [h.cell]; simpa using hj
  | j + 2, hj => simp at hj
/-- A list of one field. -/
theorem flds_one_lit (W : World) (x : F4) : Flds (W.alloc (.cells #[.int .i64 x.1, .int .i64 x.2.1, .int .i64 x.2.2.1, .string x.2.2.2] 51)) (.slice (some ⟨W.heap.size, 0, none⟩) 1 1) [x] := by
  refine ⟨rfl, _, _, rfl, Nat.le_refl _, (by unfold maxLen; omega), (fun h => by cases h), fun _ => ⟨_, 0, rfl, fun j u hj => ?_⟩⟩
  rw [Nat.zero_add, (Blk.new W _ _).cell]
  simpa [fieldsL] using hj
theorem wpList_fields1 {ops : Array Oper} {rest : List Oper} {o : Oper} {a : Act} {w : World} {Q : Exit → Act → World → Prop} (hg : o.guard = none) (x : Operand) (ho : o.op = .buildSlice 36 1 #[(0, x)]) (dst : Option Tmp) (hdst : o.dst = dst)
    (i N R : Int) (s : ByteArray) (hx : a.eval x = .agg #[.int .i64 i, .int .i64 N, .int .i64 R, .string s])
    (h : ∀ w', Flds w' (.slice (some ⟨w.heap.size, 0, none⟩) 1 1) [(i, N, R, s)] → Below w.heap.size w w' → wpList Try.prog ops Q rest (a.put dst (.slice (some ⟨w.heap.size, 0, none⟩) 1 1)) w') : wpList Try.prog ops Q (o :: rest) a w := by
  subst hdst
  have hr : (execOp a.eval o).run Try.prog w = .ok (.value (.slice (some ⟨w.heap.size, 0, none⟩) 1 1)) (w.alloc (.cells #[.int .i64 i, .int .i64 N, .int .i64 R, .string s] 51)) := by
    obtain ⟨ie, hie, hzz⟩ := Option.map_eq_some_iff.1 info_field
    simp only [Prod.mk.injEq] at hzz
    obtain ⟨hz0, hz1, hz2⟩ := hzz
    unfold execOp
    have := run_buildSlice (P := Try.prog) w 36 51 1 #[(0, a.eval x)] #[.int .i64 i, .int .i64 N, .int .i64 R, .string s] ie _ Try.underlying36 hie hz0 (by rw [hz1]; decide) (by rw [hz1]; decide) (by rw [hx, hz1]; kernel_rfl)
    simp only [ho, List.map_toArray, List.map_cons, List.map_nil, Sem.run_bind, this, Result.andThen_ok, Sem.run_pure]
  exact wpList_run hg _ _ hr (h _ (flds_one_lit w (i, N, R, s)) (bel_alloc (Below.refl _ _) _))
end Go.Proofs.Ytolbmemogoojhaa
/- The chapter's example of records. -/
namespace Go.Proofs.Ytolbmemogoojhaa
open Go Go.RowKit Go.Deep
set_option linter.unusedVariables false
set_option linter.unusedSimpArgs false
set_option maxRecDepth 100000

def exA : RD := ⟨zid, 0, 0, [(2, 3, 0, ⟨#[120]⟩)]⟩
def exB : RD := ⟨zid, 4, 0, []⟩
theorem exA_ok : exA.ok := zid_length
theorem exB_ok : exB.ok := zid_length
theorem exC : rCan exA exB = true := by decide +kernel
theorem exJ : rJoin exA exB = exB := by
  unfold rJoin; rw [if_pos exC]; rfl
theorem exS : rSame exB exB = true := by decide +kernel
theorem exL : rLeq exA exB = true := by unfold rLeq; rw [exC, exJ, exS]; rfl
theorem exC' : rCan exB exA = true := by decide +kernel
theorem exJ' : rJoin exB exA = exB := by
  unfold rJoin; rw [if_pos exC']; rfl
theorem exS' : rSame exB exA = false := by decide +kernel
theorem exL' : rLeq exB exA = false := by unfold rLeq; rw [exC', exJ', exS']; rfl
theorem exF : fFindP exA.f 2 = (3, 0, ⟨#[120]⟩, true) := by rfl
theorem exM : rMay exA = true := by decide +kernel
end Go.Proofs.Ytolbmemogoojhaa
/- Records: the laws of what is joined, in plain words. -/
namespace Go.Proofs.Ytolbmemogoojhaa
open Go Go.RowKit Go.Deep
set_option linter.unusedVariables false
set_option linter.unusedSimpArgs false

/-! Stamps -/
theorem stl (N R N' R' : Int) : stLess N R N' R' = true ↔ (N < N' ∨ N = N' ∧ R < R') := by simp [stLess]
theorem stl_f (N R N' R' : Int) : stLess N R N' R' = false ↔ ¬ (N < N' ∨ N = N' ∧ R < R') := by simp only [stLess, decide_eq_false_iff_not]
theorem mx_cases (N R N' R' : Int) : (stLess N R N' R' = true ∧ mxN N R N' R' = N' ∧ mxR N R N' R' = R') ∨ (stLess N R N' R' = false ∧ mxN N R N' R' = N ∧ mxR N R N' R' = R) := by
  unfold mxN mxR; cases stLess N R N' R' <;> simp
theorem mx_comm (N R N' R' : Int) : mxN N R N' R' = mxN N' R' N R ∧ mxR N R N' R' = mxR N' R' N R := by
  rcases mx_cases N R N' R' with ⟨h1, h2, h3⟩ | ⟨h1, h2, h3⟩ <;> rcases mx_cases N' R' N R with ⟨k1, k2, k3⟩ | ⟨k1, k2, k3⟩ <;> rw [h2, h3, k2, k3] <;> (try rw [stl] at *) <;> (try rw [stl_f] at *) <;> omega
theorem mx_self (N R : Int) : mxN N R N R = N ∧ mxR N R N R = R := by
  rcases mx_cases N R N R with ⟨h1, h2, h3⟩ | ⟨h1, h2, h3⟩ <;> exact ⟨h2, h3⟩
theorem mx_assoc (a b c d e f : Int) : mxN (mxN a b c d) (mxR a b c d) e f = mxN a b (mxN c d e f) (mxR c d e f) ∧ mxR (mxN a b c d) (mxR a b c d) e f = mxR a b (mxN c d e f) (mxR c d e f) := by
  rcases mx_cases a b c d with ⟨h1, h2, h3⟩ | ⟨h1, h2, h3⟩ <;> rcases mx_cases c d e f with ⟨k1, k2, k3⟩ | ⟨k1, k2, k3⟩ <;> rcases mx_cases a b e f with ⟨m1, m2, m3⟩ | ⟨m1, m2, m3⟩ <;>
    refine ⟨?_, ?_⟩ <;> simp only [h2, h3, k2, k3, m2, m3] <;> simp only [stl, stl_f] at h1 k1 m1 <;> omega
theorem mx_ge1 (N R N' R' : Int) : stLess (mxN N R N' R') (mxR N R N' R') N R = false := by
  rcases mx_cases N R N' R' with ⟨h1, h2, h3⟩ | ⟨h1, h2, h3⟩ <;> rw [h2, h3] <;> simp only [stl, stl_f] at * <;> omega
theorem mx_ge2 (N R N' R' : Int) : stLess (mxN N R N' R') (mxR N R N' R') N' R' = false := by
  rcases mx_cases N R N' R' with ⟨h1, h2, h3⟩ | ⟨h1, h2, h3⟩ <;> rw [h2, h3] <;> simp only [stl, stl_f] at * <;> omega

/-! Cells of one number -/
def comb : Option C3 → Option C3 → Option C3
  | some a, some b => some (cJ a b)
  | some a, none => some a
  | none, y => y
theorem comb_none (x : Option C3) : comb x none = x := by cases x <;> rfl
theorem comb_comm (x y : Option C3) : comb x y = comb y x := by
  cases x <;> cases y <;> simp [comb]
  exact cJ_comm _ _
theorem comb_self (x : Option C3) : comb x x = x := by
  cases x <;> simp [comb, cJ_self]
theorem comb_assoc (x y z : Option C3) : comb (comb x y) z = comb x (comb y z) := by
  cases x <;> cases y <;> cases z <;> simp [comb]
  exact cJ_assoc _ _ _
/-- What was written behind a stamp. -/
def live (N R : Int) (x : Option C3) : Option C3 := x.filter fun c => stLess N R c.1 c.2.1
theorem live_some {N R : Int} {c : C3} (h : stLess N R c.1 c.2.1 = true) : live N R (some c) = some c := by simp [live, h]
theorem live_dead {N R : Int} {c : C3} (h : stLess N R c.1 c.2.1 = false) : live N R (some c) = none := by simp [live, h]
theorem live_none (N R : Int) : live N R none = none := rfl
theorem live_eq {N R : Int} {x : Option C3} {c : C3} : live N R x = some c ↔ x = some c ∧ stLess N R c.1 c.2.1 = true := by
  cases x with
  | none => simp [live]
  | some d =>
    cases h : stLess N R d.1 d.2.1
    · rw [live_dead h]; constructor
      · intro h; cases h
      · rintro ⟨h1, h2⟩; cases h1; rw [h] at h2; cases h2
    · rw [live_some h]; constructor
      · intro h1; cases h1; exact ⟨rfl, h⟩
      · exact fun h1 => h1.1
/-- Of two cells the greater one has no lesser stamp. -/
theorem cL_stamp {a b : C3} (h : cL a b = true) : stLess b.1 b.2.1 a.1 a.2.1 = false := by
  have := (cLess_iff _ _ _ _ _ _).1 h
  unfold Ord3.lt keyC at this
  simp only at this
  rw [stl_f]
  omega
theorem cJ_stamp (a b : C3) : stLess (cJ a b).1 (cJ a b).2.1 a.1 a.2.1 = false ∧ stLess (cJ a b).1 (cJ a b).2.1 b.1 b.2.1 = false := by
  cases h : cL a b
  · rw [cJ_left h]
    refine ⟨by rw [stl_f]; omega, ?_⟩
    cases h2 : cL b a
    · rw [cL_tri h h2]; rw [stl_f]; omega
    · exact cL_stamp h2
  · rw [cJ_right h]
    exact ⟨cL_stamp h, by rw [stl_f]; omega⟩
theorem live_comb {N R N' R' : Int} (h : stLess N R N' R' = false) (x y : Option C3) : live N R (comb (live N' R' x) y) = live N R (comb x y) := by
  cases x with
  | none => rfl
  | some u =>
    cases hu : stLess N' R' u.1 u.2.1
    · rw [live_dead hu]
      have hd : stLess N R u.1 u.2.1 = false := by rw [stl_f] at *; omega
      cases y with
      | none => rw [comb_none, comb_none, live_dead hd]; rfl
      | some c =>
        show live N R (some c) = live N R (some (cJ u c))
        rcases cJ_pick u c with h1 | h1
        · have h2 := (cJ_stamp u c).2
          rw [h1] at h2 ⊢
          rw [live_dead hd, live_dead]
          rw [stl_f] at *; omega
        · rw [h1]
    · rw [live_some hu]
theorem live_comb2 {N R N' R' : Int} (h : stLess N R N' R' = false) (x y : Option C3) : live N R (comb x (live N' R' y)) = live N R (comb x y) := by
  rw [comb_comm, live_comb h, comb_comm]

/-! Fields by rising numbers -/
def AscB (lo hi : Int) : List F4 → Prop
  | [] => True
  | f :: l => lo ≤ f.1 ∧ f.1 < hi ∧ AscB (f.1 + 1) hi l
theorem asc_lo : ∀ {l : List F4} {lo lo' hi : Int}, AscB lo hi l → lo' ≤ lo → AscB lo' hi l
  | [], _, _, _, _, _ => trivial
  | f :: l, _, _, _, h, h' => ⟨by have := h.1; omega, h.2⟩
theorem asc_out : ∀ {l : List F4} {lo hi k : Int}, AscB lo hi l → (k < lo ∨ hi ≤ k) → fFind l k = none
  | [], _, _, _, _, _ => rfl
  | f :: l, lo, hi, k, h, hk => by
    obtain ⟨h1, h2, h3⟩ := h
    unfold fFind
    rw [if_neg (by omega)]
    exact asc_out h3 (by omega)
theorem asc_mem : ∀ {l : List F4} {lo hi : Int} {f : F4}, AscB lo hi l → f ∈ l → fFind l f.1 = some f.2 ∧ lo ≤ f.1 ∧ f.1 < hi
  | g :: l, lo, hi, f, h, hf => by
    obtain ⟨h1, h2, h3⟩ := h
    rcases List.mem_cons.1 hf with rfl | hf
    · exact ⟨by simp [fFind], h1, h2⟩
    · obtain ⟨k1, k2, k3⟩ := asc_mem h3 hf
      refine ⟨?_, by omega, k3⟩
      unfold fFind
      rw [if_neg (by omega)]; exact k1
/-- The fields of so many numbers. -/
def cn (g : Int → Option C3) (s n : Nat) : List F4 := (List.range' s n).filterMap fun i : Nat => (g (i : Int)).map fun c => ((i : Int), c)
theorem cn_succ (g : Int → Option C3) (s n : Nat) : cn g s (n + 1) = ((g (s : Int)).map fun c => ((s : Int), c)).toList ++ cn g (s + 1) n := by
  unfold cn
  rw [List.range'_succ, List.filterMap_cons]
  cases h : g (s : Int) <;> simp [h]
theorem cn_asc (g : Int → Option C3) : ∀ (n s : Nat), AscB s (s + n : Nat) (cn g s n)
  | 0, s => trivial
  | n + 1, s => by
    rw [cn_succ]
    have ih := cn_asc g n (s + 1)
    rw [show s + 1 + n = s + (n + 1) by omega] at ih
    cases h : g (s : Int) with
    | none => exact asc_lo ih (by omega)
    | some c => exact ⟨by simp, by simp; omega, by simpa using ih⟩
theorem cn_find (g : Int → Option C3) (k : Int) : ∀ (n s : Nat), (s : Int) ≤ k → k < (s + n : Nat) → fFind (cn g s n) k = g k
  | 0, s, h1, h2 => by omega
  | n + 1, s, h1, h2 => by
    rw [cn_succ]
    by_cases hk : k = s
    · subst hk
      cases h : g (s : Int) with
      | none => exact asc_out (cn_asc g n (s + 1)) (by omega)
      | some c => simp [fFind]
    · have ih := cn_find g k n (s + 1) (by omega) (by omega)
      cases h : g (s : Int) with
      | none => exact ih
      | some c =>
        show fFind ((((s : Int), c)) :: cn g (s + 1) n) k = g k
        unfold fFind
        rw [if_neg (fun h => hk h.symm)]; exact ih
theorem cn_congr {g g' : Int → Option C3} : ∀ (n s : Nat), (∀ k : Int, (s : Int) ≤ k → g k = g' k) → cn g s n = cn g' s n
  | 0, s, _ => rfl
  | n + 1, s, h => by rw [cn_succ, cn_succ, h s (by omega), cn_congr n (s + 1) fun k hk => h k (by omega)]
theorem asc_cn : ∀ (n s : Nat) (l : List F4), AscB s (s + n : Nat) l → l = cn (fFind l) s n
  | 0, s, l, h => by
    cases l with
    | nil => rfl
    | cons f l => exact absurd h.2.1 (by have := h.1; omega)
  | n + 1, s, l, h => by
    rw [cn_succ]
    rw [show s + (n + 1) = s + 1 + n by omega] at h
    cases l with
    | nil =>
      have := asc_cn n (s + 1) [] trivial
      simp only [fFind]
      exact this
    | cons f l =>
      obtain ⟨h1, h2, h3⟩ := h
      by_cases hf : f.1 = s
      · have e : fFind (f :: l) (s : Int) = some f.2 := by unfold fFind; rw [if_pos hf]
        have ih := asc_cn n (s + 1) l (by rw [hf] at h3; exact h3)
        rw [e]
        have e2 : cn (fFind (f :: l)) (s + 1) n = cn (fFind l) (s + 1) n := cn_congr n (s + 1) fun k hk => by
          show (if f.1 = k then some f.2 else fFind l k) = fFind l k
          rw [if_neg (by omega)]
        rw [e2, ← ih]
        simp only [Option.map_some, Option.toList_some, List.cons_append, List.nil_append, List.cons.injEq, and_true]
        rw [← hf]
      · have e : fFind (f :: l) (s : Int) = none := asc_out (lo := s + 1) (hi := (s + 1 + n : Nat)) ⟨by omega, h2, h3⟩ (.inl (by omega))
        rw [e]
        exact asc_cn n (s + 1) (f :: l) ⟨by omega, h2, h3⟩
theorem asc_ext {l m : List F4} (hl : AscB 0 8 l) (hm : AscB 0 8 m) (h : ∀ k, fFind l k = fFind m k) : l = m := by
  rw [asc_cn 8 0 l hl, asc_cn 8 0 m hm]
  exact cn_congr 8 0 fun k _ => h k

/-! What may be -/
theorem fMay_iff {N R : Int} : ∀ {l : List F4} {last : Int}, fMay N R last l = true ↔ AscB (last + 1) 8 l ∧ ∀ f ∈ l, cMay f.2.1 f.2.2.1 f.2.2.2 = true ∧ stLess N R f.2.1 f.2.2.1 = true
  | [], _ => by simp [fMay, AscB]
  | f :: l, last => by
    have ih := fMay_iff (N := N) (R := R) (l := l) (last := f.1)
    simp only [fMay, Bool.and_eq_true, decide_eq_true_eq, ih, AscB, List.mem_cons, forall_eq_or_imp]
    constructor
    · rintro ⟨⟨⟨⟨h1, h2⟩, h3⟩, h4⟩, h5, h6⟩; exact ⟨⟨by omega, h2, h5⟩, ⟨h3, h4⟩, h6⟩
    · rintro ⟨⟨h1, h2, h5⟩, ⟨h3, h4⟩, h6⟩; exact ⟨⟨⟨⟨by omega, h2⟩, h3⟩, h4⟩, h5, h6⟩
theorem rMay_iff {r : RD} : rMay r = true ↔ stMay r.N r.R = true ∧ ¬ (r.f = [] ∧ r.N = 0 ∧ r.R = 0) ∧ AscB 0 8 r.f ∧ ∀ f ∈ r.f, cMay f.2.1 f.2.2.1 f.2.2.2 = true ∧ stLess r.N r.R f.2.1 f.2.2.1 = true := by
  unfold rMay recMay
  rw [Bool.and_eq_true, Bool.and_eq_true, fMay_iff, and_assoc]
  refine and_congr_right fun _ => and_congr ?_ Iff.rfl
  rw [Bool.not_eq_true', Bool.and_eq_false_iff]
  have e : stEq r.N r.R 0 0 = false ↔ ¬ (r.N = 0 ∧ r.R = 0) := by
    constructor
    · exact stEq_false
    · intro h; cases hs : stEq r.N r.R 0 0; rfl; exact absurd (stEq_true hs) h
  rw [e]
  cases r.f <;> simp
theorem rMay_asc {r : RD} (h : rMay r = true) : AscB 0 8 r.f := (rMay_iff.1 h).2.2.1
theorem rMay_at {r : RD} (h : rMay r = true) {k : Int} {c : C3} (hk : fFind r.f k = some c) : cMay c.1 c.2.1 c.2.2 = true ∧ stLess r.N r.R c.1 c.2.1 = true :=
  (rMay_iff.1 h).2.2.2 _ (fFind_mem hk)
theorem fFind_fPut (l : List F4) (k : Int) (c : C3) (k' : Int) : fFind (fPut l k c) k' = if k = k' then some c else fFind l k' := by
  induction l with
  | nil => simp [fPut, fFind]
  | cons f l ih =>
    unfold fPut
    by_cases h : f.1 = k
    · rw [if_pos h]
      unfold fFind
      by_cases h2 : k = k'
      · simp [h2]
      · rw [if_neg h2, if_neg h2, if_neg (by rw [h]; exact h2)]
    · rw [if_neg h]
      unfold fFind
      rw [ih]
      by_cases h2 : f.1 = k'
      · rw [if_pos h2, if_neg (by rw [← h2]; exact fun e => h e.symm), if_pos h2]
      · rw [if_neg h2, if_neg h2]
theorem find_putAll : ∀ {l : List F4} {m : List F4} {lo hi : Int} (k : Int), AscB lo hi l → fFind (putAll m l) k = comb (fFind m k) (fFind l k)
  | [], m, _, _, k, _ => by rw [show fFind [] k = none from rfl, comb_none]; rfl
  | f :: l, m, lo, hi, k, h => by
    obtain ⟨h1, h2, h3⟩ := h
    show fFind (putAll (putF m f) l) k = _
    rw [find_putAll k h3]
    have e : fFind (putF m f) k = if f.1 = k then comb (fFind m k) (some f.2) else fFind m k := by
      unfold putF
      cases hm : fFind m f.1 with
      | none =>
        simp only
        rw [fFind_fPut]
        by_cases hk : f.1 = k
        · rw [if_pos hk, if_pos hk, ← hk, hm]; rfl
        · rw [if_neg hk, if_neg hk]
      | some was =>
        simp only
        rw [fFind_fPut]
        by_cases hk : f.1 = k
        · rw [if_pos hk, if_pos hk, ← hk, hm]; rfl
        · rw [if_neg hk, if_neg hk]
    rw [e]
    by_cases hk : f.1 = k
    · rw [if_pos hk, show fFind (f :: l) k = some f.2 by unfold fFind; rw [if_pos hk], asc_out h3 (.inl (by omega)), comb_none]
    · rw [if_neg hk, show fFind (f :: l) k = fFind l k by rw [fFind, if_neg hk]]
theorem outTo_cn (N R : Int) (m : List F4) : outTo N R m 8 = cn (fun k => live N R (fFind m k)) 0 8 := by
  unfold outTo cn
  rw [List.range_eq_range']
  congr 1
  funext i
  unfold outAt
  show _ = Option.map _ (live N R (fFind m (i : Int)))
  cases h : fFind m (i : Int) with
  | none => rfl
  | some c =>
    simp only
    cases h2 : stLess N R c.1 c.2.1
    · rw [live_dead h2]; rfl
    · rw [live_some h2]; rfl
theorem both_find {r r' : RD} (h : rMay r = true) (h' : rMay r' = true) (k : Int) : fFind (rBoth r r').f k = live (rBoth r r').N (rBoth r r').R (comb (fFind r.f k) (fFind r'.f k)) := by
  have e : (rBoth r r').f = cn (fun k => live (rBoth r r').N (rBoth r r').R (fFind (putAll (putAll [] r.f) r'.f) k)) 0 8 := outTo_cn _ _ _
  rw [e]
  by_cases hk : 0 ≤ k ∧ k < 8
  · rw [cn_find _ _ _ _ (by simpa using hk.1) (by simpa using hk.2), find_putAll k (rMay_asc h'), find_putAll k (rMay_asc h)]
    rfl
  · have ho : k < 0 ∨ 8 ≤ k := by omega
    rw [asc_out (cn_asc _ _ _) (by simpa using ho), asc_out (rMay_asc h) ho, asc_out (rMay_asc h') ho]
    rfl
theorem both_asc (r r' : RD) : AscB 0 8 (rBoth r r').f := by
  have e : (rBoth r r').f = cn (fun k => live (rBoth r r').N (rBoth r r').R (fFind (putAll (putAll [] r.f) r'.f) k)) 0 8 := outTo_cn _ _ _
  rw [e]; exact cn_asc _ 8 0
theorem stMay_mx {N R N' R' : Int} (h : stMay N R = true) (h' : stMay N' R' = true) : stMay (mxN N R N' R') (mxR N R N' R') = true := by
  rcases mx_cases N R N' R' with ⟨_, h2, h3⟩ | ⟨_, h2, h3⟩ <;> rw [h2, h3] <;> assumption
theorem comb_some {x y : Option C3} {c : C3} (h : comb x y = some c) : x = some c ∨ y = some c := by
  cases x with
  | none => exact .inr h
  | some a =>
    cases y with
    | none => exact .inl h
    | some b =>
      simp only [comb, Option.some.injEq] at h
      rcases cJ_pick a b with h1 | h1
      · left; rw [← h, h1]
      · right; rw [← h, h1]
theorem stMay_ge {N R : Int} (h : stMay N R = true) : 0 ≤ N ∧ 0 ≤ R := by
  simp only [stMay, Bool.or_eq_true, decide_eq_true_eq] at h; omega
theorem both_may {r r' : RD} (h : rMay r = true) (h' : rMay r' = true) : rMay (rBoth r r') = true := by
  obtain ⟨a1, a2, a3, a4⟩ := rMay_iff.1 h
  obtain ⟨b1, b2, b3, b4⟩ := rMay_iff.1 h'
  rw [rMay_iff]
  refine ⟨stMay_mx a1 b1, ?_, both_asc r r', fun f hf => ?_⟩
  · rintro ⟨e1, e2, e3⟩
    have g1 := stMay_ge a1
    have g2 := stMay_ge b1
    have hz : r.N = 0 ∧ r.R = 0 := by
      have h1 := mx_ge1 r.N r.R r'.N r'.R
      have e2' : mxN r.N r.R r'.N r'.R = 0 := e2
      have e3' : mxR r.N r.R r'.N r'.R = 0 := e3
      rw [e2', e3', stl_f] at h1
      omega
    cases hl : r.f with
    | nil => exact a2 ⟨hl, hz⟩
    | cons f l =>
      have hm : f ∈ r.f := by rw [hl]; exact List.mem_cons_self
      have hf := (asc_mem a3 hm).1
      have hlv := (a4 f hm).2
      have hb := both_find h h' f.1
      rw [e1, hf, show fFind [] f.1 = none from rfl, e2, e3] at hb
      rw [hz.1, hz.2] at hlv
      cases hy : fFind r'.f f.1 with
      | none => rw [hy, comb_none, live_some hlv] at hb; cases hb
      | some c =>
        rw [hy] at hb
        have hs := (cJ_stamp f.2 c).1
        have : stLess 0 0 (cJ f.2 c).1 (cJ f.2 c).2.1 = true := by rw [stl] at *; rw [stl_f] at hs; omega
        rw [show comb (some f.2) (some c) = some (cJ f.2 c) from rfl, live_some this] at hb
        cases hb
  · have hk := (asc_mem (both_asc r r') hf).1
    rw [both_find h h'] at hk
    obtain ⟨h1, h2⟩ := live_eq.1 hk
    refine ⟨?_, h2⟩
    rcases comb_some h1 with h3 | h3
    · exact (rMay_at h h3).1
    · exact (rMay_at h' h3).1
theorem rd_ext {r r' : RD} (h : rMay r = true) (h' : rMay r' = true) (hi : r.id = r'.id) (hN : r.N = r'.N) (hR : r.R = r'.R) (hk : ∀ k, fFind r.f k = fFind r'.f k) : r = r' := by
  have := asc_ext (rMay_asc h) (rMay_asc h') hk
  cases r; cases r'; simp_all
theorem live_own {r : RD} (h : rMay r = true) (k : Int) : live r.N r.R (fFind r.f k) = fFind r.f k := by
  cases hk : fFind r.f k with
  | none => rfl
  | some c => exact live_some (rMay_at h hk).2
theorem both_comm {r r' : RD} (h : rMay r = true) (h' : rMay r' = true) (hi : r.id = r'.id) : rBoth r r' = rBoth r' r := by
  refine rd_ext (both_may h h') (both_may h' h) hi (mx_comm _ _ _ _).1 (mx_comm _ _ _ _).2 fun k => ?_
  rw [both_find h h', both_find h' h, comb_comm]
  congr 1
  · exact (mx_comm _ _ _ _).1
  · exact (mx_comm _ _ _ _).2
theorem both_self {r : RD} (h : rMay r = true) : rBoth r r = r := by
  refine rd_ext (both_may h h) h rfl (mx_self _ _).1 (mx_self _ _).2 fun k => ?_
  rw [both_find h h, comb_self, show (rBoth r r).N = r.N from (mx_self _ _).1, show (rBoth r r).R = r.R from (mx_self _ _).2, live_own h]
theorem both_assoc {a b c : RD} (ha : rMay a = true) (hb : rMay b = true) (hc : rMay c = true) : rBoth (rBoth a b) c = rBoth a (rBoth b c) := by
  have hN : (rBoth (rBoth a b) c).N = (rBoth a (rBoth b c)).N := (mx_assoc _ _ _ _ _ _).1
  have hR : (rBoth (rBoth a b) c).R = (rBoth a (rBoth b c)).R := (mx_assoc _ _ _ _ _ _).2
  refine rd_ext (both_may (both_may ha hb) hc) (both_may ha (both_may hb hc)) rfl hN hR fun k => ?_
  rw [both_find (both_may ha hb) hc, both_find ha (both_may hb hc), both_find ha hb, both_find hb hc]
  have g1 : stLess (rBoth (rBoth a b) c).N (rBoth (rBoth a b) c).R (rBoth a b).N (rBoth a b).R = false := mx_ge1 _ _ _ _
  have g2 : stLess (rBoth a (rBoth b c)).N (rBoth a (rBoth b c)).R (rBoth b c).N (rBoth b c).R = false := mx_ge2 _ _ _ _
  rw [live_comb g1, live_comb2 g2, comb_assoc, hN, hR]
theorem leq_iff {r r' : RD} : rLeq r r' = true ↔ rMay r = true ∧ rMay r' = true ∧ r.id = r'.id ∧ rBoth r r' = r' := by
  unfold rLeq rJoin
  rw [Bool.and_eq_true, rSame_iff]
  constructor
  · rintro ⟨h1, h2⟩
    rw [if_pos h1] at h2
    simp only [rCan, Bool.and_eq_true, beq_iff_eq] at h1
    exact ⟨h1.1.1, h1.1.2, h1.2, h2⟩
  · rintro ⟨h1, h2, h3, h4⟩
    have : rCan r r' = true := by simp [rCan, h1, h2, h3]
    rw [if_pos this]; exact ⟨this, h4⟩
theorem can_iff {r r' : RD} : rCan r r' = true ↔ rMay r = true ∧ rMay r' = true ∧ r.id = r'.id := by simp [rCan, and_assoc]
theorem join_eq {r r' : RD} (h : rMay r = true) (h' : rMay r' = true) (hi : r.id = r'.id) : rJoin r r' = rBoth r r' := by
  unfold rJoin; rw [if_pos (can_iff.2 ⟨h, h', hi⟩)]
theorem leq_both1 {r r' : RD} (h : rMay r = true) (h' : rMay r' = true) (hi : r.id = r'.id) : rLeq r (rBoth r r') = true :=
  leq_iff.2 ⟨h, both_may h h', rfl, by rw [← both_assoc h h h', both_self h]⟩
theorem leq_both2 {r r' : RD} (h : rMay r = true) (h' : rMay r' = true) (hi : r.id = r'.id) : rLeq r' (rBoth r r') = true := by
  rw [both_comm h h' hi]; exact leq_both1 h' h hi.symm
theorem leq_self (r : RD) : rLeq r r = rMay r := by
  rw [Bool.eq_iff_iff, leq_iff]
  exact ⟨fun h => h.1, fun h => ⟨h, h, rfl, both_self h⟩⟩
theorem leq_anti {a b : RD} (h : rLeq a b = true) (k : rLeq b a = true) : a = b := by
  obtain ⟨h1, h2, h3, h4⟩ := leq_iff.1 h
  obtain ⟨_, _, _, k4⟩ := leq_iff.1 k
  rw [← k4, ← both_comm h1 h2 h3, h4]
theorem leq_trans {a b c : RD} (h : rLeq a b = true) (k : rLeq b c = true) : rLeq a c = true := by
  obtain ⟨h1, h2, h3, h4⟩ := leq_iff.1 h
  obtain ⟨_, k2, k3, k4⟩ := leq_iff.1 k
  exact leq_iff.2 ⟨h1, k2, h3.trans k3, by rw [← k4, ← both_assoc h1 h2 k2, h4, k4]⟩
end Go.Proofs.Ytolbmemogoojhaa
/- An argument that is a record, or a field, opened. -/
namespace Go.Proofs.Ytolbmemogoojhaa
set_option maxRecDepth 100000
open Go Go.RowKit Go.ChangeShapes Go.WideShapes Go.ChangeAt
set_option linter.unusedVariables false
set_option linter.unusedSimpArgs false
section
variable {H : Type} {enc : TypeId × Value → H} {w : World} {base base' : Nat} {spare : Nat → Bool} {held : Bool}
theorem cells_cell : Try.prog.cellsOf 46 = 3 := by kernel_rfl
theorem cells_field : Try.prog.cellsOf 51 = 4 := by kernel_rfl
theorem cells_u8 : Try.prog.cellsOf 5 = 1 := by kernel_rfl
theorem cells_id : Try.prog.cellsOf 33 = 16 := by kernel_rfl
theorem cells_fs : Try.prog.cellsOf 36 = 1 := by kernel_rfl
theorem cells_rec : Try.prog.cellsOf 38 = 19 := by kernel_rfl
theorem rd_field {cs : List Value} (h : Rd enc Try.prog w base spare held 51 cs) : ∃ f : F4, cs = [.int .i64 f.1, .int .i64 f.2.1, .int .i64 f.2.2.1, .string f.2.2.2] := by
  obtain ⟨hl, hf⟩ := h.struct Try.underlying51
  have hl2 : cs.length = 4 := hl.trans cells_field
  match cs, hl2 with
  | [c0, c1, c2, c3], _ =>
    simp only [List.mem_cons, List.not_mem_nil, or_false, forall_eq_or_imp, forall_eq] at hf
    rw [cells_int, cells_cell] at hf
    obtain ⟨i, h1, w1⟩ := hf.1.int Try.underlying3
    obtain ⟨N, R, s, h2, _⟩ := rd_cell hf.2
    simp at h1 h2
    exact ⟨(i, N, R, s), by rw [h1, h2.1, h2.2.1, h2.2.2]⟩
theorem rd_fields : ∀ (n : Nat) (es : List Value), es.length = n * 4 → (∀ i, i < n → Rd enc Try.prog w base spare held 51 ((es.drop (i * 4)).take 4)) → ∃ l : List F4, l.length = n ∧ es = fieldsL l
  | 0, es, hl, _ => ⟨[], rfl, (List.eq_nil_of_length_eq_zero (by omega)).trans rfl⟩
  | n + 1, es, hl, h => by
    match es, hl with
    | a :: b :: c :: d :: es, hl =>
      have h0 := h 0 (by omega)
      simp only [Nat.zero_mul, List.drop_zero, List.take_succ_cons, List.take_zero] at h0
      obtain ⟨f, he⟩ := rd_field h0
      obtain ⟨l, h1, rfl⟩ := rd_fields n es (by simp at hl; omega) fun i hi => by
        have := h (i + 1) (by omega)
        rw [show (i + 1) * 4 = i * 4 + 4 by omega] at this
        simpa using this
      simp at he
      exact ⟨f :: l, by simp [h1], by rw [he.1, he.2.1, he.2.2.1, he.2.2.2]; rfl⟩
    | [], hl => simp at hl
    | [_], hl => simp at hl; omega
    | [_, _], hl => simp at hl; omega
    | [_, _, _], hl => simp at hl; omega
theorem rd_id {cs : List Value} (h : Rd enc Try.prog w base spare held 33 cs) : ∃ bs : List UInt8, bs.length = 16 ∧ cs = encU bs := by
  obtain ⟨hl, hf⟩ := h.array Try.underlying33
  have hl2 : cs.length = 16 := hl.trans cells_id
  rw [cells_u8] at hf
  obtain ⟨bs, rfl⟩ := rd_u8s 16 cs hl2 fun i hi => by have := hf i hi; rwa [Nat.mul_one] at this
  exact ⟨bs, by rw [encU_length] at hl2; exact hl2, rfl⟩
theorem rd_rec {cs : List Value} (h : Rd enc Try.prog w base spare held 38 cs) : ∃ (r : RD) (s : Value), cs = (rA r s).toList ∧ r.ok ∧ Flds w s r.f := by
  obtain ⟨hl, hf⟩ := h.struct Try.underlying38
  have hl2 : cs.length = 19 := hl.trans cells_rec
  simp only [List.mem_cons, List.not_mem_nil, or_false, forall_eq_or_imp, forall_eq] at hf
  rw [cells_id, cells_stamp, cells_fs] at hf
  obtain ⟨h1, h2, h3⟩ := hf
  obtain ⟨bs, hb, e1⟩ := rd_id h1
  obtain ⟨N, R, e2, _⟩ := rd_stamp h2
  obtain ⟨v, n, es, e3, hrow, hel⟩ := h3.row (s := 4) Try.underlying36 cells_field (by omega)
  obtain ⟨l, hln, rfl⟩ := rd_fields n es hrow.1 hel
  subst hln
  refine ⟨⟨bs, N, R, l⟩, v, ?_, hb, hrow⟩
  simp only [List.drop_zero] at e1
  have ec : cs = cs.take 16 ++ ((cs.drop 16).take 2 ++ (cs.drop 18).take 1) := by
    apply List.ext_getElem?
    intro i
    rw [List.getElem?_append, List.getElem?_append]
    simp only [List.length_take, List.length_drop, hl2, List.getElem?_take, List.getElem?_drop]
    by_cases h16 : i < 16
    · rw [if_pos (by omega), if_pos h16]
    · rw [if_neg (by omega)]
      by_cases h18 : i < 18
      · rw [if_pos (by omega), if_pos (by omega)]; congr 1; omega
      · rw [if_neg (by omega)]
        by_cases h19 : i < 19
        · rw [if_pos (by omega)]; congr 1; omega
        · rw [if_neg (by omega), List.getElem?_eq_none (by omega)]
  rw [ec, e1, e2, e3]
  simp [rA, recA]
theorem open_rec {r : Reach} {v : Value} {d : DataW H} {p : List MemPlace} (h : DataW.Trod enc Try.prog w base spare held 38 v d p) (hv : Value.okWide Try.prog w r base' 38 v) :
    ∃ (r : RD) (s : Value), v = .agg (rA r s) ∧ r.ok ∧ Flds w s r.f := by
  obtain ⟨cs, rfl, _⟩ := okWide_struct Try.underlying38 hv
  obtain ⟨r, s, h1, h2, h3⟩ := rd_rec (Rd.of_Trod h)
  exact ⟨r, s, by simp only [Value.cells] at h1; rw [show cs = rA r s from Array.ext' h1], h2, h3⟩
theorem open_field {r : Reach} {v : Value} {d : DataW H} {p : List MemPlace} (h : DataW.Trod enc Try.prog w base spare held 51 v d p) (hv : Value.okWide Try.prog w r base' 51 v) :
    ∃ f : F4, v = .agg #[.int .i64 f.1, .int .i64 f.2.1, .int .i64 f.2.2.1, .string f.2.2.2] := by
  obtain ⟨cs, rfl, _⟩ := okWide_struct Try.underlying51 hv
  obtain ⟨f, h1⟩ := rd_field (Rd.of_Trod h)
  exact ⟨f, by simp only [Value.cells] at h1; rw [show cs = #[.int .i64 f.1, .int .i64 f.2.1, .int .i64 f.2.2.1, .string f.2.2.2] from Array.ext' h1]⟩
end
end Go.Proofs.Ytolbmemogoojhaa
/- A name put into a record that lies in a block. -/
namespace Go.Proofs.Ytolbmemogoojhaa
open Go Go.RowKit Go.Deep
set_option linter.unusedVariables false
set_option linter.unusedSimpArgs false
set_option maxRecDepth 100000
section
variable {P : Program} {ops : Array Oper} {rest : List Oper} {o : Oper} {a : Act} {w : World} {Q : Exit → Act → World → Prop}
/-- A part of a block is written, the world a letter. -/
theorem wpList_store_part (hw : Region.wanted o (yielded ops a.tmps) = true) (ty : TypeId) (x y : Operand) (ho : o.op = .store ty x y) (dst : Option Tmp) (hdst : o.dst = dst)
    (g off : Nat) (cells : Array Value) (hx : a.eval x = .pointer (some ⟨g, off, none⟩)) (hy : a.eval y = .agg cells)
    (t : TypeId) (cur : Array Value) (hg : Blk w g t cur) (hi : (P.info? ty).map (·.size) = some cells.size)
    (hfit : off + cells.size ≤ cur.size) (h1 : cells.all (·.oneCell') = true) (new : Array Value) (hnew : (cur.toList.take off ++ cells.toList ++ cur.toList.drop (off + cells.size)).toArray = new)
    (h : ∀ w', Blk w' g t new → But g w w' → w'.heap.size = w.heap.size → wpList P ops Q rest (a.put dst undef) w') : wpList P ops Q (o :: rest) a w := by
  subst hdst; subst hnew
  have hst := run_storeCells_at (P := P) g off t cells.toList 0 cur w hg (by simpa using hfit) (fun v hv => (Array.all_eq_true_iff_forall_mem.1 h1) v (by simpa using hv))
  have hv : (storeVar ty ⟨g, off, none⟩ (.agg cells)).run P w = .ok () (w.setRow g (cur.toList.take off ++ cells.toList ++ cur.toList.drop (off + cells.size)).toArray) := by
    cases hq : P.info? ty with
    | none => simp [hq] at hi
    | some i =>
      have hs : cells.size = i.size := by simp [hq] at hi; omega
      simp only [Nat.add_zero, Array.length_toList] at hst
      simp [storeVar, sizeOf, typeInfo, hq, Value.cells, hs]
      rw [hs, List.append_assoc] at hst
      exact hst
  refine BigFrame.wpList_want hw fun K hK => ?_
  unfold Oper.wp execOp
  simp only [ho, hx, hy, Instr.storeAt, Instr.sureAddr, Sem.run_bind, Sem.run_pure, Result.andThen_ok, hv]
  exact hK _ _ (h _ (hg.setRow _) ((But.refl _ _).setRow _) (by simp))
end
theorem rA_named (r r' : RD) (s : Value) (h : r.ok) (h' : r'.ok) : ((rA r s).toList.take 0 ++ (idA r').toList ++ (rA r s).toList.drop (0 + (idA r').size)).toArray = rA ⟨r'.id, r.N, r.R, r.f⟩ s := by
  rw [idA_size h']
  have e : (rA r s).toList = (encU r.id) ++ [.int .i64 r.N, .int .i64 r.R, s] := by simp [rA, recA]
  have hl : (encU r.id).length = 16 := by rw [encU_length]; exact h
  rw [e, List.take_zero, List.nil_append, Nat.zero_add, List.drop_append_of_le_length (by omega), List.drop_of_length_le (by omega), List.nil_append]
  simp [idA, rA, recA]
theorem idA_one (r : RD) : (idA r).all (·.oneCell') = true := encU_all _
end Go.Proofs.Ytolbmemogoojhaa
/- Records: the laws of RecCells, RecDead, RecOnly in plain words. -/
namespace Go.Proofs.Ytolbmemogoojhaa
open Go Go.RowKit Go.Deep
set_option linter.unusedVariables false
set_option linter.unusedSimpArgs false
set_option maxRecDepth 100000
theorem findP_some {l : List F4} {no N R : Int} {S : ByteArray} (h : fFindP l no = (N, R, S, true)) : fFind l no = some (N, R, S) := by
  unfold fFindP at h
  cases hx : fFind l no with
  | none => rw [hx] at h; simp at h
  | some c => rw [hx] at h; simp only [Prod.mk.injEq] at h; obtain ⟨rfl, rfl, rfl, _⟩ := h; rfl
theorem findP_none {l : List F4} {no N R : Int} {S : ByteArray} (h : fFindP l no = (N, R, S, false)) : fFind l no = none := by
  unfold fFindP at h
  cases hx : fFind l no with
  | none => rfl
  | some c => rw [hx] at h; simp at h
theorem cells_law {a b j : RD} {no xN xR yN yR zN zR : Int} {xS yS zS : ByteArray} {one two has : Bool} (h : rCan a b = true) (hj : rJoin a b = j)
    (hx : fFindP a.f no = (xN, xR, xS, one)) (hy : fFindP b.f no = (yN, yR, yS, two)) (hz : fFindP j.f no = (zN, zR, zS, has)) :
    has = (one && stLess j.N j.R xN xR || two && stLess j.N j.R yN yR) ∧ (has = true → (one && cEq zN zR zS xN xR xS || two && cEq zN zR zS yN yR yS) = true) ∧
      (has = true → one = true → cLess zN zR zS xN xR xS = false) ∧ (has = true → two = true → cLess zN zR zS yN yR yS = false) ∧ (one = true → xS.size ≤ 80000) ∧ (two = true → yS.size ≤ 80000) ∧ (has = true → zS.size ≤ 80000) := by
  obtain ⟨ha, hb, hi⟩ := can_iff.1 h
  have hm := both_may ha hb
  rw [join_eq ha hb hi] at hj
  have hf := both_find ha hb no
  rw [hj] at hf hm
  have hsm : ∀ {r : RD} {N R : Int} {S : ByteArray}, rMay r = true → fFind r.f no = some (N, R, S) → S.size ≤ 80000 := fun hr hk => by
    have := (cMay_le (rMay_at hr hk).1).2.2; simp only at this; omega
  cases one with
  | false =>
    have ex := findP_none hx
    cases two with
    | false =>
      have ey := findP_none hy
      rw [ex, ey] at hf
      cases has with
      | true => rw [findP_some hz] at hf; cases hf
      | false => simp
    | true =>
      have ey := findP_some hy
      rw [ex, ey] at hf
      have hc : comb none (some (yN, yR, yS)) = some (yN, yR, yS) := rfl
      rw [hc] at hf
      cases has with
      | true =>
        rw [findP_some hz] at hf
        obtain ⟨h1, h2⟩ := live_eq.1 hf.symm
        simp only [Option.some.injEq, Prod.mk.injEq] at h1
        obtain ⟨rfl, rfl, rfl⟩ := h1
        refine ⟨by simpa using h2.symm, fun _ => by simp [cEq_refl], fun _ h => by simp at h, fun _ _ => cl_irr _ _ _, fun h => by simp at h, fun _ => hsm hb ey, fun _ => hsm hb ey⟩
      | false =>
        rw [findP_none hz] at hf
        have hd : stLess j.N j.R yN yR = false := by
          cases hs : stLess j.N j.R yN yR with
          | false => rfl
          | true => rw [live_some hs] at hf; cases hf
        simp [hd]; exact hsm hb ey
  | true =>
    have ex := findP_some hx
    cases two with
    | false =>
      have ey := findP_none hy
      rw [ex, ey] at hf
      have hc : comb (some (xN, xR, xS)) none = some (xN, xR, xS) := rfl
      rw [hc] at hf
      cases has with
      | true =>
        rw [findP_some hz] at hf
        obtain ⟨h1, h2⟩ := live_eq.1 hf.symm
        simp only [Option.some.injEq, Prod.mk.injEq] at h1
        obtain ⟨rfl, rfl, rfl⟩ := h1
        refine ⟨by simpa using h2.symm, fun _ => by simp [cEq_refl], fun _ _ => cl_irr _ _ _, fun _ h => by simp at h, fun _ => hsm ha ex, fun h => by simp at h, fun _ => hsm ha ex⟩
      | false =>
        rw [findP_none hz] at hf
        have hd : stLess j.N j.R xN xR = false := by
          cases hs : stLess j.N j.R xN xR with
          | false => rfl
          | true => rw [live_some hs] at hf; cases hf
        simp [hd]; exact hsm ha ex
    | true =>
      have ey := findP_some hy
      rw [ex, ey] at hf
      have hc : comb (some (xN, xR, xS)) (some (yN, yR, yS)) = some (cJ (xN, xR, xS) (yN, yR, yS)) := rfl
      rw [hc] at hf
      have hst := cJ_stamp (xN, xR, xS) (yN, yR, yS)
      have hpk := cJ_pick (xN, xR, xS) (yN, yR, yS)
      have hg1 := cJ_ge1 (xN, xR, xS) (yN, yR, yS)
      have hg2 := cJ_ge2 (xN, xR, xS) (yN, yR, yS)
      cases has with
      | true =>
        rw [findP_some hz] at hf
        obtain ⟨h1, h2⟩ := live_eq.1 hf.symm
        simp only [Option.some.injEq] at h1
        rw [h1] at hpk hg1 hg2
        refine ⟨?_, fun _ => ?_, fun _ _ => hg1, fun _ _ => hg2, fun _ => hsm ha ex, fun _ => hsm hb ey, fun _ => ?_⟩
        · rcases hpk with h | h <;> (simp only [Prod.mk.injEq] at h; obtain ⟨rfl, rfl, rfl⟩ := h; simp only at h2; simp [h2])
        · rcases hpk with h | h <;> (simp only [Prod.mk.injEq] at h; obtain ⟨rfl, rfl, rfl⟩ := h; simp [cEq_refl])
        · rcases hpk with h | h <;> (simp only [Prod.mk.injEq] at h; obtain ⟨rfl, rfl, rfl⟩ := h)
          · exact hsm ha ex
          · exact hsm hb ey
      | false =>
        rw [findP_none hz] at hf
        have hd : stLess j.N j.R (cJ (xN, xR, xS) (yN, yR, yS)).1 (cJ (xN, xR, xS) (yN, yR, yS)).2.1 = false := by
          cases hs : stLess j.N j.R (cJ (xN, xR, xS) (yN, yR, yS)).1 (cJ (xN, xR, xS) (yN, yR, yS)).2.1 with
          | false => rfl
          | true => rw [live_some hs] at hf; cases hf
        have h1 : stLess j.N j.R xN xR = false := by have := hst.1; rw [stl_f] at *; simp only at *; omega
        have h2 : stLess j.N j.R yN yR = false := by have := hst.2; rw [stl_f] at *; simp only at *; omega
        simp [h1, h2]; exact ⟨hsm ha ex, hsm hb ey⟩
end Go.Proofs.Ytolbmemogoojhaa
/- Records: the laws of RecDead in plain words; fields and stamps in blocks. -/
namespace Go.Proofs.Ytolbmemogoojhaa
open Go Go.RowKit Go.Deep
set_option linter.unusedVariables false
set_option linter.unusedSimpArgs false
set_option maxRecDepth 100000
theorem quiet_load_one {P : Program} {o : Oper} {a : Act} {C : World → Prop} {K : Act → Prop} (ty : TypeId) (x : Operand) (ho : o.op = .load ty x) (dst : Option Tmp) (hdst : o.dst = dst)
    (b off : Nat) (hx : a.eval x = .pointer (some ⟨b, off, none⟩)) (v : Value) (d : TypeDesc) (hg : ∀ w, C w → Sub w b off #[v])
    (hu : P.underlying ty = some d) (hd : (match d with | .struct _ | .array _ _ => true | _ => false) = false) (h : K (a.put dst v)) : o.quiet P a C K := by
  subst hdst
  refine ⟨v, fun w hw => ?_, h⟩
  unfold Oper.quietAt execOp
  simp only [ho, hx, Instr.loadAt, Instr.sureAddr, Sem.run_bind, Sem.run_pure, Result.andThen_ok, run_load_one w b off ty v d (hg w hw) hu hd]
  exact ⟨rfl, rfl⟩
theorem fld_subs {w : World} {b : Nat} {t : TypeId} {i N R : Int} {S : ByteArray} (h : Blk w b t #[.int .i64 i, .int .i64 N, .int .i64 R, .string S]) :
    Sub w b 0 #[.int .i64 i, .int .i64 N, .int .i64 R, .string S] ∧ Sub w b 0 #[.int .i64 i] ∧ Sub w b 1 #[.int .i64 N, .int .i64 R, .string S] ∧ Sub w b 1 #[.int .i64 N, .int .i64 R] ∧ Sub w b 3 #[.string S] := by
  refine ⟨h.subA, h.subOne 0 rfl, fun j u hj => ?_, fun j u hj => ?_, h.subOne 3 rfl⟩
  · match j, hj with
    | 0, hj => rw [h.cell]; simpa using hj
    | 1, hj => rw [h.cell]; simpa using hj
    | 2, hj => rw [h.cell]; simpa using hj
    | j + 3, hj => simp at hj
  · match j, hj with
    | 0, hj => rw [h.cell]; simpa using hj
    | 1, hj => rw [h.cell]; simpa using hj
    | j + 2, hj => simp at hj
theorem field_info {i N R : Int} {s : ByteArray} : (Try.prog.info? 51).map (·.size) = some (#[Value.int .i64 i, .int .i64 N, .int .i64 R, .string s]).size := by kernel_rfl
theorem built_id_f {A : Array Value} (h : A.size = 16) (a : Option Addr) (n c : Nat) : Try.prog.built 38 [(0, .agg A), (2, .slice a n c)] = some (recA A 0 0 (.slice a n c)) := by
  obtain ⟨a0, a1, a2, a3, a4, a5, a6, a7, a8, a9, a10, a11, a12, a13, a14, a15, rfl⟩ := arr16 h
  kernel_rfl
theorem built_all {A : Array Value} (h : A.size = 16) (N R : Int) (a : Option Addr) (n c : Nat) : Try.prog.built 38 [(0, .agg A), (1, .agg #[.int .i64 N, .int .i64 R]), (2, .slice a n c)] = some (recA A N R (.slice a n c)) := by
  obtain ⟨a0, a1, a2, a3, a4, a5, a6, a7, a8, a9, a10, a11, a12, a13, a14, a15, rfl⟩ := arr16 h
  kernel_rfl
theorem dead_law {a d o : RD} {i sN sR cN cR : Int} {cS : ByteArray} (ha : rMay a = true) (hd : rMay d = true) (ho : rMay o = true) (ed : d = ⟨a.id, sN, sR, []⟩) (eo : o = ⟨a.id, 0, 0, [(i, cN, cR, cS)]⟩)
    (hall : ∀ f ∈ a.f, stLess sN sR f.2.1 f.2.2.1 = false) :
    rCan a d = true ∧ rCan (rJoin a d) o = true ∧ (rJoin a d).f = [] ∧ fFindP (rJoin (rJoin a d) o).f i = if stLess (rJoin a d).N (rJoin a d).R cN cR = true then (cN, cR, cS, true) else (0, 0, ⟨#[]⟩, false) := by
  have hid : a.id = d.id := by rw [ed]
  have hio : a.id = o.id := by rw [eo]
  have e1 := join_eq ha hd hid
  have m1 := both_may ha hd
  have hx : (rBoth a d).f = [] := by
    refine asc_ext (both_asc a d) trivial fun k => ?_
    rw [both_find ha hd, show fFind d.f k = none by rw [ed]; rfl, comb_none]
    cases hk : fFind a.f k with
    | none => rfl
    | some c =>
      have h1 := hall _ (fFind_mem hk)
      have h2 := mx_ge2 a.N a.R d.N d.R
      have h3 : stLess (rBoth a d).N (rBoth a d).R d.N d.R = false := h2
      rw [ed] at h3
      simp only at h1 h3
      rw [live_dead]
      · rfl
      · rw [← ed] at h3; rw [stl_f] at *; omega
  have e2 := join_eq m1 ho (show (rBoth a d).id = o.id from hio)
  rw [e1, e2]
  refine ⟨can_iff.2 ⟨ha, hd, hid⟩, can_iff.2 ⟨m1, ho, hio⟩, hx, ?_⟩
  have hg := stMay_ge (rMay_iff.1 m1).1
  have hN : (rBoth (rBoth a d) o).N = (rBoth a d).N ∧ (rBoth (rBoth a d) o).R = (rBoth a d).R := by
    have : stLess (rBoth a d).N (rBoth a d).R o.N o.R = false := by rw [eo, stl_f]; simp only; omega
    have e : ∀ N R N' R' : Int, stLess N R N' R' = false → mxN N R N' R' = N ∧ mxR N R N' R' = R := fun N R N' R' h => by unfold mxN mxR; rw [h]; exact ⟨rfl, rfl⟩
    exact e _ _ _ _ this
  unfold fFindP
  rw [both_find m1 ho, hx, show fFind [] i = none from rfl, show fFind o.f i = some (cN, cR, cS) by rw [eo]; simp [fFind], hN.1, hN.2]
  show (match live _ _ (some (cN, cR, cS)) with | some c => _ | none => _) = _
  cases hs : stLess (rBoth a d).N (rBoth a d).R cN cR with
  | false => rw [live_dead (by simpa using hs)]; simp
  | true => rw [live_some (by simpa using hs)]; simp
end Go.Proofs.Ytolbmemogoojhaa
/- Records: the laws of RecOnly in plain words; fields beside a record's block. -/
namespace Go.Proofs.Ytolbmemogoojhaa
open Go Go.RowKit Go.Deep
set_option linter.unusedVariables false
set_option linter.unusedSimpArgs false
set_option maxRecDepth 100000
theorem rA_nostr {r : RD} {s : Value} (hs : ∃ a n c, s = .slice a n c) (i : Nat) (S : ByteArray) : (rA r s)[i]? ≠ some (.string S) := by
  obtain ⟨a, n, c, rfl⟩ := hs
  intro h
  have hm : Value.string S ∈ rA r (.slice a n c) := Array.mem_of_getElem? h
  unfold rA recA at hm
  simp only [Array.mem_append, List.mem_toArray, List.mem_cons, List.not_mem_nil, or_false] at hm
  rcases hm with h | h | h | h
  · unfold encU at h
    obtain ⟨b, _, hb⟩ := List.mem_map.1 h
    cases hb
  · cases h
  · cases h
  · cases h
theorem flds_but {w w' : World} {g : Nat} {t : TypeId} {r : RD} {s0 v : Value} {l : List F4} (h : Flds w v l) (k : Blk w g t (rA r s0)) (hs : ∃ a n c, s0 = .slice a n c) (hb : But g w w') : Flds w' v l := by
  obtain ⟨hl, a, c, rfl, h1, h2, h3, h4⟩ := h
  refine ⟨hl, a, c, rfl, h1, h2, h3, fun hp => ?_⟩
  obtain ⟨b, off, rfl, hc⟩ := h4 hp
  have hne : b ≠ g := by
    rintro rfl
    cases l with
    | nil => simp [fieldsL] at hp
    | cons f l =>
      have := hc 3 (.string f.2.2.2) rfl
      rw [k.cell] at this
      exact rA_nostr hs _ _ this
  refine ⟨b, off, rfl, fun j u hj => ?_⟩
  have := hc j u hj
  rw [hb.cell (p := ⟨b, off + j, none⟩) (World.block_lt_of_cell? w _ this) hne]; exact this
theorem flds_cut {w : World} {b off n c : Nat} {l : List F4} (h : Flds w (.slice (some ⟨b, off, none⟩) n c) l) {j : Nat} {f : F4} (hj : l[j]? = some f) : Flds w (.slice (some ⟨b, off + j * 4, none⟩) 1 (c - j)) [f] := by
  obtain ⟨b', off', he, hlt, g0, g1, g2, g3⟩ := h.at hj
  simp only [Option.some.injEq, Addr.mk.injEq, and_true] at he
  obtain ⟨rfl, rfl⟩ := he
  have hjl := (List.getElem?_eq_some_iff.1 hj).1
  obtain ⟨_, a, c', he, h1, h2, _⟩ := h
  injection he with e1 e2 e3
  subst e3; subst e2
  refine ⟨rfl, _, _, rfl, by simp; omega, by omega, (fun h => by cases h), fun _ => ⟨_, _, rfl, fun i u hi => ?_⟩⟩
  match i, hi with
  | 0, hi => simp [fieldsL] at hi; subst hi; exact g0
  | 1, hi => simp [fieldsL] at hi; subst hi; exact g1
  | 2, hi => simp [fieldsL] at hi; subst hi; exact g2
  | 3, hi => simp [fieldsL] at hi; subst hi; exact g3
  | i + 4, hi => simp [fieldsL] at hi
theorem asc_take : ∀ {l : List F4} {lo hi : Int} (n : Nat), AscB lo hi l → AscB lo hi (l.take n)
  | [], _, _, n, _ => by rw [List.take_nil]; trivial
  | f :: l, lo, hi, 0, _ => trivial
  | f :: l, lo, hi, n + 1, h => ⟨h.1, h.2.1, asc_take n h.2.2⟩
theorem asc_before : ∀ {l : List F4} {lo hi : Int} {i : Nat} {f : F4}, AscB lo hi l → l[i]? = some f → fFind (l.take i) f.1 = none
  | [], _, _, i, f, _, h => by simp at h
  | g :: l, lo, hi, 0, f, _, _ => rfl
  | g :: l, lo, hi, i + 1, f, h, hf => by
    have hf' : l[i]? = some f := by simpa using hf
    have := (asc_mem h.2.2 (List.mem_of_getElem? hf')).2.1
    show (if g.1 = f.1 then some g.2 else fFind (l.take i) f.1) = none
    rw [if_neg (by omega)]; exact asc_before h.2.2 hf'
theorem fFind_append (x y : List F4) (k : Int) : fFind (x ++ y) k = match fFind x k with | some c => some c | none => fFind y k := by
  induction x with
  | nil => rfl
  | cons f x ih =>
    show (if f.1 = k then some f.2 else fFind (x ++ y) k) = match (if f.1 = k then some f.2 else fFind x k) with | some c => some c | none => fFind y k
    by_cases h : f.1 = k
    · rw [if_pos h, if_pos h]
    · rw [if_neg h, if_neg h, ih]
theorem rMay_sub {a : RD} (h : rMay a = true) {l : List F4} (hne : l ≠ []) (hasc : AscB 0 8 l) (hsub : ∀ f ∈ l, f ∈ a.f) : rMay ⟨a.id, a.N, a.R, l⟩ = true := by
  obtain ⟨a1, a2, a3, a4⟩ := rMay_iff.1 h
  exact rMay_iff.2 ⟨a1, fun h => hne h.1, hasc, fun f hf => a4 f (hsub f hf)⟩
theorem only_law {a : RD} (h : rMay a = true) {i : Nat} {f : F4} (hf : a.f[i]? = some f) (hi : 0 < i) :
    rCan ⟨a.id, a.N, a.R, [f]⟩ ⟨a.id, a.N, a.R, a.f.take i⟩ = true ∧ rJoin ⟨a.id, a.N, a.R, [f]⟩ ⟨a.id, a.N, a.R, a.f.take i⟩ = ⟨a.id, a.N, a.R, a.f.take (i + 1)⟩ := by
  have hasc := rMay_asc h
  have hmem := List.mem_of_getElem? hf
  have hil := (List.getElem?_eq_some_iff.1 hf).1
  have hb := asc_mem hasc hmem
  have m1 : rMay ⟨a.id, a.N, a.R, [f]⟩ = true := rMay_sub h (by simp) ⟨hb.2.1, hb.2.2, trivial⟩ (by simpa using hmem)
  have hne : ∀ k, 0 < k → a.f.take k ≠ [] := fun k hk he => by
    have := congrArg List.length he
    simp at this
    rcases this with h | h
    · omega
    · rw [h] at hil; simp at hil
  have m2 : rMay ⟨a.id, a.N, a.R, a.f.take i⟩ = true := rMay_sub h (hne i hi) (asc_take i hasc) (fun g hg => List.mem_of_mem_take hg)
  have m3 : rMay ⟨a.id, a.N, a.R, a.f.take (i + 1)⟩ = true := rMay_sub h (hne _ (by omega)) (asc_take _ hasc) (fun g hg => List.mem_of_mem_take hg)
  refine ⟨can_iff.2 ⟨m1, m2, rfl⟩, ?_⟩
  rw [join_eq m1 m2 rfl]
  refine rd_ext (both_may m1 m2) m3 rfl (mx_self _ _).1 (mx_self _ _).2 fun k => ?_
  rw [both_find m1 m2, show (rBoth ⟨a.id, a.N, a.R, [f]⟩ ⟨a.id, a.N, a.R, a.f.take i⟩).N = a.N from (mx_self _ _).1, show (rBoth ⟨a.id, a.N, a.R, [f]⟩ ⟨a.id, a.N, a.R, a.f.take i⟩).R = a.R from (mx_self _ _).2]
  have e : comb (fFind [f] k) (fFind (a.f.take i) k) = fFind (a.f.take (i + 1)) k := by
    rw [List.take_add_one, hf, fFind_append]
    by_cases hk : f.1 = k
    · have h1 := asc_before hasc hf
      rw [hk] at h1
      rw [h1]
      simp [fFind, hk, comb]
    · have : fFind [f] k = none := by simp [fFind, hk]
      rw [this, show (some f).toList = [f] from rfl, this]
      cases fFind (a.f.take i) k <;> rfl
  show live a.N a.R (comb (fFind [f] k) (fFind (a.f.take i) k)) = fFind (a.f.take (i + 1)) k
  rw [e]
  exact live_own m3 k
end Go.Proofs.Ytolbmemogoojhaa
