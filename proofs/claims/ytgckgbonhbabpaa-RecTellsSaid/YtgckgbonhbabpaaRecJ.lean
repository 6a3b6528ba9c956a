/- Few fields; reads by what a part of a block holds. -/
import Derived.Test.YtgckgbonhbabpaaRecI
import Derived.Great.BuildSlice
namespace Go.Proofs.Ytgckgbonhbabpaa
open Go Go.RowKit Go.Deep
set_option linter.unusedVariables false
set_option linter.unusedSimpArgs false
set_option maxRecDepth 100000

section
variable {P : Program} {ops : Array Oper} {rest : List Oper} {o : Oper} {a : Act} {w : World} {Q : Exit → Act → World → Prop}
theorem run_load_one (w : World) (b off : Nat) (ty : TypeId) (v : Value) (d : TypeDesc) (h : Sub w b off #[v]) (hu : P.underlying ty = some d) (hd : (match d with | .struct _ | .array _ _ => true | _ => false) = false) :
    (loadVar ty ⟨b, off, none⟩).run P w = .ok v w := by
  have hc : w.cell? ⟨b, off, none⟩ = some v := by have := h 0 v rfl; rwa [Nat.add_zero] at this
  have hagg : (isAgg ty).run P w = .ok false w := by
    unfold isAgg
    rw [Sem.run_bind, run_underlying hu w]
    cases d <;> simp_all
  simp [loadVar, Sem.run_bind, hagg, go_sem, hc]
theorem wpList_load_one (hw : Region.wanted o (yielded ops a.tmps) = true) (ty : TypeId) (x : Operand) (ho : o.op = .load ty x) (dst : Option Tmp) (hdst : o.dst = dst)
    (b off : Nat) (hx : a.eval x = .pointer (some ⟨b, off, none⟩)) (v : Value) (d : TypeDesc) (hg : Sub w b off #[v])
    (hu : P.underlying ty = some d) (hd : (match d with | .struct _ | .array _ _ => true | _ => false) = false)
    (h : wpList P ops Q rest (a.put dst v) w) : wpList P ops Q (o :: rest) a w := by
  subst hdst
  refine BigFrame.wpList_want hw fun K hK => ?_
  unfold Oper.wp execOp
  simp only [ho, hx, Instr.loadAt, Instr.sureAddr, Sem.run_bind, Sem.run_pure, Result.andThen_ok, run_load_one w b off ty v d hg hu hd]
  exact hK _ _ h
end
theorem Blk.subOne {w : World} {b : Nat} {t : TypeId} {cs : Array Value} (h : Blk w b t cs) (i : Nat) {v : Value} (hv : cs[i]? = some v) : Sub w b i #[v] := fun j u hj => by
  cases j with
  | zero => rw [Nat.add_zero, h.cell, hv]; simpa using hj
  | succ j => simp at hj
theorem rA_at {r : RD} {s : Value} (hr : r.ok) : (rA r s)[16]? = some (.int .i64 r.N) ∧ (rA r s)[17]? = some (.int .i64 r.R) ∧ (rA r s)[18]? = some s := by
  have := encU_arr16 hr
  unfold rA recA
  refine ⟨?_, ?_, ?_⟩ <;> (rw [Array.getElem?_append, if_neg (by rw [this]; decide), this]; rfl)
theorem rA_subs {w : World} {b : Nat} {t : TypeId} {r : RD} {s : Value} (h : Blk w b t (rA r s)) (hr : r.ok) : Sub w b 0 (rA r s) ∧ Sub w b 0 (idA r) ∧ Sub w b 16 #[.int .i64 r.N, .int .i64 r.R] ∧ Sub w b 18 #[s] := by
  obtain ⟨h1, h2, h3⟩ := rA_at (s := s) hr
  refine ⟨h.subA, Blk.sub0 h, fun j u hj => ?_, h.subOne 18 h3⟩
  match j, hj with
  | 0, hj => rw [Nat.add_zero, h.cell, h1]; simpa using hj
  | 1, hj => rw [h.cell, h2]; simpa using hj
  | j + 2, hj => simp at hj
theorem stamp_info : (Try.prog.info? 23).map (·.size) = some 2 := by kernel_rfl
theorem idA_info {r : RD} (h : r.ok) : (Try.prog.info? 51).map (·.size) = some (idA r).size := info_id (idA_size h)

def fFew : List F4 → Bool
  | [] => true
  | f :: l => decide (f.2.2.2.size ≤ 300) && fFew l
def rFew (r : RD) : Bool := decide (r.f.length ≤ 12) && fFew r.f
theorem fFew_step {l : List F4} {j : Nat} {f : F4} (h : l[j]? = some f) : fFew (l.drop j) = (decide (f.2.2.2.size ≤ 300) && fFew (l.drop (j + 1))) := by
  have h1 := List.getElem?_eq_some_iff.1 h
  rw [List.drop_eq_getElem_cons h1.1, h1.2]; rfl
theorem fFew_end {l : List F4} {j : Nat} (h : l.length ≤ j) : fFew (l.drop j) = true := by rw [List.drop_of_length_le h]; rfl
theorem run_lenS (s : ByteArray) (n : Nat) (h : s.size = n) (W : World) : (Builtin.len_ #[9] 3 #[.string s]).run Try.prog W = .ok (.int .i64 (n : Int)) W := by
  subst h
  have := Try.underlying9
  simp [go_sem, this]
set_option maxHeartbeats 1600000 in
theorem few6_c (r : RD) (hr : r.ok) (s : Value) (w : World) (hv : Flds w s r.f) : Calls Try.prog 34 #[.agg (rA r s)] w fun e w' => e = .returned (.bool (rFew r)) ∧ Below w.heap.size w w' := by
  have hAc := @after_cell
  have hAf := @after_frozen
  have hSz := sz_facts
  have hlen1 := len_row (ti := 0) hv Try.underlying52
  obtain ⟨_, a, c, rfl, q1, hm1, _⟩ := id hv
  unfold maxLen at hm1
  obtain ⟨l, hl⟩ : ∃ l, r.f = l := ⟨_, rfl⟩
  have hE : Hid (rFew r = (decide (l.length ≤ 12) && fFew l)) := Lib.hid (by unfold rFew; rw [hl])
  rw [hl] at hv q1 hlen1 ⊢
  obtain ⟨n, hn⟩ : ∃ n, l.length = n := ⟨_, rfl⟩
  rw [hn] at hlen1 q1 hv hE ⊢
  have Hv := Lib.hid hv; have Hn := Lib.hid hn; have Hr := Lib.hid hr
  clear hv hn hl hr
  have hbox : ∀ w1, Blk w1 w.heap.size 54 (rA r (.slice a n c)) → _ := fun w1 k => rA_cells k Hr.out
  by_cases h12 : n ≤ 12
  · have hE2 : Hid (rFew r = fFew l) := Lib.hid (by rw [hE.out]; simp [h12])
    go_enter Try.func34, Try.ntmps34
    go_wp2_with ((fail_if_success have := k1); refine wpList_box_blk rfl 54 _ rfl _ rfl (rA r (.slice a n c)) rfl ?_; intro w1 k1 b1 s1; obtain ⟨y1, rfl⟩ := after_of b1; obtain ⟨c16, c17, c18, csub, call⟩ := hbox _ k1; clear hbox)
    go_loopw [3] (fun i wr => ∃ j : Nat, j ≤ n ∧ i = .int .i64 j ∧ Hid (fFew l = fFew (l.drop j)) ∧ wr = y1.w) (fun i _ => n - (intOf i).toNat)
    case atStart => exact ⟨0, by omega, rfl, Lib.hid rfl, rfl⟩
    case round =>
      obtain ⟨j, hj, rfl, I, rfl⟩ := hrel
      by_cases hlt : j < n
      · obtain ⟨⟨i', cN, cR, cS⟩, hf⟩ : ∃ f, l[j]? = some f := ⟨_, List.getElem?_eq_getElem (by rw [Hn.out]; exact hlt)⟩
        obtain ⟨b, off, rfl, hbw, g0, g1, g2, g3⟩ := Hv.out.at hf
        have Hst := Lib.hid (fFew_step hf)
        clear hf
        have g0 := cell_below (y1.h) _ _ _ g0; have g1 := cell_below (y1.h) _ _ _ g1; have g2 := cell_below (y1.h) _ _ _ g2; have g3 := cell_below (y1.h) _ _ _ g3
        dsimp only at g0 g1 g2 g3
        obtain ⟨m, hm⟩ : ∃ m, cS.size = m := ⟨_, rfl⟩
        have hlenS := run_lenS cS m hm
        have Hm := Lib.hid hm; clear hm
        by_cases h3 : m ≤ 300
        · have Hend : Hid (fFew l = fFew (l.drop (j + 1))) := Lib.hid (by rw [I.out, Hst.out]; simp [Hm.out, h3])
          go_wp2
          go_roundw
          case rel => exact ⟨j + 1, by omega, by go_num, Hend, by first | rfl | trivial⟩
          case measure => simp [intOf]; omega
        · have Hend : Hid (rFew r = false) := Lib.hid (by rw [hE2.out, I.out, Hst.out]; simp [Hm.out, h3])
          go_wp2
          all_goals first | (rw [Exit.noGoto_ret]; go_ret) | go_ret
          all_goals exact ⟨by rw [Hend.out]; rfl, by (repeat (first | exact Below.refl _ _ | assumption | refine bel_alloc ?_ _ | refine bel_after _ ?_ | refine bel_drewN ?_ _ | refine bel_drew ?_ | refine bel_set ?_ (by first | omega | (simp only [World.size_alloc, World.size_drew, World.size_setCell]; omega) | (simp; omega)) _))⟩
      · have hjn : j = n := by omega
        subst hjn
        have Hend : Hid (rFew r = true) := Lib.hid (by rw [hE2.out, I.out]; exact fFew_end (by rw [Hn.out]; exact Nat.le_refl _))
        go_wp2
        all_goals first | (rw [Exit.noGoto_ret]; go_ret) | go_ret
        all_goals exact ⟨by rw [Hend.out]; rfl, by (repeat (first | exact Below.refl _ _ | assumption | refine bel_alloc ?_ _ | refine bel_after _ ?_ | refine bel_drewN ?_ _ | refine bel_drew ?_ | refine bel_set ?_ (by first | omega | (simp only [World.size_alloc, World.size_drew, World.size_setCell]; omega) | (simp; omega)) _))⟩
  · have Hend : Hid (rFew r = false) := Lib.hid (by rw [hE.out]; simp [h12])
    go_enter Try.func34, Try.ntmps34
    go_wp2_with ((fail_if_success have := k1); refine wpList_box_blk rfl 54 _ rfl _ rfl (rA r (.slice a n c)) rfl ?_; intro w1 k1 b1 s1; obtain ⟨y1, rfl⟩ := after_of b1; obtain ⟨c16, c17, c18, csub, call⟩ := hbox _ k1; clear hbox)
    all_goals first | (rw [Exit.noGoto_ret]; go_ret) | go_ret
    all_goals exact ⟨by rw [Hend.out]; rfl, by (repeat (first | exact Below.refl _ _ | assumption | refine bel_alloc ?_ _ | refine bel_after _ ?_ | refine bel_drewN ?_ _ | refine bel_drew ?_ | refine bel_set ?_ (by first | omega | (simp only [World.size_alloc, World.size_drew, World.size_setCell]; omega) | (simp; omega)) _))⟩
theorem few6_v {r : RD} {s : Value} {b : Bool} (hr : r.ok) (h : rFew r = b) (w : World) (hv : Flds w s r.f) : Calls Try.prog 34 #[.agg (rA r s)] w fun e w' => e = .returned (.bool b) ∧ Below w.heap.size w w' := by
  subst h; exact few6_c r hr s w hv
theorem cell_zero : (Try.prog.info? 25).map (·.zero) = some (some (.agg #[.int .i64 0, .int .i64 0, .string ⟨#[]⟩])) := by kernel_rfl
theorem cell_info {N R : Int} {s : ByteArray} : (Try.prog.info? 25).map (·.size) = some (#[Value.int .i64 N, .int .i64 R, .string s]).size := by kernel_rfl
theorem cell_one {N R : Int} {s : ByteArray} : (#[Value.int .i64 N, .int .i64 R, .string s]).all (·.oneCell') = true := by simp [Value.oneCell']
theorem Blk.subS {w : World} {b : Nat} {t : TypeId} {N R : Int} {s : Value} (h : Blk w b t #[.int .i64 N, .int .i64 R, s]) : Sub w b 0 #[.int .i64 N, .int .i64 R] := fun j u hj => by
  match j, hj with
  | 0, hj => rw [h.cell]; simpa using hj
  | 1, hj => rw [h.cell]; simpa using hj
  | j + 2, hj => simp at hj
/-- A list of one field. -/
theorem flds_one_lit (W : World) (x : F4) : Flds (W.alloc (.cells #[.int .i64 x.1, .int .i64 x.2.1, .int .i64 x.2.2.1, .string x.2.2.2] 65)) (.slice (some ⟨W.heap.size, 0, none⟩) 1 1) [x] := by
  refine ⟨rfl, _, _, rfl, Nat.le_refl _, (by unfold maxLen; omega), (fun h => by cases h), fun _ => ⟨_, 0, rfl, fun j u hj => ?_⟩⟩
  rw [Nat.zero_add, (Blk.new W _ _).cell]
  simpa [fieldsL] using hj
theorem wpList_fields1 {ops : Array Oper} {rest : List Oper} {o : Oper} {a : Act} {w : World} {Q : Exit → Act → World → Prop} (hg : o.guard = none) (x : Operand) (ho : o.op = .buildSlice 52 1 #[(0, x)]) (dst : Option Tmp) (hdst : o.dst = dst)
    (i N R : Int) (s : ByteArray) (hx : a.eval x = .agg #[.int .i64 i, .int .i64 N, .int .i64 R, .string s])
    (h : ∀ w', Flds w' (.slice (some ⟨w.heap.size, 0, none⟩) 1 1) [(i, N, R, s)] → Below w.heap.size w w' → wpList Try.prog ops Q rest (a.put dst (.slice (some ⟨w.heap.size, 0, none⟩) 1 1)) w') : wpList Try.prog ops Q (o :: rest) a w := by
  subst hdst
  have hr : (execOp a.eval o).run Try.prog w = .ok (.value (.slice (some ⟨w.heap.size, 0, none⟩) 1 1)) (w.alloc (.cells #[.int .i64 i, .int .i64 N, .int .i64 R, .string s] 65)) := by
    obtain ⟨ie, hie, hzz⟩ := Option.map_eq_some_iff.1 info_field
    simp only [Prod.mk.injEq] at hzz
    obtain ⟨hz0, hz1, hz2⟩ := hzz
    unfold execOp
    have := run_buildSlice (P := Try.prog) w 52 65 1 #[(0, a.eval x)] #[.int .i64 i, .int .i64 N, .int .i64 R, .string s] ie _ Try.underlying52 hie hz0 (by rw [hz1]; decide) (by rw [hz1]; decide) (by rw [hx, hz1]; kernel_rfl)
    simp only [ho, List.map_toArray, List.map_cons, List.map_nil, Sem.run_bind, this, Result.andThen_ok, Sem.run_pure]
  exact wpList_run hg _ _ hr (h _ (flds_one_lit w (i, N, R, s)) (bel_alloc (Below.refl _ _) _))
end Go.Proofs.Ytgckgbonhbabpaa
