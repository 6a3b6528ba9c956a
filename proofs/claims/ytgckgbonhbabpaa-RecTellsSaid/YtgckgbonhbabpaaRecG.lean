/- Two records joined: the code. -/
import Derived.Test.YtgckgbonhbabpaaRecF
namespace Go.Proofs.Ytgckgbonhbabpaa
open Go Go.RowKit Go.Deep Go.Shelf
set_option linter.unusedVariables false
set_option linter.unusedSimpArgs false
set_option maxRecDepth 100000

theorem arr16 {A : Array Value} (h : A.size = 16) : ∃ a0 a1 a2 a3 a4 a5 a6 a7 a8 a9 a10 a11 a12 a13 a14 a15, A = #[a0, a1, a2, a3, a4, a5, a6, a7, a8, a9, a10, a11, a12, a13, a14, a15] := by
  obtain ⟨l⟩ := A
  match l, h with
  | [a0, a1, a2, a3, a4, a5, a6, a7, a8, a9, a10, a11, a12, a13, a14, a15], _ => exact ⟨a0, a1, a2, a3, a4, a5, a6, a7, a8, a9, a10, a11, a12, a13, a14, a15, rfl⟩
theorem built_id_dead {A : Array Value} (h : A.size = 16) (N R : Int) : Try.prog.built 54 [(0, .agg A), (1, .agg #[.int .i64 N, .int .i64 R])] = some (recA A N R (.slice none 0 0)) := by
  obtain ⟨a0, a1, a2, a3, a4, a5, a6, a7, a8, a9, a10, a11, a12, a13, a14, a15, rfl⟩ := arr16 h
  kernel_rfl
def zid : List UInt8 := List.replicate 16 0
theorem zid_length : zid.length = 16 := by simp [zid]
theorem built_none : Try.prog.built 54 [] = some (recA (encU zid).toArray 0 0 (.slice none 0 0)) := by kernel_rfl
theorem zero_rec : (Try.prog.info? 54).map (·.zero) = some (some (.agg (recA (encU zid).toArray 0 0 (.slice none 0 0)))) := by kernel_rfl
theorem encU_arr16 {a : List UInt8} (h : a.length = 16) : (encU a).toArray.size = 16 := by simp [encU_length, h]
theorem recA_one {A : Array Value} {N R : Int} {v : Value} (hA : A.all (·.oneCell') = true) (hv : v.oneCell' = true) : (recA A N R v).all (·.oneCell') = true := by
  unfold recA; rw [Array.all_append, hA]; simp [Value.oneCell']; exact hv
theorem encU_all (a : List UInt8) : (encU a).toArray.all (·.oneCell') = true := by simp [encU, Value.oneCell']
theorem flds_one {w : World} {v : Value} {l : List F4} (h : Flds w v l) : v.oneCell' = true := by obtain ⟨_, a, c, rfl, _⟩ := h; rfl
theorem Flds.slice {w : World} {v : Value} {l : List F4} (h : Flds w v l) : ∃ a n c, v = .slice a n c := by obtain ⟨_, a, c, rfl, _⟩ := h; exact ⟨_, _, _, rfl⟩

section
variable {P : Program} {ops : Array Oper} {rest : List Oper} {o : Oper} {a : Act} {w : World} {Q : Exit → Act → World → Prop}
theorem results_cell_tmp {fn : Func} {p q : Tmp} {ty : TypeId} (h : fn.results = #[.cell p ty, .tmp q]) (tmps : Array Value) (w : World) (g : Nat) (cs : Array Value) (d : TypeDesc) (y : Value)
    (hp : tmps.getD p undef = .pointer (some ⟨g, 0, none⟩)) (hy : tmps.getD q undef = y) (hg : Sub w g 0 cs)
    (hu : P.underlying ty = some d) (hd : (match d with | .struct _ | .array _ _ => true | _ => false) = true) (hi : (P.info? ty).map (·.size) = some cs.size) :
    (results fn tmps).run P w = .ok (.tuple #[.agg cs, y]) w := by
  have hp' : tmps[p]?.getD undef = .pointer (some ⟨g, 0, none⟩) := by simpa using hp
  have hy' : tmps[q]?.getD undef = y := by simpa using hy
  simp [results, h, hp', hy', asAddr, run_load_sub w g 0 ty cs d hg hu hd hi]
theorem quiet_build_to {C : World → Prop} {K : Act → Prop} (t : TypeId) (parts : Array (Nat × Operand)) (ho : o.op = .build t parts) (dst : Option Tmp) (hdst : o.dst = dst) (cells : Array Value)
    (hf : P.built t (parts.map fun (i, x) => (i, a.eval x)).toList = some cells) (h : K (a.put dst (.agg cells))) : o.quiet P a C K := by
  subst hdst
  refine ⟨.agg cells, fun w hw => ?_, h⟩
  unfold Oper.quietAt execOp
  simp only [ho, Sem.run_bind, run_build w t _ cells hf, Result.andThen_ok, Sem.run_pure]
  exact ⟨rfl, rfl⟩
end
theorem Blk.subA {w : World} {b : Nat} {t : TypeId} {cs : Array Value} (h : Blk w b t cs) : Sub w b 0 cs := fun j u hj => by rw [h.cell, Nat.zero_add]; exact hj

set_option maxHeartbeats 800000 in
theorem fields_c (b : Nat) (N R : Int) (w : World) : Calls Try.prog 72 #[.map (some b), .agg #[.int .i64 N, .int .i64 R]] w fun e w' =>
    e = .returned (.func (.func 87) #[] #[.pointer (some ⟨w.heap.size, 0, none⟩), .pointer (some ⟨w.heap.size + 1, 0, none⟩)]) ∧ Below w.heap.size w w' ∧ w'.heap.size = w.heap.size + 2 ∧
      w'.cell? ⟨w.heap.size, 0, none⟩ = some (.map (some b)) ∧ w'.cell? ⟨w.heap.size + 1, 0, none⟩ = some (.int .i64 N) ∧ w'.cell? ⟨w.heap.size + 1, 1, none⟩ = some (.int .i64 R) := by
  have hAc := @after_cell
  have hAf := @after_frozen
  have hSz := sz_facts
  go_enter Try.func72, Try.ntmps72
  go_wp2
  go_ret
  exact ⟨rfl, by (repeat (first | exact Below.refl _ _ | assumption | refine bel_alloc ?_ _ | refine bel_after _ ?_ | refine bel_drewN ?_ _ | refine bel_drew ?_ | refine bel_set ?_ (by first | omega | (simp only [World.size_alloc, World.size_drew, World.size_setCell]; omega) | (simp; omega)) _)), by simp, by go_simp, by go_simp, by go_simp⟩
theorem fields_stops (Bm Bd b n₀ bo : Nat) (m : List F4) (N R : Int) (w : World)
    (hcm : w.cell? ⟨Bm, 0, none⟩ = some (.map (some b))) (hcN : w.cell? ⟨Bd, 0, none⟩ = some (.int .i64 N)) (hcR : w.cell? ⟨Bd, 1, none⟩ = some (.int .i64 R)) (hm : MapAt w b encI (mapF m))
    (l1 : Bm < n₀) (l2 : Bd < n₀) (l3 : b < n₀) (l4 : n₀ ≤ w.heap.size) (d1 : Bm ≠ bo) (d2 : Bd ≠ bo) (d3 : b ≠ bo) :
    SeqStopsK Fence.wide 4 Try.prog 87 #[.pointer (some ⟨Bm, 0, none⟩), .pointer (some ⟨Bd, 0, none⟩)] (fun x : F4 => #[fV x]) (ButB n₀ bo) (fun ys => ys = outTo N R m 8) (fun _ => True) 8 w :=
  fun l J Jx W hW hJ _ hY h0 => fields1_in l Bm Bd b n₀ bo m N R J Jx W hJ hY (cell_below hW _ _ _ hcm) (cell_below hW _ _ _ hcN) (cell_below hW _ _ _ hcR) (hm.below hW hm.lt) l1 l2 l3 (Nat.le_trans l4 hW.size) d1 d2 d3 h0
theorem gput_v {b : Nat} {m m' : List F4} {A : Array Value} (hA : A.size = 16) {N R : Int} {v : Value} {l : List F4} (h : putAll m l = m') (sm : Small m) (sl : Small l) (w : World) (hm : MapAt w b encI (mapF m)) (hv : Flds w v l) :
    Calls Try.prog 71 #[.map (some b), .agg (recA A N R v)] w fun e w' => (∃ u, e = .returned u) ∧ MapAt w' b encI (mapF m') ∧ But b w w' := by
  subst h; exact gput_c b m A hA N R v l w hm hv sm sl
theorem recmay_v {A : Array Value} (hA : A.size = 16) {N R : Int} {v : Value} {l : List F4} {b : Bool} (h : recMay N R l = b) (w : World) (hv : Flds w v l) : Calls Try.prog 42 #[.agg (recA A N R v)] w fun e w' => e = .returned (.bool b) ∧ Below w.heap.size w w' := by
  subst h; exact recmay_c A hA N R v l w hv

set_option maxHeartbeats 3200000 in
theorem recjoin_no (a a' : List UInt8) (ha : a.length = 16) (ha' : a'.length = 16) (N R N' R' : Int) (v v' : Value) (l l' : List F4) (w : World) (hv : Flds w v l) (hv' : Flds w v' l') (hno : (recMay N R l && recMay N' R' l' && (a == a')) = false) :
    Calls Try.prog 37 #[.agg (recA (encU a).toArray N R v), .agg (recA (encU a').toArray N' R' v')] w fun e w' => e = .returned (.tuple #[.agg (recA (encU zid).toArray 0 0 (.slice none 0 0)), .bool false]) ∧ Below w.heap.size w w' := by
  have hAc := @after_cell
  have hAf := @after_frozen
  have hSz := sz_facts
  obtain ⟨A, eA⟩ : ∃ A, A = (encU a).toArray := ⟨_, rfl⟩
  obtain ⟨B, eB⟩ : ∃ B, B = (encU a').toArray := ⟨_, rfl⟩
  obtain ⟨Z, eZ⟩ : ∃ Z, Z = recA (encU zid).toArray 0 0 (.slice none 0 0) := ⟨_, rfl⟩
  have hA : A.size = 16 := by rw [eA]; exact encU_arr16 ha
  have hB : B.size = 16 := by rw [eB]; exact encU_arr16 ha'
  have hZ : Z.size = 19 := by rw [eZ]; exact recA_size (encU_arr16 zid_length)
  have hZ1 : Z.all (·.oneCell') = true := by rw [eZ]; exact recA_one (encU_all _) rfl
  have hzi : (Try.prog.info? 54).map (·.size) = some Z.size := by rw [hZ]; kernel_rfl
  have hzz : (Try.prog.info? 54).map (·.zero) = some (some (.agg Z)) := by rw [eZ]; exact zero_rec
  have hzb : Try.prog.built 54 [] = some Z := by rw [eZ]; exact built_none
  have hq := fun W => neq_id a a' ha ha' W
  rw [← eA, ← eB] at hq ⊢
  rw [← eZ]
  clear eA eB eZ
  have Hzi := Lib.hid hzi; have Hzz := Lib.hid hzz; have Hzb := Lib.hid hzb; have HZ1 := Lib.hid hZ1; clear hzi hzz hzb hZ1
  have hbox : ∀ w1, Blk w1 w.heap.size 54 (recA A N R v) → _ := fun w1 k => rec_cells k hA
  have hbox2 : ∀ w1, Blk w1 (w.heap.size + 1) 54 (recA B N' R' v') → _ := fun w1 k => rec_cells k hB
  have Hv := Lib.hid hv; have Hv' := Lib.hid hv'; clear hv hv'
  obtain ⟨p, H1⟩ : ∃ p, Hid (recMay N R l = p) := ⟨_, rfl⟩
  obtain ⟨q, H2⟩ : ∃ q, Hid (recMay N' R' l' = q) := ⟨_, rfl⟩
  obtain ⟨r, H3⟩ : ∃ r, Hid ((a == a') = r) := ⟨_, rfl⟩
  have hq' : ∀ W, _ := hq
  rw [H3.out] at hq
  clear hq'
  have hcase : p = false ∨ p = true ∧ q = false ∨ p = true ∧ q = true ∧ r = false := by
    rw [H1.out, H2.out, H3.out] at hno; revert hno; cases p <;> cases q <;> cases r <;> simp
  clear hno
  rcases hcase with rfl | ⟨rfl, rfl⟩ | ⟨rfl, rfl, rfl⟩
  all_goals
    go_enter Try.func37, Try.ntmps37
    go_wp2_with (first | ((fail_if_success have := k1); refine wpList_box_blk rfl 54 _ rfl _ rfl (recA A N R v) rfl ?_; intro w1 k1 b1 s1; obtain ⟨y1, rfl⟩ := after_of b1; obtain ⟨c16, c17, c18, csub, call⟩ := hbox _ k1; clear hbox) | ((fail_if_success have := k2); refine wpList_box_blk rfl 54 _ rfl _ rfl (recA B N' R' v') rfl ?_; intro w2 k2 b2 s2; obtain ⟨y2, rfl⟩ := after_of b2; rw [s1] at k2; obtain ⟨d16, d17, d18, dsub, dall⟩ := hbox2 _ k2; clear hbox2) | ((fail_if_success have := k3); refine wpList_alloc_blk rfl 54 rfl _ rfl (.agg Z) Z Hzz.out rfl ?_; intro w3 k3 b3 s3; obtain ⟨y3, rfl⟩ := after_of b3; rw [s2, s1] at k3) | (refine wpList_load_sub rfl 54 _ rfl _ rfl w.heap.size 0 rfl (recA A N R v) _ (by repeat (first | exact call | refine Sub.after ?_ _)) Try.underlying54 rfl (info_rec hA) ?_) | (refine wpList_load_sub rfl 54 _ rfl _ rfl (w.heap.size + 1) 0 rfl (recA B N' R' v') _ (by repeat (first | exact dall | refine Sub.after ?_ _)) Try.underlying54 rfl (info_rec hB) ?_) | (refine wpList_load_sub rfl 51 _ rfl _ rfl w.heap.size 0 rfl A _ (by repeat (first | exact csub | refine Sub.after ?_ _)) Try.underlying51 rfl (info_id hA) ?_) | (refine wpList_load_sub rfl 51 _ rfl _ rfl (w.heap.size + 1) 0 rfl B _ (by repeat (first | exact dsub | refine Sub.after ?_ _)) Try.underlying51 rfl (info_id hB) ?_) | ((fail_if_success have := t5); refine wpList_build_to rfl 54 _ rfl _ rfl Z ?_ ?_; (focus (simpa using Hzb.out)); have t5 := trivial) | ((fail_if_success have := k5); refine wpList_store_blk rfl 54 _ _ rfl (w.heap.size + 1 + 1) Z rfl rfl 54 Z ?_ Hzi.out rfl HZ1.out ?_; (focus (repeat (first | exact k3 | refine Blk.after ?_ _))); intro w5 k5 b5 s5) | (go_at_call 42; (with_reducible refine (recmay_v hA H1.out _ (Hv.out.below (by (repeat (first | exact Below.refl _ _ | assumption | refine bel_alloc ?_ _ | refine bel_after _ ?_ | refine bel_drewN ?_ _ | refine bel_drew ?_ | refine bel_set ?_ (by first | omega | (simp only [World.size_alloc, World.size_drew, World.size_setCell]; omega) | (simp; omega)) _))))).mono ?_); rintro e w' ⟨rfl, hb⟩; obtain ⟨x1, rfl⟩ := after_of hb; clear hb) | (go_at_call 42; (with_reducible refine (recmay_v hB H2.out _ (Hv'.out.below (by (repeat (first | exact Below.refl _ _ | assumption | refine bel_alloc ?_ _ | refine bel_after _ ?_ | refine bel_drewN ?_ _ | refine bel_drew ?_ | refine bel_set ?_ (by first | omega | (simp only [World.size_alloc, World.size_drew, World.size_setCell]; omega) | (simp; omega)) _))))).mono ?_); rintro e w' ⟨rfl, hb⟩; obtain ⟨x2, rfl⟩ := after_of hb; clear hb))
  · have hb : Below w.heap.size w x1.w := by (repeat (first | exact Below.refl _ _ | assumption | refine bel_alloc ?_ _ | refine bel_after _ ?_ | refine bel_drewN ?_ _ | refine bel_drew ?_ | refine bel_set ?_ (by first | omega | (simp only [World.size_alloc, World.size_drew, World.size_setCell]; omega) | (simp; omega)) _))
    exact bodyPost_ret (results_cell_tmp Try.results37 _ _ (w.heap.size + 1 + 1) Z _ _ rfl rfl k5.subA Try.underlying54 rfl Hzi.out) rfl ⟨rfl, hb.trans (b5.below (by omega) hb.size)⟩
  all_goals
    have hb : Below w.heap.size w x2.w := by (repeat (first | exact Below.refl _ _ | assumption | refine bel_alloc ?_ _ | refine bel_after _ ?_ | refine bel_drewN ?_ _ | refine bel_drew ?_ | refine bel_set ?_ (by first | omega | (simp only [World.size_alloc, World.size_drew, World.size_setCell]; omega) | (simp; omega)) _))
    exact bodyPost_ret (results_cell_tmp Try.results37 _ _ (w.heap.size + 1 + 1) Z _ _ rfl rfl k5.subA Try.underlying54 rfl Hzi.out) rfl ⟨rfl, hb.trans (b5.below (by omega) hb.size)⟩
end Go.Proofs.Ytgckgbonhbabpaa
