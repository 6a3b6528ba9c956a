/- Two records joined: the code, where both may be and are of one name. -/
import Derived.Test.YtgckgbonhbabpaaRecG
namespace Go.Proofs.Ytgckgbonhbabpaa
open Go Go.RowKit Go.Deep Go.Shelf
set_option linter.unusedVariables false
set_option linter.unusedSimpArgs false
set_option maxRecDepth 100000
attribute [local go_sem] Oper.semAt_some

theorem fMay_small {N R : Int} : ∀ {l : List F4} {k : Int}, fMay N R k l = true → Small l
  | [], _, _ => fun f hf => by cases hf
  | f :: l, k, h => by
    unfold fMay at h
    simp only [Bool.and_eq_true] at h
    intro g hg
    rcases List.mem_cons.1 hg with rfl | hg
    · have := (cMay_le h.1.1.2).2.2; omega
    · exact fMay_small h.2 g hg
theorem recMay_small {N R : Int} {l : List F4} (h : recMay N R l = true) : Small l := by
  unfold recMay at h; simp only [Bool.and_eq_true] at h; exact fMay_small h.2
theorem max_v {N R N' R' X Y : Int} (hX : mxN N R N' R' = X) (hY : mxR N R N' R' = Y) (w : World) : Calls Try.prog 45 #[.agg #[.int .i64 N, .int .i64 R], .agg #[.int .i64 N', .int .i64 R']] w fun e w' => e = .returned (.agg #[.int .i64 X, .int .i64 Y]) ∧ Below w.heap.size w w' := by
  subst hX hY; exact max_m N R N' R' w
/-- Fields that the call owns. -/
def OwnF (base : Nat) (w : World) (v : Value) (l : List F4) : Prop := w.ownsRow base 65 4 v l.length (fieldsL l)
theorem OwnF.flds {base : Nat} {w : World} {v : Value} {l : List F4} (h : OwnF base w v l) : Flds w v l := row_of_own h
theorem OwnF.below {base : Nat} {w w' : World} {v : Value} {l : List F4} (h : OwnF base w v l) (hb : Below w.heap.size w w') : OwnF base w' v l := own_below h hb
theorem OwnF.nil (base : Nat) (w : World) : OwnF base w (.slice none 0 0) [] := World.ownsRow_nil _ _ _ _
theorem OwnF.kept {base : Nat} {w w' : World} {v : Value} {l : List F4} {row : Option Nat} (h : OwnF base w v l) (hg : w.grownBy w' row) (hne : v.ownBlock = none ∨ v.ownBlock ≠ row) : OwnF base w' v l := World.ownsRow.kept h hg hne
theorem MapAt.newF (w : World) : MapAt (w.alloc (.map #[] 0)) w.heap.size encI (mapF []) := MapAt.new w
theorem bel_put {w w' : World} {o : Obj} (h : But w.heap.size (w.alloc o) w') : Below w.heap.size w w' := (bel_alloc (Below.refl _ _) o).trans (h.below (Nat.le_refl _) (by simp))
theorem info_field : (Try.prog.info? 65).map (fun i => (i.zero, i.size, i.bytes)) = some (some (.agg #[.int .i64 0, .int .i64 0, .int .i64 0, .string ⟨#[]⟩]), 4, 40) := by kernel_rfl
theorem recA_set {A : Array Value} (hA : A.size = 16) (X Y : Int) (s v : Value) : (recA A X Y s).setIfInBounds 18 v = recA A X Y v := by
  unfold recA
  apply Array.ext_getElem?
  intro i
  rw [Array.getElem?_setIfInBounds]
  by_cases h : 18 = i
  · subst h; simp [hA, Array.getElem?_append]
  · rw [if_neg h]
    rw [Array.getElem?_append, Array.getElem?_append]
    by_cases h2 : i < A.size
    · rw [if_pos h2, if_pos h2]
    · rw [if_neg h2, if_neg h2, hA]
      rcases Nat.lt_or_ge i 19 with h3 | h3
      · have : i = 16 ∨ i = 17 := by omega
        rcases this with rfl | rfl <;> rfl
      · rw [Array.getElem?_eq_none (by simp; omega), Array.getElem?_eq_none (by simp; omega)]
theorem Blk.kept {w w' : World} {b : Nat} {t : TypeId} {cs : Array Value} {row : Option Nat} (h : Blk w b t cs) (hg : w.grownBy w' row) (hne : some b ≠ row) : Blk w' b t cs := (hg.block b h.lt hne).trans h
theorem OwnF.block {base : Nat} {w : World} {v : Value} {l : List F4} (h : OwnF base w v l) : v.ownBlock = none ∨ ∃ k cs t, v.ownBlock = some k ∧ base ≤ k ∧ w.heap[k]? = some (.cells cs t (0, 0)) := by
  obtain ⟨_, ⟨rfl, _⟩ | ⟨g, cap, cur, rfl, hb, hg, _⟩⟩ := h
  · exact .inl rfl
  · exact .inr ⟨g, _, _, rfl, hb, hg⟩
theorem alloc_cells (W : World) (cs : Array Value) (t : TypeId) (j : Nat) (u : Value) (h : cs.toList[j]? = some u) : (W.alloc (.cells cs t)).cell? ((⟨W.heap.size, 0, none⟩ : Addr).add j) = some u := by
  rw [Addr.add_lit, Nat.zero_add, (Blk.new W t cs).cell]; simpa using h
theorem gr_set (W : World) (b o : Nat) (v : Value) : W.grownBy (W.setCell ⟨b, o, none⟩ v) (some b) :=
  ⟨rfl, rfl, rfl, by simp, fun k _ hk => Below.heap_setCell _ _ _ k (fun e => hk (by rw [e]))⟩
/-- One field more, put into the record's slot. -/
theorem field_more {B g : Nat} {A : Array Value} {X Y : Int} {W w1 : World} {s v' : Value} {pre : List F4} {x : F4} {o : Obj} (hA : A.size = 16) (hgB : g < B) (hB : B ≤ W.heap.size) (kb : Blk W g 54 (recA A X Y s)) (own : OwnF B W s pre)
    (own1 : w1.ownsRow B 65 4 v' (pre.length + 1) (fieldsL pre ++ fieldsL [x])) (grow : (W.alloc o).grownBy w1 s.ownBlock) :
    w1.cell? ⟨g, 18, none⟩ = some s ∧ w1.frozen? ⟨g, 18, none⟩ = false ∧ KeepsOthers W (w1.setCell ⟨g, 18, none⟩ v') ∧ ButB B g W (w1.setCell ⟨g, 18, none⟩ v') ∧ Blk (w1.setCell ⟨g, 18, none⟩ v') g 54 (recA A X Y v') ∧ OwnF B (w1.setCell ⟨g, 18, none⟩ v') v' (pre ++ [x]) := by
  have hgs : some g ≠ s.ownBlock := by
    rcases own.block with h | ⟨k, _, _, h, hk, _⟩
    · intro he; rw [h] at he; cases he
    · intro he; rw [h] at he; cases he; omega
  have k1 : Blk w1 g 54 (recA A X Y s) := (kb.alloc o).kept grow hgs
  have hko : KeepsOthers W w1 := (KeepsOthers.alloc _ _).trans (KeepsOthers.of_grownBy grow fun j ob hj ho => by
    rcases own.block with h | ⟨k, cs, t, h, hk, hc⟩
    · rw [h] at hj; cases hj
    · rw [h] at hj; cases hj
      rw [Below.heap_alloc _ _ _ (Array.getElem?_eq_some_iff.1 hc).1, hc] at ho; cases ho; rfl)
  have hbb : ButB B g W w1 := ⟨grow.os, grow.tape, grow.output, Nat.le_trans (by simp) grow.size, fun k hk hne => by
    have h1 : (W.alloc o).heap[k]? = W.heap[k]? := Below.heap_alloc _ _ _ (by omega)
    rw [← h1]
    refine grow.block k (by simp; omega) ?_
    rcases own.block with h | ⟨k', _, _, h, hk', _⟩
    · intro he; rw [h] at he; cases he
    · intro he; rw [h] at he; cases he; omega⟩
  obtain ⟨_, _, c18, _, _⟩ := rec_cells k1 hA
  have e : fieldsL pre ++ fieldsL [x] = fieldsL (pre ++ [x]) := (fieldsL_append _ _).symm
  have own2 : OwnF B w1 v' (pre ++ [x]) := by unfold OwnF; rw [List.length_append, ← e]; exact own1
  have hgv : v'.ownBlock = none ∨ v'.ownBlock ≠ some g := by
    rcases own2.block with h | ⟨k, _, _, h, hk, _⟩
    · exact .inl h
    · right; intro he; rw [h] at he; cases he; omega
  refine ⟨c18, k1.frozen 18, hko.trans (KeepsOthers.setCell _ _ _), hbb.set 18 v', by rw [← recA_set hA X Y s v']; exact k1.set 18 v', own2.kept (gr_set w1 g 18 v') hgv⟩
set_option maxHeartbeats 3200000 in
theorem recjoin_yes (a : List UInt8) (ha : a.length = 16) (N R N' R' : Int) (v v' : Value) (l l' : List F4) (w : World) (hv : Flds w v l) (hv' : Flds w v' l') (h1 : recMay N R l = true) (h2 : recMay N' R' l' = true) :
    Calls Try.prog 37 #[.agg (recA (encU a).toArray N R v), .agg (recA (encU a).toArray N' R' v')] w fun e w' =>
      ∃ s, e = .returned (.tuple #[.agg (recA (encU a).toArray (mxN N R N' R') (mxR N R N' R') s), .bool true]) ∧ OwnF w.heap.size w' s (outTo (mxN N R N' R') (mxR N R N' R') (putAll (putAll [] l) l') 8) ∧ Below w.heap.size w w' := by
  have hAc := @after_cell
  have hAf := @after_frozen
  have hSz := sz_facts
  have hfn := fence_fn
  obtain ⟨A, eA⟩ : ∃ A, A = (encU a).toArray := ⟨_, rfl⟩
  obtain ⟨Z, eZ⟩ : ∃ Z, Z = recA (encU zid).toArray 0 0 (.slice none 0 0) := ⟨_, rfl⟩
  have hA : A.size = 16 := by rw [eA]; exact encU_arr16 ha
  have hA1 : A.all (·.oneCell') = true := by rw [eA]; exact encU_all _
  have hZ : Z.size = 19 := by rw [eZ]; exact recA_size (encU_arr16 zid_length)
  have hzz : (Try.prog.info? 54).map (·.zero) = some (some (.agg Z)) := by rw [eZ]; exact zero_rec
  have hq := fun W => neq_id a a ha ha W
  simp only [beq_self_eq_true, Bool.not_true] at hq
  obtain ⟨X, hX⟩ : ∃ X, Hid (mxN N R N' R' = X) := ⟨_, rfl⟩
  obtain ⟨Y, hY⟩ : ∃ Y, Hid (mxR N R N' R' = Y) := ⟨_, rfl⟩
  rw [← eA] at hq ⊢
  clear eA eZ
  rw [hX.out, hY.out]
  obtain ⟨m1, hm1⟩ : ∃ m1, Hid (putAll [] l = m1) := ⟨_, rfl⟩
  have sl := recMay_small h1
  have sl' := recMay_small h2
  have Sn : Hid (Small []) := Lib.hid (fun f hf => by cases hf)
  have S1 : Hid (Small m1) := Lib.hid (by rw [← hm1.out]; exact putAll_small Sn.out sl)
  rw [hm1.out]
  obtain ⟨m2, hm2⟩ : ∃ m2, Hid (putAll m1 l' = m2) := ⟨_, rfl⟩
  rw [hm2.out]
  have Sl := Lib.hid sl; have Sl' := Lib.hid sl'; have HZ := Lib.hid hZ
  have Hzz := Lib.hid hzz; have HA1 := Lib.hid hA1; clear hzz hA1 sl sl' hZ
  have hbox : ∀ w1, Blk w1 w.heap.size 54 (recA A N R v) → _ := fun w1 k => rec_cells k hA
  have hbox2 : ∀ w1, Blk w1 (w.heap.size + 1) 54 (recA A N' R' v') → _ := fun w1 k => rec_cells k hA
  have H1 := Lib.hid h1; have H2 := Lib.hid h2
  have Hv := Lib.hid hv; have Hv' := Lib.hid hv'; clear hv hv' h1 h2
  have hmm := @run_makeMap Try.prog
  refine (callsIn_wide (n := 5)).1 (callsIn_of_wp_marks Try.func37 rfl trivial (wpIn_wide.2 ?_) rfl)
  simp only [Try.ntmps37, List.size_toArray, List.length_cons, List.length_nil, Nat.reduceAdd, Nat.reduceSub, Array.replicate_succ, Array.replicate_zero, List.push_toArray, List.append_toArray, List.nil_append, List.cons_append]
  go_wp2_with (first | ((fail_if_success have := k1); refine wpList_box_blk rfl 54 _ rfl _ rfl (recA A N R v) rfl ?_; intro w1 k1 b1 s1; obtain ⟨y1, rfl⟩ := after_of b1; obtain ⟨c16, c17, c18, csub, call⟩ := hbox _ k1; clear hbox) | ((fail_if_success have := k2); refine wpList_box_blk rfl 54 _ rfl _ rfl (recA A N' R' v') rfl ?_; intro w2 k2 b2 s2; obtain ⟨y2, rfl⟩ := after_of b2; rw [s1] at k2; obtain ⟨d16, d17, d18, dsub, dall⟩ := hbox2 _ k2; clear hbox2) | ((fail_if_success have := k3); refine wpList_alloc_blk rfl 54 rfl _ rfl (.agg Z) Z Hzz.out rfl ?_; intro w3 k3 b3 s3; obtain ⟨y3, rfl⟩ := after_of b3; rw [s2, s1] at k3 s3) | (refine wpList_load_sub rfl 54 _ rfl _ rfl w.heap.size 0 rfl (recA A N R v) _ (by repeat (first | exact call | refine Sub.after ?_ _ | refine Sub.alloc ?_ _)) Try.underlying54 rfl (info_rec hA) ?_) | (refine wpList_load_sub rfl 54 _ rfl _ rfl (w.heap.size + 1) 0 rfl (recA A N' R' v') _ (by repeat (first | exact dall | refine Sub.after ?_ _ | refine Sub.alloc ?_ _)) Try.underlying54 rfl (info_rec hA) ?_) | (refine wpList_load_sub rfl 51 _ rfl _ rfl w.heap.size 0 rfl A _ (by repeat (first | exact csub | refine Sub.after ?_ _ | refine Sub.alloc ?_ _)) Try.underlying51 rfl (info_id hA) ?_) | (refine wpList_load_sub rfl 51 _ rfl _ rfl (w.heap.size + 1) 0 rfl A _ (by repeat (first | exact dsub | refine Sub.after ?_ _ | refine Sub.alloc ?_ _)) Try.underlying51 rfl (info_id hA) ?_) | ((fail_if_success have := t5); go_at_call 42; (with_reducible refine (recmay_v hA H1.out _ (Hv.out.below (by (repeat (first | exact Below.refl _ _ | assumption | refine bel_alloc ?_ _ | refine bel_after _ ?_ | refine bel_drewN ?_ _ | refine bel_drew ?_ | refine bel_set ?_ (by first | omega | (simp only [World.size_alloc, World.size_drew, World.size_setCell]; omega) | (simp; omega)) _))))).mono ?_); rintro e w' ⟨rfl, hb⟩; obtain ⟨x1, rfl⟩ := after_of hb; clear hb; have t5 := trivial; have z1 := szf3 (a := w.heap.size) (b := x1.w.heap.size) (by have := x1.h.size; omega)) | (go_at_call 42; (with_reducible refine (recmay_v hA H2.out _ (Hv'.out.below (by (repeat (first | exact Below.refl _ _ | assumption | refine bel_alloc ?_ _ | refine bel_after _ ?_ | refine bel_drewN ?_ _ | refine bel_drew ?_ | refine bel_set ?_ (by first | omega | (simp only [World.size_alloc, World.size_drew, World.size_setCell]; omega) | (simp; omega)) _))))).mono ?_); rintro e w' ⟨rfl, hb⟩; obtain ⟨x2, rfl⟩ := after_of hb; clear hb; have z2 := szf3 (a := w.heap.size) (b := x2.w.heap.size) (by have := x2.h.size; have := x1.h.size; omega)) | ((fail_if_success have := t6); go_at_call 71; (with_reducible refine (gput_v hA hm1.out Sn.out Sl.out _ (MapAt.newF _) (Hv.out.below (by (repeat (first | exact Below.refl _ _ | assumption | refine bel_alloc ?_ _ | refine bel_after _ ?_ | refine bel_drewN ?_ _ | refine bel_drew ?_ | refine bel_set ?_ (by first | omega | (simp only [World.size_alloc, World.size_drew, World.size_setCell]; omega) | (simp; omega)) _))))).mono ?_); rintro e w' ⟨⟨u, rfl⟩, M1, B1⟩; obtain ⟨x3, rfl⟩ := after_of (bel_put B1); have t6 := trivial; have z3 := szf3 (a := w.heap.size) (b := x3.w.heap.size) (by have := x3.h.size; have := x2.h.size; have := x1.h.size; omega)) | (go_at_call 71; (with_reducible refine (gput_v hA hm2.out S1.out Sl'.out _ M1 (Hv'.out.below (by (repeat (first | exact Below.refl _ _ | assumption | refine bel_alloc ?_ _ | refine bel_after _ ?_ | refine bel_drewN ?_ _ | refine bel_drew ?_ | refine bel_set ?_ (by first | omega | (simp only [World.size_alloc, World.size_drew, World.size_setCell]; omega) | (simp; omega)) _))))).mono ?_); rintro e w' ⟨⟨u2, rfl⟩, M2, B2⟩; obtain ⟨x4, rfl⟩ := after_of (x3.h.trans (B2.below (Nat.le_refl _) x3.h.size)); have z4 := szf3 (a := w.heap.size) (b := x4.w.heap.size) (by have := x4.h.size; have := x2.h.size; have := x1.h.size; omega)))
  have HM2 := Lib.hid M2; clear M1 B1 M2 B2
  refine' wp_float_tail (cs := Z) 8 54 7 _ (by kernel_rfl) (by kernel_rfl) rfl Hzz.out rfl ?_ ?_
  case refine'_2 =>
    intro T
    have zT := szf3 (a := w.heap.size) (b := T.w.heap.size) (by have := T.h.size; have := x4.h.size; have := x2.h.size; have := x1.h.size; omega)
    simp only [strikeL, List.take_succ_cons, List.take_zero]
    repeat (first | (go_big_quiet_want; (refine quiet_load_sub 51 _ rfl _ rfl w.heap.size 0 rfl A _ ?_ Try.underlying51 rfl (info_id hA) ?_; rotate_left; (go_simp; go_big_quiet_on); rotate_left; (rintro _ ⟨x, rfl⟩; repeat (first | exact csub | refine Sub.after ?_ _)))) | (go_big_quiet_want; (refine quiet_build_to 54 _ rfl _ rfl (recA A X Y (.slice none 0 0)) ?_ ?_; (focus (simp [Act.eval, built_id_dead hA X Y]; done)); (go_simp; go_big_quiet_on))) | (go_big_quiet_step ((go_at_call 45; with_reducible exact after_call _ (max_v hX.out hY.out _)))))
    refine wpQuiet_nil ?_
    exact rfl
  intro g y5 hg5 k5
  simp only [List.drop_succ_cons, List.drop_zero, Act.put, List.setIfInBounds_toArray, List.set_cons_zero, List.set_cons_succ]
  have HoneR : Hid ((recA A X Y (.slice none 0 0)).all (·.oneCell') = true) := Lib.hid (recA_one HA1.out rfl)
  have HszR : Hid (Z.size = (recA A X Y (.slice none 0 0)).size) := Lib.hid (by rw [HZ.out, recA_size hA])
  go_wp2_with (first | ((fail_if_success have := k6); refine wpList_store_blk rfl 54 _ _ rfl g (recA A X Y (.slice none 0 0)) rfl rfl 54 Z k5 (info_rec hA) HszR.out HoneR.out ?_; intro w6 k6 b6 s6; clear s6; obtain ⟨e16, e17, e18, esub, eall⟩ := rec_cells k6 hA; have be6 : Below x4.w.heap.size x4.w w6 := y5.h.trans (b6.below hg5 y5.h.size); obtain ⟨y6, rfl⟩ := after_of be6) | (go_at_call 72; (with_reducible refine (fields_c _ _ _ _).mono ?_); rintro e w7 ⟨rfl, hb7, s7, f0, f1, f2⟩))
  have hgl : g < y6.w.heap.size := k6.lt
  have hbl : x2.w.heap.size < x4.w.heap.size := HM2.out.lt
  have hy6 := y6.h.size
  have hx4 : Below w.heap.size w x4.w := by (repeat (first | exact Below.refl _ _ | assumption | refine bel_alloc ?_ _ | refine bel_after _ ?_ | refine bel_drewN ?_ _ | refine bel_drew ?_ | refine bel_set ?_ (by first | omega | (simp only [World.size_alloc, World.size_drew, World.size_setCell]; omega) | (simp; omega)) _))
  have hz7 : Below w.heap.size w w7 := hx4.trans ((y6.h.trans (hb7.mono y6.h.size)).mono hx4.size)
  have HM7 : MapAt w7 x2.w.heap.size encI (mapF m2) := (HM2.out.below y6.h hbl).below hb7 (by omega)
  have k7 := k6.below hb7 hgl
  have k37 : Blk w7 (w.heap.size + 1 + 1) 54 Z := (by repeat (first | exact k3 | refine Blk.after ?_ _) : Blk y6.w (w.heap.size + 1 + 1) 54 Z).below hb7 (by have := (by repeat (first | exact k3 | refine Blk.after ?_ _) : Blk y6.w (w.heap.size + 1 + 1) 54 Z).lt; exact this)
  have hd4 : w.heap.size + 1 + 1 < w7.heap.size := k37.lt
  have hd5 : w.heap.size + 1 + 1 ≠ g := by have := z4.2.2.2.2.2.2.1; have := of_eq_true this; omega
  refine (wpIn_wide (n := 5)).1 ?_
  refine wpIn_rangeFunc_ownH (F := Fence.wide) rfl (by omega) (gf := 87) (lb := #[.pointer (some ⟨y6.w.heap.size, 0, none⟩), .pointer (some ⟨y6.w.heap.size + 1, 0, none⟩)]) rfl trivial (enters_of Try.func87 (by kernel_rfl) rfl)
    (fields_stops y6.w.heap.size (y6.w.heap.size + 1) x2.w.heap.size w7.heap.size g m2 X Y w7 f0 f1 f2 HM7 (by omega) (by omega) (by omega) (Nat.le_refl _) (by omega) (by omega) (by omega))
    (fun h k => h.trans k) (fun W l o o' hl _ _ _ => ButB.putObj _ _ W l o' hl) (Below.refl _ _) (fun _ => rfl)
    (fun pre W => (∃ s, Blk W g 54 (recA A X Y s) ∧ OwnF w7.heap.size W s pre) ∧ ButB w7.heap.size g w7 W)
    (fun _ _ _ => False) ?hI (fun _ _ _ _ _ hs _ _ => hs) ⟨⟨_, k7, OwnF.nil _ _⟩, ButB.refl _ _ _⟩
    (fun x a' W => ∃ Bx t0 t1 t2 t3 t4 t5 t6 t9 t10 t11 t12 t13 t14 t15 t16 t17 t18 t19 t20 t21 t22 t23 t24 t25 t26 t27 t28 t29 t30 t31 t32 t33 t34 t35 t36 t37 t38 t39 t40 t41 t42 t43 t44 t45 t46 t47 t48 t49 t50 t51, w7.heap.size ≤ Bx ∧ Blk W Bx 65 #[.int .i64 x.1, .int .i64 x.2.1, .int .i64 x.2.2.1, .string x.2.2.2] ∧ a' = { tmps := #[t0, t1, t2, t3, t4, t5, t6, .pointer (some ⟨g, 0, none⟩), .pointer (some ⟨Bx, 0, none⟩), t9, t10, t11, t12, t13, t14, t15, t16, t17, t18, t19, t20, t21, t22, t23, t24, t25, t26, t27, t28, t29, t30, t31, t32, t33, t34, t35, t36, t37, t38, t39, t40, t41, t42, t43, t44, t45, t46, t47, t48, t49, t50, t51], defers := [] })
    ?hAx ?assign ?body ?done ?stop
  case hI =>
    rintro s W W' row ⟨⟨sv, h1, h2⟩, h3⟩ hg hr
    refine ⟨⟨sv, h1.kept hg fun he => ?_, h2.kept hg ?_⟩, h3.trans ⟨hg.os, hg.tape, hg.output, hg.size, fun k hk _ => hg.block k (by have := h3.size; omega) fun he => by have := (hr k he.symm).1; omega⟩⟩
    · obtain ⟨_, o, ho, hc⟩ := hr g he.symm
      rw [show W.heap[g]? = _ from h1] at ho; cases ho; cases hc
    · rcases h2.block with h | ⟨k, cs, t, h, hk, hc⟩
      · exact .inl h
      · right; rw [h]; intro he
        obtain ⟨_, o, ho, hc'⟩ := hr k he.symm
        rw [hc] at ho; cases ho; cases hc'
  case hAx =>
    rintro x a' _ W W' row ⟨Bx, t0, t1, t2, t3, t4, t5, t6, t9, t10, t11, t12, t13, t14, t15, t16, t17, t18, t19, t20, t21, t22, t23, t24, t25, t26, t27, t28, t29, t30, t31, t32, t33, t34, t35, t36, t37, t38, t39, t40, t41, t42, t43, t44, t45, t46, t47, t48, t49, t50, t51, h1, h2, h3⟩ hg hr
    refine ⟨Bx, t0, t1, t2, t3, t4, t5, t6, t9, t10, t11, t12, t13, t14, t15, t16, t17, t18, t19, t20, t21, t22, t23, t24, t25, t26, t27, t28, t29, t30, t31, t32, t33, t34, t35, t36, t37, t38, t39, t40, t41, t42, t43, t44, t45, t46, t47, t48, t49, t50, t51, h1, h2.kept hg fun he => ?_, h3⟩
    obtain ⟨_, o, ho, hc⟩ := hr Bx he.symm
    rw [show W.heap[Bx]? = _ from h2] at ho; cases ho; cases hc
  case assign =>
    rintro l3 pre ⟨no, fN, fR, fS⟩ W K ⟨⟨sv, h1, h2⟩, h3⟩ hK
    dsimp only [fV]
    gi_wp2
    have hba : ButB w7.heap.size g W (W.alloc (.cells #[.int .i64 no, .int .i64 fN, .int .i64 fR, .string fS] 65)) := ButB.of_below (bel_alloc (Below.refl _ _) _) h3.size
    exact hK _ _ ((KeepsOthers.alloc _ _).from _) hba ⟨⟨sv, h1.alloc _, h2.below (bel_alloc (Below.refl _ _) _)⟩, h3.trans hba⟩ ⟨W.heap.size, _, _, _, _, _, _, _, _, _, _, _, _, _, _, _, _, _, _, _, _, _, _, _, _, _, _, _, _, _, _, _, _, _, _, _, _, _, _, _, _, _, _, _, _, _, _, _, _, _, _, h3.size, Blk.new _ _ _, rfl⟩
  case body =>
    rintro l3 pre ⟨no, fN, fR, fS⟩ a' W hl ⟨r3, hr3⟩ ⟨⟨sv, h1, h2⟩, h3⟩ ⟨Bx, t0, t1, t2, t3, t4, t5, t6, t9, t10, t11, t12, t13, t14, t15, t16, t17, t18, t19, t20, t21, t22, t23, t24, t25, t26, t27, t28, t29, t30, t31, t32, t33, t34, t35, t36, t37, t38, t39, t40, t41, t42, t43, t44, t45, t46, t47, t48, t49, t50, t51, hBx, hkx, rfl⟩ hlt
    obtain ⟨e16, e17, e18, esub, eall⟩ := rec_cells h1 hA
    have x0 := hkx.cell 0
    have x1 := hkx.cell 1
    have x2 := hkx.cell 2
    have x3 := hkx.cell 3
    simp only [List.getElem?_toArray, List.getElem?_cons_zero, List.getElem?_cons_succ] at x0 x1 x2 x3
    obtain ⟨i0, hi, hzz⟩ := Option.map_eq_some_iff.1 info_field
    simp only [Prod.mk.injEq] at hzz
    obtain ⟨hz0, hz1, hz2⟩ := hzz
    have HI : Hid (Try.prog.info? 65 = some i0 ∧ i0.zero = some (.agg #[.int .i64 0, .int .i64 0, .int .i64 0, .string ⟨#[]⟩]) ∧ i0.size = 4 ∧ i0.bytes = 40) := Lib.hid ⟨hi, hz0, hz1, hz2⟩
    clear hi hz0 hz1 hz2
    have H1' := Lib.hid h1; have H2' := Lib.hid h2; have H3' := Lib.hid h3; clear h1 h2 h3
    have HL8 : Hid (pre.length < 8) := Lib.hid hlt; clear hlt
    have hgB : g < w7.heap.size := by omega
    have HB' : Hid (g < w7.heap.size) := Lib.hid hgB
    have hWs : Hid (w7.heap.size ≤ W.heap.size) := Lib.hid H3'.out.size
    have hWn : Hid (w7.heap.size ≤ W.heap.size + 1) := Lib.hid (by have := H3'.out.size; omega)
    clear hgB hy6 s7
    gi_wp2_with (gi_at_builtin; refine wpListIn_append_own _ rfl _ _ 52 rfl w7.heap.size 65 i0 (.agg #[.int .i64 0, .int .i64 0, .int .i64 0, .string ⟨#[]⟩]) 4 40 Try.underlying52 HI.out.1 HI.out.2.1 HI.out.2.2.1 HI.out.2.2.2 rfl (by decide) _ _ _ rfl (own_below H2'.out (bel_alloc (Below.refl _ _) _)) ⟨W.heap.size, 0, none⟩ 1 1 (fieldsL [(no, fN, fR, fS)]) rfl rfl ?_ (fieldsL_one _) ?_ ?_ ?_ ?_; (focus (exact fun j u hj => alloc_cells W _ _ j u hj)); (focus (have h8 := HL8.out; unfold maxLen; omega)); (focus (have h8 := HL8.out; omega)); (focus (simp; exact hWn.out)); intro v4 w4 own4 grow4 _; obtain ⟨q1, q2, q3, q4, q5, q6⟩ := field_more hA HB'.out hWs.out H1'.out H2'.out own4 grow4; have Q3 := Lib.hid q3; have Q4 := Lib.hid q4; have Q5 := Lib.hid q5; have Q6 := Lib.hid q6; clear q3 q4 q5 q6; obtain ⟨g4, c4, rfl⟩ := ownsRow_succ own4; clear own4 grow4)
    exact ⟨Q3.out.from _, Q4.out, ⟨_, Q5.out, Q6.out⟩, H3'.out.trans Q4.out⟩
  case done =>
    rintro D ys W hD rfl ⟨⟨sv, h1, h2⟩, h3⟩ hK
    have kW3 : Blk W (w.heap.size + 1 + 1) 54 Z := (h3.block _ hd4 hd5).trans k37
    have HD := Lib.hid hD; have HK := Lib.hid hK; have HW3 := Lib.hid kW3; have H1' := Lib.hid h1; have H2' := Lib.hid h2; have H3' := Lib.hid h3
    have Hd4 := Lib.hid hd4; have Hd5 := Lib.hid hd5; have Hz7 := Lib.hid hz7
    have Hall := Lib.hid h1.subA
    have Hone : Hid ((recA A X Y sv).all (·.oneCell') = true) := Lib.hid (recA_one HA1.out (flds_one h2.flds))
    have Hsz : Hid (Z.size = (recA A X Y sv).size) := Lib.hid (by rw [HZ.out, recA_size hA])
    clear hD hK kW3 h1 h2 h3 s7 hy6 hd4 hd5 hz7
    go_wp2_with (first | (refine wpList_load_sub rfl 54 _ rfl _ rfl g 0 rfl (recA A X Y sv) _ Hall.out Try.underlying54 rfl (info_rec hA) ?_) | ((fail_if_success have := k9); refine wpList_store_blk rfl 54 _ _ rfl (w.heap.size + 1 + 1) (recA A X Y sv) rfl rfl 54 Z HW3.out (info_rec hA) Hsz.out Hone.out ?_; intro w9 k9 b9 s9))
    have hDlt : D < W.heap.size := (Array.getElem?_eq_some_iff.1 HK.out).1
    have hDne : D ≠ w.heap.size + 1 + 1 := by have := Hd4.out; have := HD.out; omega
    have hDK : w9.heap[D]? = some (.deferred (some [])) := (b9.block D hDlt hDne).trans HK.out
    have hgr : W.grownBy w9 (some (w.heap.size + 1 + 1)) := ⟨b9.os, b9.tape, b9.output, b9.size, fun k hk hne => b9.block k hk fun e => hne (by rw [e])⟩
    have hown : OwnF w7.heap.size w9 sv (outTo X Y m2 8) := H2'.out.kept hgr (by
      rcases H2'.out.block with h | ⟨k, _, _, h, hk, _⟩
      · exact .inl h
      · right; rw [h]; intro he; cases he; have := Hd4.out; omega)
    have hgw : w.heap.size ≤ g := Nat.le_trans hx4.size hg5
    have hb9 : Below w.heap.size w w9 := (Hz7.out.trans (H3'.out.below hgw Hz7.out.size)).trans (b9.below (by omega) (Nat.le_trans Hz7.out.size H3'.out.size))
    refine ⟨by simp, .inl ⟨_, _, rfl, run_takeDeferred hDK, ?_⟩⟩
    have kE : Blk (w9.putObj D (.deferred none)) (w.heap.size + 1 + 1) 54 (recA A X Y sv) := (World.putObj_heap_other (Ne.symm hDne)).trans k9
    exact ⟨_, results_cell_tmp Try.results37 _ _ (w.heap.size + 1 + 1) (recA A X Y sv) _ _ rfl rfl kE.subA Try.underlying54 rfl (info_rec hA), sv, rfl, own_lower (ownsRow_putObj hown _ hDK rfl) Hz7.out.size, hb9.trans (belowK_b (w := w7) Hz7.out.size w9 D _ _ HD.out hDK rfl rfl)⟩
  case stop =>
    rintro D c pre W _ _ h _
    exact h.elim
end Go.Proofs.Ytgckgbonhbabpaa
