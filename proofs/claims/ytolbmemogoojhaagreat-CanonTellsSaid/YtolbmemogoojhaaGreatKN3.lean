/- Names sorted. -/
import Derived.Test.YtolbmemogoojhaaGreatKN2
import Derived.Test.YtolbmemogoojhaaGreatLay
import Derived.Great.FillDense
import Derived.Test.YtolbmemogoojhaaGreatKN1
namespace Go.Proofs.YtolbmemogoojhaaGreat
open Go Go.RowKit Go.Deep Go.Sort Go.Shelf
set_option linter.unusedVariables false
set_option linter.unusedSimpArgs false
set_option maxRecDepth 100000
instance : Inhabited IDK := ⟨⟨List.replicate 16 0, rfl⟩⟩
def encQ (k : IDK) : List Value := encU k.1
/-- Names as a row. -/
def idsL (l : List IDK) : List Value := l.flatMap encQ
theorem encQ_len (k : IDK) : (encQ k).length = 16 := by unfold encQ; rw [encU_length]; exact k.2
theorem idsL_len : ∀ l : List IDK, (idsL l).length = l.length * 16
  | [] => rfl
  | k :: l => by
    have := idsL_len l
    unfold idsL at this ⊢
    rw [List.flatMap_cons, List.length_append, this, encQ_len, List.length_cons]; omega
theorem idsL_get (l : List IDK) (t : Nat) : (idsL l)[t]? = (l[t / 16]?).bind fun k => (encQ k)[t % 16]? := by
  have h := Go.Great.flat_get (s := 16) (by omega) (l.map encK) (fun v hv => by obtain ⟨k, _, rfl⟩ := List.mem_map.1 hv; simp [encK, Value.cells, encU_length, k.2]) t
  have e : ((l.map encK).flatMap fun v => v.cells.toList) = idsL l := by
    unfold idsL encQ
    rw [List.flatMap_map]
    congr 1
  rw [e] at h
  rw [h, List.getElem?_map]
  cases l[t / 16]? with
  | none => rfl
  | some k => simp [encK, Value.cells, encQ]
theorem flatK_ids (l : List IDK) : (flatK encQ 16 l.toArray).toList = idsL l := by
  apply List.ext_getElem?
  intro t
  rw [idsL_get]
  by_cases ht : t < l.length * 16
  · have h1 : t / 16 < l.length := by omega
    have h2 : t % 16 < 16 := by omega
    have h3 : t < (flatK encQ 16 l.toArray).size := by simpa using ht
    rw [Array.getElem?_toList, Array.getElem?_eq_getElem h3]
    have h4 := get_flatK encQ 16 l.toArray t (by simpa using ht)
    rw [getElem!_pos _ t h3] at h4
    rw [h4, List.getElem?_eq_getElem h1, Option.bind_some]
    have h5 : l.toArray[t / 16]! = l[t / 16] := by simp [h1]
    rw [h5]
    have h6 : t % 16 < (encQ l[t / 16]).length := by rw [encQ_len]; exact h2
    rw [List.getElem?_eq_getElem h6]; simp [h6]
  · rw [Array.getElem?_toList, Array.getElem?_eq_none (by simp; omega), List.getElem?_eq_none (by omega)]; rfl
theorem idsL_one (l : List IDK) : ∀ u ∈ idsL l, u.oneCell' = true := by
  intro u hu
  obtain ⟨k, _, h⟩ := List.mem_flatMap.1 hu
  exact encU_one _ u h
/-- The comparing, its world told to the letter. -/
def GrownTo (W w' : World) : Prop := ∃ q os', w' = grow (W.drewN q) os'
theorem grownTo_refl (W : World) : GrownTo W W := ⟨0, #[], by simp [World.drewN]⟩
theorem GrownTo.alloc {W w : World} (h : GrownTo W w) (o : Obj) : GrownTo W (w.alloc o) := by
  obtain ⟨q, os, rfl⟩ := h
  exact ⟨q, os ++ #[o], by rw [alloc_eq_grow, grow_grow]⟩
theorem GrownTo.drew {W w : World} (h : GrownTo W w) : GrownTo W w.drew := by
  obtain ⟨q, os, rfl⟩ := h
  exact ⟨q + 1, os, by simp [grow, World.drewN, World.drew, Nat.add_assoc]⟩
theorem GrownTo.below {W w : World} (h : GrownTo W w) : Below W.heap.size W w := by
  obtain ⟨q, os, rfl⟩ := h
  exact ⟨rfl, rfl, rfl, by simp [grow, World.drewN], fun k hk => by simp only [grow, World.drewN]; rw [Array.getElem?_append_left hk]⟩
structure Grn (W : World) where
  w : World
  h : GrownTo W w
instance grnNonempty (W : World) : Nonempty (Grn W) := ⟨⟨W, grownTo_refl W⟩⟩
set_option maxHeartbeats 1600000 in
theorem bkcmp_g (a b : List UInt8) (ha : a.length = 16) (hb : b.length = 16) (w : World) : Calls Tryz.prog 53 #[.agg (encU a).toArray, .agg (encU b).toArray] w fun e w' => e = .returned (.int .i64 (cmpID a b)) ∧ GrownTo w w' := by
  obtain ⟨A, hA⟩ : ∃ A, Hid ((encU a).toArray = A) := ⟨_, rfl⟩
  obtain ⟨B, hB⟩ : ∃ B, Hid ((encU b).toArray = B) := ⟨_, rfl⟩
  obtain ⟨r, hr⟩ : ∃ r, Hid (cmpID a b = r) := ⟨_, rfl⟩
  rw [hA.out, hB.out, hr.out]
  have Ha := Lib.hid ha; have Hb := Lib.hid hb; clear ha hb
  obtain ⟨W2, hW2⟩ : ∃ W2, Hid ((w.alloc (.cells A 26)).alloc (.cells B 26) = W2) := ⟨_, rfl⟩
  have hg2 : Hid (GrownTo w W2) := Lib.hid (by rw [← hW2.out]; exact ((grownTo_refl w).alloc _).alloc _)
  have hk1 : Blk W2 w.heap.size 26 A := by rw [← hW2.out]; exact (Blk.new w _ _).alloc _
  have hk2 : Blk W2 (w.heap.size + 1) 26 B := by rw [← hW2.out]; have := Blk.new (w.alloc (.cells A 26)) 26 B; simpa using this
  have hc : ∀ x : Grn W2, Calls Tryz.prog 59 #[.slice (some ⟨w.heap.size, 0, none⟩) 16 16, .slice (some ⟨w.heap.size + 1, 0, none⟩) 16 16] x.w fun e w' => e = .returned (.int .i64 r) ∧ ∃ y : Grn W2, w' = y.w := fun x => by
    have h1 := hk1.below x.h.below hk1.lt
    have h2 := hk2.below x.h.below hk2.lt
    rw [← hA.out] at h1; rw [← hB.out] at h2
    have := bcompare_c _ _ a b x.w (byt_blk h1 Ha.out (by decide)) (byt_blk h2 Hb.out (by decide))
    unfold cmpID at hr
    rw [hr.out] at this
    exact this.mono fun e w' ⟨he, hw⟩ => ⟨he, x, hw.symm⟩
  have Hc := Lib.hid hc; clear hc hk1 hk2
  go_enter Tryz.func53, Tryz.ntmps53
  go_wp2
  rw [hW2.out]
  refine wp_quiet_all (C := fun w' => ∃ x : Grn W2, w' = x.w) (by kernel_rfl) (by kernel_rfl) ⟨⟨W2.drew, (grownTo_refl W2).drew⟩, rfl⟩ ?_
  repeat (first | go_big_quiet_skip | (go_big_quiet_step ((go_at_call 59; with_reducible exact Hc.out _))))
  refine wpQuiet_nil ?_
  rintro _ ⟨⟨w3, hg3⟩, rfl⟩
  go_wp2
  all_goals first | (rw [Exit.noGoto_ret]; go_ret) | go_ret
  have h2 := hg2.out
  obtain ⟨q, os, rfl⟩ := h2
  obtain ⟨q', os', rfl⟩ := hg3
  exact ⟨rfl, q + q', os ++ os', by simp [grow, World.drewN, Nat.add_assoc]⟩
def cfK (x y : IDK) : Int := cmpID x.1 y.1
theorem lt_cfK (x y : IDK) : ltOf cfK x y = decide (x.1 < y.1) := by unfold ltOf cfK; exact cmp_lt x.1 y.1
theorem swoK : SWO (ltOf cfK) where
  irrefl x := by rw [lt_cfK]; simp [idl_irrefl]
  trans x y z h k := by rw [lt_cfK] at h k ⊢; simp only [decide_eq_true_eq] at h k ⊢; exact idl_trans h k
  ntrans x y z h k := by
    rw [lt_cfK] at h k ⊢
    simp only [decide_eq_false_iff_not] at h k ⊢
    intro hx
    rcases idl_tri y.1 x.1 with h1 | h1 | h1
    · exact k (idl_trans h1 hx)
    · exact k (h1 ▸ hx)
    · exact h h1
theorem cmpLaysK (blk off size : Nat) (w : World) : CmpLays Tryz.prog 53 #[] encQ 16 cfK blk off size w := fun _ _ _ _ x y => bkcmp_g x.1 y.1 x.2 y.2 _
theorem hlenK (n : Nat) (W : World) (h : n ≤ 12) : Calls Tryz.prog 90 #[.int .u64 n] W fun e w' => (∃ l : Int, e = .returned (.int .i64 l)) ∧ w' = W :=
  (Any.bits_Len layLen n W (by omega) (by omega)).mono fun _ _ ⟨he, hw⟩ => ⟨⟨_, he⟩, hw⟩
theorem ownsRow_cells {w : World} {e : TypeId} {size n g cap : Nat} {cur : Array Value} {xs : List Value} (h1 : w.heap[g]? = some (.cells cur e (0, 0))) (h2 : n ≤ cap) (h3 : cap ≤ maxLen) (h4 : cur.size = cap * size) (h5 : cur.toList.take (n * size) = xs) (h6 : xs.length = n * size) : w.ownsRow 0 e size (.slice (some ⟨g, 0, none⟩) n cap) n xs :=
  ⟨h6, .inr ⟨g, cap, cur, rfl, Nat.zero_le _, h1, h2, h3, h4, h5⟩⟩
theorem sw_block {w : World} {g q : Nat} {d' : Array IDK} {os : Array Obj} {cur : Array Value} {e : TypeId} {fz : Nat × Nat} (hg : w.heap[g]? = some (.cells cur e fz)) : (sortWorldK encQ 16 w g 0 q d' os).heap[g]? = some (.cells (putCells id 0 (flatK encQ 16 d') cur) e fz) := by
  have hlt : g < w.heap.size := (Array.getElem?_eq_some_iff.1 hg).1
  unfold sortWorldK grow putRowK putRow mapBlock
  rw [Array.getElem?_append_left (by simpa [Go.Sort.ahead] using hlt)]
  rw [Array.getElem?_modify, if_pos rfl, show (Go.Sort.ahead w q).heap[g]? = w.heap[g]? from rfl, hg]; rfl
theorem sw_other {w : World} {g q k : Nat} {d' : Array IDK} {os : Array Obj} (hk : k < w.heap.size) (hne : g ≠ k) : (sortWorldK encQ 16 w g 0 q d' os).heap[k]? = w.heap[k]? := by
  unfold sortWorldK grow putRowK putRow mapBlock
  rw [Array.getElem?_append_left (by simpa [Go.Sort.ahead] using hk)]
  rw [Array.getElem?_modify, if_neg hne]; rfl
theorem put_take {F cur : Array Value} (h : F.size ≤ cur.size) : (putCells id 0 F cur).toList.take F.size = F.toList := by
  apply List.ext_getElem?
  intro t
  rw [List.getElem?_take]
  by_cases ht : t < F.size
  · have hc : t < cur.size := by omega
    rw [if_pos ht, Array.getElem?_toList, Array.getElem?_toList, Array.getElem?_eq_getElem ht]
    unfold putCells
    rw [Array.getElem?_mapIdx, Array.getElem?_eq_getElem hc, Option.map_some, if_pos ⟨Nat.zero_le _, by omega⟩, Nat.sub_zero, getElem!_pos _ t ht]; rfl
  · rw [if_neg ht, Array.getElem?_toList, Array.getElem?_eq_none (by omega)]
set_option maxHeartbeats 1600000 in
theorem ins_none (v fv : Value) (w : World) : Calls Tryz.prog 123 #[v, .int .i64 0, .int .i64 0, fv] w fun e w' => e = .returned (.tuple #[]) ∧ w = w' := by
  go_enter Tryz.func123, Tryz.ntmps123
  go_wp2
  go_loopw [8] (fun i wr => i = .int .i64 1 ∧ w = wr) (fun _ _ => 0)
  case atStart => exact ⟨rfl, rfl⟩
  case round =>
    obtain ⟨rfl, rfl⟩ := hrel
    go_wp2
    go_end0
    exact ⟨rfl, rfl⟩
set_option maxHeartbeats 1600000 in
theorem pdq_none (v fv : Value) (l : Int) (w : World) : Calls Tryz.prog 89 #[v, .int .i64 0, .int .i64 0, .int .i64 l, fv] w fun e w' => e = .returned (.tuple #[]) ∧ w = w' := by
  go_enter Tryz.func89, Tryz.ntmps89
  go_wp2
  go_loopw [1, 2] (fun i j wr => i = .int .i64 0 ∧ j = .int .i64 0 ∧ w = wr) (fun _ _ _ => 0)
  case atStart => exact ⟨rfl, rfl, rfl⟩
  case round =>
    obtain ⟨rfl, rfl, rfl⟩ := hrel
    go_wp2_with (go_at_call 123; (with_reducible refine (ins_none _ _ _).mono ?_); rintro e w' ⟨rfl, rfl⟩)
    all_goals first | (rw [Exit.noGoto_ret]) | skip
    all_goals exact bodyPost_ret (results_none rfl _ _ _) rfl ⟨rfl, rfl⟩
set_option maxHeartbeats 1600000 in
theorem sort_none (fv : Value) (w : World) : Calls Tryz.prog 52 #[.slice none 0 0, fv] w fun e w' => e = .returned (.tuple #[]) ∧ w' = w := by
  have hlen0 : ∀ W, Calls Tryz.prog 90 #[.int .u64 0] W fun e w' => (∃ l : Int, e = .returned (.int .i64 l)) ∧ w' = W := fun W => hlenK 0 W (by omega)
  have HL0 := Lib.hid hlen0; clear hlen0
  go_enter Tryz.func52, Tryz.ntmps52
  go_wp2_with (first | (go_at_call 90; (with_reducible refine (HL0.out _).mono ?_); rintro e w' ⟨⟨l, rfl⟩, rfl⟩) | (go_at_call 89; (with_reducible refine (pdq_none _ _ _ _).mono ?_); rintro e w' ⟨rfl, rfl⟩))
  go_end0
  exact ⟨rfl, rfl⟩
set_option maxHeartbeats 1600000 in
theorem bksort_c (v : Value) (l : List IDK) (h12 : l.length ≤ 12) (w : World) (hr : (Res.row 26 16 v l.length (idsL l)).holds w) : Calls Tryz.prog 52 #[v, .func (.func 53) #[] #[]] w fun e w' => e = .returned (.tuple #[]) ∧
    ∃ l' : List IDK, l'.Perm l ∧ (l'.Pairwise fun a b => ¬ b.1 < a.1) ∧ (Res.row 26 16 v l'.length (idsL l')).holds w' ∧ Chg (Res.row 26 16 v l.length (idsL l)).foot w w' := by
  obtain ⟨hl, ⟨rfl, hn⟩ | ⟨g, cap, cur, rfl, _, hg, hnc, hcm, hcs, htake⟩⟩ := id hr
  · have hnil : l = [] := List.eq_nil_of_length_eq_zero hn
    subst hnil
    exact (sort_none _ w).mono fun e w' ⟨he, hw⟩ => ⟨he, [], List.Perm.refl _, List.Pairwise.nil, by rw [hw]; exact hr, by rw [hw]; exact Chg.of_below (Below.refl _ _)⟩
  · have eg : ∀ args w, (callFunc 53 args).run Tryz.prog w = .ok (.enter 53 args) w := enters_of Tryz.func53 (by kernel_rfl) rfl
    have hlt : g < w.heap.size := (Array.getElem?_eq_some_iff.1 hg).1
    have hget : ∀ j, j < l.length * 16 → w.cell? ⟨g, 0 + j, none⟩ = (idsL l)[j]? ∧ w.frozen? ⟨g, 0 + j, none⟩ = false := fun j hj => by
      refine ⟨?_, frozen_of_row w g _ cur _ hg⟩
      rw [cell_of_row w g _ cur _ _ hg, Nat.zero_add, ← htake, List.getElem?_take, if_pos hj, Array.getElem?_toList]
    have hH : HoldsK encQ 16 w g 0 l.toArray := fun j hj => by
      have hj' : j < l.length * 16 := by simpa using hj
      obtain ⟨h1, h2⟩ := hget j hj'
      refine ⟨?_, h2⟩
      rw [h1, ← flatK_ids, Array.getElem?_toList, Array.getElem?_eq_getElem hj, getElem!_pos _ j hj]; rfl
    have hcon := AnyQ.slices_SortFunc_small_sorted layID 16 Tryz.isAgg26 Tryz.sizeOf26 encQ encQ_len (fun x v hv => encU_one _ v hv) cfK 53 #[] swoK g 0 cap l.toArray w eg (cmpLaysK g 0 _ w) hH hlt (by simpa using h12) hlenK
    change Calls Tryz.prog 52 _ _ _ at hcon
    refine hcon.mono fun e w' ⟨he, d', q, os, hp, hs, hw⟩ => ⟨he, d'.toList, ?_, ?_, ?_, ?_⟩
    · have h3 := hp.2.2
      have hsz : d'.size = l.length := by rw [hp.1]; simp
      simpa [← hsz, Array.extract_eq_self_of_le] using h3
    · rw [List.pairwise_iff_getElem]
      intro i j hi hj hij
      have := hs i j (Nat.zero_le _) hij (by have := hp.1; simp at hj this; simpa [this] using hj)
      rw [lt_cfK] at this
      have h1 : i < d'.size := by simpa using hi
      have h2 : j < d'.size := by simpa using hj
      rw [getElem!_pos _ j h2, getElem!_pos _ i h1] at this
      simpa using this
    · have hsz : d'.size = l.length := by rw [hp.1]; simp
      subst hw
      have hF : (flatK encQ 16 d').size = l.length * 16 := by rw [size_flatK, hsz]
      have hcap : l.length * 16 ≤ cur.size := by rw [hcs]; exact Nat.mul_le_mul_right _ hnc
      have e1 : d'.toList.length = l.length := by simpa using hsz
      show World.ownsRow _ 0 _ 16 _ d'.toList.length _
      rw [e1]
      refine ownsRow_cells (sw_block hg) hnc hcm (by unfold putCells; simpa using hcs) ?_ (by rw [idsL_len, e1])
      rw [← hF, put_take (by omega), ← flatK_ids]
    · subst hw
      have hb : (sortWorldK encQ 16 w g 0 q d' os).heap.size = w.heap.size + os.size := by unfold sortWorldK grow putRowK putRow mapBlock; simp [Go.Sort.ahead]
      exact ⟨rfl, rfl, rfl, by rw [hb]; omega, fun k hk hn => sw_other hk fun e => hn (by rw [e]; rfl)⟩
end Go.Proofs.YtolbmemogoojhaaGreat
/- Records one behind the other. -/
namespace Go.Proofs.YtolbmemogoojhaaGreat
open Go Go.RowKit Go.Deep
set_option linter.unusedVariables false
set_option linter.unusedSimpArgs false
set_option maxRecDepth 100000
theorem info_rec3 : (Tryz.prog.info? 33).map (fun i => (i.zero, i.size, i.bytes)) = some (some (.agg (rA noRD (.slice none 0 0))), 19, 56) := by kernel_rfl
theorem size_rec0 : (Value.agg (rA noRD (.slice none 0 0))).cells.size = 19 := noA_size
theorem grow_c (n : Nat) (hn : n ≤ 2000) (w : World) : Calls Tryz.prog 85 #[.slice none 0 0, .int .i64 n] w fun e w' => ∃ v, e = .returned v ∧ St w w' [Res.row 33 19 v 0 []] := by
  by_cases h0 : n = 0
  · subst h0
    have hcon := Any8.slices_Grow_room layGrow none 0 0 0 w (by omega) (by omega) (by omega) (by omega)
    change Calls Tryz.prog 85 _ _ _ at hcon
    exact hcon.mono fun e w' ⟨he, hw⟩ => ⟨_, he, by rw [hw]; exact (St.init w).nilRow _ _⟩
  · obtain ⟨i, hi, hzz⟩ := Option.map_eq_some_iff.1 info_rec3
    simp only [Prod.mk.injEq] at hzz
    obtain ⟨hz, hsi, hby⟩ := hzz
    have hcon := Any8.slices_Grow_grow layGrow i _ hi hz (by rw [hsi]; omega) none 0 0 n [] w (Nat.le_refl _) (by omega) (by rw [hby]; omega) (by omega) (by simp) (fun _ => rfl) (fun a h => by cases h)
    change Calls Tryz.prog 85 _ _ _ at hcon
    refine hcon.mono fun e w' ⟨he, hw⟩ => ⟨_, he, ?_⟩
    subst hw
    have hge := grownCap_ge w (0 + n) 0 33
    have hcm : grownCap w (0 + n) 0 33 ≤ maxLen := grownCap_le_maxLen w (0 + n) 0 33 (by unfold maxLen; omega)
    refine St.ofRow (bel_alloc (bel_drew (Below.refl _ _)) _) ⟨by simp, .inr ⟨w.heap.size, _, _, rfl, Nat.le_refl _, heap_alloc_new w.drew _, Nat.zero_le _, hcm, ?_, by simp⟩⟩
    simp only [Array.size_append, size_zeroCells, size_rec0, List.size_toArray, List.length_nil]
    rw [show layGrow_ren.t 25 = 33 from rfl]
    omega
def szAt (a b : Nat) : Nat → Nat
  | 0 => 0
  | 1 => a
  | _ => a + b
def rsAt (a b : RS) : Nat → RS
  | 0 => []
  | 1 => a
  | _ => a ++ b
set_option maxHeartbeats 6400000 in
theorem concat_c (va vb : Value) (A B : RS) (k : Nat) (hA1 : A.length ≤ 1000) (hB1 : B.length ≤ 1000) (w : World) (hk0 : Sub w k 0 #[va]) (hk1 : Sub w k 1 #[vb]) (hA : Row w 19 va A.length (recsL A)) (hB : Row w 19 vb B.length (recsL B)) (oA : ∀ p ∈ A, p.2.oneCell' = true) (oB : ∀ p ∈ B, p.2.oneCell' = true) :
    Calls Tryz.prog 50 #[.slice (some ⟨k, 0, none⟩) 2 2] w fun e w' => ∃ v, e = .returned v ∧ St w w' [Res.row 33 19 v (A ++ B).length (recsL (A ++ B))] := by
  obtain ⟨_, aa, ca, rfl, _⟩ := id hA
  obtain ⟨_, ab, cb, rfl, _⟩ := id hB
  obtain ⟨n, hn⟩ : ∃ n, A.length = n := ⟨_, rfl⟩
  obtain ⟨m, hm⟩ : ∃ m, B.length = m := ⟨_, rfl⟩
  rw [hn] at hA hA1 hk0; rw [hm] at hB hB1 hk1
  have HA := Lib.hid hA; have HB := Lib.hid hB; have Hk0 := Lib.hid hk0; have Hk1 := Lib.hid hk1; have OA := Lib.hid oA; have OB := Lib.hid oB; have Hn := Lib.hid hn; have Hm := Lib.hid hm
  clear hA hB hk0 hk1 oA oB hn hm
  have H := St.init w
  go_enter Tryz.func50, Tryz.ntmps50
  go_wp2_with (first | go_skip | ((with_reducible refine ld_one (ty := 22) Tryz.underlying22 rfl ?_ ?_ (Hk0.out.keep H.bel) ?_); rfl; rfl) | ((with_reducible refine ld_one (ty := 22) Tryz.underlying22 rfl ?_ ?_ (Hk1.out.keep H.bel) ?_); rfl; rfl))
  go_loopw [11, 3] (fun i q wr => ∃ j : Nat, j ≤ 2 ∧ i = .int .i64 j ∧ q = .int .i64 (szAt n m j) ∧ St w wr []) (fun i _ _ => 2 - (intOf i).toNat)
  case atStart => exact ⟨0, by omega, rfl, rfl, H⟩
  case round =>
    clear H
    obtain ⟨j, hj, rfl, rfl, H⟩ := hrel
    match j, hj with
    | 0, _ =>
      simp only [szAt]
      go_wp2_with (first | go_skip | ((with_reducible refine ld_one (ty := 22) Tryz.underlying22 rfl ?_ ?_ (Hk0.out.keep H.bel) ?_); rfl; rfl) | ((with_reducible refine ld_one (ty := 22) Tryz.underlying22 rfl ?_ ?_ (Hk1.out.keep H.bel) ?_); rfl; rfl))
      go_roundw
      case rel => exact ⟨1, by omega, rfl, by first | rfl | (simp only [szAt]; go_num), H.sub (by (repeat (first | with_reducible exact List.Sublist.refl _ | with_reducible refine List.Sublist.cons_cons _ ?_ | refine List.Sublist.cons _ ?_)))⟩
      case measure => simp [intOf]
    | 1, _ =>
      simp only [szAt]
      go_wp2_with (first | go_skip | ((with_reducible refine ld_one (ty := 22) Tryz.underlying22 rfl ?_ ?_ (Hk0.out.keep H.bel) ?_); rfl; rfl) | ((with_reducible refine ld_one (ty := 22) Tryz.underlying22 rfl ?_ ?_ (Hk1.out.keep H.bel) ?_); rfl; rfl))
      go_roundw
      case rel => exact ⟨2, by omega, rfl, by first | rfl | (simp only [szAt]; go_num), H.sub (by (repeat (first | with_reducible exact List.Sublist.refl _ | with_reducible refine List.Sublist.cons_cons _ ?_ | refine List.Sublist.cons _ ?_)))⟩
      case measure => simp [intOf]
    | 2, _ =>
      simp only [szAt]
      have hg := fun W => grow_c (n + m) (by omega) W
      simp only [Int.natCast_add] at hg
      have HG := Lib.hid hg; clear hg
      go_wp2_with (first | go_skip | (go_at_call 85; (with_reducible refine (HG.out _).mono ?_); rintro e wn ⟨vg, rfl, hs⟩; replace H := H.comp hs; clear hs; simp only [List.cons_append, List.nil_append] at H))
      go_loopw [27, 6] (fun i q wr => ∃ (j : Nat) (v : Value), j ≤ 2 ∧ i = .int .i64 j ∧ q = v ∧ St w wr [Res.row 33 19 v (rsAt A B j).length (recsL (rsAt A B j))]) (fun i _ _ => 2 - (intOf i).toNat)
      case atStart => exact ⟨0, vg, by omega, rfl, rfl, H⟩
      case round =>
        clear H
        obtain ⟨j, v, hj, rfl, rfl, H⟩ := hrel
        match j, hj with
        | 0, _ =>
          simp only [rsAt, List.length_nil, recsL] at H
          go_wp2_with (first | go_skip | ((with_reducible refine ld_one (ty := 22) Tryz.underlying22 rfl ?_ ?_ (Hk0.out.keep H.bel) ?_); rfl; rfl) | ((with_reducible refine ld_one (ty := 22) Tryz.underlying22 rfl ?_ ?_ (Hk1.out.keep H.bel) ?_); rfl; rfl) | ((with_reducible apply arm_app H (ht := Tryz.underlying22) (hinfo := info_rec3) (hzs := size_rec0) (hsz := by decide)); (conv => lhs; whnf); (conv => lhs; whnf); (intro v; (repeat (first | with_reducible apply Upd.head | with_reducible apply Upd.tail))); (focus (exact HA.out.below H.bel; done)); (focus (exact recsL_one OA.out; done)); (focus (unfold maxLen; omega; done)); (focus (omega; done)); clear H; intro wn vn H))
          go_roundw
          case rel => exact ⟨1, vn, by omega, rfl, rfl, by simp only [rsAt]; rw [Hn.out]; simp only [Nat.zero_add, List.nil_append] at H; exact H⟩
          case measure => simp [intOf]
        | 1, _ =>
          simp only [rsAt] at H
          rw [Hn.out] at H
          go_wp2_with (first | go_skip | ((with_reducible refine ld_one (ty := 22) Tryz.underlying22 rfl ?_ ?_ (Hk0.out.keep H.bel) ?_); rfl; rfl) | ((with_reducible refine ld_one (ty := 22) Tryz.underlying22 rfl ?_ ?_ (Hk1.out.keep H.bel) ?_); rfl; rfl) | ((with_reducible apply arm_app H (ht := Tryz.underlying22) (hinfo := info_rec3) (hzs := size_rec0) (hsz := by decide)); (conv => lhs; whnf); (conv => lhs; whnf); (intro v; (repeat (first | with_reducible apply Upd.head | with_reducible apply Upd.tail))); (focus (exact HB.out.below H.bel; done)); (focus (exact recsL_one OB.out; done)); (focus (unfold maxLen; omega; done)); (focus (omega; done)); clear H; intro wn vn H))
          go_roundw
          case rel => exact ⟨2, vn, by omega, rfl, rfl, by simp only [rsAt]; rw [List.length_append, Hn.out, Hm.out, recsL_append]; exact H⟩
          case measure => simp [intOf]
        | 2, _ =>
          simp only [rsAt] at H
          go_wp2_with (fail)
          all_goals first | (rw [Exit.noGoto_ret]; go_ret) | go_ret
          all_goals exact ⟨_, rfl, H⟩
end Go.Proofs.YtolbmemogoojhaaGreat
/- Two books joined by way of a map: the plain law. -/
namespace Go.Proofs.YtolbmemogoojhaaGreat
open Go Go.RowKit Go.Deep
set_option linter.unusedVariables false
set_option linter.unusedSimpArgs false
abbrev AL := List (IDK × (RD × Value))
def alV (m : AL) : List (IDK × Value) := m.map fun p => (p.1, .agg (rA p.2.1 p.2.2))
def alFind : AL → IDK → Option (RD × Value)
  | [], _ => none
  | p :: l, k => if p.1 = k then some p.2 else alFind l k
def alPut : AL → IDK → RD × Value → AL
  | [], k, x => [(k, x)]
  | p :: l, k, x => if p.1 = k then (k, x) :: l else p :: alPut l k x
theorem gPut_alV (k : IDK) (x : RD × Value) : ∀ m : AL, gPut (alV m) k (.agg (rA x.1 x.2)) = alV (alPut m k x)
  | [] => rfl
  | p :: l => by
    have ih := gPut_alV k x l
    unfold alV at ih ⊢
    rw [List.map_cons, gPut, alPut]
    by_cases h : p.1 = k
    · rw [if_pos h, if_pos h]; rfl
    · rw [if_neg h, if_neg h, ih]; rfl
theorem gIx_alV (k : IDK) : ∀ m : AL, (gIx (alV m) k = none ∧ alFind m k = none) ∨ ∃ (j : Nat) (x : RD × Value), gIx (alV m) k = some (j, .agg (rA x.1 x.2)) ∧ alFind m k = some x
  | [] => .inl ⟨rfl, rfl⟩
  | p :: l => by
    have ih := gIx_alV k l
    unfold alV at ih ⊢
    rw [List.map_cons, gIx, alFind]
    by_cases h : p.1 = k
    · rw [if_pos h, if_pos h]; exact .inr ⟨0, p.2, rfl, rfl⟩
    · rw [if_neg h, if_neg h]
      rcases ih with ⟨h1, h2⟩ | ⟨j, x, h1, h2⟩
      · exact .inl ⟨by rw [h1]; rfl, h2⟩
      · exact .inr ⟨j + 1, x, by rw [h1]; rfl, h2⟩
theorem alFind_mem : ∀ {m : AL} {k : IDK} {x : RD × Value}, alFind m k = some x → (k, x) ∈ m
  | p :: l, k, x, h => by
    unfold alFind at h
    split at h
    · rename_i hk; cases h; subst hk; exact mH
    · exact mT _ (alFind_mem h)
theorem alPut_mem : ∀ {m : AL} {k : IDK} {x : RD × Value} {p : IDK × (RD × Value)}, p ∈ alPut m k x → p ∈ m ∨ p = (k, x)
  | [], k, x, p, h => by simp [alPut] at h; exact .inr h
  | q :: l, k, x, p, h => by
    unfold alPut at h
    split at h
    · rcases List.mem_cons.1 h with rfl | h
      · exact .inr rfl
      · exact .inl (mT _ h)
    · rcases List.mem_cons.1 h with rfl | h
      · exact .inl mH
      · rcases alPut_mem h with h | h
        · exact .inl (mT _ h)
        · exact .inr h
theorem alFind_put (k : IDK) (x : RD × Value) (k' : IDK) : ∀ m : AL, alFind (alPut m k x) k' = if k = k' then some x else alFind m k'
  | [] => by simp only [alPut, alFind]
  | p :: l => by
    unfold alPut
    by_cases h : p.1 = k
    · rw [if_pos h, alFind, alFind]
      by_cases h2 : k = k'
      · rw [if_pos h2, if_pos h2]
      · rw [if_neg h2, if_neg h2, if_neg (by rw [h]; exact h2)]
    · rw [if_neg h, alFind, alFind, alFind_put k x k' l]
      by_cases h2 : p.1 = k'
      · rw [if_pos h2, if_pos h2, if_neg (fun e => h (h2.trans e.symm))]
      · rw [if_neg h2, if_neg h2]
theorem alPut_new {k : IDK} {x : RD × Value} : ∀ {m : AL}, alFind m k = none → alPut m k x = m ++ [(k, x)]
  | [], _ => rfl
  | p :: l, h => by
    unfold alFind at h
    split at h
    · cases h
    · rename_i hk
      rw [alPut, if_neg hk, alPut_new h]; rfl
theorem alPut_old {k : IDK} {x y : RD × Value} : ∀ {m : AL}, alFind m k = some y → (alPut m k x).map (·.1) = m.map (·.1)
  | p :: l, h => by
    unfold alFind at h
    split at h
    · rename_i hk
      rw [alPut, if_pos hk]; simp [hk]
    · rename_i hk
      rw [alPut, if_neg hk]; simp [alPut_old h]
theorem alFind_key : ∀ {m : AL} {k : IDK}, k ∈ m.map (·.1) → ∃ x, alFind m k = some x
  | p :: l, k, h => by
    unfold alFind
    by_cases hk : p.1 = k
    · rw [if_pos hk]; exact ⟨_, rfl⟩
    · rw [if_neg hk]
      rcases List.mem_cons.1 h with h | h
      · exact absurd h.symm hk
      · exact alFind_key h
theorem bPut_len : ∀ {l : BK} {r : RD}, Good l → rMay r = true → (bPut l r).length = if bFind l r.id = none then l.length + 1 else l.length
  | [], r, _, _ => rfl
  | y :: l, r, hl, hr => by
    unfold bPut bFind
    split
    · rename_i h
      rw [if_neg (idl_ne h).symm, bFind_none.2 fun x hx => (idl_ne (idl_trans h (hl.1.1 x hx))).symm, if_pos rfl]; rfl
    · split
      · rename_i he
        simp
      · rename_i he
        rw [List.length_cons, bPut_len (good_tail hl) hr, List.length_cons]
        split <;> rfl
/-- What the map and the names are, behind some records. -/
structure JInv (P : BK) (m : AL) (names : List IDK) : Prop where
  keys : names = m.map (·.1)
  nodup : names.Nodup
  find : ∀ k : IDK, bFind P k.1 = (alFind m k).map (·.1)
  len : P.length = m.length
  good : Good P
  ok : ∀ r ∈ P, r.ok
theorem jinv_nil : JInv [] [] [] := ⟨rfl, List.nodup_nil, fun _ => rfl, rfl, good_nil, fun _ h => (List.not_mem_nil h).elim⟩
theorem bPut_ok {l : BK} {r : RD} (hl : Good l) (hr : rMay r = true) (h : ∀ x ∈ l, x.ok) (hk : r.ok) : ∀ x ∈ bPut l r, x.ok := fun x hx => by
  rcases (bPut_mem hl hr x hx).2 with e | ⟨y, hy, e⟩
  · unfold RD.ok; rw [e]; exact hk
  · unfold RD.ok; rw [e]; exact h y hy
theorem jinv_new {P : BK} {m : AL} {names : List IDK} (h : JInv P m names) {r : RD} (s : Value) (hr : rMay r = true) {k : IDK} (hk : k.1 = r.id) (hf : alFind m k = none) : JInv (bPut P r) (alPut m k (r, s)) (names ++ [k]) := by
  have hb : bFind P r.id = none := by rw [← hk, h.find k, hf]; rfl
  refine ⟨by rw [alPut_new hf, h.keys]; simp, ?_, fun k' => ?_, ?_, bPut_good h.good hr, bPut_ok h.good hr h.ok (by unfold RD.ok; rw [← hk]; exact k.2)⟩
  · rw [List.nodup_append]
    refine ⟨h.nodup, by simp, fun a ha b hb' => ?_⟩
    simp only [List.mem_singleton] at hb'
    subst hb'
    intro e
    subst e
    rw [h.keys] at ha
    obtain ⟨x, hx⟩ := alFind_key ha
    rw [hf] at hx; cases hx
  · rw [bFind_bPut h.good hr, alFind_put]
    by_cases e : k = k'
    · subst e
      rw [if_pos rfl, if_pos hk.symm, hk, hb]; rfl
    · rw [if_neg e, if_neg (fun e2 => e (Subtype.ext (hk.trans e2))), h.find]
  · rw [bPut_len h.good hr, if_pos hb, alPut_new hf, h.len]; simp
theorem jinv_old {P : BK} {m : AL} {names : List IDK} (h : JInv P m names) {r q : RD} {sq : Value} (s : Value) (hr : rMay r = true) {k : IDK} (hk : k.1 = r.id) (hf : alFind m k = some (q, sq)) : JInv (bPut P r) (alPut m k (rJoin q r, s)) names ∧ rMay q = true ∧ q.id = r.id := by
  have hb : bFind P r.id = some q := by rw [← hk, h.find k, hf]; rfl
  have hq := find_good h.good hb
  refine ⟨⟨by rw [h.keys, alPut_old hf], h.nodup, fun k' => ?_, ?_, bPut_good h.good hr, bPut_ok h.good hr h.ok (by unfold RD.ok; rw [← hk]; exact k.2)⟩, hq.1, hq.2⟩
  · rw [bFind_bPut h.good hr, alFind_put]
    by_cases e : k = k'
    · subst e
      rw [if_pos rfl, if_pos hk.symm, hk, hb]; rfl
    · rw [if_neg e, if_neg (fun e2 => e (Subtype.ext (hk.trans e2))), h.find]
  · rw [bPut_len h.good hr, if_neg (by rw [hb]; simp)]
    have := congrArg List.length (alPut_old (x := (rJoin q r, s)) hf)
    simp only [List.length_map] at this
    rw [this, h.len]
def alGet (m : AL) (k : IDK) : RD × Value := (alFind m k).getD (noRD, .slice none 0 0)
/-- The records by their names, sorted, are the book. -/
theorem jinv_out {P : BK} {m : AL} {names ns : List IDK} (h : JInv P m names) (hp : ns.Perm names) (hs : ns.Pairwise fun a b => ¬ b.1 < a.1) : (ns.map (alGet m)).map (·.1) = P := by
  have hget : ∀ k ∈ ns, ∃ x, alFind m k = some x ∧ alGet m k = x ∧ bFind P k.1 = some x.1 ∧ x.1.id = k.1 := fun k hk => by
    have hk' : k ∈ m.map (·.1) := by rw [← h.keys]; exact hp.subset hk
    obtain ⟨x, hx⟩ := alFind_key hk'
    have hb : bFind P k.1 = some x.1 := by rw [h.find, hx]; rfl
    exact ⟨x, hx, by unfold alGet; rw [hx]; rfl, hb, (bFind_mem hb).2⟩
  have hid : ∀ k ∈ ns, (alGet m k).1.id = k.1 := fun k hk => by obtain ⟨x, _, h2, _, h4⟩ := hget k hk; rw [h2, h4]
  have hnd : ns.Nodup := hp.nodup_iff.2 h.nodup
  have hasc : ∀ (l : List IDK), (∀ k ∈ l, k ∈ ns) → l.Nodup → (l.Pairwise fun a b => ¬ b.1 < a.1) → Asc ((l.map (alGet m)).map (·.1)) := by
    intro l
    induction l with
    | nil => intro _ _ _; trivial
    | cons k l ih =>
      intro hin hn hpw
      obtain ⟨n1, n2⟩ := List.nodup_cons.1 hn
      obtain ⟨p1, p2⟩ := List.pairwise_cons.1 hpw
      refine ⟨fun x hx => ?_, ih (fun k hk => hin k (mT _ hk)) n2 p2⟩
      simp only [List.map_map, List.mem_map, Function.comp_apply] at hx
      obtain ⟨k', hk', rfl⟩ := hx
      show (alGet m k).1.id < (alGet m k').1.id
      rw [hid k (hin k mH), hid k' (hin k' (mT _ hk'))]
      rcases idl_tri k.1 k'.1 with h1 | h1 | h1
      · exact h1
      · exact absurd (Subtype.ext h1 ▸ hk') n1
      · exact absurd h1 (p1 k' hk')
  refine asc_ext_b (hasc ns (fun _ h => h) hnd hs) h.good.1 fun i => ?_
  have key : ∀ (l : List IDK), (∀ k ∈ l, k ∈ ns) → bFind ((l.map (alGet m)).map (·.1)) i = if ∃ k ∈ l, k.1 = i then bFind P i else none := by
    intro l
    induction l with
    | nil => intro _; simp [bFind]
    | cons k l ih =>
      intro hin
      have hk := hin k mH
      rw [List.map_cons, List.map_cons, bFind, hid k hk, ih fun k hk => hin k (mT _ hk)]
      by_cases e : k.1 = i
      · obtain ⟨x, _, h2, h3, _⟩ := hget k hk
        rw [if_pos e, if_pos ⟨k, mH, e⟩, h2, ← e, h3]
      · rw [if_neg e]
        by_cases e2 : ∃ k ∈ l, k.1 = i
        · rw [if_pos e2, if_pos (by obtain ⟨k', h1, h2⟩ := e2; exact ⟨k', mT _ h1, h2⟩)]
        · rw [if_neg e2, if_neg (by
            rintro ⟨k', h1, h2⟩
            rcases List.mem_cons.1 h1 with rfl | h1
            · exact e h2
            · exact e2 ⟨k', h1, h2⟩)]
  rw [key ns fun _ h => h]
  split
  · rfl
  · rename_i hno
    cases hb : bFind P i with
    | none => rfl
    | some r =>
      exfalso
      obtain ⟨hm, hi⟩ := bFind_mem hb
      have hx := h.find ⟨i, by rw [← hi]; exact h.ok r hm⟩
      rw [hb] at hx
      cases ha : alFind m ⟨i, by rw [← hi]; exact h.ok r hm⟩ with
      | none => rw [ha] at hx; cases hx
      | some y =>
        refine hno ⟨⟨i, by rw [← hi]; exact h.ok r hm⟩, ?_, rfl⟩
        refine hp.mem_iff.2 ?_
        have e : ∀ x, x ∈ m.map (·.1) → x ∈ names := fun x hx => by rw [h.keys]; exact hx
        exact e _ (List.mem_map.2 ⟨_, alFind_mem ha, rfl⟩)
end Go.Proofs.YtolbmemogoojhaaGreat
/- Two books joined: where they are not. -/
namespace Go.Proofs.YtolbmemogoojhaaGreat
open Go Go.RowKit Go.Deep
set_option linter.unusedVariables false
set_option linter.unusedSimpArgs false
set_option maxRecDepth 100000
theorem bk_zero : (Tryz.prog.info? 24).map (·.zero) = some (some (.agg #[.slice none 0 0])) := by kernel_rfl
theorem bk_info {v : Value} : (Tryz.prog.info? 24).map (·.size) = some (#[v] : Array Value).size := by kernel_rfl
theorem bk_built : Tryz.prog.built 24 [] = some #[.slice none 0 0] := by kernel_rfl
section
variable {ops : Array Oper} {rest : List Oper} {a : Act} {w0 w : World} {Q : Exit → Act → World → Prop} {Γ Γ' : List Res}
variable {dst : Option Tmp} {typ t : TypeId} {x y : Operand} {pos : String} {af : Array Edge} {gd : Option (Nat × Bool)} {b off : Nat} {v v' : Value}
theorem al_bk (H : St w0 w Γ) (h : ∀ w' b, St w0 w' (Res.blk b 24 #[.slice none 0 0] :: Γ) → wpList Tryz.prog ops Q rest (a.put dst (.pointer (some ⟨b, 0, none⟩))) w') : wpList Tryz.prog ops Q (⟨dst, .alloc 24, typ, pos, af, none⟩ :: rest) a w := arm_alloc H bk_zero rfl h
theorem ld_bk (hw : Region.wanted (⟨dst, .load 24 x, typ, pos, af, gd⟩ : Oper) (yielded ops a.tmps) = true) (hx : a.eval x = .pointer (some ⟨b, off, none⟩)) (h : Sub w b off #[v]) (k : wpList Tryz.prog ops Q rest (a.put dst (.agg #[v])) w) : wpList Tryz.prog ops Q (⟨dst, .load 24 x, typ, pos, af, gd⟩ :: rest) a w :=
  arm_ld hw hx h Tryz.underlying24 rfl bk_info k
theorem bd_bk0 (h : wpList Tryz.prog ops Q rest (a.put dst (.agg #[.slice none 0 0])) w) : wpList Tryz.prog ops Q (⟨dst, .build 24 #[], typ, pos, af, none⟩ :: rest) a w :=
  wpList_build_to rfl 24 #[] rfl dst rfl _ (by simp only [List.map_toArray, List.map_nil]; exact bk_built) h
theorem st_bk (H : St w0 w Γ) (hw : Region.wanted (⟨dst, .store 24 x y, typ, pos, af, gd⟩ : Oper) (yielded ops a.tmps) = true) (hx : a.eval x = .pointer (some ⟨b, 0, none⟩)) (hy : a.eval y = .agg #[v'])
    (u : Upd Γ (Res.blk b t #[v]) (Res.blk b t #[v']) Γ') (h1 : v'.oneCell' = true) (h : ∀ w', St w0 w' Γ' → wpList Tryz.prog ops Q rest (a.put dst undef) w') : wpList Tryz.prog ops Q (⟨dst, .store 24 x y, typ, pos, af, gd⟩ :: rest) a w :=
  arm_st H hw hx hy u bk_info (Nat.le_refl _) (by simp [h1]) rfl h
end
theorem Recs.one {w : World} {v : Value} {L : BK} (h : Recs w v L) : v.oneCell' = true := by obtain ⟨a, c, rfl, _⟩ := h.slice; rfl
set_option maxHeartbeats 1600000 in
theorem bkjoin_arg (va vb : Value) (A B : BK) (hc : (bMay A && bMay B) = false) (w : World) (ha : Recs w va A) (hb : Recs w vb B) : Calls Tryz.prog 11 #[.agg #[va], .agg #[vb]] w fun e w' => e = .returned (.tuple #[.agg #[.slice none 0 0], .int .i64 1]) ∧ Below w.heap.size w w' := by
  obtain ⟨p, hp⟩ : ∃ p, Hid (bMay A = p) := ⟨_, rfl⟩
  obtain ⟨q, hq⟩ : ∃ q, Hid (bMay B = q) := ⟨_, rfl⟩
  rw [hp.out, hq.out] at hc
  have Ha := Lib.hid ha; have Hb := Lib.hid hb; clear ha hb
  have Hone : Hid (Value.oneCell' (.slice none 0 0) = true) := Lib.hid rfl
  have H := St.init w
  have hcase : p = false ∨ p = true ∧ q = false := by cases p <;> cases q <;> simp_all
  clear hc
  rcases hcase with rfl | ⟨rfl, rfl⟩
  all_goals
    go_enter Tryz.func11, Tryz.ntmps11
    go_wp2_with (first | go_skip | ((fail_if_success have := kA); (with_reducible apply arm_box H); rfl; clear H; intro wn kA H) | ((fail_if_success have := kB); (with_reducible apply arm_box H); rfl; clear H; intro wn kB H) | ((fail_if_success have := kR); (with_reducible apply al_bk H); clear H; intro wn kR H) | ((with_reducible apply ld_bk); rfl; rfl; (focus (apply H.one; (repeat (first | with_reducible exact mH | with_reducible apply mT)); done))) | (with_reducible apply bd_bk0) | ((with_reducible apply st_bk H); rfl; rfl; rfl; (repeat (first | with_reducible apply Upd.head | with_reducible apply Upd.tail)); (first | rfl | assumption | (refine Hid.out ?_; assumption)); clear H; intro wn H) | (go_at_call 18; first | ((with_reducible refine (bkmay_v hp.out _ (Ha.out.below H.bel)).mono ?_); rintro e wn ⟨rfl, hb⟩; replace H := H.call hb; clear hb) | ((with_reducible refine (bkmay_v hq.out _ (Hb.out.below H.bel)).mono ?_); rintro e wn ⟨rfl, hb⟩; replace H := H.call hb; clear hb)))
    all_goals first | (rw [Exit.noGoto_ret]) | skip
    have hR := H.arr (b := kR) (t := 24) (cs := #[.slice none 0 0]) (by (repeat (first | with_reducible exact mH | with_reducible apply mT)))
    exact bodyPost_ret (results_cell_tmp Tryz.results11 _ _ kR #[.slice none 0 0] _ _ rfl rfl hR Tryz.underlying24 rfl bk_info) rfl ⟨rfl, H.bel⟩
end Go.Proofs.YtolbmemogoojhaaGreat
