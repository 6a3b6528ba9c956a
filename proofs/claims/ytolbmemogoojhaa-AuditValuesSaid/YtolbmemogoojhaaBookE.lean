/- Names sorted. -/
import Derived.Test.YtolbmemogoojhaaBookD
import Derived.Test.YtolbmemogoojhaaLay
import Derived.Great.FillDense
namespace Go.Proofs.Ytolbmemogoojhaa
open Go Go.RowKit Go.Deep Go.Sort Go.Shelf
set_option linter.unusedVariables false
set_option linter.unusedSimpArgs false
set_option maxRecDepth 100000
instance : Inhabited IDK := ⟨⟨List.replicate 16 0, rfl⟩⟩
def encQ (k : IDK) : List Value := encU k.1
/-- Names as a row. -/
def idsL (l : List IDK) : List Value := l.flatMap encQ
theorem encQ_len (k : IDK) : (encQ k).length = 16 := by unfold encQ; rw [encU_length]; exact k.2
theorem idsL_len : ∀ l : List IDK, (idsL l).length = l.length * 16
  | [] => rfl
  | k :: l => by
    have := idsL_len l
    unfold idsL at this ⊢
    rw [List.flatMap_cons, List.length_append, this, encQ_len, List.length_cons]; omega
theorem idsL_append (a b : List IDK) : idsL (a ++ b) = idsL a ++ idsL b := by unfold idsL; exact List.flatMap_append
theorem idsL_get (l : List IDK) (t : Nat) : (idsL l)[t]? = (l[t / 16]?).bind fun k => (encQ k)[t % 16]? := by
  have h := Go.Great.flat_get (s := 16) (by omega) (l.map encK) (fun v hv => by obtain ⟨k, _, rfl⟩ := List.mem_map.1 hv; simp [encK, Value.cells, encU_length, k.2]) t
  have e : ((l.map encK).flatMap fun v => v.cells.toList) = idsL l := by
    unfold idsL encQ
    rw [List.flatMap_map]
    congr 1
  rw [e] at h
  rw [h, List.getElem?_map]
  cases l[t / 16]? with
  | none => rfl
  | some k => simp [encK, Value.cells, encQ]
theorem flatK_ids (l : List IDK) : (flatK encQ 16 l.toArray).toList = idsL l := by
  apply List.ext_getElem?
  intro t
  rw [idsL_get]
  by_cases ht : t < l.length * 16
  · have h1 : t / 16 < l.length := by omega
    have h2 : t % 16 < 16 := by omega
    have h3 : t < (flatK encQ 16 l.toArray).size := by simpa using ht
    rw [Array.getElem?_toList, Array.getElem?_eq_getElem h3]
    have h4 := get_flatK encQ 16 l.toArray t (by simpa using ht)
    rw [getElem!_pos _ t h3] at h4
    rw [h4, List.getElem?_eq_getElem h1, Option.bind_some]
    have h5 : l.toArray[t / 16]! = l[t / 16] := by simp [h1]
    rw [h5]
    have h6 : t % 16 < (encQ l[t / 16]).length := by rw [encQ_len]; exact h2
    rw [List.getElem?_eq_getElem h6]; simp [h6]
  · rw [Array.getElem?_toList, Array.getElem?_eq_none (by simp; omega), List.getElem?_eq_none (by omega)]; rfl
theorem idsL_one (l : List IDK) : ∀ u ∈ idsL l, u.oneCell' = true := by
  intro u hu
  obtain ⟨k, _, h⟩ := List.mem_flatMap.1 hu
  exact encU_one _ u h
/-- The comparing, its world told to the letter. -/
def GrownTo (W w' : World) : Prop := ∃ q os', w' = grow (W.drewN q) os'
theorem grownTo_refl (W : World) : GrownTo W W := ⟨0, #[], by simp [World.drewN]⟩
theorem GrownTo.alloc {W w : World} (h : GrownTo W w) (o : Obj) : GrownTo W (w.alloc o) := by
  obtain ⟨q, os, rfl⟩ := h
  exact ⟨q, os ++ #[o], by rw [alloc_eq_grow, grow_grow]⟩
theorem GrownTo.drew {W w : World} (h : GrownTo W w) : GrownTo W w.drew := by
  obtain ⟨q, os, rfl⟩ := h
  exact ⟨q + 1, os, by simp [grow, World.drewN, World.drew, Nat.add_assoc]⟩
theorem GrownTo.below {W w : World} (h : GrownTo W w) : Below W.heap.size W w := by
  obtain ⟨q, os, rfl⟩ := h
  exact ⟨rfl, rfl, rfl, by simp [grow, World.drewN], fun k hk => by simp only [grow, World.drewN]; rw [Array.getElem?_append_left hk]⟩
structure Grn (W : World) where
  w : World
  h : GrownTo W w
instance grnNonempty (W : World) : Nonempty (Grn W) := ⟨⟨W, grownTo_refl W⟩⟩
set_option maxHeartbeats 1600000 in
theorem bkcmp_g (a b : List UInt8) (ha : a.length = 16) (hb : b.length = 16) (w : World) : Calls Try.prog 52 #[.agg (encU a).toArray, .agg (encU b).toArray] w fun e w' => e = .returned (.int .i64 (cmpID a b)) ∧ GrownTo w w' := by
  obtain ⟨A, hA⟩ : ∃ A, Hid ((encU a).toArray = A) := ⟨_, rfl⟩
  obtain ⟨B, hB⟩ : ∃ B, Hid ((encU b).toArray = B) := ⟨_, rfl⟩
  obtain ⟨r, hr⟩ : ∃ r, Hid (cmpID a b = r) := ⟨_, rfl⟩
  rw [hA.out, hB.out, hr.out]
  have Ha := Lib.hid ha; have Hb := Lib.hid hb; clear ha hb
  obtain ⟨W2, hW2⟩ : ∃ W2, Hid ((w.alloc (.cells A 33)).alloc (.cells B 33) = W2) := ⟨_, rfl⟩
  have hg2 : Hid (GrownTo w W2) := Lib.hid (by rw [← hW2.out]; exact ((grownTo_refl w).alloc _).alloc _)
  have hk1 : Blk W2 w.heap.size 33 A := by rw [← hW2.out]; exact (Blk.new w _ _).alloc _
  have hk2 : Blk W2 (w.heap.size + 1) 33 B := by rw [← hW2.out]; have := Blk.new (w.alloc (.cells A 33)) 33 B; simpa using this
  have hc : ∀ x : Grn W2, Calls Try.prog 67 #[.slice (some ⟨w.heap.size, 0, none⟩) 16 16, .slice (some ⟨w.heap.size + 1, 0, none⟩) 16 16] x.w fun e w' => e = .returned (.int .i64 r) ∧ ∃ y : Grn W2, w' = y.w := fun x => by
    have h1 := hk1.below x.h.below hk1.lt
    have h2 := hk2.below x.h.below hk2.lt
    rw [← hA.out] at h1; rw [← hB.out] at h2
    have := bcompare_c _ _ a b x.w (byt_blk h1 Ha.out (by decide)) (byt_blk h2 Hb.out (by decide))
    unfold cmpID at hr
    rw [hr.out] at this
    exact this.mono fun e w' ⟨he, hw⟩ => ⟨he, x, hw.symm⟩
  have Hc := Lib.hid hc; clear hc hk1 hk2
  go_enter Try.func52, Try.ntmps52
  go_wp2
  rw [hW2.out]
  refine wp_quiet_all (C := fun w' => ∃ x : Grn W2, w' = x.w) (by kernel_rfl) (by kernel_rfl) ⟨⟨W2.drew, (grownTo_refl W2).drew⟩, rfl⟩ ?_
  repeat (first | go_big_quiet_skip | (go_big_quiet_step ((go_at_call 67; with_reducible exact Hc.out _))))
  refine wpQuiet_nil ?_
  rintro _ ⟨⟨w3, hg3⟩, rfl⟩
  go_wp2
  all_goals first | (rw [Exit.noGoto_ret]; go_ret) | go_ret
  have h2 := hg2.out
  obtain ⟨q, os, rfl⟩ := h2
  obtain ⟨q', os', rfl⟩ := hg3
  exact ⟨rfl, q + q', os ++ os', by simp [grow, World.drewN, Nat.add_assoc]⟩
def cfK (x y : IDK) : Int := cmpID x.1 y.1
theorem lt_cfK (x y : IDK) : ltOf cfK x y = decide (x.1 < y.1) := by unfold ltOf cfK; exact cmp_lt x.1 y.1
theorem swoK : SWO (ltOf cfK) where
  irrefl x := by rw [lt_cfK]; simp [idl_irrefl]
  trans x y z h k := by rw [lt_cfK] at h k ⊢; simp only [decide_eq_true_eq] at h k ⊢; exact idl_trans h k
  ntrans x y z h k := by
    rw [lt_cfK] at h k ⊢
    simp only [decide_eq_false_iff_not] at h k ⊢
    intro hx
    rcases idl_tri y.1 x.1 with h1 | h1 | h1
    · exact k (idl_trans h1 hx)
    · exact k (h1 ▸ hx)
    · exact h h1
theorem cmpLaysK (blk off size : Nat) (w : World) : CmpLays Try.prog 52 #[] encQ 16 cfK blk off size w := fun _ _ _ _ x y => bkcmp_g x.1 y.1 x.2 y.2 _
theorem hlenK (n : Nat) (W : World) (h : n ≤ 12) : Calls Try.prog 84 #[.int .u64 n] W fun e w' => (∃ l : Int, e = .returned (.int .i64 l)) ∧ w' = W :=
  (Any.bits_Len layLen n W (by omega) (by omega)).mono fun _ _ ⟨he, hw⟩ => ⟨⟨_, he⟩, hw⟩
theorem ownsRow_cells {w : World} {e : TypeId} {size n g cap : Nat} {cur : Array Value} {xs : List Value} (h1 : w.heap[g]? = some (.cells cur e (0, 0))) (h2 : n ≤ cap) (h3 : cap ≤ maxLen) (h4 : cur.size = cap * size) (h5 : cur.toList.take (n * size) = xs) (h6 : xs.length = n * size) : w.ownsRow 0 e size (.slice (some ⟨g, 0, none⟩) n cap) n xs :=
  ⟨h6, .inr ⟨g, cap, cur, rfl, Nat.zero_le _, h1, h2, h3, h4, h5⟩⟩
theorem sw_block {w : World} {g q : Nat} {d' : Array IDK} {os : Array Obj} {cur : Array Value} {e : TypeId} {fz : Nat × Nat} (hg : w.heap[g]? = some (.cells cur e fz)) : (sortWorldK encQ 16 w g 0 q d' os).heap[g]? = some (.cells (putCells id 0 (flatK encQ 16 d') cur) e fz) := by
  have hlt : g < w.heap.size := (Array.getElem?_eq_some_iff.1 hg).1
  unfold sortWorldK grow putRowK putRow mapBlock
  rw [Array.getElem?_append_left (by simpa [Go.Sort.ahead] using hlt)]
  rw [Array.getElem?_modify, if_pos rfl, show (Go.Sort.ahead w q).heap[g]? = w.heap[g]? from rfl, hg]; rfl
theorem sw_other {w : World} {g q k : Nat} {d' : Array IDK} {os : Array Obj} (hk : k < w.heap.size) (hne : g ≠ k) : (sortWorldK encQ 16 w g 0 q d' os).heap[k]? = w.heap[k]? := by
  unfold sortWorldK grow putRowK putRow mapBlock
  rw [Array.getElem?_append_left (by simpa [Go.Sort.ahead] using hk)]
  rw [Array.getElem?_modify, if_neg hne]; rfl
theorem put_take {F cur : Array Value} (h : F.size ≤ cur.size) : (putCells id 0 F cur).toList.take F.size = F.toList := by
  apply List.ext_getElem?
  intro t
  rw [List.getElem?_take]
  by_cases ht : t < F.size
  · have hc : t < cur.size := by omega
    rw [if_pos ht, Array.getElem?_toList, Array.getElem?_toList, Array.getElem?_eq_getElem ht]
    unfold putCells
    rw [Array.getElem?_mapIdx, Array.getElem?_eq_getElem hc, Option.map_some, if_pos ⟨Nat.zero_le _, by omega⟩, Nat.sub_zero, getElem!_pos _ t ht]; rfl
  · rw [if_neg ht, Array.getElem?_toList, Array.getElem?_eq_none (by omega)]
set_option maxHeartbeats 1600000 in
theorem ins_none (v fv : Value) (w : World) : Calls Try.prog 99 #[v, .int .i64 0, .int .i64 0, fv] w fun e w' => e = .returned (.tuple #[]) ∧ w = w' := by
  go_enter Try.func99, Try.ntmps99
  go_wp2
  go_loopw [8] (fun i wr => i = .int .i64 1 ∧ w = wr) (fun _ _ => 0)
  case atStart => exact ⟨rfl, rfl⟩
  case round =>
    obtain ⟨rfl, rfl⟩ := hrel
    go_wp2
    go_end0
    exact ⟨rfl, rfl⟩
set_option maxHeartbeats 1600000 in
theorem pdq_none (v fv : Value) (l : Int) (w : World) : Calls Try.prog 83 #[v, .int .i64 0, .int .i64 0, .int .i64 l, fv] w fun e w' => e = .returned (.tuple #[]) ∧ w = w' := by
  go_enter Try.func83, Try.ntmps83
  go_wp2
  go_loopw [1, 2] (fun i j wr => i = .int .i64 0 ∧ j = .int .i64 0 ∧ w = wr) (fun _ _ _ => 0)
  case atStart => exact ⟨rfl, rfl, rfl⟩
  case round =>
    obtain ⟨rfl, rfl, rfl⟩ := hrel
    go_wp2_with (go_at_call 99; (with_reducible refine (ins_none _ _ _).mono ?_); rintro e w' ⟨rfl, rfl⟩)
    all_goals first | (rw [Exit.noGoto_ret]) | skip
    all_goals exact bodyPost_ret (results_none rfl _ _ _) rfl ⟨rfl, rfl⟩
set_option maxHeartbeats 1600000 in
theorem sort_none (fv : Value) (w : World) : Calls Try.prog 51 #[.slice none 0 0, fv] w fun e w' => e = .returned (.tuple #[]) ∧ w' = w := by
  have hlen0 : ∀ W, Calls Try.prog 84 #[.int .u64 0] W fun e w' => (∃ l : Int, e = .returned (.int .i64 l)) ∧ w' = W := fun W => hlenK 0 W (by omega)
  have HL0 := Lib.hid hlen0; clear hlen0
  go_enter Try.func51, Try.ntmps51
  go_wp2_with (first | (go_at_call 84; (with_reducible refine (HL0.out _).mono ?_); rintro e w' ⟨⟨l, rfl⟩, rfl⟩) | (go_at_call 83; (with_reducible refine (pdq_none _ _ _ _).mono ?_); rintro e w' ⟨rfl, rfl⟩))
  go_end0
  exact ⟨rfl, rfl⟩
set_option maxHeartbeats 1600000 in
theorem bksort_c (v : Value) (l : List IDK) (h12 : l.length ≤ 12) (w : World) (hr : (Res.row 33 16 v l.length (idsL l)).holds w) : Calls Try.prog 51 #[v, .func (.func 52) #[] #[]] w fun e w' => e = .returned (.tuple #[]) ∧
    ∃ l' : List IDK, l'.Perm l ∧ (l'.Pairwise fun a b => ¬ b.1 < a.1) ∧ (Res.row 33 16 v l'.length (idsL l')).holds w' ∧ Chg (Res.row 33 16 v l.length (idsL l)).foot w w' := by
  obtain ⟨hl, ⟨rfl, hn⟩ | ⟨g, cap, cur, rfl, _, hg, hnc, hcm, hcs, htake⟩⟩ := id hr
  · have hnil : l = [] := List.eq_nil_of_length_eq_zero hn
    subst hnil
    exact (sort_none _ w).mono fun e w' ⟨he, hw⟩ => ⟨he, [], List.Perm.refl _, List.Pairwise.nil, by rw [hw]; exact hr, by rw [hw]; exact Chg.of_below (Below.refl _ _)⟩
  · have eg : ∀ args w, (callFunc 52 args).run Try.prog w = .ok (.enter 52 args) w := enters_of Try.func52 (by kernel_rfl) rfl
    have hlt : g < w.heap.size := (Array.getElem?_eq_some_iff.1 hg).1
    have hget : ∀ j, j < l.length * 16 → w.cell? ⟨g, 0 + j, none⟩ = (idsL l)[j]? ∧ w.frozen? ⟨g, 0 + j, none⟩ = false := fun j hj => by
      refine ⟨?_, frozen_of_row w g _ cur _ hg⟩
      rw [cell_of_row w g _ cur _ _ hg, Nat.zero_add, ← htake, List.getElem?_take, if_pos hj, Array.getElem?_toList]
    have hH : HoldsK encQ 16 w g 0 l.toArray := fun j hj => by
      have hj' : j < l.length * 16 := by simpa using hj
      obtain ⟨h1, h2⟩ := hget j hj'
      refine ⟨?_, h2⟩
      rw [h1, ← flatK_ids, Array.getElem?_toList, Array.getElem?_eq_getElem hj, getElem!_pos _ j hj]; rfl
    have hcon := AnyQ.slices_SortFunc_small_sorted layID 16 Try.isAgg33 Try.sizeOf33 encQ encQ_len (fun x v hv => encU_one _ v hv) cfK 52 #[] swoK g 0 cap l.toArray w eg (cmpLaysK g 0 _ w) hH hlt (by simpa using h12) hlenK
    change Calls Try.prog 51 _ _ _ at hcon
    refine hcon.mono fun e w' ⟨he, d', q, os, hp, hs, hw⟩ => ⟨he, d'.toList, ?_, ?_, ?_, ?_⟩
    · have h3 := hp.2.2
      have hsz : d'.size = l.length := by rw [hp.1]; simp
      simpa [← hsz, Array.extract_eq_self_of_le] using h3
    · rw [List.pairwise_iff_getElem]
      intro i j hi hj hij
      have := hs i j (Nat.zero_le _) hij (by have := hp.1; simp at hj this; simpa [this] using hj)
      rw [lt_cfK] at this
      have h1 : i < d'.size := by simpa using hi
      have h2 : j < d'.size := by simpa using hj
      rw [getElem!_pos _ j h2, getElem!_pos _ i h1] at this
      simpa using this
    · have hsz : d'.size = l.length := by rw [hp.1]; simp
      subst hw
      have hF : (flatK encQ 16 d').size = l.length * 16 := by rw [size_flatK, hsz]
      have hcap : l.length * 16 ≤ cur.size := by rw [hcs]; exact Nat.mul_le_mul_right _ hnc
      have e1 : d'.toList.length = l.length := by simpa using hsz
      show World.ownsRow _ 0 _ 16 _ d'.toList.length _
      rw [e1]
      refine ownsRow_cells (sw_block hg) hnc hcm (by unfold putCells; simpa using hcs) ?_ (by rw [idsL_len, e1])
      rw [← hF, put_take (by omega), ← flatK_ids]
    · subst hw
      have hb : (sortWorldK encQ 16 w g 0 q d' os).heap.size = w.heap.size + os.size := by unfold sortWorldK grow putRowK putRow mapBlock; simp [Go.Sort.ahead]
      exact ⟨rfl, rfl, rfl, by rw [hb]; omega, fun k hk hn => sw_other hk fun e => hn (by rw [e]; rfl)⟩
end Go.Proofs.Ytolbmemogoojhaa
