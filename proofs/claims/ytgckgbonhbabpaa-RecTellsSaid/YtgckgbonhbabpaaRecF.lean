/- The fields of two records joined, one by one: the iterator. -/
import Derived.RangeFuncNested
import Derived.RangeFuncBound
import Derived.RangeFuncCalls
import Derived.RangeFuncLeaves
import Derived.Shelf.Abstract
import Derived.Shelf.RegionOpen
import Derived.TacticsInMore
import Derived.LoopNIn
import Derived.LoopIn
import Derived.Test.YtgckgbonhbabpaaRecE
namespace Go.Proofs.Ytgckgbonhbabpaa
open Go Go.RowKit Go.Deep Go.Shelf
set_option linter.unusedVariables false
set_option linter.unusedSimpArgs false
set_option maxRecDepth 100000
attribute [local go_sem] Oper.semAt_some

/-- Turned at no block below B but b. -/
structure ButB (B b : Nat) (w w' : World) : Prop where
  os : w'.os = w.os
  tape : w'.tape = w.tape
  output : w'.output = w.output
  size : w.heap.size ≤ w'.heap.size
  block : ∀ k, k < B → k ≠ b → w'.heap[k]? = w.heap[k]?
theorem ButB.refl (B b : Nat) (w : World) : ButB B b w w := ⟨rfl, rfl, rfl, Nat.le_refl _, fun _ _ _ => rfl⟩
theorem ButB.trans {B b : Nat} {u v w : World} (h : ButB B b u v) (k : ButB B b v w) : ButB B b u w :=
  ⟨k.os.trans h.os, k.tape.trans h.tape, k.output.trans h.output, Nat.le_trans h.size k.size, fun i hi hb => (k.block i hi hb).trans (h.block i hi hb)⟩
theorem ButB.of_below {B b C : Nat} {w w' : World} (h : Below C w w') (hB : B ≤ C) : ButB B b w w' := ⟨h.os, h.tape, h.output, h.size, fun k hk _ => h.block k (by omega)⟩
theorem ButB.below {B b C : Nat} {w w' : World} (h : ButB B b w w') (h1 : C ≤ b) (h2 : C ≤ B) : Below C w w' := ⟨h.os, h.tape, h.output, h.size, fun k hk => h.block k (by omega) (by omega)⟩
theorem ButB.mono {B B' b : Nat} {w w' : World} (h : ButB B b w w') (hB : B' ≤ B) : ButB B' b w w' := ⟨h.os, h.tape, h.output, h.size, fun k hk hb => h.block k (by omega) hb⟩
theorem ButB.set {B b : Nat} {w w' : World} (h : ButB B b w w') (o : Nat) (u : Value) : ButB B b w (w'.setCell ⟨b, o, none⟩ u) :=
  ⟨h.os, h.tape, h.output, by simpa using h.size, fun k hk hb => (Below.heap_setCell _ _ _ _ (by simpa using hb)).trans (h.block k hk hb)⟩
theorem ButB.cell {B b : Nat} {w w' : World} (h : ButB B b w w') {p : Nat} (o : Nat) (h1 : p < B) (h2 : p ≠ b) : w'.cell? ⟨p, o, none⟩ = w.cell? ⟨p, o, none⟩ := World.cell?_of_block (w := w) (h.block p h1 h2)
theorem ButB.map {B b c : Nat} {w w' : World} {κ : Type} {enc : κ → Value} {m : List (κ × Value)} (h : ButB B b w w') (hm : MapAt w c enc m) (h1 : c < B) (h2 : c ≠ b) : MapAt w' c enc m := by
  obtain ⟨es, k, hb, he⟩ := hm; exact ⟨es, k, (h.block c h1 h2).trans hb, he⟩
theorem ButB.putObj (B b : Nat) (W : World) (l : Nat) (o' : Obj) (hl : B ≤ l) : ButB B b W (W.putObj l o') :=
  ⟨rfl, rfl, rfl, by simp, fun k hk _ => World.putObj_heap_other (by omega)⟩

/-- What comes of number k. -/
def outAt (N R : Int) (m : List F4) (k : Int) : Option F4 := match fFind m k with
  | some c => bif stLess N R c.1 c.2.1 then some (k, c) else none
  | none => none
def outTo (N R : Int) (m : List F4) (k : Nat) : List F4 := (List.range k).filterMap fun i : Nat => outAt N R m (i : Int)
theorem outTo_succ (N R : Int) (m : List F4) (k : Nat) : outTo N R m (k + 1) = outTo N R m k ++ (outAt N R m (k : Int)).toList := by
  unfold outTo
  rw [List.range_succ, List.filterMap_append]
  cases h : outAt N R m (k : Int) <;> simp [h]
theorem outTo_len (N R : Int) (m : List F4) (k : Nat) : (outTo N R m k).length ≤ k := by
  unfold outTo
  exact Nat.le_trans (List.length_filterMap_le _ _) (by simp)

def fV (x : F4) : Value := .agg #[.int .i64 x.1, .int .i64 x.2.1, .int .i64 x.2.2.1, .string x.2.2.2]
theorem fence_fn (k : Nat) : Fence.wide.fn k = True := rfl
set_option maxHeartbeats 1600000 in
theorem fields1_in (l Bm Bd b n₀ bo : Nat) (m : List F4) (N R : Int) (J Jx : List F4 → World → Prop) (W : World) (hJ : AbidesFrom W.heap.size J)
    (hY : ∀ pre x W1, J pre W1 → pre.length < 8 → YieldAt Fence.wide 3 Try.prog l #[fV x] W1 fun e W' => (e = .returned (.bool true) ∧ J (pre ++ [x]) W' ∧ ButB n₀ bo W1 W') ∨ (e = .returned (.bool false) ∧ Jx (pre ++ [x]) W'))
    (hcm : W.cell? ⟨Bm, 0, none⟩ = some (.map (some b))) (hcN : W.cell? ⟨Bd, 0, none⟩ = some (.int .i64 N)) (hcR : W.cell? ⟨Bd, 1, none⟩ = some (.int .i64 R)) (hm : MapAt W b encI (mapF m))
    (l1 : Bm < n₀) (l2 : Bd < n₀) (l3 : b < n₀) (l4 : n₀ ≤ W.heap.size) (d1 : Bm ≠ bo) (d2 : Bd ≠ bo) (d3 : b ≠ bo) (h0 : J [] W) :
    CallsIn Fence.wide 4 Try.prog 87 #[.func (.yield l) #[] #[], .pointer (some ⟨Bm, 0, none⟩), .pointer (some ⟨Bd, 0, none⟩)] W fun e W' => (∃ v, e = .returned v) ∧
      ((∃ ys, ys = outTo N R m 8 ∧ J ys W') ∨ (∃ pre, True ∧ Jx pre W')) := by
  have hAc := @after_cell
  have hAf := @after_frozen
  have hSz := sz_facts
  have hfn := fence_fn
  have hstep : ∀ s A B, J s A → Below A.heap.size A B → J s B := fun s A B h hb => hJ s A B none h (gr_below hb none) (fun r e => by cases e)
  have HS := Lib.hid hstep; clear hstep
  have HJ := Lib.hid hJ; have HY := Lib.hid hY; have Hm := Lib.hid hm; have H0 := Lib.hid h0
  have Hcm := Lib.hid hcm; have HcN := Lib.hid hcN; have HcR := Lib.hid hcR
  clear hJ hY hm h0 hcm hcN hcR
  refine callsIn_of_wp Try.func87 rfl trivial ?_ rfl
  simp only [Try.ntmps87, List.size_toArray, List.length_cons, List.length_nil, Nat.reduceAdd, Nat.reduceSub, Array.replicate_succ, Array.replicate_zero, List.push_toArray, List.append_toArray, List.nil_append, List.cons_append]
  gi_wp2
  gi_loopw [7] (fun i wr => ∃ k : Nat, k ≤ 8 ∧ i = .int .i64 k ∧ Hid (J (outTo N R m k) wr) ∧ Hid (ButB n₀ bo W wr)) (fun i _ => 8 - (intOf i).toNat)
  case atStart => exact ⟨0, by omega, rfl, H0, Lib.hid (ButB.refl _ _ _)⟩
  case round =>
    obtain ⟨k, hk, rfl, I, B⟩ := hrel
    by_cases hlt : k < 8
    · have cm := (B.out.cell 0 l1 d1).trans Hcm.out
      have cN := (B.out.cell 0 l2 d2).trans HcN.out
      have cR := (B.out.cell 1 l2 d2).trans HcR.out
      have Hmr := Lib.hid (B.out.map Hm.out l3 d3)
      have hz := B.out.size
      have hs1 := szl (a := Bm) (b := wr.heap.size) (by omega)
      have hs2 := szl (a := Bd) (b := wr.heap.size) (by omega)
      rcases gIx_mapF (k : Int) m with ⟨h1, h2⟩ | ⟨jj, ⟨cN', cR', cS'⟩, h1, h2⟩
      · have Hg := Lib.hid h1
        have Hnext : Hid (outTo N R m (k + 1) = outTo N R m k) := Lib.hid (by rw [outTo_succ]; unfold outAt; rw [h2]; simp)
        clear h1 h2
        gi_wp2_with (refine wpListIn_lookup_map rfl 86 3 25 _ _ rfl _ rfl rfl (k : Int) rfl (Hmr.out.below (B := wr.heap.size) (by (repeat (first | exact Below.refl _ _ | assumption | refine bel_alloc ?_ _ | refine bel_after _ ?_ | refine bel_drewN ?_ _ | refine bel_drew ?_ | refine bel_set ?_ (by first | omega | (simp only [World.size_alloc, World.size_drew, World.size_setCell]; omega) | (simp; omega)) _))) Hmr.out.lt) keyI gath _ zero_cell ?_; simp only [Hg.out])
        go_roundw
        case rel => exact ⟨k + 1, by omega, by go_num, Lib.hid (by rw [Hnext.out]; exact HS.out _ _ _ I.out (by (repeat (first | exact Below.refl _ _ | assumption | refine bel_alloc ?_ _ | refine bel_after _ ?_ | refine bel_drewN ?_ _ | refine bel_drew ?_ | refine bel_set ?_ (by first | omega | (simp only [World.size_alloc, World.size_drew, World.size_setCell]; omega) | (simp; omega)) _)))), Lib.hid (B.out.trans (ButB.of_below (by (repeat (first | exact Below.refl _ _ | assumption | refine bel_alloc ?_ _ | refine bel_after _ ?_ | refine bel_drewN ?_ _ | refine bel_drew ?_ | refine bel_set ?_ (by first | omega | (simp only [World.size_alloc, World.size_drew, World.size_setCell]; omega) | (simp; omega)) _)) : Below wr.heap.size wr _) (by omega)))⟩
        case measure => simp [intOf]; omega
      · have Hg := Lib.hid h1
        cases hl : stLess N R cN' cR'
        · have Hl := Lib.hid hl
          have Hnext : Hid (outTo N R m (k + 1) = outTo N R m k) := Lib.hid (by rw [outTo_succ]; unfold outAt; rw [h2]; simp only; rw [hl]; simp)
          clear h1 h2 hl
          gi_wp2_with (first | (refine wpListIn_lookup_map rfl 86 3 25 _ _ rfl _ rfl rfl (k : Int) rfl (Hmr.out.below (B := wr.heap.size) (by (repeat (first | exact Below.refl _ _ | assumption | refine bel_alloc ?_ _ | refine bel_after _ ?_ | refine bel_drewN ?_ _ | refine bel_drew ?_ | refine bel_set ?_ (by first | omega | (simp only [World.size_alloc, World.size_drew, World.size_setCell]; omega) | (simp; omega)) _))) Hmr.out.lt) keyI gath _ zero_cell ?_; simp only [Hg.out, cV]) | (gi_at_call 29; (with_reducible refine (callsIn_wide.2 (less_v Hl.out _)).mono ?_); rintro e w' ⟨rfl, hb⟩; obtain ⟨x1, rfl⟩ := after_of hb; clear hb))
          go_roundw
          case rel => exact ⟨k + 1, by omega, by go_num, Lib.hid (by rw [Hnext.out]; exact HS.out _ _ _ I.out (by (repeat (first | exact Below.refl _ _ | assumption | refine bel_alloc ?_ _ | refine bel_after _ ?_ | refine bel_drewN ?_ _ | refine bel_drew ?_ | refine bel_set ?_ (by first | omega | (simp only [World.size_alloc, World.size_drew, World.size_setCell]; omega) | (simp; omega)) _)))), Lib.hid (B.out.trans (ButB.of_below (by (repeat (first | exact Below.refl _ _ | assumption | refine bel_alloc ?_ _ | refine bel_after _ ?_ | refine bel_drewN ?_ _ | refine bel_drew ?_ | refine bel_set ?_ (by first | omega | (simp only [World.size_alloc, World.size_drew, World.size_setCell]; omega) | (simp; omega)) _)) : Below wr.heap.size wr _) (by omega)))⟩
          case measure => simp [intOf]; omega
        · have Hl := Lib.hid hl
          have Hnext : Hid (outTo N R m (k + 1) = outTo N R m k ++ [((k : Int), cN', cR', cS')]) := Lib.hid (by rw [outTo_succ]; unfold outAt; rw [h2]; simp only; rw [hl]; simp)
          clear h1 h2 hl
          gi_wp2_with (first | (refine wpListIn_lookup_map rfl 86 3 25 _ _ rfl _ rfl rfl (k : Int) rfl (Hmr.out.below (B := wr.heap.size) (by (repeat (first | exact Below.refl _ _ | assumption | refine bel_alloc ?_ _ | refine bel_after _ ?_ | refine bel_drewN ?_ _ | refine bel_drew ?_ | refine bel_set ?_ (by first | omega | (simp only [World.size_alloc, World.size_drew, World.size_setCell]; omega) | (simp; omega)) _))) Hmr.out.lt) keyI gath _ zero_cell ?_; simp only [Hg.out, cV]) | (gi_at_call 29; (with_reducible refine (callsIn_wide.2 (less_v Hl.out _)).mono ?_); rintro e w' ⟨rfl, hb⟩; obtain ⟨x1, rfl⟩ := after_of hb; clear hb; have hz1 := after_size x1; (try (simp only [World.size_alloc] at hz1)); have hsx := szl (a := wr.heap.size) (b := x1.w.heap.size) (by omega); have hJx : J (outTo N R m k) x1.w := HS.out _ _ _ I.out (by (repeat (first | exact Below.refl _ _ | assumption | refine bel_alloc ?_ _ | refine bel_after _ ?_ | refine bel_drewN ?_ _ | refine bel_drew ?_ | refine bel_set ?_ (by first | omega | (simp only [World.size_alloc, World.size_drew, World.size_setCell]; omega) | (simp; omega)) _))); obtain ⟨fn, tmps, assign, body, hy, hR⟩ := HY.out (outTo N R m k) ((k : Int), cN', cR', cS') x1.w hJx (Nat.lt_of_le_of_lt (outTo_len N R m k) hlt); have HRR := Lib.hid hR; have HJx := Lib.hid hJx; clear hR hJx; dsimp only [fV] at hy))
          refine HRR.out.mono ?_
          rintro e W3 (⟨rfl, hJ3, hk3⟩ | ⟨rfl, hJx3⟩)
          · have HJ3 := Lib.hid hJ3; have HK3 := Lib.hid hk3; clear hJ3 hk3
            have HB3 : Hid (ButB n₀ bo W W3) := Lib.hid ((B.out.trans (ButB.of_below (by (repeat (first | exact Below.refl _ _ | assumption | refine bel_alloc ?_ _ | refine bel_after _ ?_ | refine bel_drewN ?_ _ | refine bel_drew ?_ | refine bel_set ?_ (by first | omega | (simp only [World.size_alloc, World.size_drew, World.size_setCell]; omega) | (simp; omega)) _)) : Below wr.heap.size wr x1.w) (by omega))).trans HK3.out)
            gi_wp2
            go_roundw
            case rel => exact ⟨k + 1, by omega, by go_num, by rw [Hnext.out]; exact HJ3, HB3⟩
            case measure => simp [intOf]; omega
          · have HJ3 := Lib.hid hJx3; clear hJx3
            gi_wp2
            refine bodyPost_ret (results_none rfl _ _ _) rfl ?_
            exact ⟨⟨_, rfl⟩, .inr ⟨_, trivial, HJ3.out⟩⟩
    · have hk8 : k = 8 := by omega
      subst hk8
      gi_wp2
      go_end0
      exact ⟨⟨_, rfl⟩, .inl ⟨_, rfl, I.out⟩⟩
end Go.Proofs.Ytgckgbonhbabpaa
