/- The reference's words of a chunk. -/
import Derived.Test.YtgckgbonhbabpaaRefA
import Derived.Deep.RegionHeld3
namespace Go.Proofs.Ytgckgbonhbabpaa
open Go Go.RowKit Go.Deep
set_option linter.unusedVariables false
set_option linter.unusedSimpArgs false
set_option maxRecDepth 100000

def encWL (l : List Int) : List Value := l.map (Value.int .u32)
theorem encWL_length (l : List Int) : (encWL l).length = l.length := by simp [encWL]
theorem encWL_append (a b : List Int) : encWL (a ++ b) = encWL a ++ encWL b := by simp [encWL]
theorem encWL_one (l : List Int) : ∀ u ∈ encWL l, u.oneCell' = true := by
  intro u hu
  obtain ⟨b, _, rfl⟩ := List.mem_map.1 hu
  rfl
/-- A slice of words that the call owns. -/
def OwnW (base : Nat) (w : World) (v : Value) (l : List Int) : Prop := w.ownsRow base 101 1 v l.length (encWL l)
theorem OwnW.below {base : Nat} {w w' : World} {v : Value} {l : List Int} (h : OwnW base w v l) (hb : Below w.heap.size w w') : OwnW base w' v l := own_below h hb
theorem OwnW.lower {base base' : Nat} {w : World} {v : Value} {l : List Int} (h : OwnW base w v l) (hb : base' ≤ base) : OwnW base' w v l := own_lower h hb
theorem ownW_nil (base : Nat) (w : World) : OwnW base w (.slice none 0 0) [] := World.ownsRow_nil _ _ _ _
theorem OwnW.open_ {base : Nat} {w : World} {v : Value} {l : List Int} (h : OwnW base w v l) (h0 : 0 < l.length) :
    ∃ g c, v = .slice (some ⟨g, 0, none⟩) l.length c ∧ base ≤ g ∧ g < w.heap.size ∧ l.length ≤ c ∧ c ≤ maxLen ∧ ∀ j, j < l.length → w.cell? ⟨g, j, none⟩ = some (.int .u32 (l.getD j 0)) := by
  have hc := fun g => World.ownsRow.cells (g := g) h
  obtain ⟨hl, ⟨rfl, hn0⟩ | ⟨g, cap, cur, rfl, hb0, hg, h1, h2, h3, h4⟩⟩ := id h
  · omega
  · refine ⟨g, cap, rfl, hb0, (Array.getElem?_eq_some_iff.1 hg).1, h1, h2, fun j hj => ?_⟩
    have := hc g rfl j (.int .u32 (l.getD j 0)) (by rw [encWL, List.getElem?_map, List.getElem?_eq_getElem hj, List.getD_eq_getElem?_getD, List.getElem?_eq_getElem hj]; rfl)
    rwa [Addr.add_lit, Nat.zero_add] at this
theorem row_oneW (w : World) (x : Int) : Row (w.alloc (.cells #[.int .u32 x] 101)) 1 (.slice (some ⟨w.heap.size, 0, none⟩) 1 1) 1 [.int .u32 x] := by
  refine ⟨rfl, _, _, rfl, Nat.le_refl _, by decide, (fun h => by cases h), fun _ => ⟨_, 0, rfl, fun j u hj => ?_⟩⟩
  rw [Nat.zero_add, (Blk.new w _ _).cell]; simpa using hj
/-- A word appended, as the walk of a region that draws meets it; what the old row held is there still. -/
theorem wp_appW {w w0 : World} {o : Oper} {a : Act} {K : Act → World → Prop} {Q : Exit → Act → World → Prop} (s x : Operand)
    (ho : o.op = .call { callee := .builtin .append, args := #[s, x], argTypes := #[110, 110] }) (dst : Option Tmp) (hdst : o.dst = dst)
    (v : Value) (l : List Int) (hs : a.eval s = v) (hown : OwnW w0.heap.size w v l) (b : Nat) (y : Int) (hxv : a.eval x = .slice (some ⟨b, 0, none⟩) 1 1) (hx : w.cell? ⟨b, 0, none⟩ = some (.int .u32 y))
    (hl : l.length + 1 ≤ 1000) (hb : Below w0.heap.size w0 w)
    (h : ∀ v' w', OwnW w0.heap.size w' v' (l ++ [y]) → Below w0.heap.size w0 w' → (∀ g, v.ownBlock = some g → ∀ j, j < l.length → w'.cell? ⟨g, j, none⟩ = some (.int .u32 (l.getD j 0))) → K (a.put dst v') w') : o.wp Try.prog a w K Q := by
  subst hdst
  have hinfo : (Try.prog.info? 101).map (fun i => (i.zero, i.size, i.bytes)) = some (some (.int .u32 0), 1, 4) := by kernel_rfl
  obtain ⟨i, hi, hzz⟩ := Option.map_eq_some_iff.1 hinfo
  simp only [Prod.mk.injEq] at hzz
  obtain ⟨hz, hsi, hby⟩ := hzz
  have ht : Try.prog.underlying 110 = some (.slice 101) := by kernel_rfl
  have hnews : ∀ j u, [Value.int .u32 y][j]? = some u → w.cell? ((⟨b, 0, none⟩ : Addr).add j) = some u := fun j u hj => by
    rw [Addr.add_lit, Nat.zero_add]
    have h0 : j = 0 := by have := (List.getElem?_eq_some_iff.1 hj).1; simpa using this
    subst h0
    rw [hx]; simpa using hj
  have h1 : ∀ u ∈ [Value.int .u32 y], u.oneCell' = true := by simp [Value.oneCell']
  obtain ⟨v', w', hr, h2, h3, _⟩ := run_append_own (P := Try.prog) w w0.heap.size 110 o.type 101 i (.int .u32 0) 1 4 ht hi hz hsi hby (by rfl) (by omega)
    v l.length (encWL l) hown ⟨b, 0, none⟩ 1 1 [.int .u32 y] (by simp) hnews h1 (by unfold maxLen; omega) (by omega) hb.size
  have hcells := fun g => World.ownsRow.cells (g := g) hown
  have hkeep : ∀ g, v.ownBlock = some g → ∀ j, j < l.length → w'.cell? ⟨g, j, none⟩ = some (.int .u32 (l.getD j 0)) := by
    intro g hg j hj
    have hget : (encWL l)[j]? = some (.int .u32 (l.getD j 0)) := by rw [encWL, List.getElem?_map, List.getElem?_eq_getElem hj, List.getD_eq_getElem?_getD, List.getElem?_eq_getElem hj]; rfl
    rcases hown.2 with ⟨rfl, h0⟩ | ⟨g', cap, cur, rfl, hbg, hgc, hnc, hcm, hcs, htake⟩
    · omega
    · have e : g' = g := by simpa [Value.ownBlock] using hg
      subst e
      by_cases hroom : l.length + 1 ≤ cap
      · have hfit : l.length * i.size + [Value.int .u32 y].length ≤ cur.size := by rw [hsi, hcs]; simp; omega
        have hr2 := run_append_room (P := Try.prog) w 110 o.type 101 i ht hi g' l.length cap cur hgc ⟨b, 0, none⟩ 1 1 [.int .u32 y] (by rw [hsi]; simp) hnews h1 hroom hfit
        rw [hr] at hr2
        injection hr2 with e1 e2
        have := World.ownsRow.cells (g := g') h2 (by rw [e1]; rfl) j (.int .u32 (l.getD j 0)) (by rw [List.getElem?_append_left (by rw [encWL_length]; exact hj)]; exact hget)
        rwa [Addr.add_lit, Nat.zero_add] at this
      · have holds := hcells g' rfl
        have hr2 := run_append_grow (P := Try.prog) w 110 o.type 101 i (.int .u32 0) ht hi hz ⟨g', 0, none⟩ l.length cap (encWL l) (by rw [hsi]; exact hown.1) holds ⟨b, 0, none⟩ 1 1 [.int .u32 y] (by rw [hsi]; simp) hnews (by omega) (by omega) (growslice_fits (by omega) (by rw [hby]; omega))
        rw [hr] at hr2
        injection hr2 with e1 e2
        rw [e2, World.cell?_of_block (w := w) (Below.heap_alloc w.drew _ _ (Array.getElem?_eq_some_iff.1 hgc).1)]
        have := holds j _ hget
        rwa [Addr.add_lit, Nat.zero_add] at this
  unfold Oper.wp execOp
  simp only [ho, resolve, invoke, builtin, Sem.run_bind, Sem.run_pure, Result.andThen_ok, List.map_toArray, List.map_cons, List.map_nil, hs, hxv, hr]
  refine h v' w' ?_ (bel_grown (base := 0) hb hown h3) hkeep
  unfold OwnW
  rw [List.length_append, encWL_append]
  exact h2
/-- What words gives: the j words ahead, and those put behind them. -/
theorem sched_take (bs : List UInt8) (j : Nat) (hj : j < 64) (x : Int) (hx : x = if j < 16 then w16 (bs.getD (4 * j) 0) (bs.getD (4 * j + 1) 0) (bs.getD (4 * j + 2) 0) (bs.getD (4 * j + 3) 0) else wNew ((sched bs j).getD (j - 16) 0) ((sched bs j).getD (j - 7) 0) ((sched bs j).getD (j - 15) 0) ((sched bs j).getD (j - 2) 0)) :
    (sched bs (j + 1)).take (j + 1) = (sched bs j).take j ++ [x] := by
  have hl := sched_length bs j
  rw [sched, schedStep, ← hx]
  rw [List.take_add_one, List.take_set_of_le (Nat.le_refl _)]
  simp [hl, hj]
theorem getD_take (l : List Int) (j i : Nat) (h : i < j) : (l.take j).getD i 0 = l.getD i 0 := by
  simp [List.getD_eq_getElem?_getD, List.getElem?_take, h]
set_option maxHeartbeats 6400000 in
theorem words_c (v : Value) (bs : List UInt8) (hl : bs.length = 64) (w : World) (hv : Byt w v bs) : Calls Try.prog 90 #[v] w fun e w' => ∃ u, e = .returned u ∧ OwnW w.heap.size w' u (sched bs 64) ∧ Below w.heap.size w w' := by
  obtain ⟨a, c, rfl, _, hm, _, hcell⟩ := hv.open_
  obtain ⟨bb, off, rfl, hc⟩ := hcell (by omega)
  have hbb : bb < w.heap.size := World.block_lt_of_cell? w _ (hc 0 (by omega))
  rw [hl] at hc hcell ⊢
  clear hm hcell
  have Hc := Lib.hid hc; clear hc hv
  go_enter Try.func90, Try.ntmps90
  go_wp2
  go_loopw [4, 3] (fun i u wr => ∃ j : Nat, j ≤ 16 ∧ i = .int .i64 j ∧ Hid (OwnW w.heap.size wr u ((sched bs j).take j)) ∧ Hid (Below w.heap.size w wr)) (fun i _ _ => 16 - (intOf i).toNat)
  case atStart => exact ⟨0, by omega, rfl, Lib.hid (by simpa using ownW_nil _ _), Lib.hid (Below.refl _ _)⟩
  case round =>
    obtain ⟨j, hj, rfl, O, B⟩ := hrel
    by_cases h16 : j < 16
    · have hbr : (bb < wr.heap.size) = True := by have := B.out.size; simp only [eq_iff_iff, iff_true]; omega
      obtain ⟨m0, hm0⟩ : ∃ m0, m0 = 4 * j := ⟨_, rfl⟩
      obtain ⟨m1, hm1⟩ : ∃ m1, m1 = 4 * j + 1 := ⟨_, rfl⟩
      obtain ⟨m2, hm2⟩ : ∃ m2, m2 = 4 * j + 2 := ⟨_, rfl⟩
      obtain ⟨m3, hm3⟩ : ∃ m3, m3 = 4 * j + 3 := ⟨_, rfl⟩
      have q0 : wrap64 (4 * (j : Int)) = (m0 : Int) := by unfold wrap64; omega
      have q0' : IntKind.i64.wrap (4 * (j : Int)) = (m0 : Int) := by rw [IntWalk.i64_in _ (by omega)]; omega
      have q1 : wrap64 ((m0 : Int) + 1) = (m1 : Int) := by unfold wrap64; omega
      have q1' : IntKind.i64.wrap ((m0 : Int) + 1) = (m1 : Int) := by rw [IntWalk.i64_in _ (by omega)]; omega
      have q2 : wrap64 ((m0 : Int) + 2) = (m2 : Int) := by unfold wrap64; omega
      have q2' : IntKind.i64.wrap ((m0 : Int) + 2) = (m2 : Int) := by rw [IntWalk.i64_in _ (by omega)]; omega
      have q3 : wrap64 ((m0 : Int) + 3) = (m3 : Int) := by unfold wrap64; omega
      have q3' : IntKind.i64.wrap ((m0 : Int) + 3) = (m3 : Int) := by rw [IntWalk.i64_in _ (by omega)]; omega
      have l0 : ((m0 : Int) < 64) = True ∧ ((m1 : Int) < 64) = True ∧ ((m2 : Int) < 64) = True ∧ ((m3 : Int) < 64) = True := by simp only [eq_iff_iff, iff_true]; omega
      have l1 : (m0 < 64) = True ∧ (m1 < 64) = True ∧ (m2 < 64) = True ∧ (m3 < 64) = True := by simp only [eq_iff_iff, iff_true]; omega
      obtain ⟨c0, hd0, hc0⟩ : ∃ c0 : UInt8, Hid (c0 = bs.getD (4 * j) 0) ∧ w.cell? ⟨bb, off + m0, none⟩ = some (.int .u8 (c0.toNat : Int)) := ⟨_, Lib.hid rfl, by rw [hm0]; exact Hc.out (4 * j) (by omega)⟩
      obtain ⟨c1, hd1, hc1⟩ : ∃ c1 : UInt8, Hid (c1 = bs.getD (4 * j + 1) 0) ∧ w.cell? ⟨bb, off + m1, none⟩ = some (.int .u8 (c1.toNat : Int)) := ⟨_, Lib.hid rfl, by rw [hm1]; exact Hc.out (4 * j + 1) (by omega)⟩
      obtain ⟨c2, hd2, hc2⟩ : ∃ c2 : UInt8, Hid (c2 = bs.getD (4 * j + 2) 0) ∧ w.cell? ⟨bb, off + m2, none⟩ = some (.int .u8 (c2.toNat : Int)) := ⟨_, Lib.hid rfl, by rw [hm2]; exact Hc.out (4 * j + 2) (by omega)⟩
      obtain ⟨c3, hd3, hc3⟩ : ∃ c3 : UInt8, Hid (c3 = bs.getD (4 * j + 3) 0) ∧ w.cell? ⟨bb, off + m3, none⟩ = some (.int .u8 (c3.toNat : Int)) := ⟨_, Lib.hid rfl, by rw [hm3]; exact Hc.out (4 * j + 3) (by omega)⟩
      clear hm0 hm1 hm2 hm3
      have Hc0 := Lib.hid hc0; have Hc1 := Lib.hid hc1; have Hc2 := Lib.hid hc2; have Hc3 := Lib.hid hc3
      clear hc0 hc1 hc2 hc3
      have hln : ((sched bs j).take j).length = j := by rw [List.length_take, sched_length]; omega
      have Hln := Lib.hid hln; clear hln
      obtain ⟨x, hx⟩ : ∃ x, Hid (x = w16 c0 c1 c2 c3) := ⟨_, rfl⟩
      go_wp2
      go_region_held3 (fun w' => w'.cell? ⟨bb, off + m0, none⟩ = some (.int .u8 (c0.toNat : Int)) ∧ w'.cell? ⟨bb, off + m1, none⟩ = some (.int .u8 (c1.toNat : Int)) ∧ w'.cell? ⟨bb, off + m2, none⟩ = some (.int .u8 (c2.toNat : Int)) ∧ w'.cell? ⟨bb, off + m3, none⟩ = some (.int .u8 (c3.toNat : Int))) ((refine ⟨cell_below' ?_ hbb Hc0.out, cell_below' ?_ hbb Hc1.out, cell_below' ?_ hbb Hc2.out, cell_below' ?_ hbb Hc3.out⟩ <;> (repeat (first | exact B.out | assumption | refine bel_alloc ?_ _ | refine bel_drew ?_)))) ((rw [if_pos (by rfl)]; refine wp_appW (w0 := w) _ _ rfl _ rfl _ _ rfl (O.out.below (bel_alloc (bel_drew (Below.refl _ _)) _)) _ _ rfl ((Blk.new _ _ _).cell 0) (by rw [Hln.out]; omega) (bel_alloc (bel_drew B.out) _) ?_; intro v4 w4 own4 b4 kp4))
      obtain ⟨X, hX, own5⟩ : ∃ X, X = w16 c0 c1 c2 c3 ∧ OwnW w.heap.size w4 v4 ((sched bs j).take j ++ [X]) := ⟨_, by rw [w16_eq]; simp only [IntKind.wrap_u32]; have := c0.toNat_lt; have := c1.toNat_lt; have := c2.toNat_lt; have := c3.toNat_lt; omega, own4⟩
      rw [← sched_take bs j (by omega) X (by rw [if_pos h16, hX, hd0.out, hd1.out, hd2.out, hd3.out])] at own5
      clear own4
      have Own5 := Lib.hid own5; have B4 := Lib.hid b4; clear own5 b4 hX
      go_wp2
      go_roundw
      case rel => exact ⟨j + 1, by omega, by go_num, Own5, B4⟩
      case measure => simp [intOf]; omega
    · have hj16 : j = 16 := by omega
      subst hj16
      rw [show (((16 : Nat) : Int)) = 16 from rfl]
      go_wp2
      go_loopw [5, 3] (fun i u wr => ∃ j : Nat, 16 ≤ j ∧ j ≤ 64 ∧ i = .int .i64 j ∧ Hid (OwnW w.heap.size wr u ((sched bs j).take j)) ∧ Hid (Below w.heap.size w wr)) (fun i _ _ => 64 - (intOf i).toNat)
      case atStart => exact ⟨16, by omega, by omega, rfl, O, B⟩
      case round =>
        obtain ⟨j, hj0, hj, rfl, O, B⟩ := hrel
        by_cases h64 : j < 64
        · have hln : ((sched bs j).take j).length = j := by rw [List.length_take, sched_length]; omega
          obtain ⟨g, cp, rfl, g0, g1, g2, g3, gc⟩ := O.out.open_ (by omega)
          rw [hln] at g2 gc ⊢
          have HO : Hid (OwnW w.heap.size wr (.slice (some ⟨g, 0, none⟩) j cp) ((sched bs j).take j)) := by have := O.out; rw [hln] at this; exact Lib.hid this
          have Hln := Lib.hid hln; clear hln
          have hcp := g3
          unfold maxLen at hcp
          obtain ⟨i15, hi15⟩ : ∃ i, i = j - 15 := ⟨_, rfl⟩
          obtain ⟨i2, hi2⟩ : ∃ i, i = j - 2 := ⟨_, rfl⟩
          obtain ⟨i16, hi16⟩ : ∃ i, i = j - 16 := ⟨_, rfl⟩
          obtain ⟨i7, hi7⟩ : ∃ i, i = j - 7 := ⟨_, rfl⟩
          obtain ⟨y15, hy15⟩ : ∃ y : Int, Hid (y = (sched bs j).getD (j - 15) 0) := ⟨_, rfl⟩
          obtain ⟨y2, hy2⟩ : ∃ y : Int, Hid (y = (sched bs j).getD (j - 2) 0) := ⟨_, rfl⟩
          obtain ⟨y16, hy16⟩ : ∃ y : Int, Hid (y = (sched bs j).getD (j - 16) 0) := ⟨_, rfl⟩
          obtain ⟨y7, hy7⟩ : ∃ y : Int, Hid (y = (sched bs j).getD (j - 7) 0) := ⟨_, rfl⟩
          have k15 : wr.cell? ⟨g, j - 15, none⟩ = some (.int .u32 y15) := by rw [gc _ (by omega), hy15.out, getD_take _ _ _ (by omega)]
          have k2 : wr.cell? ⟨g, j - 2, none⟩ = some (.int .u32 y2) := by rw [gc _ (by omega), hy2.out, getD_take _ _ _ (by omega)]
          have k16 : wr.cell? ⟨g, i16, none⟩ = some (.int .u32 y16) := by rw [hi16, gc _ (by omega), hy16.out, getD_take _ _ _ (by omega)]
          have k7 : wr.cell? ⟨g, i7, none⟩ = some (.int .u32 y7) := by rw [hi7, gc _ (by omega), hy7.out, getD_take _ _ _ (by omega)]
          have HK16 : Hid (some (Value.int .u32 (((sched bs j).take j).getD i16 0)) = some (.int .u32 y16)) := Lib.hid (by rw [hi16, hy16.out, getD_take _ _ _ (by omega)])
          have HK7 : Hid (some (Value.int .u32 (((sched bs j).take j).getD i7 0)) = some (.int .u32 y7)) := Lib.hid (by rw [hi7, hy7.out, getD_take _ _ _ (by omega)])
          have K16 := Lib.hid k16; have K7 := Lib.hid k7
          have q16 : wrap64 ((j : Int) - 16) = (i16 : Int) := by unfold wrap64; omega
          have q16' : IntKind.i64.wrap ((j : Int) - 16) = (i16 : Int) := by rw [IntWalk.i64_in _ (by omega)]; omega
          have q7 : wrap64 ((j : Int) - 7) = (i7 : Int) := by unfold wrap64; omega
          have q7' : IntKind.i64.wrap ((j : Int) - 7) = (i7 : Int) := by rw [IntWalk.i64_in _ (by omega)]; omega
          have l0 : ((i16 : Int) < (j : Int)) = True ∧ ((i7 : Int) < (j : Int)) = True ∧ (i16 < j) = True ∧ (i7 < j) = True := by simp only [eq_iff_iff, iff_true]; omega
          have Hq := Lib.hid (And.intro q16 (And.intro q16' (And.intro q7 (And.intro q7' l0))))
          clear q16 q16' q7 q7' l0 hi15 hi2 hi16 hi7 k16 k7 gc i15 i2 g3
          have hgr : (g < wr.heap.size) = True := by simp only [eq_iff_iff, iff_true]; exact g1
          go_wp2_with (go_at_call 91; (with_reducible refine (turned_i _ _ (by decide) (by decide) _).mono ?_); rintro e w' ⟨rfl, rfl⟩)
          obtain ⟨q16, q16', q7, q7', l0⟩ := Hq.out
          have k16 := K16.out
          have k7 := K7.out
          go_region_held3 (fun w' => w'.cell? ⟨g, i16, none⟩ = some (.int .u32 y16) ∧ w'.cell? ⟨g, i7, none⟩ = some (.int .u32 y7)) ((first | exact ⟨k16, k7⟩ | exact ⟨(kp4 g rfl i16 (by rw [Hln.out]; exact of_eq_true Hq.out.2.2.2.2.2.2.1)).trans HK16.out, (kp4 g rfl i7 (by rw [Hln.out]; exact of_eq_true Hq.out.2.2.2.2.2.2.2)).trans HK7.out⟩ | (refine ⟨cell_below (w := wr) ?_ _ _ _ k16, cell_below (w := wr) ?_ _ _ _ k7⟩ <;> (repeat (first | exact Below.refl _ _ | refine bel_alloc ?_ _ | refine bel_drew ?_))))) ((rw [if_pos (by rfl)]; refine wp_appW (w0 := w) _ _ rfl _ rfl _ _ rfl (HO.out.below (bel_alloc (bel_drew (Below.refl _ _)) _)) _ _ rfl ((Blk.new _ _ _).cell 0) (by rw [Hln.out]; omega) (bel_alloc (bel_drew B.out) _) ?_; intro v4 w4 own4 b4 kp4))
          obtain ⟨X, hX, own5⟩ : ∃ X, X = wNew y16 y7 y15 y2 ∧ OwnW w.heap.size w4 v4 ((sched bs j).take j ++ [X]) := ⟨_, by unfold wNew; simp only [IntKind.wrap_u32]; omega, own4⟩
          rw [← sched_take bs j h64 X (by rw [if_neg (by omega), hX, hy16.out, hy7.out, hy15.out, hy2.out])] at own5
          clear own4 kp4
          have Own5 := Lib.hid own5; have B4 := Lib.hid b4; clear own5 b4 hX
          go_wp2
          go_roundw
          case rel => exact ⟨j + 1, by omega, by omega, by go_num, Own5, B4⟩
          case measure => simp [intOf]; omega
        · have hj64 : j = 64 := by omega
          subst hj64
          have hO := O.out
          rw [List.take_of_length_le (by rw [sched_length]; exact Nat.le_refl _)] at hO
          have HO := Lib.hid hO; have HB := Lib.hid B.out
          clear hO
          go_wp2
          go_ret
          exact ⟨_, rfl, HO.out, HB.out⟩
end Go.Proofs.Ytgckgbonhbabpaa
