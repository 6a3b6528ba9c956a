/- What is looked through: the chapter's example. -/
import Derived.Test.YtolbmemogoojhaaAudE
namespace Go.Proofs.Ytolbmemogoojhaa
open Go Go.RowKit Go.Deep
set_option linter.unusedVariables false
set_option linter.unusedSimpArgs false
set_option maxRecDepth 100000
section
variable {P : Program} {ops : Array Oper} {rest : List Oper} {a : Act} {w0 w : World} {Q : Exit → Act → World → Prop} {Γ : List Res} {dst : Option Tmp} {typ : TypeId} {x y : Operand} {pos : String} {af : Array Edge} {s1 s2 : Value} {n1 n2 : Int}
/-- A slice of two elements that is written out. -/
theorem arm_bsl2 (H : St w0 w Γ) {t e : TypeId} {v1 v2 u1 u2 z : Value} {bytes : Nat} (hx : a.eval x = v1) (hy : a.eval y = v2) (h1 : v1.cells = #[u1]) (h2 : v2.cells = #[u2]) (hu : P.underlying t = some (.slice e)) (hinfo : (P.info? e).map (fun i => (i.zero, i.size, i.bytes)) = some (some z, 1, bytes)) (hzs : z.cells.size = 1)
    (h : ∀ w' b, St w0 w' (Res.row e 1 (.slice (some ⟨b, 0, none⟩) 2 2) 2 [u1, u2] :: Γ) → wpList P ops Q rest (a.put dst (.slice (some ⟨b, 0, none⟩) 2 2)) w') : wpList P ops Q (⟨dst, .buildSlice t 2 #[(0, x), (1, y)], typ, pos, af, none⟩ :: rest) a w := by
  obtain ⟨i, hi, hzz⟩ := Option.map_eq_some_iff.1 hinfo
  simp only [Prod.mk.injEq] at hzz
  obtain ⟨hz, hsi, hby⟩ := hzz
  refine wpList_buildSlice rfl t e 2 #[(0, x), (1, y)] rfl #[u1, u2] i z hu hi hz (by rw [hsi]; omega) (by rw [hsi]; omega) ?_ (h _ _ (H.rowIn (bel_alloc (Below.refl _ _) _) ⟨rfl, .inr ⟨w.heap.size, 2, #[u1, u2], rfl, Nat.le_refl _, World.alloc_heap_new w _, Nat.le_refl _, by decide, rfl, rfl⟩⟩))
  have hf := Go.Great.fill_whole (s := 1) (by omega) [v1, v2] ((Array.range (2 * i.size)).map (z.cells[· % z.cells.size]!)) (fun u hu => by simp only [List.mem_cons, List.not_mem_nil, or_false] at hu; rcases hu with rfl | rfl; rw [h1]; rfl; rw [h2]; rfl) (by simp [hsi])
  rw [hsi] at hf ⊢
  simp only [List.map_toArray, List.map_cons, List.map_nil, hx, hy]
  simpa [h1, h2] using hf
end
section
variable {ops : Array Oper} {rest : List Oper} {a : Act} {w0 w : World} {Q : Exit → Act → World → Prop} {Γ : List Res} {dst : Option Tmp} {typ : TypeId} {x y : Operand} {pos : String} {af : Array Edge} {s1 s2 : Value} {n1 n2 : Int}
theorem info_bk3 : (Try.prog.info? 24).map (fun i => (i.zero, i.size, i.bytes)) = some (some (.agg #[.slice none 0 0]), 1, 24) := by kernel_rfl
theorem info_int3 : (Try.prog.info? 3).map (fun i => (i.zero, i.size, i.bytes)) = some (some (.int .i64 0), 1, 8) := by kernel_rfl
theorem bs_bk2 (H : St w0 w Γ) (hx : a.eval x = .agg #[s1]) (hy : a.eval y = .agg #[s2]) (h : ∀ w' b, St w0 w' (Res.row 24 1 (.slice (some ⟨b, 0, none⟩) 2 2) 2 [s1, s2] :: Γ) → wpList Try.prog ops Q rest (a.put dst (.slice (some ⟨b, 0, none⟩) 2 2)) w') : wpList Try.prog ops Q (⟨dst, .buildSlice 58 2 #[(0, x), (1, y)], typ, pos, af, none⟩ :: rest) a w :=
  arm_bsl2 H hx hy rfl rfl Try.underlying58 info_bk3 rfl h
theorem bs_in2 (H : St w0 w Γ) (hx : a.eval x = .int .i64 n1) (hy : a.eval y = .int .i64 n2) (h : ∀ w' b, St w0 w' (Res.row 3 1 (.slice (some ⟨b, 0, none⟩) 2 2) [n1, n2].length (encZ [n1, n2]) :: Γ) → wpList Try.prog ops Q rest (a.put dst (.slice (some ⟨b, 0, none⟩) 2 2)) w') : wpList Try.prog ops Q (⟨dst, .buildSlice 65 2 #[(0, x), (1, y)], typ, pos, af, none⟩ :: rest) a w :=
  arm_bsl2 H hx hy rfl rfl Try.underlying65 info_int3 rfl h
theorem bs_bk1 (H : St w0 w Γ) (hx : a.eval x = .agg #[s1]) (h : ∀ w' b, St w0 w' (Res.row 24 1 (.slice (some ⟨b, 0, none⟩) 1 1) 1 [s1] :: Γ) → wpList Try.prog ops Q rest (a.put dst (.slice (some ⟨b, 0, none⟩) 1 1)) w') : wpList Try.prog ops Q (⟨dst, .buildSlice 58 1 #[(0, x)], typ, pos, af, none⟩ :: rest) a w :=
  arm_bslice1 H hx (cs := [s1]) rfl Try.underlying58 info_bk3 rfl rfl (by decide) (by decide) h
theorem bs_in1 (H : St w0 w Γ) (hx : a.eval x = .int .i64 n1) (h : ∀ w' b, St w0 w' (Res.row 3 1 (.slice (some ⟨b, 0, none⟩) 1 1) [n1].length (encZ [n1]) :: Γ) → wpList Try.prog ops Q rest (a.put dst (.slice (some ⟨b, 0, none⟩) 1 1)) w') : wpList Try.prog ops Q (⟨dst, .buildSlice 65 1 #[(0, x)], typ, pos, af, none⟩ :: rest) a w :=
  arm_bslice1 H hx (cs := encZ [n1]) rfl Try.underlying65 info_int3 rfl rfl (by decide) (by decide) h
end
theorem bks_of {w0 w : World} {Γ : List Res} (H : St w0 w Γ) {s : Value} {l : List (BK × Value)} {e : TypeId} (hm : Res.row e 1 s l.length (l.map (·.2)) ∈ Γ) (h : ∀ p ∈ l, Recs w p.2 p.1) : Bks w s (l.map (·.1)) := ⟨l, rfl, H.rowRead hm, h⟩
def s22 : ByteArray := ⟨#[97, 98, 99, 100, 101, 102, 103, 104, 105]⟩
def p22a : ByteArray := ⟨#[97, 98, 99, 100, 101, 102, 103, 104]⟩
def p22b : ByteArray := ⟨#[98, 99, 100, 101, 102, 103, 104, 105]⟩
def aw22B : RD := ⟨k7.1, 0, 0, [(2, 1, 1, s22)]⟩
abbrev aw22 : BK := [aw22B]
theorem aw22M : rMay aw22B = true := by decide +kernel
theorem aw22Mb : bMay aw22 = true := by unfold bMay bMayL bMayL; rw [aw22M]; rfl
theorem aw22W : bWrite [] k7 2 1 s22 = (0, aw22) := by
  have h1 : bLast [] = (0, 0) := rfl
  have h2 : stNext 0 0 1 = (1, 1, 0) := by decide +kernel
  have h3 : rW k7 2 s22 1 1 = aw22B := rfl
  have h4 : bBoth [] aw22 = aw22 := rfl
  have h5 : bCan [] aw22 = 0 := bCan_ok.2 ⟨rfl, aw22Mb, by rw [h4]; decide⟩
  have h6 : bJ [] aw22 = aw22 := by unfold bJ; rw [if_pos h5, h4]
  unfold bWrite
  rw [if_pos ⟨rfl, by decide, by decide, by decide⟩]
  unfold bWithP
  rw [h1]
  dsimp only
  rw [h2]
  dsimp only
  rw [h3, if_pos rfl, if_pos rfl, h5, h6]
theorem aw22V : auValues [aw22, aw22] = [s22] := by decide +kernel
theorem aw22V1 : ([aw22, aw22].flatMap valsB).length ≤ 90000 := by decide +kernel
theorem aw22P : auParts [s22] = [p22a, p22b] := by decide +kernel
theorem aw22P1 : mostL [s22] ≤ 90000 := by decide +kernel
theorem aw22J : auJ [aw22, []] [] [1, 0] = (0, aw22) := by
  have h1 : bCan [] [] = 0 := bCan_ok.2 ⟨rfl, rfl, by decide⟩
  have h2 : bJ [] [] = [] := by unfold bJ; rw [if_pos h1]; rfl
  have h4 : bBoth [] aw22 = aw22 := rfl
  have h5 : bCan [] aw22 = 0 := bCan_ok.2 ⟨rfl, aw22Mb, by rw [h4]; decide⟩
  have h6 : bJ [] aw22 = aw22 := by unfold bJ; rw [if_pos h5, h4]
  unfold auJ
  rw [if_pos (by decide), show bAt [aw22, []] 1 = [] from rfl, if_pos h1, h2]
  unfold auJ
  rw [if_pos (by decide), show bAt [aw22, []] 0 = aw22 from rfl, if_pos h5, h6]
  rfl
theorem aw22N : auJ [aw22] [] [1] = (6, []) := by
  unfold auJ
  rw [if_neg (by decide)]
theorem aw22S : bSame aw22 aw22 = true := (bSame_iff _ _).2 rfl
end Go.Proofs.Ytolbmemogoojhaa
