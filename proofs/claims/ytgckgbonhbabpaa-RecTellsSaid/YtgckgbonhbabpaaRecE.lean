/- A record's cells, put into a map: the code. -/
import Derived.Test.YtgckgbonhbabpaaRecD
import Derived.Test.YtgckgbonhbabpaaMap
import Derived.Test.YtgckgbonhbabpaaFloat
namespace Go.Proofs.Ytgckgbonhbabpaa
open Go Go.RowKit Go.Deep
set_option linter.unusedVariables false
set_option linter.unusedSimpArgs false
set_option maxRecDepth 100000

def encI (n : Int) : Value := .int .i64 n
def cV (c : C3) : Value := .agg #[.int .i64 c.1, .int .i64 c.2.1, .string c.2.2]
def mapF (l : List F4) : List (Int × Value) := l.map fun f => (f.1, cV f.2)
def fPut : List F4 → Int → C3 → List F4
  | [], k, c => [(k, c)]
  | f :: l, k, c => if f.1 = k then (k, c) :: l else f :: fPut l k c
theorem gPut_mapF (k : Int) (c : C3) : ∀ l : List F4, gPut (mapF l) k (cV c) = mapF (fPut l k c)
  | [] => rfl
  | f :: l => by
    have ih := gPut_mapF k c l
    unfold mapF at ih ⊢
    rw [List.map_cons, gPut, fPut]
    by_cases h : f.1 = k
    · rw [if_pos h, if_pos h]; rfl
    · rw [if_neg h, if_neg h, ih]; rfl
theorem gIx_mapF (k : Int) : ∀ l : List F4, (gIx (mapF l) k = none ∧ fFind l k = none) ∨ ∃ j c, gIx (mapF l) k = some (j, cV c) ∧ fFind l k = some c
  | [] => .inl ⟨rfl, rfl⟩
  | f :: l => by
    have ih := gIx_mapF k l
    unfold mapF at ih ⊢
    rw [List.map_cons, gIx, fFind]
    by_cases h : f.1 = k
    · rw [if_pos h, if_pos h]; exact .inr ⟨0, f.2, rfl, rfl⟩
    · rw [if_neg h, if_neg h]
      rcases ih with ⟨h1, h2⟩ | ⟨j, c, h1, h2⟩
      · exact .inl ⟨by rw [h1]; rfl, h2⟩
      · exact .inr ⟨j + 1, c, by rw [h1]; rfl, h2⟩
def putF (m : List F4) (f : F4) : List F4 := match fFind m f.1 with
  | some was => fPut m f.1 (cJ was f.2)
  | none => fPut m f.1 f.2
def putAll (m l : List F4) : List F4 := l.foldl putF m
theorem putAll_take {m l : List F4} {j : Nat} {f : F4} (h : l[j]? = some f) : putAll m (l.take (j + 1)) = putF (putAll m (l.take j)) f := by
  rw [List.take_add_one, h]; simp [putAll]
/-- No text is too long for a digest. -/
def Small (l : List F4) : Prop := ∀ f ∈ l, f.2.2.2.size ≤ 80000
theorem cJ_small {a b : C3} (ha : a.2.2.size ≤ 80000) (hb : b.2.2.size ≤ 80000) : (cJ a b).2.2.size ≤ 80000 := by
  rcases cJ_pick a b with h | h <;> rw [h] <;> assumption
theorem fFind_mem : ∀ {l : List F4} {k : Int} {c : C3}, fFind l k = some c → (k, c) ∈ l
  | f :: l, k, c, h => by
    unfold fFind at h
    split at h
    · rename_i hk
      simp only [Option.some.injEq] at h
      subst h; subst hk; exact List.mem_cons_self
    · exact List.mem_cons_of_mem _ (fFind_mem h)
theorem fPut_mem : ∀ {l : List F4} {k : Int} {c : C3} {f : F4}, f ∈ fPut l k c → f ∈ l ∨ f = (k, c)
  | [], k, c, f, h => by simp [fPut] at h; exact .inr h
  | g :: l, k, c, f, h => by
    unfold fPut at h
    split at h
    · rcases List.mem_cons.1 h with rfl | h
      · exact .inr rfl
      · exact .inl (List.mem_cons_of_mem _ h)
    · rcases List.mem_cons.1 h with rfl | h
      · exact .inl List.mem_cons_self
      · rcases fPut_mem h with h | h
        · exact .inl (List.mem_cons_of_mem _ h)
        · exact .inr h
theorem putF_small {m : List F4} {f : F4} (hm : Small m) (hf : f.2.2.2.size ≤ 80000) : Small (putF m f) := by
  intro g hg
  unfold putF at hg
  split at hg
  · rename_i was h
    rcases fPut_mem hg with h1 | rfl
    · exact hm g h1
    · exact cJ_small (hm _ (fFind_mem h)) hf
  · rcases fPut_mem hg with h1 | rfl
    · exact hm g h1
    · exact hf
theorem putAll_small : ∀ {l m : List F4}, Small m → Small l → Small (putAll m l)
  | [], m, hm, _ => hm
  | f :: l, m, hm, hl => putAll_small (l := l) (putF_small hm (hl f List.mem_cons_self)) fun g hg => hl g (List.mem_cons_of_mem _ hg)
theorem MapAt.ne {w : World} {b b' o : Nat} {κ : Type} {enc : κ → Value} {m : List (κ × Value)} {u : Value} (h : MapAt w b enc m) (hc : w.cell? ⟨b', o, none⟩ = some u) : b' ≠ b := by
  rintro rfl
  obtain ⟨es, c, hb, _⟩ := h
  unfold World.cell? at hc
  simp [hb] at hc
theorem zero_cell (w : World) : (zeroValue 25).run Try.prog w = .ok (.agg #[.int .i64 0, .int .i64 0, .string ⟨#[]⟩]) w := by kernel_rfl
theorem gath : Try.prog.underlying 86 = some (.map 3 25) := by kernel_rfl
theorem keyI : KeyOk Try.prog 3 encI := int_key Try.underlying3
theorem cjoin_cv {a b c : C3} (h : cJ a b = c) (ha : a.2.2.size ≤ 80000) (hb : b.2.2.size ≤ 80000) (w : World) : Calls Try.prog 27 #[.agg #[.int .i64 a.1, .int .i64 a.2.1, .string a.2.2], .agg #[.int .i64 b.1, .int .i64 b.2.1, .string b.2.2]] w fun e w' => e = .returned (.agg #[.int .i64 c.1, .int .i64 c.2.1, .string c.2.2]) ∧ Below w.heap.size w w' := by
  obtain ⟨N, R, s⟩ := a; obtain ⟨N', R', s'⟩ := b; obtain ⟨X, Y, t⟩ := c
  exact cjoin_r h ha hb w
set_option maxHeartbeats 3200000 in
theorem gput_c (b : Nat) (m : List F4) (A : Array Value) (hA : A.size = 16) (N R : Int) (v : Value) (l : List F4) (w : World) (hm : MapAt w b encI (mapF m)) (hv : Flds w v l) (sm : Small m) (sl : Small l) :
    Calls Try.prog 71 #[.map (some b), .agg (recA A N R v)] w fun e w' => (∃ u, e = .returned u) ∧ MapAt w' b encI (mapF (putAll m l)) ∧ But b w w' := by
  have hAc := @after_cell
  have hAf := @after_frozen
  have hSz := sz_facts
  have hlen1 := len_row (ti := 0) hv Try.underlying52
  obtain ⟨_, a, c, rfl, q1, hm1, _⟩ := id hv
  unfold maxLen at hm1
  obtain ⟨n, hn⟩ : ∃ n, l.length = n := ⟨_, rfl⟩
  rw [hn] at hlen1 q1 hv ⊢
  have hbox : ∀ w1, Blk w1 w.heap.size 54 (recA A N R (.slice a n c)) → _ := fun w1 k => rec_cells k hA
  have Hv := Lib.hid hv; have Hn := Lib.hid hn; have Hm := Lib.hid hm; have Sm := Lib.hid sm; have Sl := Lib.hid sl
  clear hv hn hm sm sl
  go_enter Try.func71, Try.ntmps71
  go_wp2_with ((fail_if_success have := k1); refine wpList_box_blk rfl 54 _ rfl _ rfl (recA A N R (.slice a n c)) rfl ?_; intro w1 k1 b1 s1; obtain ⟨c16, c17, c18, csub, call⟩ := hbox w1 k1; clear hbox)
  have Hm1 : Hid (MapAt w1 b encI (mapF m)) := Lib.hid (Hm.out.below b1 Hm.out.lt)
  have B1 := Lib.hid b1; have S1 := Lib.hid s1
  clear k1 c16 c17 c18 csub call b1 s1
  go_loopw [11] (fun i wr => ∃ j : Nat, j ≤ n ∧ i = .int .i64 j ∧ Hid (MapAt wr b encI (mapF (putAll m (l.take j)))) ∧ Hid (But b w1 wr)) (fun i _ => n - (intOf i).toNat)
  case atStart => exact ⟨0, by omega, rfl, by rw [List.take_zero]; exact Hm1, Lib.hid (But.refl _ _)⟩
  case round =>
    obtain ⟨j, hj, rfl, M, B⟩ := hrel
    by_cases hlt : j < n
    · obtain ⟨⟨i', cN, cR, cS⟩, hf⟩ : ∃ f, l[j]? = some f := ⟨_, List.getElem?_eq_getElem (by rw [Hn.out]; exact hlt)⟩
      obtain ⟨bf, off, rfl, hbw, g0, g1, g2, g3⟩ := Hv.out.at hf
      have hbne : bf ≠ b := Hm.out.ne g0
      have hbw1 : bf < w1.heap.size := by have := S1.out; omega
      have mv : ∀ o u, w.cell? ⟨bf, o, none⟩ = some u → wr.cell? ⟨bf, o, none⟩ = some u := fun o u h => (B.out.cell (p := ⟨bf, o, none⟩) hbw1 hbne).trans (cell_below B1.out _ _ _ h)
      have g0 := mv _ _ g0
      have g1 := mv _ _ g1
      have g2 := mv _ _ g2
      have g3 := mv _ _ g3
      dsimp only at g0 g1 g2 g3
      clear mv
      have Hst := Lib.hid (putAll_take (m := m) hf)
      have Hsz : Hid (cS.size ≤ 80000) := Lib.hid (Sl.out _ (List.mem_of_getElem? hf))
      clear hf
      obtain ⟨M', hM'⟩ : ∃ M', Hid (putAll m (l.take j) = M') := ⟨_, rfl⟩
      have sM : Hid (Small M') := Lib.hid (by rw [← hM'.out]; exact putAll_small Sm.out fun f hf => Sl.out f (List.mem_of_mem_take hf))
      rw [hM'.out] at M Hst
      have hbr := szl (a := bf) (b := wr.heap.size) (by have := B.out.size; omega)
      rcases gIx_mapF i' M' with ⟨h1, h2⟩ | ⟨jj, ⟨wN, wR, wS⟩, h1, h2⟩
      · have Hg := Lib.hid h1
        have Hnext : Hid (gPut (mapF M') i' (cV (cN, cR, cS)) = mapF (putAll m (l.take (j + 1)))) := Lib.hid (by rw [gPut_mapF, Hst.out]; unfold putF; rw [h2])
        clear h1 h2
        go_wp2_with (first | (refine wpList_lookup_map rfl 86 3 25 _ _ rfl _ rfl rfl i' rfl (M.out.below (B := wr.heap.size) (by (repeat (first | exact Below.refl _ _ | assumption | refine bel_alloc ?_ _ | refine bel_after _ ?_ | refine bel_drewN ?_ _ | refine bel_drew ?_ | refine bel_set ?_ (by first | omega | (simp only [World.size_alloc, World.size_drew, World.size_setCell]; omega) | (simp; omega)) _))) M.out.lt) keyI gath _ zero_cell ?_; simp only [Hg.out]) | (refine wpList_update_map rfl 86 3 25 _ _ _ rfl _ rfl rfl i' rfl (cV (cN, cR, cS)) rfl (M.out.below (B := wr.heap.size) (by (repeat (first | exact Below.refl _ _ | assumption | refine bel_alloc ?_ _ | refine bel_after _ ?_ | refine bel_drewN ?_ _ | refine bel_drew ?_ | refine bel_set ?_ (by first | omega | (simp only [World.size_alloc, World.size_drew, World.size_setCell]; omega) | (simp; omega)) _))) M.out.lt) keyI gath ?_; intro w3 M3 B3 s3; rw [Hnext.out] at M3; have HM3 := Lib.hid M3; have HB3 := Lib.hid B3; clear M3 B3))
        go_roundw
        case rel => exact ⟨j + 1, by omega, by go_num, HM3, Lib.hid ((B.out.trans (But.of_below (by (repeat (first | exact Below.refl _ _ | assumption | refine bel_alloc ?_ _ | refine bel_after _ ?_ | refine bel_drewN ?_ _ | refine bel_drew ?_ | refine bel_set ?_ (by first | omega | (simp only [World.size_alloc, World.size_drew, World.size_setCell]; omega) | (simp; omega)) _))))).trans HB3.out)⟩
        case measure => simp [intOf]; omega
      · have Hg := Lib.hid h1
        obtain ⟨jc, hjc⟩ : ∃ jc, Hid (cJ (wN, wR, wS) (cN, cR, cS) = jc) := ⟨_, rfl⟩
        have Hws : Hid (wS.size ≤ 80000) := Lib.hid (sM.out _ (fFind_mem h2))
        have Hnext : Hid (gPut (mapF M') i' (cV jc) = mapF (putAll m (l.take (j + 1)))) := Lib.hid (by rw [gPut_mapF, Hst.out]; unfold putF; rw [h2]; simp only; rw [hjc.out])
        clear h1 h2
        go_wp2_with (refine wpList_lookup_map rfl 86 3 25 _ _ rfl _ rfl rfl i' rfl (M.out.below (B := wr.heap.size) (by (repeat (first | exact Below.refl _ _ | assumption | refine bel_alloc ?_ _ | refine bel_after _ ?_ | refine bel_drewN ?_ _ | refine bel_drew ?_ | refine bel_set ?_ (by first | omega | (simp only [World.size_alloc, World.size_drew, World.size_setCell]; omega) | (simp; omega)) _))) M.out.lt) keyI gath _ zero_cell ?_; simp only [Hg.out, cV])
        refine wp_quiet_tail (C := fun w' => ∃ x : After _, w' = x.w) 7 (by kernel_rfl) (by kernel_rfl) (since_drew _) ?_
        simp only [List.take_succ_cons, List.take_zero, List.drop_succ_cons, List.drop_zero]
        repeat (go_big_quiet_step ((go_at_call 27; with_reducible exact after_call _ (cjoin_cv hjc.out Hws.out Hsz.out _))))
        refine wpQuiet_nil ?_
        rintro _ ⟨x2, rfl⟩
        refine wpList_update_map rfl 86 3 25 _ _ _ rfl _ rfl rfl i' rfl (cV jc) rfl (M.out.below (B := wr.heap.size) (by (repeat (first | exact Below.refl _ _ | assumption | refine bel_alloc ?_ _ | refine bel_after _ ?_ | refine bel_drewN ?_ _ | refine bel_drew ?_ | refine bel_set ?_ (by first | omega | (simp only [World.size_alloc, World.size_drew, World.size_setCell]; omega) | (simp; omega)) _))) M.out.lt) keyI gath ?_
        intro w3 M3 B3 s3
        rw [Hnext.out] at M3
        have HM3 := Lib.hid M3
        have HB3 := Lib.hid B3
        clear M3 B3
        go_wp2
        go_roundw
        case rel => exact ⟨j + 1, by omega, by go_num, HM3, Lib.hid ((B.out.trans (But.of_below (by (repeat (first | exact Below.refl _ _ | assumption | refine bel_alloc ?_ _ | refine bel_after _ ?_ | refine bel_drewN ?_ _ | refine bel_drew ?_ | refine bel_set ?_ (by first | omega | (simp only [World.size_alloc, World.size_drew, World.size_setCell]; omega) | (simp; omega)) _))))).trans HB3.out)⟩
        case measure => simp [intOf]; omega
    · have hjn : j = n := by omega
      subst hjn
      have Hend : Hid (MapAt wr b encI (mapF (putAll m l))) := by
        have := M.out
        rw [List.take_of_length_le (by rw [Hn.out]; exact Nat.le_refl _)] at this
        exact Lib.hid this
      have HE : Hid (But b w wr) := Lib.hid ((But.of_below B1.out).trans B.out)
      go_wp2
      go_end0
      exact ⟨⟨_, rfl⟩, Hend.out, HE.out⟩
end Go.Proofs.Ytgckgbonhbabpaa
