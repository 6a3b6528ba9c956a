/- The document's books: a value more, a record dead. -/
import Derived.Test.YtolbmemogoojhaaGreatURbE
namespace Go.Proofs.YtolbmemogoojhaaGreat
open Go Go.RowKit Go.Deep
set_option linter.unusedVariables false
set_option linter.unusedSimpArgs false
set_option maxRecDepth 100000
section
variable {ops : Array Oper} {rest : List Oper} {a : Act} {w : World} {Q : Exit → Act → World → Prop} {dst : Option Tmp} {typ : TypeId} {pos : String} {af : Array Edge}
theorem bd_stp0 (h : wpList Tryz.prog ops Q rest (a.put dst (.agg #[.int .i64 0, .int .i64 0])) w) : wpList Tryz.prog ops Q (⟨dst, .build 30 #[], typ, pos, af, none⟩ :: rest) a w :=
  wpList_build_to rfl 30 #[] rfl dst rfl _ (by kernel_rfl) h
end
theorem rnext_m (N R rep a b c : Int) (h : stNext N R rep = (a, b, c)) (w : World) : Calls Tryz.prog 62 #[.agg #[.int .i64 N, .int .i64 R], .int .i64 rep] w fun e w' =>
    e = .returned (.tuple #[.agg #[.int .i64 a, .int .i64 b], .int .i64 c]) ∧ Below w.heap.size w w' :=
  (rnext_c N R rep w).mono fun e w' h1 => by unfold NextIs at h1; rw [h] at h1; exact h1
set_option maxHeartbeats 6400000 in
theorem rblast_c (v : Value) (L : BK) (w : World) (hv : Recs w v L) : Calls Tryz.prog 63 #[.agg #[v]] w fun e w' => e = .returned (.agg #[.int .i64 (bLast L).1, .int .i64 (bLast L).2]) ∧ Below w.heap.size w w' := by
  obtain ⟨n, hn⟩ : ∃ n, L.length = n := ⟨_, rfl⟩
  obtain ⟨a, c, rfl, hm1, _⟩ := id hv.slice
  rw [hn] at hv hm1 ⊢
  unfold maxLen at hm1
  have Hv := Lib.hid hv; have Hn := Lib.hid hn; clear hv hn
  have H := St.init w
  go_enter Tryz.func63, Tryz.ntmps63
  go_wp2_with (first | go_skip | ((fail_if_success have := kB); (with_reducible apply arm_box H); rfl; clear H; intro wn kB H) | ((fail_if_success have := k2); (with_reducible apply al_stp H); clear H; intro wn k2 H) | ((fail_if_success have := k3); (with_reducible apply al_stp H); clear H; intro wn k3 H) | ((with_reducible apply ld_stp); rfl; rfl; (focus (apply H.arr; (repeat (first | with_reducible exact List.mem_cons_self | with_reducible apply List.mem_cons_of_mem)); done))) | ((with_reducible apply st_stamp H); rfl; rfl; rfl; (repeat (first | with_reducible apply Upd.head | with_reducible apply Upd.tail)); clear H; intro wn H) | ((with_reducible apply bd_stp0)))
  go_loopw [4] (fun i wr => ∃ (j : Nat) (N R : Int), j ≤ n ∧ i = .int .i64 j ∧ Hid (bLast L = (L.drop j).foldl rLast (N, R)) ∧ St w wr [Res.blk k3 30 #[.int .i64 N, .int .i64 R], Res.blk k2 30 #[.int .i64 0, .int .i64 0], Res.blk kB 24 #[.slice a n c]]) (fun i _ => n - (intOf i).toNat)
  case atStart => exact ⟨0, 0, 0, by omega, rfl, Lib.hid rfl, H⟩
  case round =>
    clear H
    obtain ⟨j, N, R, hj, rfl, I, H⟩ := hrel
    by_cases hlt : j < n
    · obtain ⟨r, hr⟩ : ∃ r, L[j]? = some r := ⟨_, List.getElem?_eq_getElem (by rw [Hn.out]; exact hlt)⟩
      obtain ⟨b, off, s, rfl, hbw, G, hf⟩ := Hv.out.at hr
      have Hst := Lib.hid (drop_at hr)
      obtain ⟨nf, hnf⟩ : ∃ nf, r.f.length = nf := ⟨_, rfl⟩
      obtain ⟨_, fa, fc, rfl, hc1, hc2, _⟩ := id hf
      rw [hnf] at hf hc1 G
      unfold maxLen at hc2
      have Hf := Lib.hid hf; have Hnf := Lib.hid hnf
      obtain ⟨X, hX⟩ : ∃ x, Hid (mxN N R r.N r.R = x) := ⟨_, rfl⟩
      obtain ⟨Y, hY⟩ : ∃ x, Hid (mxR N R r.N r.R = x) := ⟨_, rfl⟩
      have HX := hX; have HY := hY
      have I1 : Hid (bLast L = (L.drop (j + 1)).foldl rLast (fLast (X, Y) r.f)) := Lib.hid (by rw [I.out, Hst.out, ← hX.out, ← hY.out]; rfl)
      clear hf hr hbw hnf hX hY
      go_wp2_with (first | go_skip | ((with_reducible apply ld_one (ty := 22) Tryz.underlying22 rfl); rfl; rfl; (focus (apply H.one; (repeat (first | with_reducible exact List.mem_cons_self | with_reducible apply List.mem_cons_of_mem)); done))) | ((with_reducible apply ld_dead); rfl; rfl; (first | (focus (apply H.rc; (repeat (first | with_reducible exact List.mem_cons_self | with_reducible apply List.mem_cons_of_mem)); done)) | (apply RecAt.bel (hb := H.bel); assumption))) | ((with_reducible apply ld_F); rfl; rfl; (first | (focus (apply H.rc; (repeat (first | with_reducible exact List.mem_cons_self | with_reducible apply List.mem_cons_of_mem)); done)) | (apply RecAt.bel (hb := H.bel); assumption))) | ((with_reducible apply ld_fstamp); rfl; rfl; (first | (focus (apply H.fld; (repeat (first | with_reducible exact List.mem_cons_self | with_reducible apply List.mem_cons_of_mem)); done)) | (apply FldAt.bel (hb := H.bel); assumption))) | ((with_reducible apply ld_stp); rfl; rfl; (focus (apply H.arr; (repeat (first | with_reducible exact List.mem_cons_self | with_reducible apply List.mem_cons_of_mem)); done))))
      (try simp only [Act.put, List.setIfInBounds_toArray, List.set_cons_zero, List.set_cons_succ])
      refine wp_slotsM [⟨some 14, [], fun _ v => v = .agg #[.int .i64 N, .int .i64 R]⟩, ⟨some 15, [], fun _ v => v = .pointer (some ⟨kB, 0, none⟩)⟩, ⟨some 16, [(1, 15)], fun _ v => v = .slice (some ⟨b, off, none⟩) n c⟩, ⟨some 17, [], fun _ v => v = .int .i64 (j : Int)⟩, ⟨some 18, [(2, 16), (3, 17)], fun _ v => v = .pointer (some ⟨b, off + j * 19, none⟩)⟩, ⟨some 19, [(4, 18)], fun _ v => v = .pointer (some ⟨b, off + j * 19 + 16, none⟩)⟩, ⟨some 20, [(5, 19)], fun _ v => v = .agg #[.int .i64 r.N, .int .i64 r.R]⟩, ⟨some 21, [(0, 14), (6, 20)], fun _ v => v = .agg #[.int .i64 X, .int .i64 Y]⟩] [14, 15, 16, 17, 18, 19, 20, 21] (false :: false :: false :: false :: false :: false :: false :: false :: false :: false :: false :: false :: false :: false :: true :: true :: true :: true :: true :: true :: true :: true :: []) [(some 14, []), (some 15, []), (some 16, [(1, 15)]), (some 17, []), (some 18, [(2, 16), (3, 17)]), (some 19, [(4, 18)]), (some 20, [(5, 19)]), (some 21, [(0, 14), (6, 20)])] rfl (by kernel_rfl) (by kernel_rfl) (by rfl) (by rfl) ?_ ?_ ?_
      · exact stable_cons (fun _ _ _ _ h => h) (stable_cons (fun _ _ _ _ h => h) (stable_cons (fun _ _ _ _ h => h) (stable_cons (fun _ _ _ _ h => h) (stable_cons (fun _ _ _ _ h => h) (stable_cons (fun _ _ _ _ h => h) (stable_cons (fun _ _ _ _ h => h) (stable_cons (fun _ _ _ _ h => h) (stable_nil))))))))
      · refine hops_cons ?_ (hops_cons ?_ (hops_cons ?_ (hops_cons ?_ (hops_cons ?_ (hops_cons ?_ (hops_cons ?_ (hops_cons ?_ (trivial))))))))
        · unfold HopM; intro u wn hb hk; have H0 := H; replace H := H.call hb
          simp only [fillM]
          go_wp2_with (first | go_skip | ((with_reducible apply ld_one (ty := 22) Tryz.underlying22 rfl); rfl; rfl; (focus (apply H.one; (repeat (first | with_reducible exact List.mem_cons_self | with_reducible apply List.mem_cons_of_mem)); done))) | ((with_reducible apply ld_dead); rfl; rfl; (first | (focus (apply H.rc; (repeat (first | with_reducible exact List.mem_cons_self | with_reducible apply List.mem_cons_of_mem)); done)) | (apply RecAt.bel (hb := H.bel); assumption))) | ((with_reducible apply ld_F); rfl; rfl; (first | (focus (apply H.rc; (repeat (first | with_reducible exact List.mem_cons_self | with_reducible apply List.mem_cons_of_mem)); done)) | (apply RecAt.bel (hb := H.bel); assumption))) | ((with_reducible apply ld_fstamp); rfl; rfl; (first | (focus (apply H.fld; (repeat (first | with_reducible exact List.mem_cons_self | with_reducible apply List.mem_cons_of_mem)); done)) | (apply FldAt.bel (hb := H.bel); assumption))) | ((with_reducible apply ld_stp); rfl; rfl; (focus (apply H.arr; (repeat (first | with_reducible exact List.mem_cons_self | with_reducible apply List.mem_cons_of_mem)); done))))
          exact ⟨rfl, Below.refl _ _, .agg #[.int .i64 N, .int .i64 R], rfl, rfl⟩
        · unfold HopM; intro u wn hb hk; have H0 := H; replace H := H.call hb
          simp only [fillM]
          go_wp2_with (first | go_skip | ((with_reducible apply ld_one (ty := 22) Tryz.underlying22 rfl); rfl; rfl; (focus (apply H.one; (repeat (first | with_reducible exact List.mem_cons_self | with_reducible apply List.mem_cons_of_mem)); done))) | ((with_reducible apply ld_dead); rfl; rfl; (first | (focus (apply H.rc; (repeat (first | with_reducible exact List.mem_cons_self | with_reducible apply List.mem_cons_of_mem)); done)) | (apply RecAt.bel (hb := H.bel); assumption))) | ((with_reducible apply ld_F); rfl; rfl; (first | (focus (apply H.rc; (repeat (first | with_reducible exact List.mem_cons_self | with_reducible apply List.mem_cons_of_mem)); done)) | (apply RecAt.bel (hb := H.bel); assumption))) | ((with_reducible apply ld_fstamp); rfl; rfl; (first | (focus (apply H.fld; (repeat (first | with_reducible exact List.mem_cons_self | with_reducible apply List.mem_cons_of_mem)); done)) | (apply FldAt.bel (hb := H.bel); assumption))) | ((with_reducible apply ld_stp); rfl; rfl; (focus (apply H.arr; (repeat (first | with_reducible exact List.mem_cons_self | with_reducible apply List.mem_cons_of_mem)); done))))
          exact ⟨rfl, Below.refl _ _, .pointer (some ⟨kB, 0, none⟩), rfl, rfl⟩
        · unfold HopM; intro u wn hb hk; have H0 := H; replace H := H.call hb
          obtain ⟨hq1, -⟩ := hk
          replace hq1 := hq1 _ rfl; dsimp only at hq1
          simp only [fillM, hq1]
          clear hq1
          go_wp2_with (first | go_skip | ((with_reducible apply ld_one (ty := 22) Tryz.underlying22 rfl); rfl; rfl; (focus (apply H.one; (repeat (first | with_reducible exact List.mem_cons_self | with_reducible apply List.mem_cons_of_mem)); done))) | ((with_reducible apply ld_dead); rfl; rfl; (first | (focus (apply H.rc; (repeat (first | with_reducible exact List.mem_cons_self | with_reducible apply List.mem_cons_of_mem)); done)) | (apply RecAt.bel (hb := H.bel); assumption))) | ((with_reducible apply ld_F); rfl; rfl; (first | (focus (apply H.rc; (repeat (first | with_reducible exact List.mem_cons_self | with_reducible apply List.mem_cons_of_mem)); done)) | (apply RecAt.bel (hb := H.bel); assumption))) | ((with_reducible apply ld_fstamp); rfl; rfl; (first | (focus (apply H.fld; (repeat (first | with_reducible exact List.mem_cons_self | with_reducible apply List.mem_cons_of_mem)); done)) | (apply FldAt.bel (hb := H.bel); assumption))) | ((with_reducible apply ld_stp); rfl; rfl; (focus (apply H.arr; (repeat (first | with_reducible exact List.mem_cons_self | with_reducible apply List.mem_cons_of_mem)); done))))
          exact ⟨rfl, Below.refl _ _, .slice (some ⟨b, off, none⟩) n c, rfl, rfl⟩
        · unfold HopM; intro u wn hb hk; have H0 := H; replace H := H.call hb
          simp only [fillM]
          go_wp2_with (first | go_skip | ((with_reducible apply ld_one (ty := 22) Tryz.underlying22 rfl); rfl; rfl; (focus (apply H.one; (repeat (first | with_reducible exact List.mem_cons_self | with_reducible apply List.mem_cons_of_mem)); done))) | ((with_reducible apply ld_dead); rfl; rfl; (first | (focus (apply H.rc; (repeat (first | with_reducible exact List.mem_cons_self | with_reducible apply List.mem_cons_of_mem)); done)) | (apply RecAt.bel (hb := H.bel); assumption))) | ((with_reducible apply ld_F); rfl; rfl; (first | (focus (apply H.rc; (repeat (first | with_reducible exact List.mem_cons_self | with_reducible apply List.mem_cons_of_mem)); done)) | (apply RecAt.bel (hb := H.bel); assumption))) | ((with_reducible apply ld_fstamp); rfl; rfl; (first | (focus (apply H.fld; (repeat (first | with_reducible exact List.mem_cons_self | with_reducible apply List.mem_cons_of_mem)); done)) | (apply FldAt.bel (hb := H.bel); assumption))) | ((with_reducible apply ld_stp); rfl; rfl; (focus (apply H.arr; (repeat (first | with_reducible exact List.mem_cons_self | with_reducible apply List.mem_cons_of_mem)); done))))
          exact ⟨rfl, Below.refl _ _, .int .i64 (j : Int), rfl, rfl⟩
        · unfold HopM; intro u wn hb hk; have H0 := H; replace H := H.call hb
          obtain ⟨hq2, hq3, -⟩ := hk
          replace hq2 := hq2 _ rfl; dsimp only at hq2
          replace hq3 := hq3 _ rfl; dsimp only at hq3
          simp only [fillM, hq2, hq3]
          clear hq2 hq3
          go_wp2_with (first | go_skip | ((with_reducible apply ld_one (ty := 22) Tryz.underlying22 rfl); rfl; rfl; (focus (apply H.one; (repeat (first | with_reducible exact List.mem_cons_self | with_reducible apply List.mem_cons_of_mem)); done))) | ((with_reducible apply ld_dead); rfl; rfl; (first | (focus (apply H.rc; (repeat (first | with_reducible exact List.mem_cons_self | with_reducible apply List.mem_cons_of_mem)); done)) | (apply RecAt.bel (hb := H.bel); assumption))) | ((with_reducible apply ld_F); rfl; rfl; (first | (focus (apply H.rc; (repeat (first | with_reducible exact List.mem_cons_self | with_reducible apply List.mem_cons_of_mem)); done)) | (apply RecAt.bel (hb := H.bel); assumption))) | ((with_reducible apply ld_fstamp); rfl; rfl; (first | (focus (apply H.fld; (repeat (first | with_reducible exact List.mem_cons_self | with_reducible apply List.mem_cons_of_mem)); done)) | (apply FldAt.bel (hb := H.bel); assumption))) | ((with_reducible apply ld_stp); rfl; rfl; (focus (apply H.arr; (repeat (first | with_reducible exact List.mem_cons_self | with_reducible apply List.mem_cons_of_mem)); done))))
          exact ⟨rfl, Below.refl _ _, .pointer (some ⟨b, off + j * 19, none⟩), rfl, rfl⟩
        · unfold HopM; intro u wn hb hk; have H0 := H; replace H := H.call hb
          obtain ⟨hq4, -⟩ := hk
          replace hq4 := hq4 _ rfl; dsimp only at hq4
          simp only [fillM, hq4]
          clear hq4
          go_wp2_with (first | go_skip | ((with_reducible apply ld_one (ty := 22) Tryz.underlying22 rfl); rfl; rfl; (focus (apply H.one; (repeat (first | with_reducible exact List.mem_cons_self | with_reducible apply List.mem_cons_of_mem)); done))) | ((with_reducible apply ld_dead); rfl; rfl; (first | (focus (apply H.rc; (repeat (first | with_reducible exact List.mem_cons_self | with_reducible apply List.mem_cons_of_mem)); done)) | (apply RecAt.bel (hb := H.bel); assumption))) | ((with_reducible apply ld_F); rfl; rfl; (first | (focus (apply H.rc; (repeat (first | with_reducible exact List.mem_cons_self | with_reducible apply List.mem_cons_of_mem)); done)) | (apply RecAt.bel (hb := H.bel); assumption))) | ((with_reducible apply ld_fstamp); rfl; rfl; (first | (focus (apply H.fld; (repeat (first | with_reducible exact List.mem_cons_self | with_reducible apply List.mem_cons_of_mem)); done)) | (apply FldAt.bel (hb := H.bel); assumption))) | ((with_reducible apply ld_stp); rfl; rfl; (focus (apply H.arr; (repeat (first | with_reducible exact List.mem_cons_self | with_reducible apply List.mem_cons_of_mem)); done))))
          exact ⟨rfl, Below.refl _ _, .pointer (some ⟨b, off + j * 19 + 16, none⟩), rfl, rfl⟩
        · unfold HopM; intro u wn hb hk; have H0 := H; replace H := H.call hb
          obtain ⟨hq5, -⟩ := hk
          replace hq5 := hq5 _ rfl; dsimp only at hq5
          simp only [fillM, hq5]
          clear hq5
          go_wp2_with (first | go_skip | ((with_reducible apply ld_one (ty := 22) Tryz.underlying22 rfl); rfl; rfl; (focus (apply H.one; (repeat (first | with_reducible exact List.mem_cons_self | with_reducible apply List.mem_cons_of_mem)); done))) | ((with_reducible apply ld_dead); rfl; rfl; (first | (focus (apply H.rc; (repeat (first | with_reducible exact List.mem_cons_self | with_reducible apply List.mem_cons_of_mem)); done)) | (apply RecAt.bel (hb := H.bel); assumption))) | ((with_reducible apply ld_F); rfl; rfl; (first | (focus (apply H.rc; (repeat (first | with_reducible exact List.mem_cons_self | with_reducible apply List.mem_cons_of_mem)); done)) | (apply RecAt.bel (hb := H.bel); assumption))) | ((with_reducible apply ld_fstamp); rfl; rfl; (first | (focus (apply H.fld; (repeat (first | with_reducible exact List.mem_cons_self | with_reducible apply List.mem_cons_of_mem)); done)) | (apply FldAt.bel (hb := H.bel); assumption))) | ((with_reducible apply ld_stp); rfl; rfl; (focus (apply H.arr; (repeat (first | with_reducible exact List.mem_cons_self | with_reducible apply List.mem_cons_of_mem)); done))))
          exact ⟨rfl, Below.refl _ _, .agg #[.int .i64 r.N, .int .i64 r.R], rfl, rfl⟩
        · unfold HopM; intro u wn hb hk; have H0 := H; replace H := H.call hb
          obtain ⟨hq0, hq6, -⟩ := hk
          replace hq0 := hq0 _ rfl; dsimp only at hq0
          replace hq6 := hq6 _ rfl; dsimp only at hq6
          simp only [fillM, hq0, hq6]
          clear hq0 hq6
          go_wp2_with (first | go_skip | (go_at_call 103; (with_reducible refine (rsmax_v HX.out HY.out _).mono ?_); rintro e wm ⟨rfl, hbb⟩))
          exact ⟨rfl, hbb, _, rfl, rfl⟩
      intro u wn hb hk; have H0 := H; replace H := H.call hb
      obtain ⟨hq0, hq1, hq2, hq3, hq4, hq5, hq6, hq7, -⟩ := hk
      replace hq0 := hq0 _ rfl; dsimp only at hq0
      replace hq1 := hq1 _ rfl; dsimp only at hq1
      replace hq2 := hq2 _ rfl; dsimp only at hq2
      replace hq3 := hq3 _ rfl; dsimp only at hq3
      replace hq4 := hq4 _ rfl; dsimp only at hq4
      replace hq5 := hq5 _ rfl; dsimp only at hq5
      replace hq6 := hq6 _ rfl; dsimp only at hq6
      replace hq7 := hq7 _ rfl; dsimp only at hq7
      simp only [fillM, List.length_cons, List.length_nil, Nat.reduceAdd, List.drop_succ_cons, List.drop_zero, hq0, hq1, hq2, hq3, hq4, hq5, hq6, hq7]
      clear hb H0 hq0 hq1 hq2 hq3 hq4 hq5 hq6 hq7
      go_wp2_with (first | go_skip | ((with_reducible apply st_stamp H); rfl; rfl; rfl; (repeat (first | with_reducible apply Upd.head | with_reducible apply Upd.tail)); clear H; intro wn H))
      clear HX HY
      go_loopw [5] (fun i wr => ∃ (k : Nat) (N R : Int), k ≤ nf ∧ i = .int .i64 k ∧ Hid (bLast L = (L.drop (j + 1)).foldl rLast (fLast (N, R) (r.f.drop k))) ∧ St w wr [Res.blk k3 30 #[.int .i64 N, .int .i64 R], Res.blk k2 30 #[.int .i64 0, .int .i64 0], Res.blk kB 24 #[.slice (some ⟨b, off, none⟩) n c]]) (fun i _ => nf - (intOf i).toNat)
      case atStart => exact ⟨0, X, Y, by omega, rfl, I1, H⟩
      case round =>
        clear H I1
        obtain ⟨k, N', R', hk, rfl, I2, H⟩ := hrel
        by_cases hkl : k < nf
        · obtain ⟨f, hfk⟩ : ∃ f, r.f[k]? = some f := ⟨_, List.getElem?_eq_getElem (by rw [Hnf.out]; exact hkl)⟩
          obtain ⟨b2, off2, rfl, G2⟩ := fldat_of Hf.out hfk
          have Hst2 := Lib.hid (drop_at hfk)
          obtain ⟨X, hX⟩ : ∃ x, Hid (mxN N' R' f.2.1 f.2.2.1 = x) := ⟨_, rfl⟩
          obtain ⟨Y, hY⟩ : ∃ x, Hid (mxR N' R' f.2.1 f.2.2.1 = x) := ⟨_, rfl⟩
          have HX := hX; have HY := hY
          have I3 : Hid (bLast L = (L.drop (j + 1)).foldl rLast (fLast (X, Y) (r.f.drop (k + 1)))) := Lib.hid (by rw [I2.out, Hst2.out, ← hX.out, ← hY.out]; rfl)
          clear hfk hX hY
          go_wp2_with (first | go_skip | ((with_reducible apply ld_one (ty := 22) Tryz.underlying22 rfl); rfl; rfl; (focus (apply H.one; (repeat (first | with_reducible exact List.mem_cons_self | with_reducible apply List.mem_cons_of_mem)); done))) | ((with_reducible apply ld_dead); rfl; rfl; (first | (focus (apply H.rc; (repeat (first | with_reducible exact List.mem_cons_self | with_reducible apply List.mem_cons_of_mem)); done)) | (apply RecAt.bel (hb := H.bel); assumption))) | ((with_reducible apply ld_F); rfl; rfl; (first | (focus (apply H.rc; (repeat (first | with_reducible exact List.mem_cons_self | with_reducible apply List.mem_cons_of_mem)); done)) | (apply RecAt.bel (hb := H.bel); assumption))) | ((with_reducible apply ld_fstamp); rfl; rfl; (first | (focus (apply H.fld; (repeat (first | with_reducible exact List.mem_cons_self | with_reducible apply List.mem_cons_of_mem)); done)) | (apply FldAt.bel (hb := H.bel); assumption))) | ((with_reducible apply ld_stp); rfl; rfl; (focus (apply H.arr; (repeat (first | with_reducible exact List.mem_cons_self | with_reducible apply List.mem_cons_of_mem)); done))))
          (try simp only [Act.put, List.setIfInBounds_toArray, List.set_cons_zero, List.set_cons_succ])
          refine wp_slotsM [⟨some 33, [], fun _ v => v = .agg #[.int .i64 N', .int .i64 R']⟩, ⟨some 34, [], fun _ v => v = .pointer (some ⟨kB, 0, none⟩)⟩, ⟨some 35, [(1, 34)], fun _ v => v = .slice (some ⟨b, off, none⟩) n c⟩, ⟨some 36, [], fun _ v => v = .int .i64 (j : Int)⟩, ⟨some 37, [(2, 35), (3, 36)], fun _ v => v = .pointer (some ⟨b, off + j * 19, none⟩)⟩, ⟨some 38, [(4, 37)], fun _ v => v = .pointer (some ⟨b, off + j * 19 + 18, none⟩)⟩, ⟨some 39, [(5, 38)], fun _ v => v = .slice (some ⟨b2, off2, none⟩) nf fc⟩, ⟨some 40, [], fun _ v => v = .int .i64 (k : Int)⟩, ⟨some 41, [(6, 39), (7, 40)], fun _ v => v = .pointer (some ⟨b2, off2 + k * 4, none⟩)⟩, ⟨some 42, [(8, 41)], fun _ v => v = .pointer (some ⟨b2, off2 + k * 4 + 1, none⟩)⟩, ⟨some 43, [(9, 42)], fun _ v => v = .pointer (some ⟨b2, off2 + k * 4 + 1, none⟩)⟩, ⟨some 44, [(10, 43)], fun _ v => v = .agg #[.int .i64 f.2.1, .int .i64 f.2.2.1]⟩, ⟨some 45, [(0, 33), (11, 44)], fun _ v => v = .agg #[.int .i64 X, .int .i64 Y]⟩] [33, 34, 35, 36, 37, 38, 39, 40, 41, 42, 43, 44, 45] (false :: false :: false :: false :: false :: false :: false :: false :: false :: false :: false :: false :: false :: false :: false :: false :: false :: false :: false :: false :: false :: false :: false :: false :: false :: false :: false :: false :: false :: false :: false :: false :: false :: true :: true :: true :: true :: true :: true :: true :: true :: true :: true :: true :: true :: true :: []) [(some 33, []), (some 34, []), (some 35, [(1, 34)]), (some 36, []), (some 37, [(2, 35), (3, 36)]), (some 38, [(4, 37)]), (some 39, [(5, 38)]), (some 40, []), (some 41, [(6, 39), (7, 40)]), (some 42, [(8, 41)]), (some 43, [(9, 42)]), (some 44, [(10, 43)]), (some 45, [(0, 33), (11, 44)])] rfl (by kernel_rfl) (by kernel_rfl) (by rfl) (by rfl) ?_ ?_ ?_
          · exact stable_cons (fun _ _ _ _ h => h) (stable_cons (fun _ _ _ _ h => h) (stable_cons (fun _ _ _ _ h => h) (stable_cons (fun _ _ _ _ h => h) (stable_cons (fun _ _ _ _ h => h) (stable_cons (fun _ _ _ _ h => h) (stable_cons (fun _ _ _ _ h => h) (stable_cons (fun _ _ _ _ h => h) (stable_cons (fun _ _ _ _ h => h) (stable_cons (fun _ _ _ _ h => h) (stable_cons (fun _ _ _ _ h => h) (stable_cons (fun _ _ _ _ h => h) (stable_cons (fun _ _ _ _ h => h) (stable_nil)))))))))))))
          · refine hops_cons ?_ (hops_cons ?_ (hops_cons ?_ (hops_cons ?_ (hops_cons ?_ (hops_cons ?_ (hops_cons ?_ (hops_cons ?_ (hops_cons ?_ (hops_cons ?_ (hops_cons ?_ (hops_cons ?_ (hops_cons ?_ (trivial)))))))))))))
            · unfold HopM; intro u wn hb hk; have H0 := H; replace H := H.call hb
              simp only [fillM]
              go_wp2_with (first | go_skip | ((with_reducible apply ld_one (ty := 22) Tryz.underlying22 rfl); rfl; rfl; (focus (apply H.one; (repeat (first | with_reducible exact List.mem_cons_self | with_reducible apply List.mem_cons_of_mem)); done))) | ((with_reducible apply ld_dead); rfl; rfl; (first | (focus (apply H.rc; (repeat (first | with_reducible exact List.mem_cons_self | with_reducible apply List.mem_cons_of_mem)); done)) | (apply RecAt.bel (hb := H.bel); assumption))) | ((with_reducible apply ld_F); rfl; rfl; (first | (focus (apply H.rc; (repeat (first | with_reducible exact List.mem_cons_self | with_reducible apply List.mem_cons_of_mem)); done)) | (apply RecAt.bel (hb := H.bel); assumption))) | ((with_reducible apply ld_fstamp); rfl; rfl; (first | (focus (apply H.fld; (repeat (first | with_reducible exact List.mem_cons_self | with_reducible apply List.mem_cons_of_mem)); done)) | (apply FldAt.bel (hb := H.bel); assumption))) | ((with_reducible apply ld_stp); rfl; rfl; (focus (apply H.arr; (repeat (first | with_reducible exact List.mem_cons_self | with_reducible apply List.mem_cons_of_mem)); done))))
              exact ⟨rfl, Below.refl _ _, .agg #[.int .i64 N', .int .i64 R'], rfl, rfl⟩
            · unfold HopM; intro u wn hb hk; have H0 := H; replace H := H.call hb
              simp only [fillM]
              go_wp2_with (first | go_skip | ((with_reducible apply ld_one (ty := 22) Tryz.underlying22 rfl); rfl; rfl; (focus (apply H.one; (repeat (first | with_reducible exact List.mem_cons_self | with_reducible apply List.mem_cons_of_mem)); done))) | ((with_reducible apply ld_dead); rfl; rfl; (first | (focus (apply H.rc; (repeat (first | with_reducible exact List.mem_cons_self | with_reducible apply List.mem_cons_of_mem)); done)) | (apply RecAt.bel (hb := H.bel); assumption))) | ((with_reducible apply ld_F); rfl; rfl; (first | (focus (apply H.rc; (repeat (first | with_reducible exact List.mem_cons_self | with_reducible apply List.mem_cons_of_mem)); done)) | (apply RecAt.bel (hb := H.bel); assumption))) | ((with_reducible apply ld_fstamp); rfl; rfl; (first | (focus (apply H.fld; (repeat (first | with_reducible exact List.mem_cons_self | with_reducible apply List.mem_cons_of_mem)); done)) | (apply FldAt.bel (hb := H.bel); assumption))) | ((with_reducible apply ld_stp); rfl; rfl; (focus (apply H.arr; (repeat (first | with_reducible exact List.mem_cons_self | with_reducible apply List.mem_cons_of_mem)); done))))
              exact ⟨rfl, Below.refl _ _, .pointer (some ⟨kB, 0, none⟩), rfl, rfl⟩
            · unfold HopM; intro u wn hb hk; have H0 := H; replace H := H.call hb
              obtain ⟨hq1, -⟩ := hk
              replace hq1 := hq1 _ rfl; dsimp only at hq1
              simp only [fillM, hq1]
              clear hq1
              go_wp2_with (first | go_skip | ((with_reducible apply ld_one (ty := 22) Tryz.underlying22 rfl); rfl; rfl; (focus (apply H.one; (repeat (first | with_reducible exact List.mem_cons_self | with_reducible apply List.mem_cons_of_mem)); done))) | ((with_reducible apply ld_dead); rfl; rfl; (first | (focus (apply H.rc; (repeat (first | with_reducible exact List.mem_cons_self | with_reducible apply List.mem_cons_of_mem)); done)) | (apply RecAt.bel (hb := H.bel); assumption))) | ((with_reducible apply ld_F); rfl; rfl; (first | (focus (apply H.rc; (repeat (first | with_reducible exact List.mem_cons_self | with_reducible apply List.mem_cons_of_mem)); done)) | (apply RecAt.bel (hb := H.bel); assumption))) | ((with_reducible apply ld_fstamp); rfl; rfl; (first | (focus (apply H.fld; (repeat (first | with_reducible exact List.mem_cons_self | with_reducible apply List.mem_cons_of_mem)); done)) | (apply FldAt.bel (hb := H.bel); assumption))) | ((with_reducible apply ld_stp); rfl; rfl; (focus (apply H.arr; (repeat (first | with_reducible exact List.mem_cons_self | with_reducible apply List.mem_cons_of_mem)); done))))
              exact ⟨rfl, Below.refl _ _, .slice (some ⟨b, off, none⟩) n c, rfl, rfl⟩
            · unfold HopM; intro u wn hb hk; have H0 := H; replace H := H.call hb
              simp only [fillM]
              go_wp2_with (first | go_skip | ((with_reducible apply ld_one (ty := 22) Tryz.underlying22 rfl); rfl; rfl; (focus (apply H.one; (repeat (first | with_reducible exact List.mem_cons_self | with_reducible apply List.mem_cons_of_mem)); done))) | ((with_reducible apply ld_dead); rfl; rfl; (first | (focus (apply H.rc; (repeat (first | with_reducible exact List.mem_cons_self | with_reducible apply List.mem_cons_of_mem)); done)) | (apply RecAt.bel (hb := H.bel); assumption))) | ((with_reducible apply ld_F); rfl; rfl; (first | (focus (apply H.rc; (repeat (first | with_reducible exact List.mem_cons_self | with_reducible apply List.mem_cons_of_mem)); done)) | (apply RecAt.bel (hb := H.bel); assumption))) | ((with_reducible apply ld_fstamp); rfl; rfl; (first | (focus (apply H.fld; (repeat (first | with_reducible exact List.mem_cons_self | with_reducible apply List.mem_cons_of_mem)); done)) | (apply FldAt.bel (hb := H.bel); assumption))) | ((with_reducible apply ld_stp); rfl; rfl; (focus (apply H.arr; (repeat (first | with_reducible exact List.mem_cons_self | with_reducible apply List.mem_cons_of_mem)); done))))
              exact ⟨rfl, Below.refl _ _, .int .i64 (j : Int), rfl, rfl⟩
            · unfold HopM; intro u wn hb hk; have H0 := H; replace H := H.call hb
              obtain ⟨hq2, hq3, -⟩ := hk
              replace hq2 := hq2 _ rfl; dsimp only at hq2
              replace hq3 := hq3 _ rfl; dsimp only at hq3
              simp only [fillM, hq2, hq3]
              clear hq2 hq3
              go_wp2_with (first | go_skip | ((with_reducible apply ld_one (ty := 22) Tryz.underlying22 rfl); rfl; rfl; (focus (apply H.one; (repeat (first | with_reducible exact List.mem_cons_self | with_reducible apply List.mem_cons_of_mem)); done))) | ((with_reducible apply ld_dead); rfl; rfl; (first | (focus (apply H.rc; (repeat (first | with_reducible exact List.mem_cons_self | with_reducible apply List.mem_cons_of_mem)); done)) | (apply RecAt.bel (hb := H.bel); assumption))) | ((with_reducible apply ld_F); rfl; rfl; (first | (focus (apply H.rc; (repeat (first | with_reducible exact List.mem_cons_self | with_reducible apply List.mem_cons_of_mem)); done)) | (apply RecAt.bel (hb := H.bel); assumption))) | ((with_reducible apply ld_fstamp); rfl; rfl; (first | (focus (apply H.fld; (repeat (first | with_reducible exact List.mem_cons_self | with_reducible apply List.mem_cons_of_mem)); done)) | (apply FldAt.bel (hb := H.bel); assumption))) | ((with_reducible apply ld_stp); rfl; rfl; (focus (apply H.arr; (repeat (first | with_reducible exact List.mem_cons_self | with_reducible apply List.mem_cons_of_mem)); done))))
              exact ⟨rfl, Below.refl _ _, .pointer (some ⟨b, off + j * 19, none⟩), rfl, rfl⟩
            · unfold HopM; intro u wn hb hk; have H0 := H; replace H := H.call hb
              obtain ⟨hq4, -⟩ := hk
              replace hq4 := hq4 _ rfl; dsimp only at hq4
              simp only [fillM, hq4]
              clear hq4
              go_wp2_with (first | go_skip | ((with_reducible apply ld_one (ty := 22) Tryz.underlying22 rfl); rfl; rfl; (focus (apply H.one; (repeat (first | with_reducible exact List.mem_cons_self | with_reducible apply List.mem_cons_of_mem)); done))) | ((with_reducible apply ld_dead); rfl; rfl; (first | (focus (apply H.rc; (repeat (first | with_reducible exact List.mem_cons_self | with_reducible apply List.mem_cons_of_mem)); done)) | (apply RecAt.bel (hb := H.bel); assumption))) | ((with_reducible apply ld_F); rfl; rfl; (first | (focus (apply H.rc; (repeat (first | with_reducible exact List.mem_cons_self | with_reducible apply List.mem_cons_of_mem)); done)) | (apply RecAt.bel (hb := H.bel); assumption))) | ((with_reducible apply ld_fstamp); rfl; rfl; (first | (focus (apply H.fld; (repeat (first | with_reducible exact List.mem_cons_self | with_reducible apply List.mem_cons_of_mem)); done)) | (apply FldAt.bel (hb := H.bel); assumption))) | ((with_reducible apply ld_stp); rfl; rfl; (focus (apply H.arr; (repeat (first | with_reducible exact List.mem_cons_self | with_reducible apply List.mem_cons_of_mem)); done))))
              exact ⟨rfl, Below.refl _ _, .pointer (some ⟨b, off + j * 19 + 18, none⟩), rfl, rfl⟩
            · unfold HopM; intro u wn hb hk; have H0 := H; replace H := H.call hb
              obtain ⟨hq5, -⟩ := hk
              replace hq5 := hq5 _ rfl; dsimp only at hq5
              simp only [fillM, hq5]
              clear hq5
              go_wp2_with (first | go_skip | ((with_reducible apply ld_one (ty := 22) Tryz.underlying22 rfl); rfl; rfl; (focus (apply H.one; (repeat (first | with_reducible exact List.mem_cons_self | with_reducible apply List.mem_cons_of_mem)); done))) | ((with_reducible apply ld_dead); rfl; rfl; (first | (focus (apply H.rc; (repeat (first | with_reducible exact List.mem_cons_self | with_reducible apply List.mem_cons_of_mem)); done)) | (apply RecAt.bel (hb := H.bel); assumption))) | ((with_reducible apply ld_F); rfl; rfl; (first | (focus (apply H.rc; (repeat (first | with_reducible exact List.mem_cons_self | with_reducible apply List.mem_cons_of_mem)); done)) | (apply RecAt.bel (hb := H.bel); assumption))) | ((with_reducible apply ld_fstamp); rfl; rfl; (first | (focus (apply H.fld; (repeat (first | with_reducible exact List.mem_cons_self | with_reducible apply List.mem_cons_of_mem)); done)) | (apply FldAt.bel (hb := H.bel); assumption))) | ((with_reducible apply ld_stp); rfl; rfl; (focus (apply H.arr; (repeat (first | with_reducible exact List.mem_cons_self | with_reducible apply List.mem_cons_of_mem)); done))))
              exact ⟨rfl, Below.refl _ _, .slice (some ⟨b2, off2, none⟩) nf fc, rfl, rfl⟩
            · unfold HopM; intro u wn hb hk; have H0 := H; replace H := H.call hb
              simp only [fillM]
              go_wp2_with (first | go_skip | ((with_reducible apply ld_one (ty := 22) Tryz.underlying22 rfl); rfl; rfl; (focus (apply H.one; (repeat (first | with_reducible exact List.mem_cons_self | with_reducible apply List.mem_cons_of_mem)); done))) | ((with_reducible apply ld_dead); rfl; rfl; (first | (focus (apply H.rc; (repeat (first | with_reducible exact List.mem_cons_self | with_reducible apply List.mem_cons_of_mem)); done)) | (apply RecAt.bel (hb := H.bel); assumption))) | ((with_reducible apply ld_F); rfl; rfl; (first | (focus (apply H.rc; (repeat (first | with_reducible exact List.mem_cons_self | with_reducible apply List.mem_cons_of_mem)); done)) | (apply RecAt.bel (hb := H.bel); assumption))) | ((with_reducible apply ld_fstamp); rfl; rfl; (first | (focus (apply H.fld; (repeat (first | with_reducible exact List.mem_cons_self | with_reducible apply List.mem_cons_of_mem)); done)) | (apply FldAt.bel (hb := H.bel); assumption))) | ((with_reducible apply ld_stp); rfl; rfl; (focus (apply H.arr; (repeat (first | with_reducible exact List.mem_cons_self | with_reducible apply List.mem_cons_of_mem)); done))))
              exact ⟨rfl, Below.refl _ _, .int .i64 (k : Int), rfl, rfl⟩
            · unfold HopM; intro u wn hb hk; have H0 := H; replace H := H.call hb
              obtain ⟨hq6, hq7, -⟩ := hk
              replace hq6 := hq6 _ rfl; dsimp only at hq6
              replace hq7 := hq7 _ rfl; dsimp only at hq7
              simp only [fillM, hq6, hq7]
              clear hq6 hq7
              go_wp2_with (first | go_skip | ((with_reducible apply ld_one (ty := 22) Tryz.underlying22 rfl); rfl; rfl; (focus (apply H.one; (repeat (first | with_reducible exact List.mem_cons_self | with_reducible apply List.mem_cons_of_mem)); done))) | ((with_reducible apply ld_dead); rfl; rfl; (first | (focus (apply H.rc; (repeat (first | with_reducible exact List.mem_cons_self | with_reducible apply List.mem_cons_of_mem)); done)) | (apply RecAt.bel (hb := H.bel); assumption))) | ((with_reducible apply ld_F); rfl; rfl; (first | (focus (apply H.rc; (repeat (first | with_reducible exact List.mem_cons_self | with_reducible apply List.mem_cons_of_mem)); done)) | (apply RecAt.bel (hb := H.bel); assumption))) | ((with_reducible apply ld_fstamp); rfl; rfl; (first | (focus (apply H.fld; (repeat (first | with_reducible exact List.mem_cons_self | with_reducible apply List.mem_cons_of_mem)); done)) | (apply FldAt.bel (hb := H.bel); assumption))) | ((with_reducible apply ld_stp); rfl; rfl; (focus (apply H.arr; (repeat (first | with_reducible exact List.mem_cons_self | with_reducible apply List.mem_cons_of_mem)); done))))
              exact ⟨rfl, Below.refl _ _, .pointer (some ⟨b2, off2 + k * 4, none⟩), rfl, rfl⟩
            · unfold HopM; intro u wn hb hk; have H0 := H; replace H := H.call hb
              obtain ⟨hq8, -⟩ := hk
              replace hq8 := hq8 _ rfl; dsimp only at hq8
              simp only [fillM, hq8]
              clear hq8
              go_wp2_with (first | go_skip | ((with_reducible apply ld_one (ty := 22) Tryz.underlying22 rfl); rfl; rfl; (focus (apply H.one; (repeat (first | with_reducible exact List.mem_cons_self | with_reducible apply List.mem_cons_of_mem)); done))) | ((with_reducible apply ld_dead); rfl; rfl; (first | (focus (apply H.rc; (repeat (first | with_reducible exact List.mem_cons_self | with_reducible apply List.mem_cons_of_mem)); done)) | (apply RecAt.bel (hb := H.bel); assumption))) | ((with_reducible apply ld_F); rfl; rfl; (first | (focus (apply H.rc; (repeat (first | with_reducible exact List.mem_cons_self | with_reducible apply List.mem_cons_of_mem)); done)) | (apply RecAt.bel (hb := H.bel); assumption))) | ((with_reducible apply ld_fstamp); rfl; rfl; (first | (focus (apply H.fld; (repeat (first | with_reducible exact List.mem_cons_self | with_reducible apply List.mem_cons_of_mem)); done)) | (apply FldAt.bel (hb := H.bel); assumption))) | ((with_reducible apply ld_stp); rfl; rfl; (focus (apply H.arr; (repeat (first | with_reducible exact List.mem_cons_self | with_reducible apply List.mem_cons_of_mem)); done))))
              exact ⟨rfl, Below.refl _ _, .pointer (some ⟨b2, off2 + k * 4 + 1, none⟩), rfl, rfl⟩
            · unfold HopM; intro u wn hb hk; have H0 := H; replace H := H.call hb
              obtain ⟨hq9, -⟩ := hk
              replace hq9 := hq9 _ rfl; dsimp only at hq9
              simp only [fillM, hq9]
              clear hq9
              go_wp2_with (first | go_skip | ((with_reducible apply ld_one (ty := 22) Tryz.underlying22 rfl); rfl; rfl; (focus (apply H.one; (repeat (first | with_reducible exact List.mem_cons_self | with_reducible apply List.mem_cons_of_mem)); done))) | ((with_reducible apply ld_dead); rfl; rfl; (first | (focus (apply H.rc; (repeat (first | with_reducible exact List.mem_cons_self | with_reducible apply List.mem_cons_of_mem)); done)) | (apply RecAt.bel (hb := H.bel); assumption))) | ((with_reducible apply ld_F); rfl; rfl; (first | (focus (apply H.rc; (repeat (first | with_reducible exact List.mem_cons_self | with_reducible apply List.mem_cons_of_mem)); done)) | (apply RecAt.bel (hb := H.bel); assumption))) | ((with_reducible apply ld_fstamp); rfl; rfl; (first | (focus (apply H.fld; (repeat (first | with_reducible exact List.mem_cons_self | with_reducible apply List.mem_cons_of_mem)); done)) | (apply FldAt.bel (hb := H.bel); assumption))) | ((with_reducible apply ld_stp); rfl; rfl; (focus (apply H.arr; (repeat (first | with_reducible exact List.mem_cons_self | with_reducible apply List.mem_cons_of_mem)); done))))
              exact ⟨rfl, Below.refl _ _, .pointer (some ⟨b2, off2 + k * 4 + 1, none⟩), rfl, rfl⟩
            · unfold HopM; intro u wn hb hk; have H0 := H; replace H := H.call hb
              obtain ⟨hq10, -⟩ := hk
              replace hq10 := hq10 _ rfl; dsimp only at hq10
              simp only [fillM, hq10]
              clear hq10
              go_wp2_with (first | go_skip | ((with_reducible apply ld_one (ty := 22) Tryz.underlying22 rfl); rfl; rfl; (focus (apply H.one; (repeat (first | with_reducible exact List.mem_cons_self | with_reducible apply List.mem_cons_of_mem)); done))) | ((with_reducible apply ld_dead); rfl; rfl; (first | (focus (apply H.rc; (repeat (first | with_reducible exact List.mem_cons_self | with_reducible apply List.mem_cons_of_mem)); done)) | (apply RecAt.bel (hb := H.bel); assumption))) | ((with_reducible apply ld_F); rfl; rfl; (first | (focus (apply H.rc; (repeat (first | with_reducible exact List.mem_cons_self | with_reducible apply List.mem_cons_of_mem)); done)) | (apply RecAt.bel (hb := H.bel); assumption))) | ((with_reducible apply ld_fstamp); rfl; rfl; (first | (focus (apply H.fld; (repeat (first | with_reducible exact List.mem_cons_self | with_reducible apply List.mem_cons_of_mem)); done)) | (apply FldAt.bel (hb := H.bel); assumption))) | ((with_reducible apply ld_stp); rfl; rfl; (focus (apply H.arr; (repeat (first | with_reducible exact List.mem_cons_self | with_reducible apply List.mem_cons_of_mem)); done))))
              exact ⟨rfl, Below.refl _ _, .agg #[.int .i64 f.2.1, .int .i64 f.2.2.1], rfl, rfl⟩
            · unfold HopM; intro u wn hb hk; have H0 := H; replace H := H.call hb
              obtain ⟨hq0, hq11, -⟩ := hk
              replace hq0 := hq0 _ rfl; dsimp only at hq0
              replace hq11 := hq11 _ rfl; dsimp only at hq11
              simp only [fillM, hq0, hq11]
              clear hq0 hq11
              go_wp2_with (first | go_skip | (go_at_call 103; (with_reducible refine (rsmax_v HX.out HY.out _).mono ?_); rintro e wm ⟨rfl, hbb⟩))
              exact ⟨rfl, hbb, _, rfl, rfl⟩
          intro u wn hb hk; have H0 := H; replace H := H.call hb
          obtain ⟨hq0, hq1, hq2, hq3, hq4, hq5, hq6, hq7, hq8, hq9, hq10, hq11, hq12, -⟩ := hk
          replace hq0 := hq0 _ rfl; dsimp only at hq0
          replace hq1 := hq1 _ rfl; dsimp only at hq1
          replace hq2 := hq2 _ rfl; dsimp only at hq2
          replace hq3 := hq3 _ rfl; dsimp only at hq3
          replace hq4 := hq4 _ rfl; dsimp only at hq4
          replace hq5 := hq5 _ rfl; dsimp only at hq5
          replace hq6 := hq6 _ rfl; dsimp only at hq6
          replace hq7 := hq7 _ rfl; dsimp only at hq7
          replace hq8 := hq8 _ rfl; dsimp only at hq8
          replace hq9 := hq9 _ rfl; dsimp only at hq9
          replace hq10 := hq10 _ rfl; dsimp only at hq10
          replace hq11 := hq11 _ rfl; dsimp only at hq11
          replace hq12 := hq12 _ rfl; dsimp only at hq12
          simp only [fillM, List.length_cons, List.length_nil, Nat.reduceAdd, List.drop_succ_cons, List.drop_zero, hq0, hq1, hq2, hq3, hq4, hq5, hq6, hq7, hq8, hq9, hq10, hq11, hq12]
          clear hb H0 hq0 hq1 hq2 hq3 hq4 hq5 hq6 hq7 hq8 hq9 hq10 hq11 hq12
          go_wp2_with (first | go_skip | ((with_reducible apply st_stamp H); rfl; rfl; rfl; (repeat (first | with_reducible apply Upd.head | with_reducible apply Upd.tail)); clear H; intro wn H))
          go_roundw
          case rel => exact ⟨k + 1, X, Y, by omega, by go_num, I3, H⟩
          case measure => simp [intOf]; omega
        · have hkn : k = nf := by omega
          subst hkn
          go_wp2_with (first | go_skip | ((with_reducible apply ld_one (ty := 22) Tryz.underlying22 rfl); rfl; rfl; (focus (apply H.one; (repeat (first | with_reducible exact List.mem_cons_self | with_reducible apply List.mem_cons_of_mem)); done))) | ((with_reducible apply ld_dead); rfl; rfl; (first | (focus (apply H.rc; (repeat (first | with_reducible exact List.mem_cons_self | with_reducible apply List.mem_cons_of_mem)); done)) | (apply RecAt.bel (hb := H.bel); assumption))) | ((with_reducible apply ld_F); rfl; rfl; (first | (focus (apply H.rc; (repeat (first | with_reducible exact List.mem_cons_self | with_reducible apply List.mem_cons_of_mem)); done)) | (apply RecAt.bel (hb := H.bel); assumption))) | ((with_reducible apply ld_fstamp); rfl; rfl; (first | (focus (apply H.fld; (repeat (first | with_reducible exact List.mem_cons_self | with_reducible apply List.mem_cons_of_mem)); done)) | (apply FldAt.bel (hb := H.bel); assumption))) | ((with_reducible apply ld_stp); rfl; rfl; (focus (apply H.arr; (repeat (first | with_reducible exact List.mem_cons_self | with_reducible apply List.mem_cons_of_mem)); done))))
          go_roundw
          case rel => exact ⟨j + 1, N', R', by omega, by go_num, Lib.hid (by rw [I2.out, ← Hnf.out, List.drop_length]; rfl), H⟩
          case measure => simp [intOf]; omega
    · have hjn : j = n := by omega
      subst hjn
      have Hres : Hid (bLast L = (N, R)) := Lib.hid (by rw [I.out, ← Hn.out, List.drop_length]; rfl)
      go_wp2_with (first | go_skip | ((with_reducible apply ld_one (ty := 22) Tryz.underlying22 rfl); rfl; rfl; (focus (apply H.one; (repeat (first | with_reducible exact List.mem_cons_self | with_reducible apply List.mem_cons_of_mem)); done))) | ((with_reducible apply ld_dead); rfl; rfl; (first | (focus (apply H.rc; (repeat (first | with_reducible exact List.mem_cons_self | with_reducible apply List.mem_cons_of_mem)); done)) | (apply RecAt.bel (hb := H.bel); assumption))) | ((with_reducible apply ld_F); rfl; rfl; (first | (focus (apply H.rc; (repeat (first | with_reducible exact List.mem_cons_self | with_reducible apply List.mem_cons_of_mem)); done)) | (apply RecAt.bel (hb := H.bel); assumption))) | ((with_reducible apply ld_fstamp); rfl; rfl; (first | (focus (apply H.fld; (repeat (first | with_reducible exact List.mem_cons_self | with_reducible apply List.mem_cons_of_mem)); done)) | (apply FldAt.bel (hb := H.bel); assumption))) | ((with_reducible apply ld_stp); rfl; rfl; (focus (apply H.arr; (repeat (first | with_reducible exact List.mem_cons_self | with_reducible apply List.mem_cons_of_mem)); done))) | ((with_reducible apply st_stamp H); rfl; rfl; rfl; (repeat (first | with_reducible apply Upd.head | with_reducible apply Upd.tail)); clear H; intro wn H))
      all_goals first | (rw [Exit.noGoto_ret]) | skip
      have hR := H.arr (b := k2) (t := 30) (cs := #[.int .i64 N, .int .i64 R]) (by (repeat (first | with_reducible exact List.mem_cons_self | with_reducible apply List.mem_cons_of_mem)))
      exact bodyPost_ret (results_cell_one Tryz.results63 _ _ k2 #[.int .i64 N, .int .i64 R] _ rfl hR Tryz.underlying30 rfl stamp_info) rfl ⟨by rw [Hres.out], H.bel⟩
theorem rblast_v {v : Value} {L : BK} {N R : Int} (h : bLast L = (N, R)) (w : World) (hv : Recs w v L) : Calls Tryz.prog 63 #[.agg #[v]] w fun e w' => e = .returned (.agg #[.int .i64 N, .int .i64 R]) ∧ Below w.heap.size w w' :=
  (rblast_c v L w hv).mono fun e w' ⟨h1, h2⟩ => ⟨by rw [h1, h], h2⟩
end Go.Proofs.YtolbmemogoojhaaGreat
