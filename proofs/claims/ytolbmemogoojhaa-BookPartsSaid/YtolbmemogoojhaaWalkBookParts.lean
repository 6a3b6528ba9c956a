/- The walk of BookParts. -/
import Derived.Test.YtolbmemogoojhaaBookZ
namespace Go.Proofs.Ytolbmemogoojhaa
open Go Go.RowKit Go.Deep
set_option linter.unusedVariables false
set_option linter.unusedSimpArgs false
set_option maxRecDepth 100000
section
variable {ops : Array Oper} {rest : List Oper} {a : Act} {w : World} {Q : Exit → Act → World → Prop} {dst : Option Tmp} {typ t : TypeId} {x y z : Operand} {pos : String} {af : Array Edge} {v l h u : Value}
theorem ar_cut (hs : ∀ W, (Instr.slice 22 v (some l) (some h) none).run Try.prog W = .ok u W) (hx : a.eval x = v) (hl : a.eval y = l) (hh : a.eval z = h) (k : wpList Try.prog ops Q rest (a.put dst u) w) :
    wpList Try.prog ops Q (⟨dst, .slice 22 x (some y) (some z) none, typ, pos, af, none⟩ :: rest) a w := by
  refine wpList_run rfl u w ?_ k
  have hu : Try.prog.underlying 22 = some (.slice (Try.prog.elem 22)) := by kernel_rfl
  unfold execOp
  simp only [hx, hl, hh, Option.map_some, Option.map_none, Sem.run_bind, run_sliceAt_slice _ _ _ _ _ _ hu, hs, Result.andThen_ok, Sem.run_pure]
end
theorem recs_cut {w : World} {b off n c : Nat} {L : BK} (h : Recs w (.slice (some ⟨b, off, none⟩) n c) L) {m : Nat} {r : RD} (hm : L[m]? = some r) :
    ∃ q d, (∀ W, (Instr.slice 22 (.slice (some ⟨b, off, none⟩) n c) (some (.int .i64 (m : Int))) (some (.int .i64 ((m : Int) + 1))) none).run Try.prog W = .ok (.slice q 1 d) W) ∧ Recs w (.slice q 1 d) [r] := by
  obtain ⟨b', off', s, he, hb, G, hf⟩ := h.at hm
  simp only [Option.some.injEq, Addr.mk.injEq, and_true] at he
  obtain ⟨rfl, rfl⟩ := he
  obtain ⟨l, hl, ⟨_, a', c', he, h1, h2, _⟩, _⟩ := h
  injection he with e1 e2 e3
  subst e3
  have hlt : m < L.length := (List.getElem?_eq_some_iff.1 hm).1
  have hll : l.length = L.length := by rw [← hl, List.length_map]
  have ht : Try.prog.underlying 22 = some (.slice (Try.prog.elem 22)) := by kernel_rfl
  have hsz : ∀ W, (sizeOf (Try.prog.elem 22)).run Try.prog W = .ok 19 W := fun W => by kernel_rfl
  refine ⟨some ⟨b, off + m * 19, none⟩, c - m, fun W => ?_, [(r, s)], rfl, ⟨?_, _, _, rfl, ?_, ?_, (fun h => by cases h), fun _ => ⟨b, off + m * 19, rfl, fun j u hj => ?_⟩⟩, fun p hp => ?_⟩
  · rw [run_slice_lh W 22 _ n c ht .i64 .i64 (m : Int) ((m : Int) + 1) (by omega) (by omega) (by omega), hsz]
    simp only [Result.andThen_ok, sliced, Int.toNat_natCast]
    have e : ((m : Int) + 1).toNat = m + 1 := by omega
    rw [e, if_neg (by omega)]
    simp [Addr.add]
  · simp only [recsL, List.append_nil, List.length_cons, List.length_nil]; rw [Array.length_toList, rA_size G.2]
  · simp only [List.length_cons, List.length_nil]; omega
  · omega
  · refine G.1 j u ?_
    simpa [recsL] using hj
  · rw [List.mem_singleton.1 hp]; exact ⟨G.2, hf⟩
set_option maxHeartbeats 12800000 in
theorem bookParts_walk (va : Value) (A : BK) (first : Int) (w : World) (ha : Recs w va A) : Calls Try.prog 8 #[.agg #[va], .int .i64 first] w fun e w' => e = .returned (.bool true) ∧ Below w.heap.size w w' := by
  obtain ⟨n, hn⟩ : ∃ n, A.length = n := ⟨_, rfl⟩
  obtain ⟨a, c, rfl, hm1, _⟩ := id ha.slice
  rw [hn] at ha hm1 ⊢
  unfold maxLen at hm1
  have Ha := Lib.hid ha; have Hn := Lib.hid hn; clear ha hn
  obtain ⟨p, hfa⟩ : ∃ p, Hid (bFew A = p) := ⟨_, rfl⟩
  obtain ⟨m, hma⟩ : ∃ p, Hid (bMay A = p) := ⟨_, rfl⟩
  have Hone0 : Hid (Value.oneCell' (.slice none 0 0) = true) := Lib.hid rfl
  have H := St.init w
  obtain ⟨s1, hs1⟩ : ∃ s, decide (first < 0) = s := ⟨_, rfl⟩
  obtain ⟨s2, hs2⟩ : ∃ s, decide ((n : Int) ≤ first) = s := ⟨_, rfl⟩
  have hcase : (p = false ∨ (p = true ∧ m = false) ∨ (p = true ∧ m = true ∧ s1 = true) ∨ (p = true ∧ m = true ∧ s1 = false ∧ s2 = true)) ∨ (p = true ∧ m = true ∧ s1 = false ∧ s2 = false) := by cases p <;> cases m <;> cases s1 <;> cases s2 <;> simp
  rcases hcase with (rfl | ⟨rfl, rfl⟩ | ⟨rfl, rfl, rfl⟩ | ⟨rfl, rfl, rfl, rfl⟩) | ⟨rfl, rfl, rfl, rfl⟩
  iterate 4
    · go_enter Try.func8, Try.ntmps8
      go_wp2_with (first | go_skip | ((fail_if_success have := kA); (with_reducible apply arm_box H); rfl; clear H; intro wn kA H) | ((fail_if_success have := kO); (with_reducible apply al_bk H); clear H; intro wn kO H) | ((fail_if_success have := kJ); (with_reducible apply al_bk H); clear H; intro wn kJ H) | ((with_reducible apply ld_bk); rfl; rfl; (focus (apply H.one; (repeat (first | with_reducible exact List.mem_cons_self | with_reducible apply List.mem_cons_of_mem)); done))) | (with_reducible apply bd_bk0) | ((with_reducible apply st_bk H); rfl; rfl; rfl; (repeat (first | with_reducible apply Upd.head | with_reducible apply Upd.tail)); (first | rfl | assumption | (refine Hid.out ?_; assumption)); clear H; intro wn H) | (go_at_call 20; (with_reducible refine (awake7_c _).mono ?_); rintro e wn ⟨rfl, hb⟩; replace H := H.call hb; clear hb) | (go_at_call 21; first | ((with_reducible refine (few7_v hfa.out _ (Ha.out.below H.bel)).mono ?_); rintro e wn ⟨rfl, hb⟩; replace H := H.call hb; clear hb)) | (go_at_call 22; first | ((with_reducible refine (bkmay_v hma.out _ (Ha.out.below H.bel)).mono ?_); rintro e wn ⟨rfl, hb⟩; replace H := H.call hb; clear hb)) | ((with_reducible apply ld_one (ty := 22) Try.underlying22 rfl); rfl; rfl; (focus (apply H.one; (repeat (first | with_reducible exact List.mem_cons_self | with_reducible apply List.mem_cons_of_mem)); done))))
      all_goals first | (rw [Exit.noGoto_ret]; go_ret) | go_ret
      all_goals exact ⟨rfl, H.bel⟩
  · obtain ⟨f, rfl⟩ : ∃ f : Nat, first = (f : Int) := ⟨first.toNat, by have := of_decide_eq_false hs1; omega⟩
    have hfn : f < n := by have := of_decide_eq_false hs2; omega
    have hn10 : n ≤ 10 := by rw [← Hn.out]; exact (bMay_iff.1 hma.out).2
    have SM : Hid (bSame (pOut A f n) A = true) := Lib.hid ((bSame_iff _ _).2 (by rw [← Hn.out]; exact pOut_all (by rw [Hn.out]; exact hfn)))
    go_enter Try.func8, Try.ntmps8
    go_wp2_with (first | go_skip | ((fail_if_success have := kA); (with_reducible apply arm_box H); rfl; clear H; intro wn kA H) | ((fail_if_success have := kO); (with_reducible apply al_bk H); clear H; intro wn kO H) | ((fail_if_success have := kJ); (with_reducible apply al_bk H); clear H; intro wn kJ H) | ((with_reducible apply ld_bk); rfl; rfl; (focus (apply H.one; (repeat (first | with_reducible exact List.mem_cons_self | with_reducible apply List.mem_cons_of_mem)); done))) | (with_reducible apply bd_bk0) | ((with_reducible apply st_bk H); rfl; rfl; rfl; (repeat (first | with_reducible apply Upd.head | with_reducible apply Upd.tail)); (first | rfl | assumption | (refine Hid.out ?_; assumption)); clear H; intro wn H) | (go_at_call 20; (with_reducible refine (awake7_c _).mono ?_); rintro e wn ⟨rfl, hb⟩; replace H := H.call hb; clear hb) | (go_at_call 21; first | ((with_reducible refine (few7_v hfa.out _ (Ha.out.below H.bel)).mono ?_); rintro e wn ⟨rfl, hb⟩; replace H := H.call hb; clear hb)) | (go_at_call 22; first | ((with_reducible refine (bkmay_v hma.out _ (Ha.out.below H.bel)).mono ?_); rintro e wn ⟨rfl, hb⟩; replace H := H.call hb; clear hb)) | ((with_reducible apply ld_one (ty := 22) Try.underlying22 rfl); rfl; rfl; (focus (apply H.one; (repeat (first | with_reducible exact List.mem_cons_self | with_reducible apply List.mem_cons_of_mem)); done))))
    go_loopw [8] (fun i wr => ∃ (k : Nat) (vo : Value), k ≤ n ∧ i = .int .i64 k ∧ Hid (Recs wr vo (pOut A f k)) ∧ Hid (vo.oneCell' = true) ∧ St w wr [Res.blk kO 24 #[vo], Res.blk kA 24 #[.slice a n c]]) (fun i _ => n - (intOf i).toNat)
    case atStart => exact ⟨0, .slice none 0 0, by omega, rfl, Lib.hid (by rw [pOut_zero]; exact Recs.nil _), Hone0, H⟩
    case round =>
      clear H
      obtain ⟨k, vo, hk, rfl, Jo, To, H⟩ := hrel
      by_cases hlt : k < n
      · obtain ⟨m, hm⟩ : ∃ m, (k + f) % n = m := ⟨_, rfl⟩
        have hmn : m < n := by rw [← hm]; exact Nat.mod_lt _ (by omega)
        obtain ⟨r, hr⟩ : ∃ r, A[m]? = some r := ⟨_, List.getElem?_eq_getElem (by rw [Hn.out]; exact hmn)⟩
        obtain ⟨b, off, s, rfl, hbw, G, hf⟩ := Ha.out.at hr
        obtain ⟨q, dd, hcut, hrq⟩ := recs_cut Ha.out hr
        have Hcut := Lib.hid hcut; have Hr := Lib.hid hrq
        obtain ⟨hd, hJ⟩ := pOut_succ (first := f) (i := k) hma.out (by rw [Hn.out, hm]; exact hr)
        have Hd := Lib.hid hd
        obtain ⟨J2, hJ2⟩ : ∃ J, pOut A f (k + 1) = J := ⟨_, rfl⟩
        have HJe := Lib.hid hJ2
        rw [hJ2] at hJ
        have HJ := Lib.hid hJ
        have hw1 : wrap64 ((k : Int) + (f : Int)) = (k : Int) + (f : Int) := by unfold wrap64; omega
        have hw2 : Int.tmod ((k : Int) + (f : Int)) (n : Int) = (m : Int) := by
          rw [← hm, Int.natCast_emod, Int.tmod_eq_emod_of_nonneg (by omega)]; simp
        have hw3 : wrap64 ((m : Int) + 1) = (m : Int) + 1 := by clear hm hw1 hw2; unfold wrap64; omega
        have hw4 : wrap64 (m : Int) = (m : Int) := by clear hm hw1 hw2 hw3; unfold wrap64; omega
        have Hw3 := Lib.hid hw3
        clear hcut hrq hd hJ hJ2 hr hbw G hf hw3
        go_wp2_with (first | go_skip | ((fail_if_success have := kA); (with_reducible apply arm_box H); rfl; clear H; intro wn kA H) | ((fail_if_success have := kO); (with_reducible apply al_bk H); clear H; intro wn kO H) | ((fail_if_success have := kJ); (with_reducible apply al_bk H); clear H; intro wn kJ H) | ((with_reducible apply ld_bk); rfl; rfl; (focus (apply H.one; (repeat (first | with_reducible exact List.mem_cons_self | with_reducible apply List.mem_cons_of_mem)); done))) | (with_reducible apply bd_bk0) | ((with_reducible apply st_bk H); rfl; rfl; rfl; (repeat (first | with_reducible apply Upd.head | with_reducible apply Upd.tail)); (first | rfl | assumption | (refine Hid.out ?_; assumption)); clear H; intro wn H) | (go_at_call 20; (with_reducible refine (awake7_c _).mono ?_); rintro e wn ⟨rfl, hb⟩; replace H := H.call hb; clear hb) | (go_at_call 21; first | ((with_reducible refine (few7_v hfa.out _ (Ha.out.below H.bel)).mono ?_); rintro e wn ⟨rfl, hb⟩; replace H := H.call hb; clear hb)) | (go_at_call 22; first | ((with_reducible refine (bkmay_v hma.out _ (Ha.out.below H.bel)).mono ?_); rintro e wn ⟨rfl, hb⟩; replace H := H.call hb; clear hb)) | ((with_reducible apply ld_one (ty := 22) Try.underlying22 rfl); rfl; rfl; (focus (apply H.one; (repeat (first | with_reducible exact List.mem_cons_self | with_reducible apply List.mem_cons_of_mem)); done))))
        clear hw1 hw2 hw4
        have hw3 := Hw3.out
        (try simp only [Act.put, List.setIfInBounds_toArray, List.set_cons_zero, List.set_cons_succ])
        refine wp_slotsMQ [⟨some 54, [], fun _ v => v = .pointer (some ⟨kA, 0, none⟩)⟩, ⟨some 55, [(0, 54)], fun _ v => v = .slice (some ⟨b, off, none⟩) n c⟩, ⟨some 56, [], fun _ v => v = .int .i64 (m : Int)⟩, ⟨some 57, [], fun _ v => v = .int .i64 (m : Int)⟩, ⟨some 58, [(3, 57)], fun _ v => v = .int .i64 ((m : Int) + 1)⟩, ⟨some 59, [(1, 55), (2, 56), (4, 58)], fun _ v => v = .slice q 1 dd⟩, ⟨some 60, [(5, 59)], fun _ v => v = .agg #[.slice q 1 dd]⟩, ⟨some 61, [], fun _ v => v = .agg #[vo]⟩, ⟨some 62, [(6, 60), (7, 61)], GaveB (fun s => .tuple #[.agg #[s], .int .i64 0]) J2⟩, ⟨some 53, [(8, 62)], GaveB (fun s => .tuple #[.agg #[s], .int .i64 0]) J2⟩, ⟨some 63, [(9, 53)], GaveB (fun s => .agg #[s]) J2⟩, ⟨some 64, [(9, 53)], fun _ v => v = .int .i64 0⟩, ⟨some 10, [], NewB wr⟩] [54, 55, 56, 57, 58, 59, 60, 61, 62, 53, 63, 64, 10] (false :: false :: false :: false :: false :: false :: false :: false :: false :: false :: true :: false :: false :: false :: false :: false :: false :: false :: false :: false :: false :: false :: false :: false :: false :: false :: false :: false :: false :: false :: false :: false :: false :: false :: false :: false :: false :: false :: false :: false :: false :: false :: false :: false :: false :: false :: false :: false :: false :: false :: false :: false :: false :: true :: true :: true :: true :: true :: true :: true :: true :: true :: true :: true :: true :: []) [(some 54, []), (some 55, [(0, 54)]), (some 56, []), (some 57, []), (some 58, [(3, 57)]), (some 59, [(1, 55), (2, 56), (4, 58)]), (some 60, [(5, 59)]), (some 61, []), (some 62, [(6, 60), (7, 61)]), (some 53, [(8, 62)]), (some 63, [(9, 53)]), (some 64, [(9, 53)]), (some 10, [])] 11 rfl (by kernel_rfl) (by kernel_rfl) (by rfl) (by rfl) ?_ (by rfl) (by rfl) ?_ ?_ ?_
        · exact stable_cons (fun _ _ _ _ h => h) (stable_cons (fun _ _ _ _ h => h) (stable_cons (fun _ _ _ _ h => h) (stable_cons (fun _ _ _ _ h => h) (stable_cons (fun _ _ _ _ h => h) (stable_cons (fun _ _ _ _ h => h) (stable_cons (fun _ _ _ _ h => h) (stable_cons (fun _ _ _ _ h => h) (stable_cons GaveB.keep (stable_cons GaveB.keep (stable_cons GaveB.keep (stable_cons (fun _ _ _ _ h => h) (stable_cons NewB.keep (stable_nil)))))))))))))
        · refine hops_cons ?_ (hops_cons ?_ (hops_cons ?_ (hops_cons ?_ (hops_cons ?_ (hops_cons ?_ (hops_cons ?_ (hops_cons ?_ (hops_cons ?_ (hops_cons ?_ (hops_cons ?_ (hops_cons ?_ (hops_cons ?_ (trivial)))))))))))))
          · unfold HopM; intro u wn hb hk; have H0 := H; replace H := H.call hb
            simp only [fillM]
            go_wp2_with (first | go_skip | ((with_reducible apply ld_bk); rfl; rfl; (focus (apply H.one; (repeat (first | with_reducible exact List.mem_cons_self | with_reducible apply List.mem_cons_of_mem)); done))) | ((with_reducible apply ld_one (ty := 22) Try.underlying22 rfl); rfl; rfl; (focus (apply H.one; (repeat (first | with_reducible exact List.mem_cons_self | with_reducible apply List.mem_cons_of_mem)); done))) | ((with_reducible apply ar_cut); exact Hcut.out; rfl; rfl; rfl) | ((with_reducible apply bd_bk3); rfl))
            exact ⟨rfl, Below.refl _ _, .pointer (some ⟨kA, 0, none⟩), rfl, rfl⟩
          · unfold HopM; intro u wn hb hk; have H0 := H; replace H := H.call hb
            obtain ⟨hq0, -⟩ := hk
            replace hq0 := hq0 _ rfl; dsimp only at hq0
            simp only [fillM, hq0]
            clear hq0
            go_wp2_with (first | go_skip | ((with_reducible apply ld_bk); rfl; rfl; (focus (apply H.one; (repeat (first | with_reducible exact List.mem_cons_self | with_reducible apply List.mem_cons_of_mem)); done))) | ((with_reducible apply ld_one (ty := 22) Try.underlying22 rfl); rfl; rfl; (focus (apply H.one; (repeat (first | with_reducible exact List.mem_cons_self | with_reducible apply List.mem_cons_of_mem)); done))) | ((with_reducible apply ar_cut); exact Hcut.out; rfl; rfl; rfl) | ((with_reducible apply bd_bk3); rfl))
            exact ⟨rfl, Below.refl _ _, .slice (some ⟨b, off, none⟩) n c, rfl, rfl⟩
          · unfold HopM; intro u wn hb hk; have H0 := H; replace H := H.call hb
            simp only [fillM]
            go_wp2_with (first | go_skip | ((with_reducible apply ld_bk); rfl; rfl; (focus (apply H.one; (repeat (first | with_reducible exact List.mem_cons_self | with_reducible apply List.mem_cons_of_mem)); done))) | ((with_reducible apply ld_one (ty := 22) Try.underlying22 rfl); rfl; rfl; (focus (apply H.one; (repeat (first | with_reducible exact List.mem_cons_self | with_reducible apply List.mem_cons_of_mem)); done))) | ((with_reducible apply ar_cut); exact Hcut.out; rfl; rfl; rfl) | ((with_reducible apply bd_bk3); rfl))
            exact ⟨rfl, Below.refl _ _, .int .i64 (m : Int), rfl, rfl⟩
          · unfold HopM; intro u wn hb hk; have H0 := H; replace H := H.call hb
            simp only [fillM]
            go_wp2_with (first | go_skip | ((with_reducible apply ld_bk); rfl; rfl; (focus (apply H.one; (repeat (first | with_reducible exact List.mem_cons_self | with_reducible apply List.mem_cons_of_mem)); done))) | ((with_reducible apply ld_one (ty := 22) Try.underlying22 rfl); rfl; rfl; (focus (apply H.one; (repeat (first | with_reducible exact List.mem_cons_self | with_reducible apply List.mem_cons_of_mem)); done))) | ((with_reducible apply ar_cut); exact Hcut.out; rfl; rfl; rfl) | ((with_reducible apply bd_bk3); rfl))
            exact ⟨rfl, Below.refl _ _, .int .i64 (m : Int), rfl, rfl⟩
          · unfold HopM; intro u wn hb hk; have H0 := H; replace H := H.call hb
            obtain ⟨hq3, -⟩ := hk
            replace hq3 := hq3 _ rfl; dsimp only at hq3
            simp only [fillM, hq3]
            clear hq3
            go_wp2_with (first | go_skip | ((with_reducible apply ld_bk); rfl; rfl; (focus (apply H.one; (repeat (first | with_reducible exact List.mem_cons_self | with_reducible apply List.mem_cons_of_mem)); done))) | ((with_reducible apply ld_one (ty := 22) Try.underlying22 rfl); rfl; rfl; (focus (apply H.one; (repeat (first | with_reducible exact List.mem_cons_self | with_reducible apply List.mem_cons_of_mem)); done))) | ((with_reducible apply ar_cut); exact Hcut.out; rfl; rfl; rfl) | ((with_reducible apply bd_bk3); rfl))
            exact ⟨rfl, Below.refl _ _, .int .i64 ((m : Int) + 1), rfl, rfl⟩
          · unfold HopM; intro u wn hb hk; have H0 := H; replace H := H.call hb
            obtain ⟨hq1, hq2, hq4, -⟩ := hk
            replace hq1 := hq1 _ rfl; dsimp only at hq1
            replace hq2 := hq2 _ rfl; dsimp only at hq2
            replace hq4 := hq4 _ rfl; dsimp only at hq4
            simp only [fillM, hq1, hq2, hq4]
            clear hq1 hq2 hq4
            go_wp2_with (first | go_skip | ((with_reducible apply ld_bk); rfl; rfl; (focus (apply H.one; (repeat (first | with_reducible exact List.mem_cons_self | with_reducible apply List.mem_cons_of_mem)); done))) | ((with_reducible apply ld_one (ty := 22) Try.underlying22 rfl); rfl; rfl; (focus (apply H.one; (repeat (first | with_reducible exact List.mem_cons_self | with_reducible apply List.mem_cons_of_mem)); done))) | ((with_reducible apply ar_cut); exact Hcut.out; rfl; rfl; rfl) | ((with_reducible apply bd_bk3); rfl))
            exact ⟨rfl, Below.refl _ _, .slice q 1 dd, rfl, rfl⟩
          · unfold HopM; intro u wn hb hk; have H0 := H; replace H := H.call hb
            obtain ⟨hq5, -⟩ := hk
            replace hq5 := hq5 _ rfl; dsimp only at hq5
            simp only [fillM, hq5]
            clear hq5
            go_wp2_with (first | go_skip | ((with_reducible apply ld_bk); rfl; rfl; (focus (apply H.one; (repeat (first | with_reducible exact List.mem_cons_self | with_reducible apply List.mem_cons_of_mem)); done))) | ((with_reducible apply ld_one (ty := 22) Try.underlying22 rfl); rfl; rfl; (focus (apply H.one; (repeat (first | with_reducible exact List.mem_cons_self | with_reducible apply List.mem_cons_of_mem)); done))) | ((with_reducible apply ar_cut); exact Hcut.out; rfl; rfl; rfl) | ((with_reducible apply bd_bk3); rfl))
            exact ⟨rfl, Below.refl _ _, .agg #[.slice q 1 dd], rfl, rfl⟩
          · unfold HopM; intro u wn hb hk; have H0 := H; replace H := H.call hb
            simp only [fillM]
            go_wp2_with (first | go_skip | ((with_reducible apply ld_bk); rfl; rfl; (focus (apply H.one; (repeat (first | with_reducible exact List.mem_cons_self | with_reducible apply List.mem_cons_of_mem)); done))) | ((with_reducible apply ld_one (ty := 22) Try.underlying22 rfl); rfl; rfl; (focus (apply H.one; (repeat (first | with_reducible exact List.mem_cons_self | with_reducible apply List.mem_cons_of_mem)); done))) | ((with_reducible apply ar_cut); exact Hcut.out; rfl; rfl; rfl) | ((with_reducible apply bd_bk3); rfl))
            exact ⟨rfl, Below.refl _ _, .agg #[vo], rfl, rfl⟩
          · unfold HopM; intro u wn hb hk; have H0 := H; replace H := H.call hb
            obtain ⟨hq6, hq7, -⟩ := hk
            replace hq6 := hq6 _ rfl; dsimp only at hq6
            replace hq7 := hq7 _ rfl; dsimp only at hq7
            simp only [fillM, hq6, hq7]
            clear hq6 hq7
            go_wp2_with (first | go_skip | (go_at_call 23; (with_reducible refine (bkjoin_c Hd.out HJ.out _ (Hr.out.below H.bel) (Jo.out.below hb)).mono ?_); rintro e wm ⟨vj, rj, rfl, hrj, hs⟩))
            exact ⟨rfl, hs.bel, _, rfl, vj, rfl, hrj _ (hs.get List.mem_cons_self)⟩
          · unfold HopM; intro u wn hb hk; have H0 := H; replace H := H.call hb
            obtain ⟨hq8, -⟩ := hk
            replace hq8 := hq8 _ rfl; dsimp only at hq8; obtain ⟨vj, hq8, g1⟩ := hq8; dsimp only at hq8
            simp only [fillM, hq8]
            clear hq8
            go_wp2_with (first | go_skip)
            exact ⟨rfl, Below.refl _ _, _, rfl, vj, rfl, g1⟩
          · unfold HopM; intro u wn hb hk; have H0 := H; replace H := H.call hb
            obtain ⟨hq9, -⟩ := hk
            replace hq9 := hq9 _ rfl; dsimp only at hq9; obtain ⟨vj, hq9, g1⟩ := hq9; dsimp only at hq9
            simp only [fillM, hq9]
            clear hq9
            go_wp2_with (first | go_skip)
            exact ⟨rfl, Below.refl _ _, _, rfl, vj, rfl, g1⟩
          · unfold HopM; intro u wn hb hk; have H0 := H; replace H := H.call hb
            obtain ⟨hq9, -⟩ := hk
            replace hq9 := hq9 _ rfl; dsimp only at hq9; obtain ⟨vj, hq9, g1⟩ := hq9; dsimp only at hq9
            simp only [fillM, hq9]
            clear hq9
            go_wp2_with (first | go_skip | ((with_reducible apply ld_bk); rfl; rfl; (focus (apply H.one; (repeat (first | with_reducible exact List.mem_cons_self | with_reducible apply List.mem_cons_of_mem)); done))) | ((with_reducible apply ld_one (ty := 22) Try.underlying22 rfl); rfl; rfl; (focus (apply H.one; (repeat (first | with_reducible exact List.mem_cons_self | with_reducible apply List.mem_cons_of_mem)); done))) | ((with_reducible apply ar_cut); exact Hcut.out; rfl; rfl; rfl) | ((with_reducible apply bd_bk3); rfl))
            exact ⟨rfl, Below.refl _ _, .int .i64 0, rfl, rfl⟩
          · unfold HopM; intro u wn hb hk; have H0 := H; replace H := H.call hb
            simp only [fillM]
            go_wp2_with (first | go_skip | ((with_reducible apply al_bk (St.init _)); intro wm kJ HM))
            exact ⟨rfl, HM.bel, _, rfl, kJ, rfl, HM.get List.mem_cons_self, Nat.le_trans hb.size (HM.base _ List.mem_cons_self kJ rfl)⟩
        · intro u wn hb hk
          obtain ⟨hq9, -⟩ := hk
          replace hq9 := hq9 _ rfl; dsimp only at hq9; obtain ⟨vj, hq9, g1⟩ := hq9; dsimp only at hq9
          simp only [fillM, hq9]
          exact ⟨.int .i64 0, .inl ⟨rfl, fun W => rfl⟩, rfl⟩
        intro u wn hb hk; have H0 := H; replace H := H.call hb
        obtain ⟨hq0, hq1, hq2, hq3, hq4, hq5, hq6, hq7, hq8, hq9, hq10, hq11, hq12, -⟩ := hk
        replace hq0 := hq0 _ rfl; dsimp only at hq0
        replace hq1 := hq1 _ rfl; dsimp only at hq1
        replace hq2 := hq2 _ rfl; dsimp only at hq2
        replace hq3 := hq3 _ rfl; dsimp only at hq3
        replace hq4 := hq4 _ rfl; dsimp only at hq4
        replace hq5 := hq5 _ rfl; dsimp only at hq5
        replace hq6 := hq6 _ rfl; dsimp only at hq6
        replace hq7 := hq7 _ rfl; dsimp only at hq7
        replace hq8 := hq8 _ rfl; dsimp only at hq8; obtain ⟨vj, hq8, g1⟩ := hq8; dsimp only at hq8
        replace hq9 := hq9 _ rfl; dsimp only at hq9; obtain ⟨vj, hq9, g1⟩ := hq9; dsimp only at hq9
        replace hq10 := hq10 _ rfl; dsimp only at hq10; obtain ⟨vj, hq10, g1⟩ := hq10; dsimp only at hq10; have T1 : Hid (vj.oneCell' = true) := Lib.hid g1.one; have Jn := Lib.hid g1; clear g1
        replace hq11 := hq11 _ rfl; dsimp only at hq11
        replace hq12 := hq12 _ rfl; dsimp only at hq12; obtain ⟨kJ, hq12, hK, hB⟩ := hq12; replace H := H0.new hb (r := Res.blk kJ 24 #[.slice none 0 0]) hK (fun b e => by cases e; exact hB); clear hK hB
        simp only [fillM, List.length_cons, List.length_nil, Nat.reduceAdd, List.drop_succ_cons, List.drop_zero, hq0, hq1, hq2, hq3, hq4, hq5, hq6, hq7, hq8, hq9, hq10, hq11, hq12]
        clear hb H0 hq0 hq1 hq2 hq3 hq4 hq5 hq6 hq7 hq8 hq9 hq10 hq11 hq12
        clear hw3
        go_wp2_with (first | go_skip | ((with_reducible apply ld_bk); rfl; rfl; (focus (apply H.one; (repeat (first | with_reducible exact List.mem_cons_self | with_reducible apply List.mem_cons_of_mem)); done))) | ((with_reducible apply st_bkR H Jn.out); rfl; rfl; rfl; (repeat (first | with_reducible apply Upd.head | with_reducible apply Upd.tail)); (first | exact ⟨_, _, _, rfl⟩ | exact Jo.out.isSlice); (first | rfl | assumption | (refine Hid.out ?_; assumption)); clear H Jn; intro wn H Jn; replace Jn := Lib.hid Jn))
        go_roundw
        case rel => exact ⟨k + 1, vj, by omega, by go_num, by rw [HJe.out]; exact Jn, T1, H.sub (by (repeat (first | with_reducible exact List.Sublist.refl _ | with_reducible refine List.Sublist.cons_cons _ ?_ | refine List.Sublist.cons _ ?_)))⟩
        case measure => simp [intOf]; omega
      · have hjn : k = n := by omega
        subst hjn
        go_wp2_with (first | go_skip | ((fail_if_success have := kA); (with_reducible apply arm_box H); rfl; clear H; intro wn kA H) | ((fail_if_success have := kO); (with_reducible apply al_bk H); clear H; intro wn kO H) | ((fail_if_success have := kJ); (with_reducible apply al_bk H); clear H; intro wn kJ H) | ((with_reducible apply ld_bk); rfl; rfl; (focus (apply H.one; (repeat (first | with_reducible exact List.mem_cons_self | with_reducible apply List.mem_cons_of_mem)); done))) | (with_reducible apply bd_bk0) | ((with_reducible apply st_bk H); rfl; rfl; rfl; (repeat (first | with_reducible apply Upd.head | with_reducible apply Upd.tail)); (first | rfl | assumption | (refine Hid.out ?_; assumption)); clear H; intro wn H) | (go_at_call 20; (with_reducible refine (awake7_c _).mono ?_); rintro e wn ⟨rfl, hb⟩; replace H := H.call hb; clear hb) | (go_at_call 21; first | ((with_reducible refine (few7_v hfa.out _ (Ha.out.below H.bel)).mono ?_); rintro e wn ⟨rfl, hb⟩; replace H := H.call hb; clear hb)) | (go_at_call 22; first | ((with_reducible refine (bkmay_v hma.out _ (Ha.out.below H.bel)).mono ?_); rintro e wn ⟨rfl, hb⟩; replace H := H.call hb; clear hb)) | ((with_reducible apply ld_one (ty := 22) Try.underlying22 rfl); rfl; rfl; (focus (apply H.one; (repeat (first | with_reducible exact List.mem_cons_self | with_reducible apply List.mem_cons_of_mem)); done))) | (go_at_call 24; first | ((with_reducible refine (bksame_v SM.out _ Jo.out (Ha.out.below H.bel)).mono ?_); rintro e wn ⟨rfl, hb⟩; replace H := H.call hb; clear hb)))
        all_goals first | (rw [Exit.noGoto_ret]; go_ret) | go_ret
        all_goals exact ⟨rfl, H.bel⟩
end Go.Proofs.Ytolbmemogoojhaa
