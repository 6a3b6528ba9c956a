/- The document's books: a record more, the walk. -/
import Derived.Test.YtolbmemogoojhaaGreatVRbC
import Derived.Test.YtolbmemogoojhaaGreatVN7
namespace Go.Proofs.YtolbmemogoojhaaGreat
open Go Go.RowKit Go.Deep
set_option linter.unusedVariables false
set_option linter.unusedSimpArgs false
set_option maxRecDepth 100000
set_option maxHeartbeats 12800000 in
theorem rbput_c {v : Value} {m : BK} {r : RD} {s : Value} (hg : Good m) (hm30 : m.length ≤ 30) (hr : rMay r = true) (hok : r.ok) (w : World) (hv : Recs w v m) (hf : Flds w s r.f) :
    Calls Tryz.prog 54 #[.agg #[v], .agg (rA r s)] w fun e w' => ∃ v' R, e = .returned (.agg #[v']) ∧ (∀ W, R.holds W → Recs W v' (bPut m r)) ∧ St w w' [R] := by
  obtain ⟨n, hn⟩ : ∃ n, m.length = n := ⟨_, rfl⟩
  obtain ⟨a, c, rfl, hm1, _⟩ := id hv.slice
  rw [hn] at hv hm1 hm30 ⊢
  unfold maxLen at hm1
  have Hfr : Hid (r.f.length ≤ 1000) := Lib.hid (Nat.le_trans (rMay_few hr) (by decide))
  have Hone1 : Hid (s.oneCell' = true) := Lib.hid (flds_one hf)
  have HoneN : Hid (Value.oneCell' (.slice none 0 0) = true) := Lib.hid rfl
  have Hv := Lib.hid hv; have Hn := Lib.hid hn; have Hf := Lib.hid hf; have Hok := Lib.hid hok; have Hg := Lib.hid hg; have Hr := Lib.hid hr
  clear hv hn hf hok hg hr
  have H := St.init w
  go_enter Tryz.func54, Tryz.ntmps54
  go_wp2_with (first | go_skip | ((fail_if_success have := kB); (with_reducible apply arm_box H); rfl; clear H; intro wn kB H) | ((fail_if_success have := kR); (with_reducible apply bx_rec H); rfl; exact Hok.out; clear H; intro wn kR H) | ((fail_if_success have := kX); (with_reducible apply al_bk H); clear H; intro wn kX H) | ((fail_if_success have := kO); (with_reducible apply al_bk H); clear H; intro wn kO H) | (with_reducible apply bd_bk0) | ((with_reducible apply st_bk H); rfl; rfl; rfl; (repeat (first | with_reducible apply Upd.head | with_reducible apply Upd.tail)); (first | rfl | assumption | (refine Hid.out ?_; assumption)); clear H; intro wn H))
  go_loopw [7, 6] (fun i dv wr => ∃ (j : Nat) (dn : Bool) (L : RS) (vo : Value) (R : Res), j ≤ n ∧ i = .int .i64 j ∧ dv = .bool dn ∧ Hid (PInv m r j dn L) ∧ Hid (LOk R L) ∧ Hid (L.length ≤ 2 * j) ∧ Hid (vo.oneCell' = true) ∧ St w wr [R, Res.row 33 19 vo L.length (recsL L), Res.blk kO 24 #[vo], Res.blk kX 24 #[.slice none 0 0], Res.rc kR r s, Res.blk kB 24 #[.slice a n c]]) (fun i _ _ => n - (intOf i).toNat)
  case atStart => exact ⟨0, false, [], .slice none 0 0, Res.none, by omega, rfl, rfl, Lib.hid (.inl ⟨rfl, rfl⟩), Lib.hid ⟨fun _ h => (List.not_mem_nil h).elim, fun _ _ _ h => (List.not_mem_nil h).elim⟩, Lib.hid (by simp), HoneN, (H.nilRow 33 19).addNone⟩
  case round =>
    clear H
    obtain ⟨j, dn, L, vo, R, hj, rfl, rfl, I, K, HLn, To, H⟩ := hrel
    have HL : Hid (L.length + 3 ≤ 100) := Lib.hid (by have := HLn.out; omega)
    by_cases hlt : j < n
    · obtain ⟨y, hy⟩ : ∃ y, m[j]? = some y := ⟨_, List.getElem?_eq_getElem (by rw [Hn.out]; exact hlt)⟩
      obtain ⟨b, off, sy, rfl, hbw, G, hfy⟩ := Hv.out.at hy
      have hmy := Hg.out.2 y (List.mem_of_getElem? hy)
      have Hoky : Hid y.ok := Lib.hid G.2
      have Hfl := Lib.hid hfy
      have Hfy : Hid (y.f.length ≤ 1000) := Lib.hid (Nat.le_trans (rMay_few hmy) (by decide))
      have Hmy := Lib.hid hmy; have Hy := Lib.hid hy
      have Honey : Hid (sy.oneCell' = true) := Lib.hid (flds_one hfy)
      obtain ⟨l, hl⟩ : ∃ l, Hid (idLt r.id y.id = l) := ⟨_, rfl⟩
      obtain ⟨q, hq⟩ : ∃ q, Hid ((y.id == r.id) = q) := ⟨_, rfl⟩
      have hqe := hq.out
      have heq : ∀ W, (binOp .eql 26 (.agg (idA y)) (.agg (idA r))).run Tryz.prog W = .ok (.bool q) W := fun W => by
        have := eql_id y.id r.id Hoky.out Hok.out W
        rw [hqe] at this; exact this
      have Heq := Lib.hid heq
      clear hfy hbw hmy hy hqe heq
      have hcase : (dn = true ∧ l = true ∧ q = false) ∨ (dn = false ∧ l = true ∧ q = false) ∨ (dn = false ∧ l = false ∧ q = true) ∨ (dn = false ∧ l = false ∧ q = false) := by
        have e1 := hl.out; have e2 := hq.out
        cases dn with
        | true =>
          have hlt2 := (PInv.done (sy := sy) Hy.out I.out).1
          rw [(idLt_iff _ _).2 hlt2] at e1
          have : (y.id == r.id) = false := by rw [beq_eq_false_iff_ne]; exact (idl_ne hlt2).symm
          rw [this] at e2
          exact .inl ⟨rfl, e1.symm, e2.symm⟩
        | false =>
          cases l with
          | true =>
            have : (y.id == r.id) = false := by rw [beq_eq_false_iff_ne]; exact (idl_ne ((idLt_iff _ _).1 e1)).symm
            rw [this] at e2
            exact .inr (.inl ⟨rfl, rfl, e2.symm⟩)
          | false => cases q <;> simp
      rcases hcase with ⟨rfl, rfl, rfl⟩ | ⟨rfl, rfl, rfl⟩ | ⟨rfl, rfl, rfl⟩ | ⟨rfl, rfl, rfl⟩
      · go_wp2_with (first | go_skip | ((with_reducible apply ld_one (ty := 22) Tryz.underlying22 rfl); rfl; rfl; (focus (apply H.one; (repeat (first | with_reducible exact mH | with_reducible apply mT)); done))))
        (try simp only [Act.put, List.setIfInBounds_toArray, List.set_cons_zero, List.set_cons_succ])
        refine wp_quiet_all (C := fun w' => ∃ x : After _, w' = x.w) (by kernel_rfl) (by kernel_rfl) (since_drew _) ?_
        repeat (first | go_big_quiet_skip | (go_big_quiet_want; (with_reducible apply qd_rec); rfl; (rintro _ ⟨x, rfl⟩; have H := H.call x.h; (first | (focus (apply H.rc; (repeat (first | with_reducible exact mH | with_reducible apply mT)); done)) | (apply RecAt.bel (hb := H.bel); assumption))); (first | assumption | (refine Hid.out ?_; assumption)); (go_simp; go_big_quiet_on)) | (go_big_quiet_want; (with_reducible apply qd_id); rfl; (rintro _ ⟨x, rfl⟩; have H := H.call x.h; (first | (focus (apply H.rc; (repeat (first | with_reducible exact mH | with_reducible apply mT)); done)) | (apply RecAt.bel (hb := H.bel); assumption))); (first | assumption | (refine Hid.out ?_; assumption)); (go_simp; go_big_quiet_on)) | (go_big_quiet_want; (with_reducible apply qd_one (ty := 22) Tryz.underlying22 rfl); rfl; (rintro _ ⟨x, rfl⟩; have H := H.call x.h; (focus (apply H.one; (repeat (first | with_reducible exact mH | with_reducible apply mT)); done))); (go_simp; go_big_quiet_on)) | (go_big_quiet_step ((first | (go_at_call 17; with_reducible exact after_call _ (rbless_r hl.out Hok.out Hoky.out _))))))
        refine wpQuiet_nil ?_
        rintro _ ⟨zq, rfl⟩; replace H := H.call zq.h
        go_wp2
        have heq := Heq.out
        (try simp only [Act.put, List.setIfInBounds_toArray, List.set_cons_zero, List.set_cons_succ])
        refine wp_quiet_all (C := fun w' => ∃ x : After _, w' = x.w) (by kernel_rfl) (by kernel_rfl) (since_drew _) ?_
        repeat (first | go_big_quiet_skip | (go_big_quiet_want; (with_reducible apply qd_rec); rfl; (rintro _ ⟨x, rfl⟩; have H := H.call x.h; (first | (focus (apply H.rc; (repeat (first | with_reducible exact mH | with_reducible apply mT)); done)) | (apply RecAt.bel (hb := H.bel); assumption))); (first | assumption | (refine Hid.out ?_; assumption)); (go_simp; go_big_quiet_on)) | (go_big_quiet_want; (with_reducible apply qd_id); rfl; (rintro _ ⟨x, rfl⟩; have H := H.call x.h; (first | (focus (apply H.rc; (repeat (first | with_reducible exact mH | with_reducible apply mT)); done)) | (apply RecAt.bel (hb := H.bel); assumption))); (first | assumption | (refine Hid.out ?_; assumption)); (go_simp; go_big_quiet_on)) | (go_big_quiet_want; (with_reducible apply qd_one (ty := 22) Tryz.underlying22 rfl); rfl; (rintro _ ⟨x, rfl⟩; have H := H.call x.h; (focus (apply H.one; (repeat (first | with_reducible exact mH | with_reducible apply mT)); done))); (go_simp; go_big_quiet_on)) | (go_big_quiet_step (fail)))
        refine wpQuiet_nil ?_
        rintro _ ⟨zq, rfl⟩; replace H := H.call zq.h
        clear heq
        go_wp2
        (try simp only [Act.put, List.setIfInBounds_toArray, List.set_cons_zero, List.set_cons_succ])
        refine wp_slotsM [⟨some 65, [], fun _ v => v = .pointer (some ⟨kO, 0, none⟩)⟩, ⟨some 66, [(0, 65)], fun _ v => v = vo⟩, ⟨some 67, [], fun _ v => v = .pointer (some ⟨kB, 0, none⟩)⟩, ⟨some 68, [(2, 67)], fun _ v => v = .slice (some ⟨b, off, none⟩) n c⟩, ⟨some 69, [], fun _ v => v = .int .i64 (j : Int)⟩, ⟨some 70, [(3, 68), (4, 69)], fun _ v => v = .pointer (some ⟨b, off + j * 19, none⟩)⟩, ⟨some 71, [(5, 70)], fun _ v => v = .agg (rA y sy)⟩, ⟨some 72, [(6, 71)], Made zq.w (fun s' => .agg (rA y s')) (fun s' => Res.row 82 4 s' y.f.length (fieldsL y.f))⟩, ⟨some 73, [(7, 72)], MadeV zq.w y⟩] [65, 66, 67, 68, 69, 70, 71, 72, 73] (false :: false :: false :: false :: false :: false :: false :: false :: false :: false :: false :: false :: false :: false :: false :: false :: false :: false :: false :: false :: false :: false :: false :: false :: false :: false :: false :: false :: false :: false :: false :: false :: false :: false :: false :: false :: false :: false :: false :: false :: false :: false :: false :: false :: false :: false :: false :: false :: false :: false :: false :: false :: false :: false :: false :: false :: false :: false :: false :: false :: false :: false :: false :: false :: false :: true :: true :: true :: true :: true :: true :: true :: true :: true :: []) [(some 65, []), (some 66, [(0, 65)]), (some 67, []), (some 68, [(2, 67)]), (some 69, []), (some 70, [(3, 68), (4, 69)]), (some 71, [(5, 70)]), (some 72, [(6, 71)]), (some 73, [(7, 72)])] rfl (by kernel_rfl) (by kernel_rfl) (by rfl) (by rfl) ?_ ?_ ?_
        · exact stable_cons (fun _ _ _ _ h => h) (stable_cons (fun _ _ _ _ h => h) (stable_cons (fun _ _ _ _ h => h) (stable_cons (fun _ _ _ _ h => h) (stable_cons (fun _ _ _ _ h => h) (stable_cons (fun _ _ _ _ h => h) (stable_cons (fun _ _ _ _ h => h) (stable_cons Made.keep (stable_cons MadeV.keep (stable_nil)))))))))
        · refine hops_cons ?_ (hops_cons ?_ (hops_cons ?_ (hops_cons ?_ (hops_cons ?_ (hops_cons ?_ (hops_cons ?_ (hops_cons ?_ (hops_cons ?_ (trivial)))))))))
          · unfold HopM; intro u wn hb hk; have H0 := H; replace H := H.call hb
            simp only [fillM]
            go_wp2_with (first | go_skip | ((with_reducible apply ld_one (ty := 22) Tryz.underlying22 rfl); rfl; rfl; (focus (apply H.one; (repeat (first | with_reducible exact mH | with_reducible apply mT)); done))) | ((with_reducible apply ld_rec); rfl; rfl; (first | (focus (apply H.rc; (repeat (first | with_reducible exact mH | with_reducible apply mT)); done)) | (apply RecAt.bel (hb := H.bel); assumption) | assumption)))
            exact ⟨rfl, Below.refl _ _, .pointer (some ⟨kO, 0, none⟩), rfl, rfl⟩
          · unfold HopM; intro u wn hb hk; have H0 := H; replace H := H.call hb
            obtain ⟨hq0, -⟩ := hk
            replace hq0 := hq0 _ rfl; dsimp only at hq0
            simp only [fillM, hq0]
            clear hq0
            go_wp2_with (first | go_skip | ((with_reducible apply ld_one (ty := 22) Tryz.underlying22 rfl); rfl; rfl; (focus (apply H.one; (repeat (first | with_reducible exact mH | with_reducible apply mT)); done))) | ((with_reducible apply ld_rec); rfl; rfl; (first | (focus (apply H.rc; (repeat (first | with_reducible exact mH | with_reducible apply mT)); done)) | (apply RecAt.bel (hb := H.bel); assumption) | assumption)))
            exact ⟨rfl, Below.refl _ _, vo, rfl, rfl⟩
          · unfold HopM; intro u wn hb hk; have H0 := H; replace H := H.call hb
            simp only [fillM]
            go_wp2_with (first | go_skip | ((with_reducible apply ld_one (ty := 22) Tryz.underlying22 rfl); rfl; rfl; (focus (apply H.one; (repeat (first | with_reducible exact mH | with_reducible apply mT)); done))) | ((with_reducible apply ld_rec); rfl; rfl; (first | (focus (apply H.rc; (repeat (first | with_reducible exact mH | with_reducible apply mT)); done)) | (apply RecAt.bel (hb := H.bel); assumption) | assumption)))
            exact ⟨rfl, Below.refl _ _, .pointer (some ⟨kB, 0, none⟩), rfl, rfl⟩
          · unfold HopM; intro u wn hb hk; have H0 := H; replace H := H.call hb
            obtain ⟨hq2, -⟩ := hk
            replace hq2 := hq2 _ rfl; dsimp only at hq2
            simp only [fillM, hq2]
            clear hq2
            go_wp2_with (first | go_skip | ((with_reducible apply ld_one (ty := 22) Tryz.underlying22 rfl); rfl; rfl; (focus (apply H.one; (repeat (first | with_reducible exact mH | with_reducible apply mT)); done))) | ((with_reducible apply ld_rec); rfl; rfl; (first | (focus (apply H.rc; (repeat (first | with_reducible exact mH | with_reducible apply mT)); done)) | (apply RecAt.bel (hb := H.bel); assumption) | assumption)))
            exact ⟨rfl, Below.refl _ _, .slice (some ⟨b, off, none⟩) n c, rfl, rfl⟩
          · unfold HopM; intro u wn hb hk; have H0 := H; replace H := H.call hb
            simp only [fillM]
            go_wp2_with (first | go_skip | ((with_reducible apply ld_one (ty := 22) Tryz.underlying22 rfl); rfl; rfl; (focus (apply H.one; (repeat (first | with_reducible exact mH | with_reducible apply mT)); done))) | ((with_reducible apply ld_rec); rfl; rfl; (first | (focus (apply H.rc; (repeat (first | with_reducible exact mH | with_reducible apply mT)); done)) | (apply RecAt.bel (hb := H.bel); assumption) | assumption)))
            exact ⟨rfl, Below.refl _ _, .int .i64 (j : Int), rfl, rfl⟩
          · unfold HopM; intro u wn hb hk; have H0 := H; replace H := H.call hb
            obtain ⟨hq3, hq4, -⟩ := hk
            replace hq3 := hq3 _ rfl; dsimp only at hq3
            replace hq4 := hq4 _ rfl; dsimp only at hq4
            simp only [fillM, hq3, hq4]
            clear hq3 hq4
            go_wp2_with (first | go_skip | ((with_reducible apply ld_one (ty := 22) Tryz.underlying22 rfl); rfl; rfl; (focus (apply H.one; (repeat (first | with_reducible exact mH | with_reducible apply mT)); done))) | ((with_reducible apply ld_rec); rfl; rfl; (first | (focus (apply H.rc; (repeat (first | with_reducible exact mH | with_reducible apply mT)); done)) | (apply RecAt.bel (hb := H.bel); assumption) | assumption)))
            exact ⟨rfl, Below.refl _ _, .pointer (some ⟨b, off + j * 19, none⟩), rfl, rfl⟩
          · unfold HopM; intro u wn hb hk; have H0 := H; replace H := H.call hb
            obtain ⟨hq5, -⟩ := hk
            replace hq5 := hq5 _ rfl; dsimp only at hq5
            simp only [fillM, hq5]
            clear hq5
            go_wp2_with (first | go_skip | ((with_reducible apply ld_one (ty := 22) Tryz.underlying22 rfl); rfl; rfl; (focus (apply H.one; (repeat (first | with_reducible exact mH | with_reducible apply mT)); done))) | ((with_reducible apply ld_rec); rfl; rfl; (first | (focus (apply H.rc; (repeat (first | with_reducible exact mH | with_reducible apply mT)); done)) | (apply RecAt.bel (hb := H.bel); assumption) | assumption)))
            exact ⟨rfl, Below.refl _ _, .agg (rA y sy), rfl, rfl⟩
          · unfold HopM; intro u wn hb hk; have H0 := H; replace H := H.call hb
            obtain ⟨hq6, -⟩ := hk
            replace hq6 := hq6 _ rfl; dsimp only at hq6
            simp only [fillM, hq6]
            clear hq6
            go_wp2_with (first | go_skip | (go_at_call 91; (with_reducible refine (rbown_c y sy Hoky.out Hfy.out _ (Hfl.out.below H.bel)).mono ?_); rintro e wm ⟨sj, rfl, hs⟩))
            exact ⟨rfl, hs.bel, _, rfl, sj, rfl, hs.get mH, fun b hf => Nat.le_trans hb.size (hs.base _ mH b hf)⟩
          · unfold HopM; intro u wn hb hk; have H0 := H; replace H := H.call hb
            obtain ⟨hq7, -⟩ := hk
            replace hq7 := hq7 _ rfl; dsimp only at hq7; obtain ⟨sj, hq7, hr, hbs⟩ := hq7; dsimp only at hq7
            simp only [fillM, hq7]
            clear hq7
            go_wp2_with (first | go_skip | ((with_reducible apply bs_rec Hoky.out (St.init _)); rfl; intro wm b hs))
            exact ⟨rfl, hs.bel, _, rfl, _, sj, rfl, (by obtain ⟨_, _, _, rfl⟩ := (St.rowSliceR hr); rfl), Res.row_reads (hs.get mH), Res.keep hr hs.bel, hbs⟩
        intro u wn hb hk; have H0 := H; replace H := H.call hb
        obtain ⟨hq0, hq1, hq2, hq3, hq4, hq5, hq6, hq7, hq8, -⟩ := hk
        replace hq0 := hq0 _ rfl; dsimp only at hq0
        replace hq1 := hq1 _ rfl; dsimp only at hq1
        replace hq2 := hq2 _ rfl; dsimp only at hq2
        replace hq3 := hq3 _ rfl; dsimp only at hq3
        replace hq4 := hq4 _ rfl; dsimp only at hq4
        replace hq5 := hq5 _ rfl; dsimp only at hq5
        replace hq6 := hq6 _ rfl; dsimp only at hq6
        replace hq7 := hq7 _ rfl; dsimp only at hq7; obtain ⟨sj, hq7, hr, hbs⟩ := hq7; dsimp only at hq7
        replace hq8 := hq8 _ rfl; dsimp only at hq8; obtain ⟨sv, sj, hq8, h1, h2, h3, h4⟩ := hq8; have Hrw := Lib.hid h2; have Ts := Lib.hid h1; replace H := H0.new hb h3 h4; clear h1 h2 h3 h4
        simp only [fillM, List.length_cons, List.length_nil, Nat.reduceAdd, List.drop_succ_cons, List.drop_zero, hq0, hq1, hq2, hq3, hq4, hq5, hq6, hq7, hq8]
        clear hb H0 hq0 hq1 hq2 hq3 hq4 hq5 hq6 hq7 hq8
        go_wp2_with (first | go_skip | ((with_reducible apply arm_app H (ht := Tryz.underlying22) (hinfo := info_rec3) (hzs := size_rec0) (hsz := by decide)); (conv => lhs; whnf); (conv => lhs; whnf); (intro v; (repeat (first | with_reducible apply Upd.head | with_reducible apply Upd.tail))); (focus (exact Hrw.out; done)); (focus (exact recsL_one (fun p hp => by rw [List.mem_singleton.1 hp]; exact Ts.out); done)); (focus (have := HL.out; unfold maxLen; omega; done)); (focus (have := HL.out; omega; done)); clear H; intro wn vn H; obtain ⟨av, cv, rfl⟩ := H.rowSl (v := vn) (by (repeat (first | with_reducible exact mH | with_reducible apply mT)))) | ((with_reducible apply st_on rs_one H); rfl; rfl; (conv => lhs; whnf); (repeat (first | with_reducible apply Upd.head | with_reducible apply Upd.tail)); rfl; (first | rfl | assumption | (refine Hid.out ?_; assumption)); clear H; intro wn H))
        have K1 := LOk.more (r := y) (s := sj) K.out Hoky.out Ts.out
        have H1 : St w wn [(Res.row 82 4 sj y.f.length (fieldsL y.f)).and R, Res.row 33 19 (.slice av (L.length + 1) cv) (L ++ [(y, sj)]).length (recsL (L ++ [(y, sj)])), Res.blk kO 24 #[.slice av (L.length + 1) cv], Res.blk kX 24 #[.slice none 0 0], Res.rc kR r s, Res.blk kB 24 #[.slice (some ⟨b, off, none⟩) n c]] := by
          rw [recsL_append, List.length_append]
          exact (H.sub (Γ' := [Res.row 82 4 sj y.f.length (fieldsL y.f), R, Res.row 33 19 (.slice av (L.length + 1) cv) (L.length + 1) (recsL L ++ recsL [(y, sj)]), Res.blk kO 24 #[.slice av (L.length + 1) cv], Res.blk kX 24 #[.slice none 0 0], Res.rc kR r s, Res.blk kB 24 #[.slice (some ⟨b, off, none⟩) n c]]) (by (repeat (first | with_reducible exact List.Sublist.refl _ | with_reducible refine List.Sublist.cons_cons _ ?_ | refine List.Sublist.cons _ ?_)))).merge
        clear H; have H := H1; clear H1
        go_roundw
        case rel => exact ⟨j + 1, true, L ++ [(y, sj)], _, _, by omega, by go_num, rfl, Lib.hid ((PInv.done Hy.out I.out).2), Lib.hid K1, Lib.hid (by have := HLn.out; simp only [List.length_append, List.length_cons, List.length_nil]; omega), Lib.hid rfl, H⟩
        case measure => simp [intOf]; omega
      · have hlt2 := Lib.hid ((idLt_iff _ _).1 hl.out)
        go_wp2_with (first | go_skip | ((with_reducible apply ld_one (ty := 22) Tryz.underlying22 rfl); rfl; rfl; (focus (apply H.one; (repeat (first | with_reducible exact mH | with_reducible apply mT)); done))))
        (try simp only [Act.put, List.setIfInBounds_toArray, List.set_cons_zero, List.set_cons_succ])
        refine wp_quiet_all (C := fun w' => ∃ x : After _, w' = x.w) (by kernel_rfl) (by kernel_rfl) (since_drew _) ?_
        repeat (first | go_big_quiet_skip | (go_big_quiet_want; (with_reducible apply qd_rec); rfl; (rintro _ ⟨x, rfl⟩; have H := H.call x.h; (first | (focus (apply H.rc; (repeat (first | with_reducible exact mH | with_reducible apply mT)); done)) | (apply RecAt.bel (hb := H.bel); assumption))); (first | assumption | (refine Hid.out ?_; assumption)); (go_simp; go_big_quiet_on)) | (go_big_quiet_want; (with_reducible apply qd_id); rfl; (rintro _ ⟨x, rfl⟩; have H := H.call x.h; (first | (focus (apply H.rc; (repeat (first | with_reducible exact mH | with_reducible apply mT)); done)) | (apply RecAt.bel (hb := H.bel); assumption))); (first | assumption | (refine Hid.out ?_; assumption)); (go_simp; go_big_quiet_on)) | (go_big_quiet_want; (with_reducible apply qd_one (ty := 22) Tryz.underlying22 rfl); rfl; (rintro _ ⟨x, rfl⟩; have H := H.call x.h; (focus (apply H.one; (repeat (first | with_reducible exact mH | with_reducible apply mT)); done))); (go_simp; go_big_quiet_on)) | (go_big_quiet_step ((first | (go_at_call 17; with_reducible exact after_call _ (rbless_r hl.out Hok.out Hoky.out _))))))
        refine wpQuiet_nil ?_
        rintro _ ⟨zq, rfl⟩; replace H := H.call zq.h
        go_wp2
        (try simp only [Act.put, List.setIfInBounds_toArray, List.set_cons_zero, List.set_cons_succ])
        refine wp_slotsM [⟨some 33, [], fun _ v => v = .pointer (some ⟨kO, 0, none⟩)⟩, ⟨some 34, [(0, 33)], fun _ v => v = vo⟩, ⟨some 35, [], fun _ v => v = .agg (rA r s)⟩, ⟨some 36, [(2, 35)], Made zq.w (fun s' => .agg (rA r s')) (fun s' => Res.row 82 4 s' r.f.length (fieldsL r.f))⟩, ⟨some 37, [(3, 36)], MadeV zq.w r⟩] [33, 34, 35, 36, 37] (false :: false :: false :: false :: false :: false :: false :: false :: false :: false :: false :: false :: false :: false :: false :: false :: false :: false :: false :: false :: false :: false :: false :: false :: false :: false :: false :: false :: false :: false :: false :: false :: false :: true :: true :: true :: true :: true :: []) [(some 33, []), (some 34, [(0, 33)]), (some 35, []), (some 36, [(2, 35)]), (some 37, [(3, 36)])] rfl (by kernel_rfl) (by kernel_rfl) (by rfl) (by rfl) ?_ ?_ ?_
        · exact stable_cons (fun _ _ _ _ h => h) (stable_cons (fun _ _ _ _ h => h) (stable_cons (fun _ _ _ _ h => h) (stable_cons Made.keep (stable_cons MadeV.keep (stable_nil)))))
        · refine hops_cons ?_ (hops_cons ?_ (hops_cons ?_ (hops_cons ?_ (hops_cons ?_ (trivial)))))
          · unfold HopM; intro u wn hb hk; have H0 := H; replace H := H.call hb
            simp only [fillM]
            go_wp2_with (first | go_skip | ((with_reducible apply ld_one (ty := 22) Tryz.underlying22 rfl); rfl; rfl; (focus (apply H.one; (repeat (first | with_reducible exact mH | with_reducible apply mT)); done))) | ((with_reducible apply ld_rec); rfl; rfl; (first | (focus (apply H.rc; (repeat (first | with_reducible exact mH | with_reducible apply mT)); done)) | (apply RecAt.bel (hb := H.bel); assumption) | assumption)))
            exact ⟨rfl, Below.refl _ _, .pointer (some ⟨kO, 0, none⟩), rfl, rfl⟩
          · unfold HopM; intro u wn hb hk; have H0 := H; replace H := H.call hb
            obtain ⟨hq0, -⟩ := hk
            replace hq0 := hq0 _ rfl; dsimp only at hq0
            simp only [fillM, hq0]
            clear hq0
            go_wp2_with (first | go_skip | ((with_reducible apply ld_one (ty := 22) Tryz.underlying22 rfl); rfl; rfl; (focus (apply H.one; (repeat (first | with_reducible exact mH | with_reducible apply mT)); done))) | ((with_reducible apply ld_rec); rfl; rfl; (first | (focus (apply H.rc; (repeat (first | with_reducible exact mH | with_reducible apply mT)); done)) | (apply RecAt.bel (hb := H.bel); assumption) | assumption)))
            exact ⟨rfl, Below.refl _ _, vo, rfl, rfl⟩
          · unfold HopM; intro u wn hb hk; have H0 := H; replace H := H.call hb
            simp only [fillM]
            go_wp2_with (first | go_skip | ((with_reducible apply ld_one (ty := 22) Tryz.underlying22 rfl); rfl; rfl; (focus (apply H.one; (repeat (first | with_reducible exact mH | with_reducible apply mT)); done))) | ((with_reducible apply ld_rec); rfl; rfl; (first | (focus (apply H.rc; (repeat (first | with_reducible exact mH | with_reducible apply mT)); done)) | (apply RecAt.bel (hb := H.bel); assumption) | assumption)))
            exact ⟨rfl, Below.refl _ _, .agg (rA r s), rfl, rfl⟩
          · unfold HopM; intro u wn hb hk; have H0 := H; replace H := H.call hb
            obtain ⟨hq2, -⟩ := hk
            replace hq2 := hq2 _ rfl; dsimp only at hq2
            simp only [fillM, hq2]
            clear hq2
            go_wp2_with (first | go_skip | (go_at_call 91; (with_reducible refine (rbown_c r s Hok.out Hfr.out _ (Hf.out.below H.bel)).mono ?_); rintro e wm ⟨sj, rfl, hs⟩))
            exact ⟨rfl, hs.bel, _, rfl, sj, rfl, hs.get mH, fun b hf => Nat.le_trans hb.size (hs.base _ mH b hf)⟩
          · unfold HopM; intro u wn hb hk; have H0 := H; replace H := H.call hb
            obtain ⟨hq3, -⟩ := hk
            replace hq3 := hq3 _ rfl; dsimp only at hq3; obtain ⟨sj, hq3, hr, hbs⟩ := hq3; dsimp only at hq3
            simp only [fillM, hq3]
            clear hq3
            go_wp2_with (first | go_skip | ((with_reducible apply bs_rec Hok.out (St.init _)); rfl; intro wm b hs))
            exact ⟨rfl, hs.bel, _, rfl, _, sj, rfl, (by obtain ⟨_, _, _, rfl⟩ := (St.rowSliceR hr); rfl), Res.row_reads (hs.get mH), Res.keep hr hs.bel, hbs⟩
        intro u wn hb hk; have H0 := H; replace H := H.call hb
        obtain ⟨hq0, hq1, hq2, hq3, hq4, -⟩ := hk
        replace hq0 := hq0 _ rfl; dsimp only at hq0
        replace hq1 := hq1 _ rfl; dsimp only at hq1
        replace hq2 := hq2 _ rfl; dsimp only at hq2
        replace hq3 := hq3 _ rfl; dsimp only at hq3; obtain ⟨sj, hq3, hr, hbs⟩ := hq3; dsimp only at hq3
        replace hq4 := hq4 _ rfl; dsimp only at hq4; obtain ⟨sv, sj, hq4, h1, h2, h3, h4⟩ := hq4; have Hrw := Lib.hid h2; have Ts := Lib.hid h1; replace H := H0.new hb h3 h4; clear h1 h2 h3 h4
        simp only [fillM, List.length_cons, List.length_nil, Nat.reduceAdd, List.drop_succ_cons, List.drop_zero, hq0, hq1, hq2, hq3, hq4]
        clear hb H0 hq0 hq1 hq2 hq3 hq4
        go_wp2_with (first | go_skip | ((with_reducible apply arm_app H (ht := Tryz.underlying22) (hinfo := info_rec3) (hzs := size_rec0) (hsz := by decide)); (conv => lhs; whnf); (conv => lhs; whnf); (intro v; (repeat (first | with_reducible apply Upd.head | with_reducible apply Upd.tail))); (focus (exact Hrw.out; done)); (focus (exact recsL_one (fun p hp => by rw [List.mem_singleton.1 hp]; exact Ts.out); done)); (focus (have := HL.out; unfold maxLen; omega; done)); (focus (have := HL.out; omega; done)); clear H; intro wn vn H; obtain ⟨av, cv, rfl⟩ := H.rowSl (v := vn) (by (repeat (first | with_reducible exact mH | with_reducible apply mT)))) | ((with_reducible apply st_on rs_one H); rfl; rfl; (conv => lhs; whnf); (repeat (first | with_reducible apply Upd.head | with_reducible apply Upd.tail)); rfl; (first | rfl | assumption | (refine Hid.out ?_; assumption)); clear H; intro wn H))
        have K1 := LOk.more (r := r) (s := sj) K.out Hok.out Ts.out
        have H1 : St w wn [(Res.row 82 4 sj r.f.length (fieldsL r.f)).and R, Res.row 33 19 (.slice av (L.length + 1) cv) (L ++ [(r, sj)]).length (recsL (L ++ [(r, sj)])), Res.blk kO 24 #[.slice av (L.length + 1) cv], Res.blk kX 24 #[.slice none 0 0], Res.rc kR r s, Res.blk kB 24 #[.slice (some ⟨b, off, none⟩) n c]] := by
          rw [recsL_append, List.length_append]
          exact (H.sub (Γ' := [Res.row 82 4 sj r.f.length (fieldsL r.f), R, Res.row 33 19 (.slice av (L.length + 1) cv) (L.length + 1) (recsL L ++ recsL [(r, sj)]), Res.blk kO 24 #[.slice av (L.length + 1) cv], Res.blk kX 24 #[.slice none 0 0], Res.rc kR r s, Res.blk kB 24 #[.slice (some ⟨b, off, none⟩) n c]]) (by (repeat (first | with_reducible exact List.Sublist.refl _ | with_reducible refine List.Sublist.cons_cons _ ?_ | refine List.Sublist.cons _ ?_)))).merge
        clear H; have H := H1; clear H1
        obtain ⟨R1, hR1⟩ : ∃ R1, (Res.row 82 4 sj r.f.length (fieldsL r.f)).and R = R1 := ⟨_, rfl⟩
        rw [hR1] at H K1
        obtain ⟨L1, hL1⟩ : ∃ L1, L ++ [(r, sj)] = L1 := ⟨_, rfl⟩
        rw [hL1] at H K1
        have hlen1 : L.length + 1 = L1.length := by rw [← hL1]; simp
        rw [hlen1] at H
        have I1 : Hid (∀ sy', PInv m r (j + 1) true (L1 ++ [(y, sy')])) := Lib.hid fun sy' => by rw [← hL1]; exact PInv.fresh Hg.out.1 Hy.out I.out hlt2.out
        have HLn1 : Hid (L1.length ≤ 2 * j + 1) := Lib.hid (by have := HLn.out; omega)
        have K2 := Lib.hid K1
        have HL3 : Hid (L1.length + 2 ≤ 100) := Lib.hid (by have := HL.out; omega)
        clear K1 hR1 hL1
        rw [hlen1]
        clear HL hlen1
        have HL := HL3
        clear HL3
        obtain ⟨vo1, hvo1⟩ : ∃ v, Value.slice av L1.length cv = v := ⟨_, rfl⟩
        have Tv1 : Hid (vo1.oneCell' = true) := Lib.hid (by rw [← hvo1]; rfl)
        rw [hvo1] at H
        clear hvo1
        go_wp2
        have heq := Heq.out
        (try simp only [Act.put, List.setIfInBounds_toArray, List.set_cons_zero, List.set_cons_succ])
        refine wp_quiet_all (C := fun w' => ∃ x : After _, w' = x.w) (by kernel_rfl) (by kernel_rfl) (since_drew _) ?_
        repeat (first | go_big_quiet_skip | (go_big_quiet_want; (with_reducible apply qd_rec); rfl; (rintro _ ⟨x, rfl⟩; have H := H.call x.h; (first | (focus (apply H.rc; (repeat (first | with_reducible exact mH | with_reducible apply mT)); done)) | (apply RecAt.bel (hb := H.bel); assumption))); (first | assumption | (refine Hid.out ?_; assumption)); (go_simp; go_big_quiet_on)) | (go_big_quiet_want; (with_reducible apply qd_id); rfl; (rintro _ ⟨x, rfl⟩; have H := H.call x.h; (first | (focus (apply H.rc; (repeat (first | with_reducible exact mH | with_reducible apply mT)); done)) | (apply RecAt.bel (hb := H.bel); assumption))); (first | assumption | (refine Hid.out ?_; assumption)); (go_simp; go_big_quiet_on)) | (go_big_quiet_want; (with_reducible apply qd_one (ty := 22) Tryz.underlying22 rfl); rfl; (rintro _ ⟨x, rfl⟩; have H := H.call x.h; (focus (apply H.one; (repeat (first | with_reducible exact mH | with_reducible apply mT)); done))); (go_simp; go_big_quiet_on)) | (go_big_quiet_step (fail)))
        refine wpQuiet_nil ?_
        rintro _ ⟨zq, rfl⟩; replace H := H.call zq.h
        clear heq
        go_wp2
        (try simp only [Act.put, List.setIfInBounds_toArray, List.set_cons_zero, List.set_cons_succ])
        refine wp_slotsM [⟨some 65, [], fun _ v => v = .pointer (some ⟨kO, 0, none⟩)⟩, ⟨some 66, [(0, 65)], fun _ v => v = vo1⟩, ⟨some 67, [], fun _ v => v = .pointer (some ⟨kB, 0, none⟩)⟩, ⟨some 68, [(2, 67)], fun _ v => v = .slice (some ⟨b, off, none⟩) n c⟩, ⟨some 69, [], fun _ v => v = .int .i64 (j : Int)⟩, ⟨some 70, [(3, 68), (4, 69)], fun _ v => v = .pointer (some ⟨b, off + j * 19, none⟩)⟩, ⟨some 71, [(5, 70)], fun _ v => v = .agg (rA y sy)⟩, ⟨some 72, [(6, 71)], Made zq.w (fun s' => .agg (rA y s')) (fun s' => Res.row 82 4 s' y.f.length (fieldsL y.f))⟩, ⟨some 73, [(7, 72)], MadeV zq.w y⟩] [65, 66, 67, 68, 69, 70, 71, 72, 73] (false :: false :: false :: false :: false :: false :: false :: false :: false :: false :: false :: false :: false :: false :: false :: false :: false :: false :: false :: false :: false :: false :: false :: false :: false :: false :: false :: false :: false :: false :: false :: false :: false :: false :: false :: false :: false :: false :: false :: false :: false :: false :: false :: false :: false :: false :: false :: false :: false :: false :: false :: false :: false :: false :: false :: false :: false :: false :: false :: false :: false :: false :: false :: false :: false :: true :: true :: true :: true :: true :: true :: true :: true :: true :: []) [(some 65, []), (some 66, [(0, 65)]), (some 67, []), (some 68, [(2, 67)]), (some 69, []), (some 70, [(3, 68), (4, 69)]), (some 71, [(5, 70)]), (some 72, [(6, 71)]), (some 73, [(7, 72)])] rfl (by kernel_rfl) (by kernel_rfl) (by rfl) (by rfl) ?_ ?_ ?_
        · exact stable_cons (fun _ _ _ _ h => h) (stable_cons (fun _ _ _ _ h => h) (stable_cons (fun _ _ _ _ h => h) (stable_cons (fun _ _ _ _ h => h) (stable_cons (fun _ _ _ _ h => h) (stable_cons (fun _ _ _ _ h => h) (stable_cons (fun _ _ _ _ h => h) (stable_cons Made.keep (stable_cons MadeV.keep (stable_nil)))))))))
        · refine hops_cons ?_ (hops_cons ?_ (hops_cons ?_ (hops_cons ?_ (hops_cons ?_ (hops_cons ?_ (hops_cons ?_ (hops_cons ?_ (hops_cons ?_ (trivial)))))))))
          · unfold HopM; intro u wn hb hk; have H0 := H; replace H := H.call hb
            simp only [fillM]
            go_wp2_with (first | go_skip | ((with_reducible apply ld_one (ty := 22) Tryz.underlying22 rfl); rfl; rfl; (focus (apply H.one; (repeat (first | with_reducible exact mH | with_reducible apply mT)); done))) | ((with_reducible apply ld_rec); rfl; rfl; (first | (focus (apply H.rc; (repeat (first | with_reducible exact mH | with_reducible apply mT)); done)) | (apply RecAt.bel (hb := H.bel); assumption) | assumption)))
            exact ⟨rfl, Below.refl _ _, .pointer (some ⟨kO, 0, none⟩), rfl, rfl⟩
          · unfold HopM; intro u wn hb hk; have H0 := H; replace H := H.call hb
            obtain ⟨hq0, -⟩ := hk
            replace hq0 := hq0 _ rfl; dsimp only at hq0
            simp only [fillM, hq0]
            clear hq0
            go_wp2_with (first | go_skip | ((with_reducible apply ld_one (ty := 22) Tryz.underlying22 rfl); rfl; rfl; (focus (apply H.one; (repeat (first | with_reducible exact mH | with_reducible apply mT)); done))) | ((with_reducible apply ld_rec); rfl; rfl; (first | (focus (apply H.rc; (repeat (first | with_reducible exact mH | with_reducible apply mT)); done)) | (apply RecAt.bel (hb := H.bel); assumption) | assumption)))
            exact ⟨rfl, Below.refl _ _, vo1, rfl, rfl⟩
          · unfold HopM; intro u wn hb hk; have H0 := H; replace H := H.call hb
            simp only [fillM]
            go_wp2_with (first | go_skip | ((with_reducible apply ld_one (ty := 22) Tryz.underlying22 rfl); rfl; rfl; (focus (apply H.one; (repeat (first | with_reducible exact mH | with_reducible apply mT)); done))) | ((with_reducible apply ld_rec); rfl; rfl; (first | (focus (apply H.rc; (repeat (first | with_reducible exact mH | with_reducible apply mT)); done)) | (apply RecAt.bel (hb := H.bel); assumption) | assumption)))
            exact ⟨rfl, Below.refl _ _, .pointer (some ⟨kB, 0, none⟩), rfl, rfl⟩
          · unfold HopM; intro u wn hb hk; have H0 := H; replace H := H.call hb
            obtain ⟨hq2, -⟩ := hk
            replace hq2 := hq2 _ rfl; dsimp only at hq2
            simp only [fillM, hq2]
            clear hq2
            go_wp2_with (first | go_skip | ((with_reducible apply ld_one (ty := 22) Tryz.underlying22 rfl); rfl; rfl; (focus (apply H.one; (repeat (first | with_reducible exact mH | with_reducible apply mT)); done))) | ((with_reducible apply ld_rec); rfl; rfl; (first | (focus (apply H.rc; (repeat (first | with_reducible exact mH | with_reducible apply mT)); done)) | (apply RecAt.bel (hb := H.bel); assumption) | assumption)))
            exact ⟨rfl, Below.refl _ _, .slice (some ⟨b, off, none⟩) n c, rfl, rfl⟩
          · unfold HopM; intro u wn hb hk; have H0 := H; replace H := H.call hb
            simp only [fillM]
            go_wp2_with (first | go_skip | ((with_reducible apply ld_one (ty := 22) Tryz.underlying22 rfl); rfl; rfl; (focus (apply H.one; (repeat (first | with_reducible exact mH | with_reducible apply mT)); done))) | ((with_reducible apply ld_rec); rfl; rfl; (first | (focus (apply H.rc; (repeat (first | with_reducible exact mH | with_reducible apply mT)); done)) | (apply RecAt.bel (hb := H.bel); assumption) | assumption)))
            exact ⟨rfl, Below.refl _ _, .int .i64 (j : Int), rfl, rfl⟩
          · unfold HopM; intro u wn hb hk; have H0 := H; replace H := H.call hb
            obtain ⟨hq3, hq4, -⟩ := hk
            replace hq3 := hq3 _ rfl; dsimp only at hq3
            replace hq4 := hq4 _ rfl; dsimp only at hq4
            simp only [fillM, hq3, hq4]
            clear hq3 hq4
            go_wp2_with (first | go_skip | ((with_reducible apply ld_one (ty := 22) Tryz.underlying22 rfl); rfl; rfl; (focus (apply H.one; (repeat (first | with_reducible exact mH | with_reducible apply mT)); done))) | ((with_reducible apply ld_rec); rfl; rfl; (first | (focus (apply H.rc; (repeat (first | with_reducible exact mH | with_reducible apply mT)); done)) | (apply RecAt.bel (hb := H.bel); assumption) | assumption)))
            exact ⟨rfl, Below.refl _ _, .pointer (some ⟨b, off + j * 19, none⟩), rfl, rfl⟩
          · unfold HopM; intro u wn hb hk; have H0 := H; replace H := H.call hb
            obtain ⟨hq5, -⟩ := hk
            replace hq5 := hq5 _ rfl; dsimp only at hq5
            simp only [fillM, hq5]
            clear hq5
            go_wp2_with (first | go_skip | ((with_reducible apply ld_one (ty := 22) Tryz.underlying22 rfl); rfl; rfl; (focus (apply H.one; (repeat (first | with_reducible exact mH | with_reducible apply mT)); done))) | ((with_reducible apply ld_rec); rfl; rfl; (first | (focus (apply H.rc; (repeat (first | with_reducible exact mH | with_reducible apply mT)); done)) | (apply RecAt.bel (hb := H.bel); assumption) | assumption)))
            exact ⟨rfl, Below.refl _ _, .agg (rA y sy), rfl, rfl⟩
          · unfold HopM; intro u wn hb hk; have H0 := H; replace H := H.call hb
            obtain ⟨hq6, -⟩ := hk
            replace hq6 := hq6 _ rfl; dsimp only at hq6
            simp only [fillM, hq6]
            clear hq6
            go_wp2_with (first | go_skip | (go_at_call 91; (with_reducible refine (rbown_c y sy Hoky.out Hfy.out _ (Hfl.out.below H.bel)).mono ?_); rintro e wm ⟨sj, rfl, hs⟩))
            exact ⟨rfl, hs.bel, _, rfl, sj, rfl, hs.get mH, fun b hf => Nat.le_trans hb.size (hs.base _ mH b hf)⟩
          · unfold HopM; intro u wn hb hk; have H0 := H; replace H := H.call hb
            obtain ⟨hq7, -⟩ := hk
            replace hq7 := hq7 _ rfl; dsimp only at hq7; obtain ⟨sj, hq7, hr, hbs⟩ := hq7; dsimp only at hq7
            simp only [fillM, hq7]
            clear hq7
            go_wp2_with (first | go_skip | ((with_reducible apply bs_rec Hoky.out (St.init _)); rfl; intro wm b hs))
            exact ⟨rfl, hs.bel, _, rfl, _, sj, rfl, (by obtain ⟨_, _, _, rfl⟩ := (St.rowSliceR hr); rfl), Res.row_reads (hs.get mH), Res.keep hr hs.bel, hbs⟩
        intro u wn hb hk; have H0 := H; replace H := H.call hb
        obtain ⟨hq0, hq1, hq2, hq3, hq4, hq5, hq6, hq7, hq8, -⟩ := hk
        replace hq0 := hq0 _ rfl; dsimp only at hq0
        replace hq1 := hq1 _ rfl; dsimp only at hq1
        replace hq2 := hq2 _ rfl; dsimp only at hq2
        replace hq3 := hq3 _ rfl; dsimp only at hq3
        replace hq4 := hq4 _ rfl; dsimp only at hq4
        replace hq5 := hq5 _ rfl; dsimp only at hq5
        replace hq6 := hq6 _ rfl; dsimp only at hq6
        replace hq7 := hq7 _ rfl; dsimp only at hq7; obtain ⟨sj, hq7, hr, hbs⟩ := hq7; dsimp only at hq7
        replace hq8 := hq8 _ rfl; dsimp only at hq8; obtain ⟨sv, sj, hq8, h1, h2, h3, h4⟩ := hq8; have Hrw := Lib.hid h2; have Ts := Lib.hid h1; replace H := H0.new hb h3 h4; clear h1 h2 h3 h4
        simp only [fillM, List.length_cons, List.length_nil, Nat.reduceAdd, List.drop_succ_cons, List.drop_zero, hq0, hq1, hq2, hq3, hq4, hq5, hq6, hq7, hq8]
        clear hb H0 hq0 hq1 hq2 hq3 hq4 hq5 hq6 hq7 hq8
        go_wp2_with (first | go_skip | ((with_reducible apply arm_app H (ht := Tryz.underlying22) (hinfo := info_rec3) (hzs := size_rec0) (hsz := by decide)); (conv => lhs; whnf); (conv => lhs; whnf); (intro v; (repeat (first | with_reducible apply Upd.head | with_reducible apply Upd.tail))); (focus (exact Hrw.out; done)); (focus (exact recsL_one (fun p hp => by rw [List.mem_singleton.1 hp]; exact Ts.out); done)); (focus (have := HL.out; unfold maxLen; omega; done)); (focus (have := HL.out; omega; done)); clear H; intro wn vn H; obtain ⟨av, cv, rfl⟩ := H.rowSl (v := vn) (by (repeat (first | with_reducible exact mH | with_reducible apply mT)))) | ((with_reducible apply st_on rs_one H); rfl; rfl; (conv => lhs; whnf); (repeat (first | with_reducible apply Upd.head | with_reducible apply Upd.tail)); rfl; (first | rfl | assumption | (refine Hid.out ?_; assumption)); clear H; intro wn H))
        have K1 := LOk.more (r := y) (s := sj) K2.out Hoky.out Ts.out
        have H1 : St w wn [(Res.row 82 4 sj y.f.length (fieldsL y.f)).and R1, Res.row 33 19 (.slice av (L1.length + 1) cv) (L1 ++ [(y, sj)]).length (recsL (L1 ++ [(y, sj)])), Res.blk kO 24 #[.slice av (L1.length + 1) cv], Res.blk kX 24 #[.slice none 0 0], Res.rc kR r s, Res.blk kB 24 #[.slice (some ⟨b, off, none⟩) n c]] := by
          rw [recsL_append, List.length_append]
          exact (H.sub (Γ' := [Res.row 82 4 sj y.f.length (fieldsL y.f), R1, Res.row 33 19 (.slice av (L1.length + 1) cv) (L1.length + 1) (recsL L1 ++ recsL [(y, sj)]), Res.blk kO 24 #[.slice av (L1.length + 1) cv], Res.blk kX 24 #[.slice none 0 0], Res.rc kR r s, Res.blk kB 24 #[.slice (some ⟨b, off, none⟩) n c]]) (by (repeat (first | with_reducible exact List.Sublist.refl _ | with_reducible refine List.Sublist.cons_cons _ ?_ | refine List.Sublist.cons _ ?_)))).merge
        clear H; have H := H1; clear H1
        go_roundw
        case rel => exact ⟨j + 1, true, L1 ++ [(y, sj)], _, _, by omega, by go_num, rfl, Lib.hid (I1.out sj), Lib.hid K1, Lib.hid (by have := HLn1.out; simp only [List.length_append, List.length_cons, List.length_nil]; omega), Lib.hid rfl, H⟩
        case measure => simp [intOf]; omega
      · have he : y.id = r.id := by simpa using hq.out
        have hcan := can_iff.2 ⟨Hmy.out, Hr.out, he⟩
        obtain ⟨jr, hjr⟩ : ∃ x, rJoin y r = x := ⟨_, rfl⟩
        have Hcan := Lib.hid hcan; have Hjr := Lib.hid hjr
        have Hokj : Hid jr.ok := Lib.hid (by rw [← hjr]; exact rJoin_ok Hoky.out)
        have He := Lib.hid he
        clear hcan hjr he
        go_wp2_with (first | go_skip | ((with_reducible apply ld_one (ty := 22) Tryz.underlying22 rfl); rfl; rfl; (focus (apply H.one; (repeat (first | with_reducible exact mH | with_reducible apply mT)); done))))
        (try simp only [Act.put, List.setIfInBounds_toArray, List.set_cons_zero, List.set_cons_succ])
        refine wp_quiet_all (C := fun w' => ∃ x : After _, w' = x.w) (by kernel_rfl) (by kernel_rfl) (since_drew _) ?_
        repeat (first | go_big_quiet_skip | (go_big_quiet_want; (with_reducible apply qd_rec); rfl; (rintro _ ⟨x, rfl⟩; have H := H.call x.h; (first | (focus (apply H.rc; (repeat (first | with_reducible exact mH | with_reducible apply mT)); done)) | (apply RecAt.bel (hb := H.bel); assumption))); (first | assumption | (refine Hid.out ?_; assumption)); (go_simp; go_big_quiet_on)) | (go_big_quiet_want; (with_reducible apply qd_id); rfl; (rintro _ ⟨x, rfl⟩; have H := H.call x.h; (first | (focus (apply H.rc; (repeat (first | with_reducible exact mH | with_reducible apply mT)); done)) | (apply RecAt.bel (hb := H.bel); assumption))); (first | assumption | (refine Hid.out ?_; assumption)); (go_simp; go_big_quiet_on)) | (go_big_quiet_want; (with_reducible apply qd_one (ty := 22) Tryz.underlying22 rfl); rfl; (rintro _ ⟨x, rfl⟩; have H := H.call x.h; (focus (apply H.one; (repeat (first | with_reducible exact mH | with_reducible apply mT)); done))); (go_simp; go_big_quiet_on)) | (go_big_quiet_step ((first | (go_at_call 17; with_reducible exact after_call _ (rbless_r hl.out Hok.out Hoky.out _))))))
        refine wpQuiet_nil ?_
        rintro _ ⟨zq, rfl⟩; replace H := H.call zq.h
        go_wp2
        have heq := Heq.out
        (try simp only [Act.put, List.setIfInBounds_toArray, List.set_cons_zero, List.set_cons_succ])
        refine wp_quiet_all (C := fun w' => ∃ x : After _, w' = x.w) (by kernel_rfl) (by kernel_rfl) (since_drew _) ?_
        repeat (first | go_big_quiet_skip | (go_big_quiet_want; (with_reducible apply qd_rec); rfl; (rintro _ ⟨x, rfl⟩; have H := H.call x.h; (first | (focus (apply H.rc; (repeat (first | with_reducible exact mH | with_reducible apply mT)); done)) | (apply RecAt.bel (hb := H.bel); assumption))); (first | assumption | (refine Hid.out ?_; assumption)); (go_simp; go_big_quiet_on)) | (go_big_quiet_want; (with_reducible apply qd_id); rfl; (rintro _ ⟨x, rfl⟩; have H := H.call x.h; (first | (focus (apply H.rc; (repeat (first | with_reducible exact mH | with_reducible apply mT)); done)) | (apply RecAt.bel (hb := H.bel); assumption))); (first | assumption | (refine Hid.out ?_; assumption)); (go_simp; go_big_quiet_on)) | (go_big_quiet_want; (with_reducible apply qd_one (ty := 22) Tryz.underlying22 rfl); rfl; (rintro _ ⟨x, rfl⟩; have H := H.call x.h; (focus (apply H.one; (repeat (first | with_reducible exact mH | with_reducible apply mT)); done))); (go_simp; go_big_quiet_on)) | (go_big_quiet_step (fail)))
        refine wpQuiet_nil ?_
        rintro _ ⟨zq, rfl⟩; replace H := H.call zq.h
        clear heq
        go_wp2
        (try simp only [Act.put, List.setIfInBounds_toArray, List.set_cons_zero, List.set_cons_succ])
        refine wp_slotsMQ [⟨some 50, [], fun _ v => v = .pointer (some ⟨kB, 0, none⟩)⟩, ⟨some 51, [(0, 50)], fun _ v => v = .slice (some ⟨b, off, none⟩) n c⟩, ⟨some 52, [], fun _ v => v = .int .i64 (j : Int)⟩, ⟨some 53, [(1, 51), (2, 52)], fun _ v => v = .pointer (some ⟨b, off + j * 19, none⟩)⟩, ⟨some 54, [(3, 53)], fun _ v => v = .agg (rA y sy)⟩, ⟨some 55, [], fun _ v => v = .agg (rA r s)⟩, ⟨some 56, [(4, 54), (5, 55)], Made zq.w (fun s' => .tuple #[.agg (rA jr s'), .bool true]) (fun s' => Res.row 82 4 s' jr.f.length (fieldsL jr.f))⟩, ⟨some 49, [(6, 56)], Made zq.w (fun s' => .tuple #[.agg (rA jr s'), .bool true]) (fun s' => Res.row 82 4 s' jr.f.length (fieldsL jr.f))⟩, ⟨some 57, [(7, 49)], Made zq.w (fun s' => .agg (rA jr s')) (fun s' => Res.row 82 4 s' jr.f.length (fieldsL jr.f))⟩, ⟨some 58, [(7, 49)], fun _ v => v = .bool true⟩, ⟨some 9, [], NewRc zq.w⟩] [50, 51, 52, 53, 54, 55, 56, 49, 57, 58, 9] (false :: false :: false :: false :: false :: false :: false :: false :: false :: true :: false :: false :: false :: false :: false :: false :: false :: false :: false :: false :: false :: false :: false :: false :: false :: false :: false :: false :: false :: false :: false :: false :: false :: false :: false :: false :: false :: false :: false :: false :: false :: false :: false :: false :: false :: false :: false :: false :: false :: true :: true :: true :: true :: true :: true :: true :: true :: true :: true :: []) [(some 50, []), (some 51, [(0, 50)]), (some 52, []), (some 53, [(1, 51), (2, 52)]), (some 54, [(3, 53)]), (some 55, []), (some 56, [(4, 54), (5, 55)]), (some 49, [(6, 56)]), (some 57, [(7, 49)]), (some 58, [(7, 49)]), (some 9, [])] 9 rfl (by kernel_rfl) (by kernel_rfl) (by rfl) (by rfl) ?_ (by rfl) (by rfl) ?_ ?_ ?_
        · exact stable_cons (fun _ _ _ _ h => h) (stable_cons (fun _ _ _ _ h => h) (stable_cons (fun _ _ _ _ h => h) (stable_cons (fun _ _ _ _ h => h) (stable_cons (fun _ _ _ _ h => h) (stable_cons (fun _ _ _ _ h => h) (stable_cons Made.keep (stable_cons Made.keep (stable_cons Made.keep (stable_cons (fun _ _ _ _ h => h) (stable_cons NewRc.keep (stable_nil)))))))))))
        · refine hops_cons ?_ (hops_cons ?_ (hops_cons ?_ (hops_cons ?_ (hops_cons ?_ (hops_cons ?_ (hops_cons ?_ (hops_cons ?_ (hops_cons ?_ (hops_cons ?_ (hops_cons ?_ (trivial)))))))))))
          · unfold HopM; intro u wn hb hk; have H0 := H; replace H := H.call hb
            simp only [fillM]
            go_wp2_with (first | go_skip | ((with_reducible apply ld_one (ty := 22) Tryz.underlying22 rfl); rfl; rfl; (focus (apply H.one; (repeat (first | with_reducible exact mH | with_reducible apply mT)); done))) | ((with_reducible apply ld_rec); rfl; rfl; (first | (focus (apply H.rc; (repeat (first | with_reducible exact mH | with_reducible apply mT)); done)) | (apply RecAt.bel (hb := H.bel); assumption) | assumption)))
            exact ⟨rfl, Below.refl _ _, .pointer (some ⟨kB, 0, none⟩), rfl, rfl⟩
          · unfold HopM; intro u wn hb hk; have H0 := H; replace H := H.call hb
            obtain ⟨hq0, -⟩ := hk
            replace hq0 := hq0 _ rfl; dsimp only at hq0
            simp only [fillM, hq0]
            clear hq0
            go_wp2_with (first | go_skip | ((with_reducible apply ld_one (ty := 22) Tryz.underlying22 rfl); rfl; rfl; (focus (apply H.one; (repeat (first | with_reducible exact mH | with_reducible apply mT)); done))) | ((with_reducible apply ld_rec); rfl; rfl; (first | (focus (apply H.rc; (repeat (first | with_reducible exact mH | with_reducible apply mT)); done)) | (apply RecAt.bel (hb := H.bel); assumption) | assumption)))
            exact ⟨rfl, Below.refl _ _, .slice (some ⟨b, off, none⟩) n c, rfl, rfl⟩
          · unfold HopM; intro u wn hb hk; have H0 := H; replace H := H.call hb
            simp only [fillM]
            go_wp2_with (first | go_skip | ((with_reducible apply ld_one (ty := 22) Tryz.underlying22 rfl); rfl; rfl; (focus (apply H.one; (repeat (first | with_reducible exact mH | with_reducible apply mT)); done))) | ((with_reducible apply ld_rec); rfl; rfl; (first | (focus (apply H.rc; (repeat (first | with_reducible exact mH | with_reducible apply mT)); done)) | (apply RecAt.bel (hb := H.bel); assumption) | assumption)))
            exact ⟨rfl, Below.refl _ _, .int .i64 (j : Int), rfl, rfl⟩
          · unfold HopM; intro u wn hb hk; have H0 := H; replace H := H.call hb
            obtain ⟨hq1, hq2, -⟩ := hk
            replace hq1 := hq1 _ rfl; dsimp only at hq1
            replace hq2 := hq2 _ rfl; dsimp only at hq2
            simp only [fillM, hq1, hq2]
            clear hq1 hq2
            go_wp2_with (first | go_skip | ((with_reducible apply ld_one (ty := 22) Tryz.underlying22 rfl); rfl; rfl; (focus (apply H.one; (repeat (first | with_reducible exact mH | with_reducible apply mT)); done))) | ((with_reducible apply ld_rec); rfl; rfl; (first | (focus (apply H.rc; (repeat (first | with_reducible exact mH | with_reducible apply mT)); done)) | (apply RecAt.bel (hb := H.bel); assumption) | assumption)))
            exact ⟨rfl, Below.refl _ _, .pointer (some ⟨b, off + j * 19, none⟩), rfl, rfl⟩
          · unfold HopM; intro u wn hb hk; have H0 := H; replace H := H.call hb
            obtain ⟨hq3, -⟩ := hk
            replace hq3 := hq3 _ rfl; dsimp only at hq3
            simp only [fillM, hq3]
            clear hq3
            go_wp2_with (first | go_skip | ((with_reducible apply ld_one (ty := 22) Tryz.underlying22 rfl); rfl; rfl; (focus (apply H.one; (repeat (first | with_reducible exact mH | with_reducible apply mT)); done))) | ((with_reducible apply ld_rec); rfl; rfl; (first | (focus (apply H.rc; (repeat (first | with_reducible exact mH | with_reducible apply mT)); done)) | (apply RecAt.bel (hb := H.bel); assumption) | assumption)))
            exact ⟨rfl, Below.refl _ _, .agg (rA y sy), rfl, rfl⟩
          · unfold HopM; intro u wn hb hk; have H0 := H; replace H := H.call hb
            simp only [fillM]
            go_wp2_with (first | go_skip | ((with_reducible apply ld_one (ty := 22) Tryz.underlying22 rfl); rfl; rfl; (focus (apply H.one; (repeat (first | with_reducible exact mH | with_reducible apply mT)); done))) | ((with_reducible apply ld_rec); rfl; rfl; (first | (focus (apply H.rc; (repeat (first | with_reducible exact mH | with_reducible apply mT)); done)) | (apply RecAt.bel (hb := H.bel); assumption) | assumption)))
            exact ⟨rfl, Below.refl _ _, .agg (rA r s), rfl, rfl⟩
          · unfold HopM; intro u wn hb hk; have H0 := H; replace H := H.call hb
            obtain ⟨hq4, hq5, -⟩ := hk
            replace hq4 := hq4 _ rfl; dsimp only at hq4
            replace hq5 := hq5 _ rfl; dsimp only at hq5
            simp only [fillM, hq4, hq5]
            clear hq4 hq5
            go_wp2_with (first | go_skip | (go_at_call 92; (with_reducible refine (rfjoinS Hoky.out Hok.out Hcan.out Hjr.out _ (Hfl.out.below H.bel) (Hf.out.below H.bel)).mono ?_); rintro e wm ⟨sj, rfl, hs⟩))
            exact ⟨rfl, hs.bel, _, rfl, sj, rfl, hs.get mH, fun b hf => Nat.le_trans hb.size (hs.base _ mH b hf)⟩
          · unfold HopM; intro u wn hb hk; have H0 := H; replace H := H.call hb
            obtain ⟨hq6, -⟩ := hk
            replace hq6 := hq6 _ rfl; dsimp only at hq6; obtain ⟨sj, hq6, hr, hbs⟩ := hq6; dsimp only at hq6
            simp only [fillM, hq6]
            clear hq6
            go_wp2_with (first | go_skip)
            exact ⟨rfl, Below.refl _ _, _, rfl, sj, rfl, hr, hbs⟩
          · unfold HopM; intro u wn hb hk; have H0 := H; replace H := H.call hb
            obtain ⟨hq7, -⟩ := hk
            replace hq7 := hq7 _ rfl; dsimp only at hq7; obtain ⟨sj, hq7, hr, hbs⟩ := hq7; dsimp only at hq7
            simp only [fillM, hq7]
            clear hq7
            go_wp2_with (first | go_skip)
            exact ⟨rfl, Below.refl _ _, _, rfl, sj, rfl, hr, hbs⟩
          · unfold HopM; intro u wn hb hk; have H0 := H; replace H := H.call hb
            obtain ⟨hq7, -⟩ := hk
            replace hq7 := hq7 _ rfl; dsimp only at hq7; obtain ⟨sj, hq7, hr, hbs⟩ := hq7; dsimp only at hq7
            simp only [fillM, hq7]
            clear hq7
            go_wp2_with (first | go_skip | ((with_reducible apply ld_one (ty := 22) Tryz.underlying22 rfl); rfl; rfl; (focus (apply H.one; (repeat (first | with_reducible exact mH | with_reducible apply mT)); done))) | ((with_reducible apply ld_rec); rfl; rfl; (first | (focus (apply H.rc; (repeat (first | with_reducible exact mH | with_reducible apply mT)); done)) | (apply RecAt.bel (hb := H.bel); assumption) | assumption)))
            exact ⟨rfl, Below.refl _ _, .bool true, rfl, rfl⟩
          · unfold HopM; intro u wn hb hk; have H0 := H; replace H := H.call hb
            simp only [fillM]
            go_wp2_with (first | go_skip | ((with_reducible apply al_rec (St.init _)); intro wm kJ HM))
            exact ⟨rfl, HM.bel, _, rfl, kJ, rfl, HM.get mH, Nat.le_trans hb.size (HM.base _ mH kJ rfl)⟩
        · intro u wn hb hk
          obtain ⟨hq7, -⟩ := hk
          replace hq7 := hq7 _ rfl; dsimp only at hq7; obtain ⟨sj, hq7, hr, hbs⟩ := hq7; dsimp only at hq7
          simp only [fillM, hq7]
          exact ⟨.bool true, .inl ⟨rfl, fun W => rfl⟩, rfl⟩
        intro u wn hb hk; have H0 := H; replace H := H.call hb
        obtain ⟨hq0, hq1, hq2, hq3, hq4, hq5, hq6, hq7, hq8, hq9, hq10, -⟩ := hk
        replace hq0 := hq0 _ rfl; dsimp only at hq0
        replace hq1 := hq1 _ rfl; dsimp only at hq1
        replace hq2 := hq2 _ rfl; dsimp only at hq2
        replace hq3 := hq3 _ rfl; dsimp only at hq3
        replace hq4 := hq4 _ rfl; dsimp only at hq4
        replace hq5 := hq5 _ rfl; dsimp only at hq5
        replace hq6 := hq6 _ rfl; dsimp only at hq6; obtain ⟨sj, hq6, hr, hbs⟩ := hq6; dsimp only at hq6
        replace hq7 := hq7 _ rfl; dsimp only at hq7; obtain ⟨sj, hq7, hr, hbs⟩ := hq7; dsimp only at hq7
        replace hq8 := hq8 _ rfl; dsimp only at hq8; obtain ⟨sj, hq8, hr, hbs⟩ := hq8; dsimp only at hq8
        replace hq9 := hq9 _ rfl; dsimp only at hq9
        replace hq10 := hq10 _ rfl; dsimp only at hq10; obtain ⟨kJ, hq10, hK, hB⟩ := hq10; replace H := H0.bothR hb hr hbs hK hB; have Tj : Hid (sj.oneCell' = true) := Lib.hid (by obtain ⟨_, _, _, rfl⟩ := (St.rowSliceR hr); rfl); clear hr hbs hK hB
        simp only [fillM, List.length_cons, List.length_nil, Nat.reduceAdd, List.drop_succ_cons, List.drop_zero, hq0, hq1, hq2, hq3, hq4, hq5, hq6, hq7, hq8, hq9, hq10]
        clear hb H0 hq0 hq1 hq2 hq3 hq4 hq5 hq6 hq7 hq8 hq9 hq10
        go_wp2_with (first | go_skip | ((with_reducible apply ld_one (ty := 22) Tryz.underlying22 rfl); rfl; rfl; (focus (apply H.one; (repeat (first | with_reducible exact mH | with_reducible apply mT)); done))) | ((with_reducible apply ld_rec); rfl; rfl; (first | (focus (apply H.rc; (repeat (first | with_reducible exact mH | with_reducible apply mT)); done)) | (apply RecAt.bel (hb := H.bel); assumption) | assumption)) | ((with_reducible apply st_rec H); rfl; rfl; rfl; (repeat (first | with_reducible apply Upd.head | with_reducible apply Upd.tail)); (first | assumption | (refine Hid.out ?_; assumption)); (first | rfl | assumption | (refine Hid.out ?_; assumption)); clear H; intro wn H) | ((with_reducible apply bs_rec Hokj.out H); rfl; clear H; intro wn b9 H) | ((with_reducible apply arm_app H (ht := Tryz.underlying22) (hinfo := info_rec3) (hzs := size_rec0) (hsz := by decide)); (conv => lhs; whnf); (conv => lhs; whnf); (intro v; (repeat (first | with_reducible apply Upd.head | with_reducible apply Upd.tail))); (focus (apply H.rowRead; (repeat (first | with_reducible exact mH | with_reducible apply mT)); done)); (focus (exact recsL_one (fun p hp => by rw [List.mem_singleton.1 hp]; exact Tj.out); done)); (focus (have := HL.out; unfold maxLen; omega; done)); (focus (have := HL.out; omega; done)); clear H; intro wn vn H; obtain ⟨av, cv, rfl⟩ := H.rowSl (v := vn) (by (repeat (first | with_reducible exact mH | with_reducible apply mT)))) | ((with_reducible apply st_on rs_one H); rfl; rfl; (conv => lhs; whnf); (repeat (first | with_reducible apply Upd.head | with_reducible apply Upd.tail)); rfl; (first | rfl | assumption | (refine Hid.out ?_; assumption)); clear H; intro wn H))
        have K1 := LOk.more (r := jr) (s := sj) K.out Hokj.out Tj.out
        have H1 : St w wn [(Res.row 82 4 sj jr.f.length (fieldsL jr.f)).and R, Res.row 33 19 (.slice av (L.length + 1) cv) (L ++ [(jr, sj)]).length (recsL (L ++ [(jr, sj)])), Res.blk kO 24 #[.slice av (L.length + 1) cv], Res.blk kX 24 #[.slice none 0 0], Res.rc kR r s, Res.blk kB 24 #[.slice (some ⟨b, off, none⟩) n c]] := by
          rw [recsL_append, List.length_append]
          exact (H.sub (Γ' := [Res.row 82 4 sj jr.f.length (fieldsL jr.f), R, Res.row 33 19 (.slice av (L.length + 1) cv) (L.length + 1) (recsL L ++ recsL [(jr, sj)]), Res.blk kO 24 #[.slice av (L.length + 1) cv], Res.blk kX 24 #[.slice none 0 0], Res.rc kR r s, Res.blk kB 24 #[.slice (some ⟨b, off, none⟩) n c]]) (by (repeat (first | with_reducible exact List.Sublist.refl _ | with_reducible refine List.Sublist.cons_cons _ ?_ | refine List.Sublist.cons _ ?_)))).merge
        clear H; have H := H1; clear H1
        go_roundw
        case rel => exact ⟨j + 1, true, L ++ [(jr, sj)], _, _, by omega, by go_num, rfl, Lib.hid (by rw [← Hjr.out]; exact PInv.join Hg.out.1 Hy.out I.out He.out), Lib.hid K1, Lib.hid (by have := HLn.out; simp only [List.length_append, List.length_cons, List.length_nil]; omega), Lib.hid rfl, H⟩
        case measure => simp [intOf]; omega
      · have he : Hid (¬ y.id = r.id) := Lib.hid (by simpa using hq.out)
        have hnl : Hid (¬ r.id < y.id) := Lib.hid (by intro h; have := (idLt_iff _ _).2 h; rw [hl.out] at this; cases this)
        go_wp2_with (first | go_skip | ((with_reducible apply ld_one (ty := 22) Tryz.underlying22 rfl); rfl; rfl; (focus (apply H.one; (repeat (first | with_reducible exact mH | with_reducible apply mT)); done))))
        (try simp only [Act.put, List.setIfInBounds_toArray, List.set_cons_zero, List.set_cons_succ])
        refine wp_quiet_all (C := fun w' => ∃ x : After _, w' = x.w) (by kernel_rfl) (by kernel_rfl) (since_drew _) ?_
        repeat (first | go_big_quiet_skip | (go_big_quiet_want; (with_reducible apply qd_rec); rfl; (rintro _ ⟨x, rfl⟩; have H := H.call x.h; (first | (focus (apply H.rc; (repeat (first | with_reducible exact mH | with_reducible apply mT)); done)) | (apply RecAt.bel (hb := H.bel); assumption))); (first | assumption | (refine Hid.out ?_; assumption)); (go_simp; go_big_quiet_on)) | (go_big_quiet_want; (with_reducible apply qd_id); rfl; (rintro _ ⟨x, rfl⟩; have H := H.call x.h; (first | (focus (apply H.rc; (repeat (first | with_reducible exact mH | with_reducible apply mT)); done)) | (apply RecAt.bel (hb := H.bel); assumption))); (first | assumption | (refine Hid.out ?_; assumption)); (go_simp; go_big_quiet_on)) | (go_big_quiet_want; (with_reducible apply qd_one (ty := 22) Tryz.underlying22 rfl); rfl; (rintro _ ⟨x, rfl⟩; have H := H.call x.h; (focus (apply H.one; (repeat (first | with_reducible exact mH | with_reducible apply mT)); done))); (go_simp; go_big_quiet_on)) | (go_big_quiet_step ((first | (go_at_call 17; with_reducible exact after_call _ (rbless_r hl.out Hok.out Hoky.out _))))))
        refine wpQuiet_nil ?_
        rintro _ ⟨zq, rfl⟩; replace H := H.call zq.h
        go_wp2
        have heq := Heq.out
        (try simp only [Act.put, List.setIfInBounds_toArray, List.set_cons_zero, List.set_cons_succ])
        refine wp_quiet_all (C := fun w' => ∃ x : After _, w' = x.w) (by kernel_rfl) (by kernel_rfl) (since_drew _) ?_
        repeat (first | go_big_quiet_skip | (go_big_quiet_want; (with_reducible apply qd_rec); rfl; (rintro _ ⟨x, rfl⟩; have H := H.call x.h; (first | (focus (apply H.rc; (repeat (first | with_reducible exact mH | with_reducible apply mT)); done)) | (apply RecAt.bel (hb := H.bel); assumption))); (first | assumption | (refine Hid.out ?_; assumption)); (go_simp; go_big_quiet_on)) | (go_big_quiet_want; (with_reducible apply qd_id); rfl; (rintro _ ⟨x, rfl⟩; have H := H.call x.h; (first | (focus (apply H.rc; (repeat (first | with_reducible exact mH | with_reducible apply mT)); done)) | (apply RecAt.bel (hb := H.bel); assumption))); (first | assumption | (refine Hid.out ?_; assumption)); (go_simp; go_big_quiet_on)) | (go_big_quiet_want; (with_reducible apply qd_one (ty := 22) Tryz.underlying22 rfl); rfl; (rintro _ ⟨x, rfl⟩; have H := H.call x.h; (focus (apply H.one; (repeat (first | with_reducible exact mH | with_reducible apply mT)); done))); (go_simp; go_big_quiet_on)) | (go_big_quiet_step (fail)))
        refine wpQuiet_nil ?_
        rintro _ ⟨zq, rfl⟩; replace H := H.call zq.h
        clear heq
        go_wp2
        (try simp only [Act.put, List.setIfInBounds_toArray, List.set_cons_zero, List.set_cons_succ])
        refine wp_slotsM [⟨some 65, [], fun _ v => v = .pointer (some ⟨kO, 0, none⟩)⟩, ⟨some 66, [(0, 65)], fun _ v => v = vo⟩, ⟨some 67, [], fun _ v => v = .pointer (some ⟨kB, 0, none⟩)⟩, ⟨some 68, [(2, 67)], fun _ v => v = .slice (some ⟨b, off, none⟩) n c⟩, ⟨some 69, [], fun _ v => v = .int .i64 (j : Int)⟩, ⟨some 70, [(3, 68), (4, 69)], fun _ v => v = .pointer (some ⟨b, off + j * 19, none⟩)⟩, ⟨some 71, [(5, 70)], fun _ v => v = .agg (rA y sy)⟩, ⟨some 72, [(6, 71)], Made zq.w (fun s' => .agg (rA y s')) (fun s' => Res.row 82 4 s' y.f.length (fieldsL y.f))⟩, ⟨some 73, [(7, 72)], MadeV zq.w y⟩] [65, 66, 67, 68, 69, 70, 71, 72, 73] (false :: false :: false :: false :: false :: false :: false :: false :: false :: false :: false :: false :: false :: false :: false :: false :: false :: false :: false :: false :: false :: false :: false :: false :: false :: false :: false :: false :: false :: false :: false :: false :: false :: false :: false :: false :: false :: false :: false :: false :: false :: false :: false :: false :: false :: false :: false :: false :: false :: false :: false :: false :: false :: false :: false :: false :: false :: false :: false :: false :: false :: false :: false :: false :: false :: true :: true :: true :: true :: true :: true :: true :: true :: true :: []) [(some 65, []), (some 66, [(0, 65)]), (some 67, []), (some 68, [(2, 67)]), (some 69, []), (some 70, [(3, 68), (4, 69)]), (some 71, [(5, 70)]), (some 72, [(6, 71)]), (some 73, [(7, 72)])] rfl (by kernel_rfl) (by kernel_rfl) (by rfl) (by rfl) ?_ ?_ ?_
        · exact stable_cons (fun _ _ _ _ h => h) (stable_cons (fun _ _ _ _ h => h) (stable_cons (fun _ _ _ _ h => h) (stable_cons (fun _ _ _ _ h => h) (stable_cons (fun _ _ _ _ h => h) (stable_cons (fun _ _ _ _ h => h) (stable_cons (fun _ _ _ _ h => h) (stable_cons Made.keep (stable_cons MadeV.keep (stable_nil)))))))))
        · refine hops_cons ?_ (hops_cons ?_ (hops_cons ?_ (hops_cons ?_ (hops_cons ?_ (hops_cons ?_ (hops_cons ?_ (hops_cons ?_ (hops_cons ?_ (trivial)))))))))
          · unfold HopM; intro u wn hb hk; have H0 := H; replace H := H.call hb
            simp only [fillM]
            go_wp2_with (first | go_skip | ((with_reducible apply ld_one (ty := 22) Tryz.underlying22 rfl); rfl; rfl; (focus (apply H.one; (repeat (first | with_reducible exact mH | with_reducible apply mT)); done))) | ((with_reducible apply ld_rec); rfl; rfl; (first | (focus (apply H.rc; (repeat (first | with_reducible exact mH | with_reducible apply mT)); done)) | (apply RecAt.bel (hb := H.bel); assumption) | assumption)))
            exact ⟨rfl, Below.refl _ _, .pointer (some ⟨kO, 0, none⟩), rfl, rfl⟩
          · unfold HopM; intro u wn hb hk; have H0 := H; replace H := H.call hb
            obtain ⟨hq0, -⟩ := hk
            replace hq0 := hq0 _ rfl; dsimp only at hq0
            simp only [fillM, hq0]
            clear hq0
            go_wp2_with (first | go_skip | ((with_reducible apply ld_one (ty := 22) Tryz.underlying22 rfl); rfl; rfl; (focus (apply H.one; (repeat (first | with_reducible exact mH | with_reducible apply mT)); done))) | ((with_reducible apply ld_rec); rfl; rfl; (first | (focus (apply H.rc; (repeat (first | with_reducible exact mH | with_reducible apply mT)); done)) | (apply RecAt.bel (hb := H.bel); assumption) | assumption)))
            exact ⟨rfl, Below.refl _ _, vo, rfl, rfl⟩
          · unfold HopM; intro u wn hb hk; have H0 := H; replace H := H.call hb
            simp only [fillM]
            go_wp2_with (first | go_skip | ((with_reducible apply ld_one (ty := 22) Tryz.underlying22 rfl); rfl; rfl; (focus (apply H.one; (repeat (first | with_reducible exact mH | with_reducible apply mT)); done))) | ((with_reducible apply ld_rec); rfl; rfl; (first | (focus (apply H.rc; (repeat (first | with_reducible exact mH | with_reducible apply mT)); done)) | (apply RecAt.bel (hb := H.bel); assumption) | assumption)))
            exact ⟨rfl, Below.refl _ _, .pointer (some ⟨kB, 0, none⟩), rfl, rfl⟩
          · unfold HopM; intro u wn hb hk; have H0 := H; replace H := H.call hb
            obtain ⟨hq2, -⟩ := hk
            replace hq2 := hq2 _ rfl; dsimp only at hq2
            simp only [fillM, hq2]
            clear hq2
            go_wp2_with (first | go_skip | ((with_reducible apply ld_one (ty := 22) Tryz.underlying22 rfl); rfl; rfl; (focus (apply H.one; (repeat (first | with_reducible exact mH | with_reducible apply mT)); done))) | ((with_reducible apply ld_rec); rfl; rfl; (first | (focus (apply H.rc; (repeat (first | with_reducible exact mH | with_reducible apply mT)); done)) | (apply RecAt.bel (hb := H.bel); assumption) | assumption)))
            exact ⟨rfl, Below.refl _ _, .slice (some ⟨b, off, none⟩) n c, rfl, rfl⟩
          · unfold HopM; intro u wn hb hk; have H0 := H; replace H := H.call hb
            simp only [fillM]
            go_wp2_with (first | go_skip | ((with_reducible apply ld_one (ty := 22) Tryz.underlying22 rfl); rfl; rfl; (focus (apply H.one; (repeat (first | with_reducible exact mH | with_reducible apply mT)); done))) | ((with_reducible apply ld_rec); rfl; rfl; (first | (focus (apply H.rc; (repeat (first | with_reducible exact mH | with_reducible apply mT)); done)) | (apply RecAt.bel (hb := H.bel); assumption) | assumption)))
            exact ⟨rfl, Below.refl _ _, .int .i64 (j : Int), rfl, rfl⟩
          · unfold HopM; intro u wn hb hk; have H0 := H; replace H := H.call hb
            obtain ⟨hq3, hq4, -⟩ := hk
            replace hq3 := hq3 _ rfl; dsimp only at hq3
            replace hq4 := hq4 _ rfl; dsimp only at hq4
            simp only [fillM, hq3, hq4]
            clear hq3 hq4
            go_wp2_with (first | go_skip | ((with_reducible apply ld_one (ty := 22) Tryz.underlying22 rfl); rfl; rfl; (focus (apply H.one; (repeat (first | with_reducible exact mH | with_reducible apply mT)); done))) | ((with_reducible apply ld_rec); rfl; rfl; (first | (focus (apply H.rc; (repeat (first | with_reducible exact mH | with_reducible apply mT)); done)) | (apply RecAt.bel (hb := H.bel); assumption) | assumption)))
            exact ⟨rfl, Below.refl _ _, .pointer (some ⟨b, off + j * 19, none⟩), rfl, rfl⟩
          · unfold HopM; intro u wn hb hk; have H0 := H; replace H := H.call hb
            obtain ⟨hq5, -⟩ := hk
            replace hq5 := hq5 _ rfl; dsimp only at hq5
            simp only [fillM, hq5]
            clear hq5
            go_wp2_with (first | go_skip | ((with_reducible apply ld_one (ty := 22) Tryz.underlying22 rfl); rfl; rfl; (focus (apply H.one; (repeat (first | with_reducible exact mH | with_reducible apply mT)); done))) | ((with_reducible apply ld_rec); rfl; rfl; (first | (focus (apply H.rc; (repeat (first | with_reducible exact mH | with_reducible apply mT)); done)) | (apply RecAt.bel (hb := H.bel); assumption) | assumption)))
            exact ⟨rfl, Below.refl _ _, .agg (rA y sy), rfl, rfl⟩
          · unfold HopM; intro u wn hb hk; have H0 := H; replace H := H.call hb
            obtain ⟨hq6, -⟩ := hk
            replace hq6 := hq6 _ rfl; dsimp only at hq6
            simp only [fillM, hq6]
            clear hq6
            go_wp2_with (first | go_skip | (go_at_call 91; (with_reducible refine (rbown_c y sy Hoky.out Hfy.out _ (Hfl.out.below H.bel)).mono ?_); rintro e wm ⟨sj, rfl, hs⟩))
            exact ⟨rfl, hs.bel, _, rfl, sj, rfl, hs.get mH, fun b hf => Nat.le_trans hb.size (hs.base _ mH b hf)⟩
          · unfold HopM; intro u wn hb hk; have H0 := H; replace H := H.call hb
            obtain ⟨hq7, -⟩ := hk
            replace hq7 := hq7 _ rfl; dsimp only at hq7; obtain ⟨sj, hq7, hr, hbs⟩ := hq7; dsimp only at hq7
            simp only [fillM, hq7]
            clear hq7
            go_wp2_with (first | go_skip | ((with_reducible apply bs_rec Hoky.out (St.init _)); rfl; intro wm b hs))
            exact ⟨rfl, hs.bel, _, rfl, _, sj, rfl, (by obtain ⟨_, _, _, rfl⟩ := (St.rowSliceR hr); rfl), Res.row_reads (hs.get mH), Res.keep hr hs.bel, hbs⟩
        intro u wn hb hk; have H0 := H; replace H := H.call hb
        obtain ⟨hq0, hq1, hq2, hq3, hq4, hq5, hq6, hq7, hq8, -⟩ := hk
        replace hq0 := hq0 _ rfl; dsimp only at hq0
        replace hq1 := hq1 _ rfl; dsimp only at hq1
        replace hq2 := hq2 _ rfl; dsimp only at hq2
        replace hq3 := hq3 _ rfl; dsimp only at hq3
        replace hq4 := hq4 _ rfl; dsimp only at hq4
        replace hq5 := hq5 _ rfl; dsimp only at hq5
        replace hq6 := hq6 _ rfl; dsimp only at hq6
        replace hq7 := hq7 _ rfl; dsimp only at hq7; obtain ⟨sj, hq7, hr, hbs⟩ := hq7; dsimp only at hq7
        replace hq8 := hq8 _ rfl; dsimp only at hq8; obtain ⟨sv, sj, hq8, h1, h2, h3, h4⟩ := hq8; have Hrw := Lib.hid h2; have Ts := Lib.hid h1; replace H := H0.new hb h3 h4; clear h1 h2 h3 h4
        simp only [fillM, List.length_cons, List.length_nil, Nat.reduceAdd, List.drop_succ_cons, List.drop_zero, hq0, hq1, hq2, hq3, hq4, hq5, hq6, hq7, hq8]
        clear hb H0 hq0 hq1 hq2 hq3 hq4 hq5 hq6 hq7 hq8
        go_wp2_with (first | go_skip | ((with_reducible apply arm_app H (ht := Tryz.underlying22) (hinfo := info_rec3) (hzs := size_rec0) (hsz := by decide)); (conv => lhs; whnf); (conv => lhs; whnf); (intro v; (repeat (first | with_reducible apply Upd.head | with_reducible apply Upd.tail))); (focus (exact Hrw.out; done)); (focus (exact recsL_one (fun p hp => by rw [List.mem_singleton.1 hp]; exact Ts.out); done)); (focus (have := HL.out; unfold maxLen; omega; done)); (focus (have := HL.out; omega; done)); clear H; intro wn vn H; obtain ⟨av, cv, rfl⟩ := H.rowSl (v := vn) (by (repeat (first | with_reducible exact mH | with_reducible apply mT)))) | ((with_reducible apply st_on rs_one H); rfl; rfl; (conv => lhs; whnf); (repeat (first | with_reducible apply Upd.head | with_reducible apply Upd.tail)); rfl; (first | rfl | assumption | (refine Hid.out ?_; assumption)); clear H; intro wn H))
        have K1 := LOk.more (r := y) (s := sj) K.out Hoky.out Ts.out
        have H1 : St w wn [(Res.row 82 4 sj y.f.length (fieldsL y.f)).and R, Res.row 33 19 (.slice av (L.length + 1) cv) (L ++ [(y, sj)]).length (recsL (L ++ [(y, sj)])), Res.blk kO 24 #[.slice av (L.length + 1) cv], Res.blk kX 24 #[.slice none 0 0], Res.rc kR r s, Res.blk kB 24 #[.slice (some ⟨b, off, none⟩) n c]] := by
          rw [recsL_append, List.length_append]
          exact (H.sub (Γ' := [Res.row 82 4 sj y.f.length (fieldsL y.f), R, Res.row 33 19 (.slice av (L.length + 1) cv) (L.length + 1) (recsL L ++ recsL [(y, sj)]), Res.blk kO 24 #[.slice av (L.length + 1) cv], Res.blk kX 24 #[.slice none 0 0], Res.rc kR r s, Res.blk kB 24 #[.slice (some ⟨b, off, none⟩) n c]]) (by (repeat (first | with_reducible exact List.Sublist.refl _ | with_reducible refine List.Sublist.cons_cons _ ?_ | refine List.Sublist.cons _ ?_)))).merge
        clear H; have H := H1; clear H1
        go_roundw
        case rel => exact ⟨j + 1, false, L ++ [(y, sj)], _, _, by omega, by go_num, rfl, Lib.hid (PInv.next Hy.out I.out hnl.out he.out), Lib.hid K1, Lib.hid (by have := HLn.out; simp only [List.length_append, List.length_cons, List.length_nil]; omega), Lib.hid rfl, H⟩
        case measure => simp [intOf]; omega
    · have hjn : j = n := by omega
      subst hjn
      have hdr : m.drop j = [] := List.drop_of_length_le (by rw [Hn.out]; exact Nat.le_refl _)
      cases dn with
      | true =>
        have hEnd : Hid (bPut m r = L.map (·.1)) := Lib.hid (by
          rcases I.out with ⟨h, _⟩ | ⟨_, h, _⟩
          · cases h
          · rw [h, hdr, List.append_nil])
        obtain ⟨av, cv, rfl⟩ := H.rowSl (v := vo) (by (repeat (first | with_reducible exact mH | with_reducible apply mT)))
        clear hdr
        go_wp2_with (first | go_skip | ((with_reducible apply ld_bk); rfl; rfl; (focus (apply H.one; (repeat (first | with_reducible exact mH | with_reducible apply mT)); done))) | ((with_reducible apply st_bk H); rfl; rfl; rfl; (repeat (first | with_reducible apply Upd.head | with_reducible apply Upd.tail)); (first | rfl | assumption | (refine Hid.out ?_; assumption)); clear H; intro wn H) | ((with_reducible apply ld_one (ty := 22) Tryz.underlying22 rfl); rfl; rfl; (focus (apply H.one; (repeat (first | with_reducible exact mH | with_reducible apply mT)); done))))
        all_goals first | (rw [Exit.noGoto_ret]) | skip
        have hR := H.arr (b := kX) (t := 24) (cs := #[.slice av L.length cv]) (by (repeat (first | with_reducible exact mH | with_reducible apply mT)))
        refine bodyPost_ret (results_cell_one Tryz.results54 _ _ kX #[.slice av L.length cv] _ rfl hR Tryz.underlying24 rfl bk_info) rfl ?_
        first | refine ⟨.slice av L.length cv, R.and (Res.row 33 19 (.slice av L.length cv) L.length (recsL L)), rfl, fun W hW => K.out.recs hEnd.out W hW, ?_⟩ | refine ⟨.slice av L.length cv, rfl, R.and (Res.row 33 19 (.slice av L.length cv) L.length (recsL L)), fun W hW => K.out.recs hEnd.out W hW, ?_⟩
        exact (H.sub (Γ' := [R, Res.row 33 19 (.slice av L.length cv) L.length (recsL L)]) (by (repeat (first | with_reducible exact List.Sublist.refl _ | with_reducible refine List.Sublist.cons_cons _ ?_ | refine List.Sublist.cons _ ?_)))).merge
      | false =>
        have hEnd0 : Hid (∀ s' : Value, bPut m r = (L ++ [((r, s') : RD × Value)]).map (fun p => p.1)) := Lib.hid fun s' => by
          rcases I.out with ⟨_, h⟩ | ⟨h, _⟩
          · rw [h, hdr, List.map_append]; rfl
          · cases h
        clear hdr
        go_wp2_with (first | go_skip | ((with_reducible apply ld_one (ty := 22) Tryz.underlying22 rfl); rfl; rfl; (focus (apply H.one; (repeat (first | with_reducible exact mH | with_reducible apply mT)); done))))
        (try simp only [Act.put, List.setIfInBounds_toArray, List.set_cons_zero, List.set_cons_succ])
        refine wp_slotsM [⟨some 78, [], fun _ v => v = .pointer (some ⟨kO, 0, none⟩)⟩, ⟨some 79, [(0, 78)], fun _ v => v = vo⟩, ⟨some 80, [], fun _ v => v = .agg (rA r s)⟩, ⟨some 81, [(2, 80)], Made wr (fun s' => .agg (rA r s')) (fun s' => Res.row 82 4 s' r.f.length (fieldsL r.f))⟩, ⟨some 82, [(3, 81)], MadeV wr r⟩] [78, 79, 80, 81, 82] (false :: false :: false :: false :: false :: false :: false :: false :: false :: false :: false :: false :: false :: false :: false :: false :: false :: false :: false :: false :: false :: false :: false :: false :: false :: false :: false :: false :: false :: false :: false :: false :: false :: false :: false :: false :: false :: false :: false :: false :: false :: false :: false :: false :: false :: false :: false :: false :: false :: false :: false :: false :: false :: false :: false :: false :: false :: false :: false :: false :: false :: false :: false :: false :: false :: false :: false :: false :: false :: false :: false :: false :: false :: false :: false :: false :: false :: false :: true :: true :: true :: true :: true :: []) [(some 78, []), (some 79, [(0, 78)]), (some 80, []), (some 81, [(2, 80)]), (some 82, [(3, 81)])] rfl (by kernel_rfl) (by kernel_rfl) (by rfl) (by rfl) ?_ ?_ ?_
        · exact stable_cons (fun _ _ _ _ h => h) (stable_cons (fun _ _ _ _ h => h) (stable_cons (fun _ _ _ _ h => h) (stable_cons Made.keep (stable_cons MadeV.keep (stable_nil)))))
        · refine hops_cons ?_ (hops_cons ?_ (hops_cons ?_ (hops_cons ?_ (hops_cons ?_ (trivial)))))
          · unfold HopM; intro u wn hb hk; have H0 := H; replace H := H.call hb
            simp only [fillM]
            go_wp2_with (first | go_skip | ((with_reducible apply ld_one (ty := 22) Tryz.underlying22 rfl); rfl; rfl; (focus (apply H.one; (repeat (first | with_reducible exact mH | with_reducible apply mT)); done))) | ((with_reducible apply ld_rec); rfl; rfl; (first | (focus (apply H.rc; (repeat (first | with_reducible exact mH | with_reducible apply mT)); done)) | (apply RecAt.bel (hb := H.bel); assumption) | assumption)))
            exact ⟨rfl, Below.refl _ _, .pointer (some ⟨kO, 0, none⟩), rfl, rfl⟩
          · unfold HopM; intro u wn hb hk; have H0 := H; replace H := H.call hb
            obtain ⟨hq0, -⟩ := hk
            replace hq0 := hq0 _ rfl; dsimp only at hq0
            simp only [fillM, hq0]
            clear hq0
            go_wp2_with (first | go_skip | ((with_reducible apply ld_one (ty := 22) Tryz.underlying22 rfl); rfl; rfl; (focus (apply H.one; (repeat (first | with_reducible exact mH | with_reducible apply mT)); done))) | ((with_reducible apply ld_rec); rfl; rfl; (first | (focus (apply H.rc; (repeat (first | with_reducible exact mH | with_reducible apply mT)); done)) | (apply RecAt.bel (hb := H.bel); assumption) | assumption)))
            exact ⟨rfl, Below.refl _ _, vo, rfl, rfl⟩
          · unfold HopM; intro u wn hb hk; have H0 := H; replace H := H.call hb
            simp only [fillM]
            go_wp2_with (first | go_skip | ((with_reducible apply ld_one (ty := 22) Tryz.underlying22 rfl); rfl; rfl; (focus (apply H.one; (repeat (first | with_reducible exact mH | with_reducible apply mT)); done))) | ((with_reducible apply ld_rec); rfl; rfl; (first | (focus (apply H.rc; (repeat (first | with_reducible exact mH | with_reducible apply mT)); done)) | (apply RecAt.bel (hb := H.bel); assumption) | assumption)))
            exact ⟨rfl, Below.refl _ _, .agg (rA r s), rfl, rfl⟩
          · unfold HopM; intro u wn hb hk; have H0 := H; replace H := H.call hb
            obtain ⟨hq2, -⟩ := hk
            replace hq2 := hq2 _ rfl; dsimp only at hq2
            simp only [fillM, hq2]
            clear hq2
            go_wp2_with (first | go_skip | (go_at_call 91; (with_reducible refine (rbown_c r s Hok.out Hfr.out _ (Hf.out.below H.bel)).mono ?_); rintro e wm ⟨sj, rfl, hs⟩))
            exact ⟨rfl, hs.bel, _, rfl, sj, rfl, hs.get mH, fun b hf => Nat.le_trans hb.size (hs.base _ mH b hf)⟩
          · unfold HopM; intro u wn hb hk; have H0 := H; replace H := H.call hb
            obtain ⟨hq3, -⟩ := hk
            replace hq3 := hq3 _ rfl; dsimp only at hq3; obtain ⟨sj, hq3, hr, hbs⟩ := hq3; dsimp only at hq3
            simp only [fillM, hq3]
            clear hq3
            go_wp2_with (first | go_skip | ((with_reducible apply bs_rec Hok.out (St.init _)); rfl; intro wm b hs))
            exact ⟨rfl, hs.bel, _, rfl, _, sj, rfl, (by obtain ⟨_, _, _, rfl⟩ := (St.rowSliceR hr); rfl), Res.row_reads (hs.get mH), Res.keep hr hs.bel, hbs⟩
        intro u wn hb hk; have H0 := H; replace H := H.call hb
        obtain ⟨hq0, hq1, hq2, hq3, hq4, -⟩ := hk
        replace hq0 := hq0 _ rfl; dsimp only at hq0
        replace hq1 := hq1 _ rfl; dsimp only at hq1
        replace hq2 := hq2 _ rfl; dsimp only at hq2
        replace hq3 := hq3 _ rfl; dsimp only at hq3; obtain ⟨sj, hq3, hr, hbs⟩ := hq3; dsimp only at hq3
        replace hq4 := hq4 _ rfl; dsimp only at hq4; obtain ⟨sv, sj, hq4, h1, h2, h3, h4⟩ := hq4; have Hrw := Lib.hid h2; have Ts := Lib.hid h1; replace H := H0.new hb h3 h4; clear h1 h2 h3 h4
        simp only [fillM, List.length_cons, List.length_nil, Nat.reduceAdd, List.drop_succ_cons, List.drop_zero, hq0, hq1, hq2, hq3, hq4]
        clear hb H0 hq0 hq1 hq2 hq3 hq4
        go_wp2_with (first | go_skip | ((with_reducible apply arm_app H (ht := Tryz.underlying22) (hinfo := info_rec3) (hzs := size_rec0) (hsz := by decide)); (conv => lhs; whnf); (conv => lhs; whnf); (intro v; (repeat (first | with_reducible apply Upd.head | with_reducible apply Upd.tail))); (focus (exact Hrw.out; done)); (focus (exact recsL_one (fun p hp => by rw [List.mem_singleton.1 hp]; exact Ts.out); done)); (focus (have := HL.out; unfold maxLen; omega; done)); (focus (have := HL.out; omega; done)); clear H; intro wn vn H; obtain ⟨av, cv, rfl⟩ := H.rowSl (v := vn) (by (repeat (first | with_reducible exact mH | with_reducible apply mT)))) | ((with_reducible apply st_on rs_one H); rfl; rfl; (conv => lhs; whnf); (repeat (first | with_reducible apply Upd.head | with_reducible apply Upd.tail)); rfl; (first | rfl | assumption | (refine Hid.out ?_; assumption)); clear H; intro wn H) | ((with_reducible apply ld_bk); rfl; rfl; (focus (apply H.one; (repeat (first | with_reducible exact mH | with_reducible apply mT)); done))) | ((with_reducible apply st_bk H); rfl; rfl; rfl; (repeat (first | with_reducible apply Upd.head | with_reducible apply Upd.tail)); (first | rfl | assumption | (refine Hid.out ?_; assumption)); clear H; intro wn H))
        have hEnd := Lib.hid (hEnd0.out sj)
        all_goals first | (rw [Exit.noGoto_ret]) | skip
        have K1 := LOk.more (r := r) (s := sj) K.out Hok.out Ts.out
        have H1 : St w wn [(Res.row 82 4 sj r.f.length (fieldsL r.f)).and R, Res.row 33 19 (.slice av (L.length + 1) cv) (L ++ [(r, sj)]).length (recsL (L ++ [(r, sj)])), Res.blk kO 24 #[.slice av (L.length + 1) cv], Res.blk kX 24 #[.slice av (L.length + 1) cv], Res.rc kR r s, Res.blk kB 24 #[.slice a j c]] := by
          rw [recsL_append, List.length_append]
          exact (H.sub (Γ' := [Res.row 82 4 sj r.f.length (fieldsL r.f), R, Res.row 33 19 (.slice av (L.length + 1) cv) (L.length + 1) (recsL L ++ recsL [(r, sj)]), Res.blk kO 24 #[.slice av (L.length + 1) cv], Res.blk kX 24 #[.slice av (L.length + 1) cv], Res.rc kR r s, Res.blk kB 24 #[.slice a j c]]) (by (repeat (first | with_reducible exact List.Sublist.refl _ | with_reducible refine List.Sublist.cons_cons _ ?_ | refine List.Sublist.cons _ ?_)))).merge
        clear H; have H := H1; clear H1
        all_goals first | (rw [Exit.noGoto_ret]) | skip
        have hR := H.arr (b := kX) (t := 24) (cs := #[.slice av (L.length + 1) cv]) (by (repeat (first | with_reducible exact mH | with_reducible apply mT)))
        refine bodyPost_ret (results_cell_one Tryz.results54 _ _ kX #[.slice av (L.length + 1) cv] _ rfl hR Tryz.underlying24 rfl bk_info) rfl ?_
        first | refine ⟨.slice av (L.length + 1) cv, ((Res.row 82 4 sj r.f.length (fieldsL r.f)).and R).and (Res.row 33 19 (.slice av (L.length + 1) cv) (L ++ [(r, sj)]).length (recsL (L ++ [(r, sj)]))), rfl, fun W hW => K1.recs hEnd.out W hW, ?_⟩ | refine ⟨.slice av (L.length + 1) cv, rfl, ((Res.row 82 4 sj r.f.length (fieldsL r.f)).and R).and (Res.row 33 19 (.slice av (L.length + 1) cv) (L ++ [(r, sj)]).length (recsL (L ++ [(r, sj)]))), fun W hW => K1.recs hEnd.out W hW, ?_⟩
        exact (H.sub (Γ' := [_, Res.row 33 19 (.slice av (L.length + 1) cv) (L ++ [(r, sj)]).length (recsL (L ++ [(r, sj)]))]) (by (repeat (first | with_reducible exact List.Sublist.refl _ | with_reducible refine List.Sublist.cons_cons _ ?_ | refine List.Sublist.cons _ ?_)))).merge
end Go.Proofs.YtolbmemogoojhaaGreat
