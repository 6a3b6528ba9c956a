/- A book with what a record tells, by a replica. -/
import Derived.Test.YtolbmemogoojhaaBookN
namespace Go.Proofs.Ytolbmemogoojhaa
open Go Go.RowKit Go.Deep
set_option linter.unusedVariables false
set_option linter.unusedSimpArgs false
set_option maxRecDepth 100000
def MadeR (W0 : World) (f : Value → Value) (J : BK) (W : World) (v : Value) : Prop := ∃ (s : Value) (r : Res), v = f s ∧ (∀ W, r.holds W → Recs W s J) ∧ r.holds W ∧ ∀ b, r.foot b → W0.heap.size ≤ b
theorem MadeR.keep {W0 : World} {f : Value → Value} {J : BK} (w w' : World) (v : Value) (hb : Below w.heap.size w w') (h : MadeR W0 f J w v) : MadeR W0 f J w' v := by
  obtain ⟨s, r, e, h0, h1, h2⟩ := h
  exact ⟨s, r, e, h0, Res.keep h1 hb, h2⟩
def MadeF (x : RD) (W : World) (v : Value) : Prop := ∃ s, v = .agg (rA x s) ∧ Flds W s x.f
theorem MadeF.keep {x : RD} (w w' : World) (v : Value) (hb : Below w.heap.size w w') (h : MadeF x w v) : MadeF x w' v := by
  obtain ⟨s, e, h1⟩ := h
  exact ⟨s, e, h1.below hb⟩
def MadeB (x : RD) (W : World) (v : Value) : Prop := ∃ s, v = .agg #[s] ∧ Recs W s [x]
theorem MadeB.keep {x : RD} (w w' : World) (v : Value) (hb : Below w.heap.size w w') (h : MadeB x w v) : MadeB x w' v := by
  obtain ⟨s, e, h1⟩ := h
  exact ⟨s, e, h1.below hb⟩
set_option maxHeartbeats 1600000 in
theorem withW {va : Value} {L : BK} {rep N0 R0 N R c d : Int} {J : BK} {x : RD} (hl : bLast L = (N0, R0)) (hn : stNext N0 R0 rep = (N, R, c)) (hd : (if c = 0 then bCan L [x] else c) = d) (hJ : (if c = 0 then bJ L [x] else []) = J) (w : World) (hv : Recs w va L) {key : IDK} {no : Int} {v : ByteArray} (hxx : rW key no v N R = x) {k1 k2 k3 : Nat} (hk : Sub w k1 0 (encU key.1).toArray) (hno : Sub w k2 0 #[.int .i64 no]) (hvv : Sub w k3 0 #[.string v]) :
    Calls Try.prog 60 #[.agg #[va], .int .i64 rep, .func (.func 61) #[] #[.pointer (some ⟨k1, 0, none⟩), .pointer (some ⟨k2, 0, none⟩), .pointer (some ⟨k3, 0, none⟩)]] w (JoinP w d J) := by
  have ok : x.ok := by rw [← hxx]; exact key.2
  have Tell : Hid (∀ W, Below w.heap.size w W → Calls Try.prog 61 #[.agg #[.int .i64 N, .int .i64 R], .pointer (some ⟨k1, 0, none⟩), .pointer (some ⟨k2, 0, none⟩), .pointer (some ⟨k3, 0, none⟩)] W fun e w' => ∃ s, e = .returned (.agg (rA x s)) ∧ Flds w' s x.f ∧ Below W.heap.size W w') := Lib.hid fun W hb => tellW key no v N R hxx k1 k2 k3 W (hk.keep hb) (hno.keep hb) (hvv.keep hb)
  have Hv := Lib.hid hv; have Hl := Lib.hid hl; have Hn := Lib.hid hn
  have Hone : Hid (Value.oneCell' (.slice none 0 0) = true) := Lib.hid rfl
  have H := St.init w
  by_cases h0 : c = 0
  · subst h0
    have Hd : Hid (bCan L [x] = d) := Lib.hid (by rw [← hd, if_pos rfl])
    have HJ : Hid (bJ L [x] = J) := Lib.hid (by rw [← hJ, if_pos rfl])
    clear hv hl hn hd hJ hxx hk hno hvv
    go_enter Try.func60, Try.ntmps60
    go_wp2_with (first | go_skip | ((fail_if_success have := kB); (with_reducible apply arm_box H); rfl; clear H; intro wn kB H) | ((fail_if_success have := kR); (with_reducible apply al_bk H); clear H; intro wn kR H) | ((with_reducible apply ld_bk); rfl; rfl; (focus (apply H.one; (repeat (first | with_reducible exact List.mem_cons_self | with_reducible apply List.mem_cons_of_mem)); done))) | (go_at_call 88; (with_reducible refine (bklast_v Hl.out _ (Hv.out.below H.bel)).mono ?_); rintro e wn ⟨rfl, hb⟩; replace H := H.call hb; clear hb) | (go_at_call 87; (with_reducible refine (next_m _ _ _ _ _ _ Hn.out _).mono ?_); rintro e wn ⟨rfl, hb⟩; replace H := H.call hb; clear hb) | ((fail_if_success have := k8); (with_reducible apply al_stp H); clear H; intro wn k8 H) | ((with_reducible apply st_stamp H); rfl; rfl; rfl; (repeat (first | with_reducible apply Upd.head | with_reducible apply Upd.tail)); clear H; intro wn H) | (with_reducible apply bd_bk0) | ((with_reducible apply st_bk H); rfl; rfl; rfl; (repeat (first | with_reducible apply Upd.head | with_reducible apply Upd.tail)); (first | rfl | assumption | (refine Hid.out ?_; assumption)); clear H; intro wn H))
    (try simp only [Act.put, List.setIfInBounds_toArray, List.set_cons_zero, List.set_cons_succ])
    refine wp_slotsM [⟨some 21, [], fun _ v => v = .agg #[va]⟩, ⟨some 22, [], fun _ v => v = .func (.func 61) #[] #[.pointer (some ⟨k1, 0, none⟩), .pointer (some ⟨k2, 0, none⟩), .pointer (some ⟨k3, 0, none⟩)]⟩, ⟨some 23, [], fun _ v => v = .agg #[.int .i64 N, .int .i64 R]⟩, ⟨some 24, [(1, 22), (2, 23)], MadeF x⟩, ⟨some 25, [(3, 24)], fun W v => Recs W v [x]⟩, ⟨some 26, [(4, 25)], MadeB x⟩, ⟨some 27, [(0, 21), (5, 26)], MadeR wn (fun s => .tuple #[.agg #[s], .int .i64 d]) J⟩, ⟨some 28, [(6, 27)], MadeR wn (fun s => .agg #[s]) J⟩, ⟨some 29, [(6, 27)], fun _ v => v = .int .i64 d⟩] [21, 22, 23, 24, 25, 26, 27, 28, 29] (false :: false :: false :: false :: false :: false :: false :: false :: false :: false :: false :: false :: false :: false :: false :: false :: false :: false :: false :: false :: false :: true :: true :: true :: true :: true :: true :: true :: true :: true :: []) [(some 21, []), (some 22, []), (some 23, []), (some 24, [(1, 22), (2, 23)]), (some 25, [(3, 24)]), (some 26, [(4, 25)]), (some 27, [(0, 21), (5, 26)]), (some 28, [(6, 27)]), (some 29, [(6, 27)])] rfl (by kernel_rfl) (by kernel_rfl) (by rfl) (by rfl) ?_ ?_ ?_
    · exact stable_cons (fun _ _ _ _ h => h) (stable_cons (fun _ _ _ _ h => h) (stable_cons (fun _ _ _ _ h => h) (stable_cons MadeF.keep (stable_cons (fun _ _ _ hb h => Recs.below h hb) (stable_cons MadeB.keep (stable_cons MadeR.keep (stable_cons MadeR.keep (stable_cons (fun _ _ _ _ h => h) (stable_nil)))))))))
    · refine hops_cons ?_ (hops_cons ?_ (hops_cons ?_ (hops_cons ?_ (hops_cons ?_ (hops_cons ?_ (hops_cons ?_ (hops_cons ?_ (hops_cons ?_ (trivial)))))))))
      · unfold HopM; intro u wn hb hk; have H0 := H; replace H := H.call hb
        simp only [fillM]
        go_wp2_with (first | go_skip | ((with_reducible apply ld_bk); rfl; rfl; (focus (apply H.one; (repeat (first | with_reducible exact List.mem_cons_self | with_reducible apply List.mem_cons_of_mem)); done))) | ((with_reducible apply ld_stp); rfl; rfl; (focus (apply H.arr; (repeat (first | with_reducible exact List.mem_cons_self | with_reducible apply List.mem_cons_of_mem)); done))))
        exact ⟨rfl, Below.refl _ _, .agg #[va], rfl, rfl⟩
      · unfold HopM; intro u wn hb hk; have H0 := H; replace H := H.call hb
        simp only [fillM]
        go_wp2_with (first | go_skip | ((with_reducible apply ld_bk); rfl; rfl; (focus (apply H.one; (repeat (first | with_reducible exact List.mem_cons_self | with_reducible apply List.mem_cons_of_mem)); done))) | ((with_reducible apply ld_stp); rfl; rfl; (focus (apply H.arr; (repeat (first | with_reducible exact List.mem_cons_self | with_reducible apply List.mem_cons_of_mem)); done))))
        exact ⟨rfl, Below.refl _ _, .func (.func 61) #[] #[.pointer (some ⟨k1, 0, none⟩), .pointer (some ⟨k2, 0, none⟩), .pointer (some ⟨k3, 0, none⟩)], rfl, rfl⟩
      · unfold HopM; intro u wn hb hk; have H0 := H; replace H := H.call hb
        simp only [fillM]
        go_wp2_with (first | go_skip | ((with_reducible apply ld_bk); rfl; rfl; (focus (apply H.one; (repeat (first | with_reducible exact List.mem_cons_self | with_reducible apply List.mem_cons_of_mem)); done))) | ((with_reducible apply ld_stp); rfl; rfl; (focus (apply H.arr; (repeat (first | with_reducible exact List.mem_cons_self | with_reducible apply List.mem_cons_of_mem)); done))))
        exact ⟨rfl, Below.refl _ _, .agg #[.int .i64 N, .int .i64 R], rfl, rfl⟩
      · unfold HopM; intro u wn hb hk; have H0 := H; replace H := H.call hb
        obtain ⟨hq1, hq2, -⟩ := hk
        replace hq1 := hq1 _ rfl; dsimp only at hq1
        replace hq2 := hq2 _ rfl; dsimp only at hq2
        simp only [fillM, hq1, hq2]
        clear hq1 hq2
        go_wp2_with (first | go_skip | (go_at_call 61; (with_reducible refine (Tell.out _ H.bel).mono ?_); rintro e wm ⟨sj, rfl, hf, hbb⟩))
        exact ⟨rfl, hbb, _, rfl, sj, rfl, hf⟩
      · unfold HopM; intro u wn hb hk; have H0 := H; replace H := H.call hb
        obtain ⟨hq3, -⟩ := hk
        replace hq3 := hq3 _ rfl; dsimp only at hq3; obtain ⟨sj, hq3, hf3⟩ := hq3
        simp only [fillM, hq3]
        clear hq3
        go_wp2_with (first | go_skip | ((with_reducible apply bs_rec ok (St.init _)); rfl; intro wm b hs))
        exact ⟨rfl, hs.bel, _, rfl, [(x, sj)], rfl, Res.row_reads (hs.get List.mem_cons_self), fun p hp => by rw [List.mem_singleton.1 hp]; exact ⟨ok, hf3.below hs.bel⟩⟩
      · unfold HopM; intro u wn hb hk; have H0 := H; replace H := H.call hb
        obtain ⟨hq4, -⟩ := hk
        replace hq4 := hq4 _ rfl; dsimp only at hq4; have hrc := hq4; obtain ⟨a5, c5, hq4, -, -⟩ := Recs.slice hq4; rw [hq4] at hrc
        simp only [fillM, hq4]
        clear hq4
        go_wp2_with (first | go_skip)
        exact ⟨rfl, Below.refl _ _, _, rfl, _, rfl, hrc⟩
      · unfold HopM; intro u wn hb hk; have H0 := H; replace H := H.call hb
        obtain ⟨hq0, hq5, -⟩ := hk
        replace hq0 := hq0 _ rfl; dsimp only at hq0
        replace hq5 := hq5 _ rfl; dsimp only at hq5; obtain ⟨sb, hq5, hrb⟩ := hq5
        simp only [fillM, hq0, hq5]
        clear hq0 hq5
        go_wp2_with (first | go_skip | (go_at_call 23; (with_reducible refine (bkjoin_c Hd.out HJ.out _ (Hv.out.below H.bel) hrb).mono ?_); rintro e wm ⟨vj, rj, rfl, hrj, hs⟩))
        exact ⟨rfl, hs.bel, _, rfl, vj, rj, rfl, hrj, hs.get List.mem_cons_self, fun b hf => Nat.le_trans hb.size (hs.base _ List.mem_cons_self b hf)⟩
      · unfold HopM; intro u wn hb hk; have H0 := H; replace H := H.call hb
        obtain ⟨hq6, -⟩ := hk
        replace hq6 := hq6 _ rfl; dsimp only at hq6; obtain ⟨vj, rj, hq6, g1, g2, g3⟩ := hq6; dsimp only at hq6
        simp only [fillM, hq6]
        clear hq6
        go_wp2_with (first | go_skip)
        exact ⟨rfl, Below.refl _ _, _, rfl, vj, rj, rfl, g1, g2, g3⟩
      · unfold HopM; intro u wn hb hk; have H0 := H; replace H := H.call hb
        obtain ⟨hq6, -⟩ := hk
        replace hq6 := hq6 _ rfl; dsimp only at hq6; obtain ⟨vj, rj, hq6, g1, g2, g3⟩ := hq6; dsimp only at hq6
        simp only [fillM, hq6]
        clear hq6
        go_wp2_with (first | go_skip | ((with_reducible apply ld_bk); rfl; rfl; (focus (apply H.one; (repeat (first | with_reducible exact List.mem_cons_self | with_reducible apply List.mem_cons_of_mem)); done))) | ((with_reducible apply ld_stp); rfl; rfl; (focus (apply H.arr; (repeat (first | with_reducible exact List.mem_cons_self | with_reducible apply List.mem_cons_of_mem)); done))))
        exact ⟨rfl, Below.refl _ _, .int .i64 d, rfl, rfl⟩
    intro u wn hb hk; have H0 := H; replace H := H.call hb
    obtain ⟨hq0, hq1, hq2, hq3, hq4, hq5, hq6, hq7, hq8, -⟩ := hk
    replace hq0 := hq0 _ rfl; dsimp only at hq0
    replace hq1 := hq1 _ rfl; dsimp only at hq1
    replace hq2 := hq2 _ rfl; dsimp only at hq2
    replace hq3 := hq3 _ rfl; dsimp only at hq3; obtain ⟨sj, hq3, hf3⟩ := hq3
    replace hq4 := hq4 _ rfl; dsimp only at hq4; have hrc := hq4; obtain ⟨a5, c5, hq4, -, -⟩ := Recs.slice hq4; rw [hq4] at hrc
    replace hq5 := hq5 _ rfl; dsimp only at hq5; obtain ⟨sb, hq5, hrb⟩ := hq5
    replace hq6 := hq6 _ rfl; dsimp only at hq6; obtain ⟨vj, rj, hq6, g1, g2, g3⟩ := hq6; dsimp only at hq6
    replace hq7 := hq7 _ rfl; dsimp only at hq7; obtain ⟨vj, rj, hq7, g1, g2, g3⟩ := hq7; dsimp only at hq7; have T1 : Hid (vj.oneCell' = true) := Lib.hid (g1 _ g2).one; have HJ2 := Lib.hid g1; replace H := H0.new hb g2 g3; clear g1 g2 g3
    replace hq8 := hq8 _ rfl; dsimp only at hq8
    simp only [fillM, List.length_cons, List.length_nil, Nat.reduceAdd, List.drop_succ_cons, List.drop_zero, hq0, hq1, hq2, hq3, hq4, hq5, hq6, hq7, hq8]
    clear hb H0 hq0 hq1 hq2 hq3 hq4 hq5 hq6 hq7 hq8
    go_wp2_with (first | go_skip | ((fail_if_success have := kB); (with_reducible apply arm_box H); rfl; clear H; intro wn kB H) | ((fail_if_success have := kR); (with_reducible apply al_bk H); clear H; intro wn kR H) | ((with_reducible apply ld_bk); rfl; rfl; (focus (apply H.one; (repeat (first | with_reducible exact List.mem_cons_self | with_reducible apply List.mem_cons_of_mem)); done))) | (go_at_call 88; (with_reducible refine (bklast_v Hl.out _ (Hv.out.below H.bel)).mono ?_); rintro e wn ⟨rfl, hb⟩; replace H := H.call hb; clear hb) | (go_at_call 87; (with_reducible refine (next_m _ _ _ _ _ _ Hn.out _).mono ?_); rintro e wn ⟨rfl, hb⟩; replace H := H.call hb; clear hb) | ((fail_if_success have := k8); (with_reducible apply al_stp H); clear H; intro wn k8 H) | ((with_reducible apply st_stamp H); rfl; rfl; rfl; (repeat (first | with_reducible apply Upd.head | with_reducible apply Upd.tail)); clear H; intro wn H) | (with_reducible apply bd_bk0) | ((with_reducible apply st_bk H); rfl; rfl; rfl; (repeat (first | with_reducible apply Upd.head | with_reducible apply Upd.tail)); (first | rfl | assumption | (refine Hid.out ?_; assumption)); clear H; intro wn H))
    all_goals first | (rw [Exit.noGoto_ret]) | skip
    have hR := H.arr (b := kR) (t := 24) (cs := #[vj]) (by (repeat (first | with_reducible exact List.mem_cons_self | with_reducible apply List.mem_cons_of_mem)))
    exact bodyPost_ret (results_cell_tmp Try.results60 _ _ kR #[vj] _ _ rfl rfl hR Try.underlying24 rfl bk_info) rfl ⟨vj, rj, rfl, HJ2.out, H.sub (by (repeat (first | with_reducible exact List.Sublist.refl _ | with_reducible refine List.Sublist.cons_cons _ ?_ | refine List.Sublist.cons _ ?_)))⟩
  · have hdd : d = c := by rw [← hd, if_neg h0]
    have hJJ : J = [] := by rw [← hJ, if_neg h0]
    subst hdd hJJ
    clear hv hl hn hd hJ hxx hk hno hvv
    go_enter Try.func60, Try.ntmps60
    go_wp2_with (first | go_skip | ((fail_if_success have := kB); (with_reducible apply arm_box H); rfl; clear H; intro wn kB H) | ((fail_if_success have := kR); (with_reducible apply al_bk H); clear H; intro wn kR H) | ((with_reducible apply ld_bk); rfl; rfl; (focus (apply H.one; (repeat (first | with_reducible exact List.mem_cons_self | with_reducible apply List.mem_cons_of_mem)); done))) | (go_at_call 88; (with_reducible refine (bklast_v Hl.out _ (Hv.out.below H.bel)).mono ?_); rintro e wn ⟨rfl, hb⟩; replace H := H.call hb; clear hb) | (go_at_call 87; (with_reducible refine (next_m _ _ _ _ _ _ Hn.out _).mono ?_); rintro e wn ⟨rfl, hb⟩; replace H := H.call hb; clear hb) | ((fail_if_success have := k8); (with_reducible apply al_stp H); clear H; intro wn k8 H) | ((with_reducible apply st_stamp H); rfl; rfl; rfl; (repeat (first | with_reducible apply Upd.head | with_reducible apply Upd.tail)); clear H; intro wn H) | (with_reducible apply bd_bk0) | ((with_reducible apply st_bk H); rfl; rfl; rfl; (repeat (first | with_reducible apply Upd.head | with_reducible apply Upd.tail)); (first | rfl | assumption | (refine Hid.out ?_; assumption)); clear H; intro wn H))
    all_goals first | (rw [Exit.noGoto_ret]) | skip
    have hR := H.arr (b := kR) (t := 24) (cs := #[.slice none 0 0]) (by (repeat (first | with_reducible exact List.mem_cons_self | with_reducible apply List.mem_cons_of_mem)))
    exact bodyPost_ret (results_cell_tmp Try.results60 _ _ kR #[.slice none 0 0] _ _ rfl rfl hR Try.underlying24 rfl bk_info) rfl ⟨.slice none 0 0, Res.none, rfl, fun W _ => Recs.nil W, H.addNone.sub (by (repeat (first | with_reducible exact List.Sublist.refl _ | with_reducible refine List.Sublist.cons_cons _ ?_ | refine List.Sublist.cons _ ?_)))⟩
set_option maxHeartbeats 1600000 in
theorem withK {va : Value} {L : BK} {rep N0 R0 N R c d : Int} {J : BK} {x : RD} (hl : bLast L = (N0, R0)) (hn : stNext N0 R0 rep = (N, R, c)) (hd : (if c = 0 then bCan L [x] else c) = d) (hJ : (if c = 0 then bJ L [x] else []) = J) (w : World) (hv : Recs w va L) {key : IDK} (hxx : rK key N R = x) {k1 : Nat} (hk : Sub w k1 0 (encU key.1).toArray) :
    Calls Try.prog 60 #[.agg #[va], .int .i64 rep, .func (.func 66) #[] #[.pointer (some ⟨k1, 0, none⟩)]] w (JoinP w d J) := by
  have ok : x.ok := by rw [← hxx]; exact key.2
  have Tell : Hid (∀ W, Below w.heap.size w W → Calls Try.prog 66 #[.agg #[.int .i64 N, .int .i64 R], .pointer (some ⟨k1, 0, none⟩)] W fun e w' => ∃ s, e = .returned (.agg (rA x s)) ∧ Flds w' s x.f ∧ Below W.heap.size W w') := Lib.hid fun W hb => tellK key N R hxx k1 W (hk.keep hb)
  have Hv := Lib.hid hv; have Hl := Lib.hid hl; have Hn := Lib.hid hn
  have Hone : Hid (Value.oneCell' (.slice none 0 0) = true) := Lib.hid rfl
  have H := St.init w
  by_cases h0 : c = 0
  · subst h0
    have Hd : Hid (bCan L [x] = d) := Lib.hid (by rw [← hd, if_pos rfl])
    have HJ : Hid (bJ L [x] = J) := Lib.hid (by rw [← hJ, if_pos rfl])
    clear hv hl hn hd hJ hxx hk
    go_enter Try.func60, Try.ntmps60
    go_wp2_with (first | go_skip | ((fail_if_success have := kB); (with_reducible apply arm_box H); rfl; clear H; intro wn kB H) | ((fail_if_success have := kR); (with_reducible apply al_bk H); clear H; intro wn kR H) | ((with_reducible apply ld_bk); rfl; rfl; (focus (apply H.one; (repeat (first | with_reducible exact List.mem_cons_self | with_reducible apply List.mem_cons_of_mem)); done))) | (go_at_call 88; (with_reducible refine (bklast_v Hl.out _ (Hv.out.below H.bel)).mono ?_); rintro e wn ⟨rfl, hb⟩; replace H := H.call hb; clear hb) | (go_at_call 87; (with_reducible refine (next_m _ _ _ _ _ _ Hn.out _).mono ?_); rintro e wn ⟨rfl, hb⟩; replace H := H.call hb; clear hb) | ((fail_if_success have := k8); (with_reducible apply al_stp H); clear H; intro wn k8 H) | ((with_reducible apply st_stamp H); rfl; rfl; rfl; (repeat (first | with_reducible apply Upd.head | with_reducible apply Upd.tail)); clear H; intro wn H) | (with_reducible apply bd_bk0) | ((with_reducible apply st_bk H); rfl; rfl; rfl; (repeat (first | with_reducible apply Upd.head | with_reducible apply Upd.tail)); (first | rfl | assumption | (refine Hid.out ?_; assumption)); clear H; intro wn H))
    (try simp only [Act.put, List.setIfInBounds_toArray, List.set_cons_zero, List.set_cons_succ])
    refine wp_slotsM [⟨some 21, [], fun _ v => v = .agg #[va]⟩, ⟨some 22, [], fun _ v => v = .func (.func 66) #[] #[.pointer (some ⟨k1, 0, none⟩)]⟩, ⟨some 23, [], fun _ v => v = .agg #[.int .i64 N, .int .i64 R]⟩, ⟨some 24, [(1, 22), (2, 23)], MadeF x⟩, ⟨some 25, [(3, 24)], fun W v => Recs W v [x]⟩, ⟨some 26, [(4, 25)], MadeB x⟩, ⟨some 27, [(0, 21), (5, 26)], MadeR wn (fun s => .tuple #[.agg #[s], .int .i64 d]) J⟩, ⟨some 28, [(6, 27)], MadeR wn (fun s => .agg #[s]) J⟩, ⟨some 29, [(6, 27)], fun _ v => v = .int .i64 d⟩] [21, 22, 23, 24, 25, 26, 27, 28, 29] (false :: false :: false :: false :: false :: false :: false :: false :: false :: false :: false :: false :: false :: false :: false :: false :: false :: false :: false :: false :: false :: true :: true :: true :: true :: true :: true :: true :: true :: true :: []) [(some 21, []), (some 22, []), (some 23, []), (some 24, [(1, 22), (2, 23)]), (some 25, [(3, 24)]), (some 26, [(4, 25)]), (some 27, [(0, 21), (5, 26)]), (some 28, [(6, 27)]), (some 29, [(6, 27)])] rfl (by kernel_rfl) (by kernel_rfl) (by rfl) (by rfl) ?_ ?_ ?_
    · exact stable_cons (fun _ _ _ _ h => h) (stable_cons (fun _ _ _ _ h => h) (stable_cons (fun _ _ _ _ h => h) (stable_cons MadeF.keep (stable_cons (fun _ _ _ hb h => Recs.below h hb) (stable_cons MadeB.keep (stable_cons MadeR.keep (stable_cons MadeR.keep (stable_cons (fun _ _ _ _ h => h) (stable_nil)))))))))
    · refine hops_cons ?_ (hops_cons ?_ (hops_cons ?_ (hops_cons ?_ (hops_cons ?_ (hops_cons ?_ (hops_cons ?_ (hops_cons ?_ (hops_cons ?_ (trivial)))))))))
      · unfold HopM; intro u wn hb hk; have H0 := H; replace H := H.call hb
        simp only [fillM]
        go_wp2_with (first | go_skip | ((with_reducible apply ld_bk); rfl; rfl; (focus (apply H.one; (repeat (first | with_reducible exact List.mem_cons_self | with_reducible apply List.mem_cons_of_mem)); done))) | ((with_reducible apply ld_stp); rfl; rfl; (focus (apply H.arr; (repeat (first | with_reducible exact List.mem_cons_self | with_reducible apply List.mem_cons_of_mem)); done))))
        exact ⟨rfl, Below.refl _ _, .agg #[va], rfl, rfl⟩
      · unfold HopM; intro u wn hb hk; have H0 := H; replace H := H.call hb
        simp only [fillM]
        go_wp2_with (first | go_skip | ((with_reducible apply ld_bk); rfl; rfl; (focus (apply H.one; (repeat (first | with_reducible exact List.mem_cons_self | with_reducible apply List.mem_cons_of_mem)); done))) | ((with_reducible apply ld_stp); rfl; rfl; (focus (apply H.arr; (repeat (first | with_reducible exact List.mem_cons_self | with_reducible apply List.mem_cons_of_mem)); done))))
        exact ⟨rfl, Below.refl _ _, .func (.func 66) #[] #[.pointer (some ⟨k1, 0, none⟩)], rfl, rfl⟩
      · unfold HopM; intro u wn hb hk; have H0 := H; replace H := H.call hb
        simp only [fillM]
        go_wp2_with (first | go_skip | ((with_reducible apply ld_bk); rfl; rfl; (focus (apply H.one; (repeat (first | with_reducible exact List.mem_cons_self | with_reducible apply List.mem_cons_of_mem)); done))) | ((with_reducible apply ld_stp); rfl; rfl; (focus (apply H.arr; (repeat (first | with_reducible exact List.mem_cons_self | with_reducible apply List.mem_cons_of_mem)); done))))
        exact ⟨rfl, Below.refl _ _, .agg #[.int .i64 N, .int .i64 R], rfl, rfl⟩
      · unfold HopM; intro u wn hb hk; have H0 := H; replace H := H.call hb
        obtain ⟨hq1, hq2, -⟩ := hk
        replace hq1 := hq1 _ rfl; dsimp only at hq1
        replace hq2 := hq2 _ rfl; dsimp only at hq2
        simp only [fillM, hq1, hq2]
        clear hq1 hq2
        go_wp2_with (first | go_skip | (go_at_call 66; (with_reducible refine (Tell.out _ H.bel).mono ?_); rintro e wm ⟨sj, rfl, hf, hbb⟩))
        exact ⟨rfl, hbb, _, rfl, sj, rfl, hf⟩
      · unfold HopM; intro u wn hb hk; have H0 := H; replace H := H.call hb
        obtain ⟨hq3, -⟩ := hk
        replace hq3 := hq3 _ rfl; dsimp only at hq3; obtain ⟨sj, hq3, hf3⟩ := hq3
        simp only [fillM, hq3]
        clear hq3
        go_wp2_with (first | go_skip | ((with_reducible apply bs_rec ok (St.init _)); rfl; intro wm b hs))
        exact ⟨rfl, hs.bel, _, rfl, [(x, sj)], rfl, Res.row_reads (hs.get List.mem_cons_self), fun p hp => by rw [List.mem_singleton.1 hp]; exact ⟨ok, hf3.below hs.bel⟩⟩
      · unfold HopM; intro u wn hb hk; have H0 := H; replace H := H.call hb
        obtain ⟨hq4, -⟩ := hk
        replace hq4 := hq4 _ rfl; dsimp only at hq4; have hrc := hq4; obtain ⟨a5, c5, hq4, -, -⟩ := Recs.slice hq4; rw [hq4] at hrc
        simp only [fillM, hq4]
        clear hq4
        go_wp2_with (first | go_skip)
        exact ⟨rfl, Below.refl _ _, _, rfl, _, rfl, hrc⟩
      · unfold HopM; intro u wn hb hk; have H0 := H; replace H := H.call hb
        obtain ⟨hq0, hq5, -⟩ := hk
        replace hq0 := hq0 _ rfl; dsimp only at hq0
        replace hq5 := hq5 _ rfl; dsimp only at hq5; obtain ⟨sb, hq5, hrb⟩ := hq5
        simp only [fillM, hq0, hq5]
        clear hq0 hq5
        go_wp2_with (first | go_skip | (go_at_call 23; (with_reducible refine (bkjoin_c Hd.out HJ.out _ (Hv.out.below H.bel) hrb).mono ?_); rintro e wm ⟨vj, rj, rfl, hrj, hs⟩))
        exact ⟨rfl, hs.bel, _, rfl, vj, rj, rfl, hrj, hs.get List.mem_cons_self, fun b hf => Nat.le_trans hb.size (hs.base _ List.mem_cons_self b hf)⟩
      · unfold HopM; intro u wn hb hk; have H0 := H; replace H := H.call hb
        obtain ⟨hq6, -⟩ := hk
        replace hq6 := hq6 _ rfl; dsimp only at hq6; obtain ⟨vj, rj, hq6, g1, g2, g3⟩ := hq6; dsimp only at hq6
        simp only [fillM, hq6]
        clear hq6
        go_wp2_with (first | go_skip)
        exact ⟨rfl, Below.refl _ _, _, rfl, vj, rj, rfl, g1, g2, g3⟩
      · unfold HopM; intro u wn hb hk; have H0 := H; replace H := H.call hb
        obtain ⟨hq6, -⟩ := hk
        replace hq6 := hq6 _ rfl; dsimp only at hq6; obtain ⟨vj, rj, hq6, g1, g2, g3⟩ := hq6; dsimp only at hq6
        simp only [fillM, hq6]
        clear hq6
        go_wp2_with (first | go_skip | ((with_reducible apply ld_bk); rfl; rfl; (focus (apply H.one; (repeat (first | with_reducible exact List.mem_cons_self | with_reducible apply List.mem_cons_of_mem)); done))) | ((with_reducible apply ld_stp); rfl; rfl; (focus (apply H.arr; (repeat (first | with_reducible exact List.mem_cons_self | with_reducible apply List.mem_cons_of_mem)); done))))
        exact ⟨rfl, Below.refl _ _, .int .i64 d, rfl, rfl⟩
    intro u wn hb hk; have H0 := H; replace H := H.call hb
    obtain ⟨hq0, hq1, hq2, hq3, hq4, hq5, hq6, hq7, hq8, -⟩ := hk
    replace hq0 := hq0 _ rfl; dsimp only at hq0
    replace hq1 := hq1 _ rfl; dsimp only at hq1
    replace hq2 := hq2 _ rfl; dsimp only at hq2
    replace hq3 := hq3 _ rfl; dsimp only at hq3; obtain ⟨sj, hq3, hf3⟩ := hq3
    replace hq4 := hq4 _ rfl; dsimp only at hq4; have hrc := hq4; obtain ⟨a5, c5, hq4, -, -⟩ := Recs.slice hq4; rw [hq4] at hrc
    replace hq5 := hq5 _ rfl; dsimp only at hq5; obtain ⟨sb, hq5, hrb⟩ := hq5
    replace hq6 := hq6 _ rfl; dsimp only at hq6; obtain ⟨vj, rj, hq6, g1, g2, g3⟩ := hq6; dsimp only at hq6
    replace hq7 := hq7 _ rfl; dsimp only at hq7; obtain ⟨vj, rj, hq7, g1, g2, g3⟩ := hq7; dsimp only at hq7; have T1 : Hid (vj.oneCell' = true) := Lib.hid (g1 _ g2).one; have HJ2 := Lib.hid g1; replace H := H0.new hb g2 g3; clear g1 g2 g3
    replace hq8 := hq8 _ rfl; dsimp only at hq8
    simp only [fillM, List.length_cons, List.length_nil, Nat.reduceAdd, List.drop_succ_cons, List.drop_zero, hq0, hq1, hq2, hq3, hq4, hq5, hq6, hq7, hq8]
    clear hb H0 hq0 hq1 hq2 hq3 hq4 hq5 hq6 hq7 hq8
    go_wp2_with (first | go_skip | ((fail_if_success have := kB); (with_reducible apply arm_box H); rfl; clear H; intro wn kB H) | ((fail_if_success have := kR); (with_reducible apply al_bk H); clear H; intro wn kR H) | ((with_reducible apply ld_bk); rfl; rfl; (focus (apply H.one; (repeat (first | with_reducible exact List.mem_cons_self | with_reducible apply List.mem_cons_of_mem)); done))) | (go_at_call 88; (with_reducible refine (bklast_v Hl.out _ (Hv.out.below H.bel)).mono ?_); rintro e wn ⟨rfl, hb⟩; replace H := H.call hb; clear hb) | (go_at_call 87; (with_reducible refine (next_m _ _ _ _ _ _ Hn.out _).mono ?_); rintro e wn ⟨rfl, hb⟩; replace H := H.call hb; clear hb) | ((fail_if_success have := k8); (with_reducible apply al_stp H); clear H; intro wn k8 H) | ((with_reducible apply st_stamp H); rfl; rfl; rfl; (repeat (first | with_reducible apply Upd.head | with_reducible apply Upd.tail)); clear H; intro wn H) | (with_reducible apply bd_bk0) | ((with_reducible apply st_bk H); rfl; rfl; rfl; (repeat (first | with_reducible apply Upd.head | with_reducible apply Upd.tail)); (first | rfl | assumption | (refine Hid.out ?_; assumption)); clear H; intro wn H))
    all_goals first | (rw [Exit.noGoto_ret]) | skip
    have hR := H.arr (b := kR) (t := 24) (cs := #[vj]) (by (repeat (first | with_reducible exact List.mem_cons_self | with_reducible apply List.mem_cons_of_mem)))
    exact bodyPost_ret (results_cell_tmp Try.results60 _ _ kR #[vj] _ _ rfl rfl hR Try.underlying24 rfl bk_info) rfl ⟨vj, rj, rfl, HJ2.out, H.sub (by (repeat (first | with_reducible exact List.Sublist.refl _ | with_reducible refine List.Sublist.cons_cons _ ?_ | refine List.Sublist.cons _ ?_)))⟩
  · have hdd : d = c := by rw [← hd, if_neg h0]
    have hJJ : J = [] := by rw [← hJ, if_neg h0]
    subst hdd hJJ
    clear hv hl hn hd hJ hxx hk
    go_enter Try.func60, Try.ntmps60
    go_wp2_with (first | go_skip | ((fail_if_success have := kB); (with_reducible apply arm_box H); rfl; clear H; intro wn kB H) | ((fail_if_success have := kR); (with_reducible apply al_bk H); clear H; intro wn kR H) | ((with_reducible apply ld_bk); rfl; rfl; (focus (apply H.one; (repeat (first | with_reducible exact List.mem_cons_self | with_reducible apply List.mem_cons_of_mem)); done))) | (go_at_call 88; (with_reducible refine (bklast_v Hl.out _ (Hv.out.below H.bel)).mono ?_); rintro e wn ⟨rfl, hb⟩; replace H := H.call hb; clear hb) | (go_at_call 87; (with_reducible refine (next_m _ _ _ _ _ _ Hn.out _).mono ?_); rintro e wn ⟨rfl, hb⟩; replace H := H.call hb; clear hb) | ((fail_if_success have := k8); (with_reducible apply al_stp H); clear H; intro wn k8 H) | ((with_reducible apply st_stamp H); rfl; rfl; rfl; (repeat (first | with_reducible apply Upd.head | with_reducible apply Upd.tail)); clear H; intro wn H) | (with_reducible apply bd_bk0) | ((with_reducible apply st_bk H); rfl; rfl; rfl; (repeat (first | with_reducible apply Upd.head | with_reducible apply Upd.tail)); (first | rfl | assumption | (refine Hid.out ?_; assumption)); clear H; intro wn H))
    all_goals first | (rw [Exit.noGoto_ret]) | skip
    have hR := H.arr (b := kR) (t := 24) (cs := #[.slice none 0 0]) (by (repeat (first | with_reducible exact List.mem_cons_self | with_reducible apply List.mem_cons_of_mem)))
    exact bodyPost_ret (results_cell_tmp Try.results60 _ _ kR #[.slice none 0 0] _ _ rfl rfl hR Try.underlying24 rfl bk_info) rfl ⟨.slice none 0 0, Res.none, rfl, fun W _ => Recs.nil W, H.addNone.sub (by (repeat (first | with_reducible exact List.Sublist.refl _ | with_reducible refine List.Sublist.cons_cons _ ?_ | refine List.Sublist.cons _ ?_)))⟩
end Go.Proofs.Ytolbmemogoojhaa
