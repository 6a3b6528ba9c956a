/- The document's books: a value more, a record dead. -/
import Derived.Test.YtolbmemogoojhaaGreatURbF
namespace Go.Proofs.YtolbmemogoojhaaGreat
open Go Go.RowKit Go.Deep
set_option linter.unusedVariables false
set_option linter.unusedSimpArgs false
set_option maxRecDepth 100000
theorem recs_one {w : World} {v s : Value} {x : RD} (h : Row w 19 v 1 (recsL [(x, s)])) (hok : x.ok) (hf : Flds w s x.f) : Recs w v [x] := ⟨[(x, s)], rfl, h, fun p hp => by rw [List.mem_singleton.1 hp]; exact ⟨hok, hf⟩⟩
theorem recs_one1 {w0 w : World} {Γ : List Res} (H : St w0 w Γ) {kS kF : Nat} {x : RD} {q : F4} (m1 : Res.row 33 19 (.slice (some ⟨kS, 0, none⟩) 1 1) 1 (recsL [(x, .slice (some ⟨kF, 0, none⟩) 1 1)]) ∈ Γ) (m2 : Res.row 82 4 (.slice (some ⟨kF, 0, none⟩) 1 1) 1 (fieldsL [q]) ∈ Γ) (hok : x.ok) (hf : x.f = [q]) : Recs w (.slice (some ⟨kS, 0, none⟩) 1 1) [x] :=
  recs_one (H.rowRead m1) hok (by rw [hf]; exact (show Row w 4 _ 1 (fieldsL [q]) from H.rowRead m2))
theorem recs_one0 {w0 w : World} {Γ : List Res} (H : St w0 w Γ) {kS : Nat} {x : RD} (m1 : Res.row 33 19 (.slice (some ⟨kS, 0, none⟩) 1 1) 1 (recsL [(x, .slice none 0 0)]) ∈ Γ) (hok : x.ok) (hf : x.f = []) : Recs w (.slice (some ⟨kS, 0, none⟩) 1 1) [x] :=
  recs_one (H.rowRead m1) hok (by rw [hf]; exact Row.nil w 4)
theorem next_no {N R rep : Int} (h : ¬ (0 ≤ rep ∧ rep < 8)) : stNext N R rep = (0, 0, 1) := by
  unfold stNext
  rw [if_neg fun k => h k.2]
theorem bWith_no {L : BK} {rep : Int} {x : Int → Int → RD} (h : ¬ (0 ≤ rep ∧ rep < 8)) : bWithP L rep x = (1, []) := by
  unfold bWithP
  rw [next_no h]; rfl
set_option maxHeartbeats 6400000 in
theorem rbwrite_k {va : Value} {L : BK} {key : IDK} {no rep : Int} {v : ByteArray} {d : Int} {J : BK} (h : bWrite L key no rep v = (d, J)) (w : World) (hv : Recs w va L) :
    Calls Tryz.prog 23 #[.agg #[va], encK key, .int .i64 no, .int .i64 rep, .string v] w (JoinP w d J) := by
  obtain ⟨m, hm⟩ : ∃ m, Hid (bMay L = m) := ⟨_, rfl⟩
  have Ha := Lib.hid hv; clear hv
  have Hone : Hid (Value.oneCell' (.slice none 0 0) = true) := Lib.hid rfl
  have H := St.init w
  by_cases hc : m = true ∧ 0 ≤ no ∧ no < 8 ∧ (0 ≤ rep ∧ rep < 8) ∧ v.size ≤ 200
  · obtain ⟨rfl, h0, h8, ⟨p0, p8⟩, h200⟩ := hc
    unfold bWrite at h
    rw [hm.out, if_pos ⟨rfl, h0, h8, h200⟩] at h
    obtain ⟨⟨N0, R0⟩, hl⟩ : ∃ p, bLast L = p := ⟨_, rfl⟩
    obtain ⟨⟨N, R, c⟩, hn⟩ : ∃ p, stNext N0 R0 rep = p := ⟨_, rfl⟩
    unfold bWithP at h
    rw [hl] at h
    dsimp only at h
    rw [hn] at h
    obtain ⟨x, hx⟩ : ∃ x, rW key no v N R = x := ⟨_, rfl⟩
    dsimp only at h
    rw [hx] at h
    have hd := congrArg Prod.fst h; have hJ := congrArg Prod.snd h
    dsimp only at hd hJ
    have Hl := Lib.hid hl; have Hn2 := Lib.hid hn
    have h1 : decide (no < 0) = false := decide_eq_false (by omega)
    have h2 : decide (8 ≤ no) = false := decide_eq_false (by omega)
    have h3 : decide ((200 : Int) < (v.size : Int)) = false := decide_eq_false (by omega)
    have h4 : decide (rep < 0) = false := decide_eq_false (by omega)
    have h5 : decide (8 ≤ rep) = false := decide_eq_false (by omega)
    clear h hl hn h0 h8 h200 p0 p8
    by_cases hc0 : c = 0
    · subst hc0
      rw [if_pos rfl] at hd hJ
      have Hd := Lib.hid hd; have HJ := Lib.hid hJ
      have Hbo : Hid (∀ p n c, Tryz.prog.built 33 [(0, .agg (encU key.1).toArray), (2, .slice p n c)] = some (rA x (.slice p n c))) := Lib.hid fun p n c => by rw [← hx]; exact built_id_f (encU_arr16 key.2) p n c
      have Hxok : Hid x.ok := Lib.hid (by rw [← hx]; exact key.2)
      have Hxf : Hid (x.f = [(no, N, R, v)]) := Lib.hid (by rw [← hx]; rfl)
      have HoneF : ∀ k : Nat, Hid (Value.oneCell' (.slice (some ⟨k, 0, none⟩) 1 1) = true) := fun k => Lib.hid rfl
      clear hd hJ hx
      go_enter Tryz.func23, Tryz.ntmps23
      go_wp2_with (first | go_skip | ((fail_if_success have := kB); (with_reducible apply arm_box H); rfl; clear H; intro wn kB H) | ((fail_if_success have := kI); (with_reducible apply arm_box H); rfl; clear H; intro wn kI H) | ((fail_if_success have := kX); (with_reducible apply al_bk H); clear H; intro wn kX H) | ((fail_if_success have := kJ); (with_reducible apply al_bk H); clear H; intro wn kJ H) | ((with_reducible apply ld_bk); rfl; rfl; (focus (apply H.one; (repeat (first | with_reducible exact List.mem_cons_self | with_reducible apply List.mem_cons_of_mem)); done))) | (with_reducible apply bd_bk0) | ((with_reducible apply st_bk H); rfl; rfl; rfl; (repeat (first | with_reducible apply Upd.head | with_reducible apply Upd.tail)); (first | rfl | assumption | (refine Hid.out ?_; assumption)); clear H; intro wn H) | ((with_reducible apply ld_idS (k := key)); rfl; rfl; (focus (apply H.arr (t := 26); (repeat (first | with_reducible exact List.mem_cons_self | with_reducible apply List.mem_cons_of_mem)); done))) | (go_at_call 15; first | ((with_reducible refine (rbmay_v hm.out _ (Ha.out.below H.bel)).mono ?_); rintro e wn ⟨rfl, hb⟩; replace H := H.call hb; clear hb)) | (go_at_call 63; (with_reducible refine (rblast_v Hl.out _ (Ha.out.below H.bel)).mono ?_); rintro e wn ⟨rfl, hb⟩; replace H := H.call hb; clear hb) | (go_at_call 62; (with_reducible refine (rnext_m _ _ _ _ _ _ Hn2.out _).mono ?_); rintro e wn ⟨rfl, hb⟩; replace H := H.call hb; clear hb) | ((fail_if_success have := k2); (with_reducible apply al_stp H); clear H; intro wn k2 H) | ((with_reducible apply st_stamp H); rfl; rfl; rfl; (repeat (first | with_reducible apply Upd.head | with_reducible apply Upd.tail)); clear H; intro wn H) | ((with_reducible apply ld_stp); rfl; rfl; (focus (apply H.arr; (repeat (first | with_reducible exact List.mem_cons_self | with_reducible apply List.mem_cons_of_mem)); done))) | ((fail_if_success have := kF); (with_reducible apply bs_fld3 H); rfl; clear H; intro wn kF H) | ((with_reducible apply bd_recF); rfl; rfl; exact Hbo.out _ _ _) | ((fail_if_success have := kr); (with_reducible apply al_rec H); clear H; intro wn kr H) | ((with_reducible apply st_rec H); rfl; rfl; rfl; (repeat (first | with_reducible apply Upd.head | with_reducible apply Upd.tail)); (first | assumption | (refine Hid.out ?_; assumption)); (first | rfl | assumption | (refine Hid.out ?_; assumption)); clear H; intro wn H) | ((with_reducible apply ld_rec); rfl; rfl; (first | (focus (apply H.rc; (repeat (first | with_reducible exact List.mem_cons_self | with_reducible apply List.mem_cons_of_mem)); done)) | (apply RecAt.bel (hb := H.bel); assumption) | assumption)) | ((fail_if_success have := kS); (with_reducible apply bs_rec Hxok.out H); rfl; clear H; intro wn kS H) | ((with_reducible apply bd_bk3); rfl) | (go_at_call 12; (fail_if_success have := Tj); (with_reducible refine (rbjoin_c Hd.out HJ.out _ (Ha.out.below H.bel) (recs_one1 H (kS := kS) (kF := kF) (by (repeat (first | with_reducible exact List.mem_cons_self | with_reducible apply List.mem_cons_of_mem))) (by (repeat (first | with_reducible exact List.mem_cons_self | with_reducible apply List.mem_cons_of_mem))) Hxok.out Hxf.out)).mono ?_); rintro e wn ⟨vj, rj, rfl, hrj, hs⟩; replace H := H.comp hs; clear hs; simp only [List.cons_append, List.nil_append] at H; have Tj : Hid (vj.oneCell' = true) := Lib.hid (hrj _ (H.get (r := rj) (by (repeat (first | with_reducible exact List.mem_cons_self | with_reducible apply List.mem_cons_of_mem))))).one; have Jj := Lib.hid hrj; clear hrj))
      all_goals first | (rw [Exit.noGoto_ret]) | skip
      have hR := H.arr (b := kX) (t := 24) (cs := #[vj]) (by (repeat (first | with_reducible exact List.mem_cons_self | with_reducible apply List.mem_cons_of_mem)))
      exact bodyPost_ret (results_cell_tmp Tryz.results23 _ _ kX #[vj] _ _ rfl rfl hR Tryz.underlying24 rfl bk_info) rfl ⟨vj, rj, rfl, Jj.out, H.sub (by (repeat (first | with_reducible exact List.Sublist.refl _ | with_reducible refine List.Sublist.cons_cons _ ?_ | refine List.Sublist.cons _ ?_)))⟩
    · rw [if_neg hc0] at hd hJ
      subst hd hJ
      clear hx
      go_enter Tryz.func23, Tryz.ntmps23
      go_wp2_with (first | go_skip | ((fail_if_success have := kB); (with_reducible apply arm_box H); rfl; clear H; intro wn kB H) | ((fail_if_success have := kI); (with_reducible apply arm_box H); rfl; clear H; intro wn kI H) | ((fail_if_success have := kX); (with_reducible apply al_bk H); clear H; intro wn kX H) | ((fail_if_success have := kJ); (with_reducible apply al_bk H); clear H; intro wn kJ H) | ((with_reducible apply ld_bk); rfl; rfl; (focus (apply H.one; (repeat (first | with_reducible exact List.mem_cons_self | with_reducible apply List.mem_cons_of_mem)); done))) | (with_reducible apply bd_bk0) | ((with_reducible apply st_bk H); rfl; rfl; rfl; (repeat (first | with_reducible apply Upd.head | with_reducible apply Upd.tail)); (first | rfl | assumption | (refine Hid.out ?_; assumption)); clear H; intro wn H) | ((with_reducible apply ld_idS (k := key)); rfl; rfl; (focus (apply H.arr (t := 26); (repeat (first | with_reducible exact List.mem_cons_self | with_reducible apply List.mem_cons_of_mem)); done))) | (go_at_call 15; first | ((with_reducible refine (rbmay_v hm.out _ (Ha.out.below H.bel)).mono ?_); rintro e wn ⟨rfl, hb⟩; replace H := H.call hb; clear hb)) | (go_at_call 63; (with_reducible refine (rblast_v Hl.out _ (Ha.out.below H.bel)).mono ?_); rintro e wn ⟨rfl, hb⟩; replace H := H.call hb; clear hb) | (go_at_call 62; (with_reducible refine (rnext_m _ _ _ _ _ _ Hn2.out _).mono ?_); rintro e wn ⟨rfl, hb⟩; replace H := H.call hb; clear hb) | ((fail_if_success have := k2); (with_reducible apply al_stp H); clear H; intro wn k2 H) | ((with_reducible apply st_stamp H); rfl; rfl; rfl; (repeat (first | with_reducible apply Upd.head | with_reducible apply Upd.tail)); clear H; intro wn H) | ((with_reducible apply ld_stp); rfl; rfl; (focus (apply H.arr; (repeat (first | with_reducible exact List.mem_cons_self | with_reducible apply List.mem_cons_of_mem)); done))))
      all_goals first | (rw [Exit.noGoto_ret]) | skip
      have hR := H.arr (b := kX) (t := 24) (cs := #[.slice none 0 0]) (by (repeat (first | with_reducible exact List.mem_cons_self | with_reducible apply List.mem_cons_of_mem)))
      exact bodyPost_ret (results_cell_tmp Tryz.results23 _ _ kX #[.slice none 0 0] _ _ rfl rfl hR Tryz.underlying24 rfl bk_info) rfl ⟨.slice none 0 0, Res.none, rfl, fun W _ => Recs.nil W, H.addNone.sub (by (repeat (first | with_reducible exact List.Sublist.refl _ | with_reducible refine List.Sublist.cons_cons _ ?_ | refine List.Sublist.cons _ ?_)))⟩
  · have hdd : d = 1 ∧ J = [] := by
      unfold bWrite at h
      by_cases hr : 0 ≤ rep ∧ rep < 8
      · rw [hm.out, if_neg (fun k => hc ⟨k.1, k.2.1, k.2.2.1, hr, k.2.2.2⟩)] at h
        cases h; exact ⟨rfl, rfl⟩
      · rw [bWith_no hr] at h
        split at h <;> (cases h; exact ⟨rfl, rfl⟩)
    obtain ⟨rfl, rfl⟩ := hdd
    clear h
    obtain ⟨s1, g1⟩ : ∃ s, decide (no < 0) = s := ⟨_, rfl⟩
    obtain ⟨s2, g2⟩ : ∃ s, decide (8 ≤ no) = s := ⟨_, rfl⟩
    obtain ⟨s3, g3⟩ : ∃ s, decide (rep < 0) = s := ⟨_, rfl⟩
    obtain ⟨s4, g4⟩ : ∃ s, decide (8 ≤ rep) = s := ⟨_, rfl⟩
    obtain ⟨s5, g5⟩ : ∃ s, decide ((200 : Int) < (v.size : Int)) = s := ⟨_, rfl⟩
    have hcase : m = false ∨ (m = true ∧ s1 = true) ∨ (m = true ∧ s1 = false ∧ s2 = true) ∨ (m = true ∧ s1 = false ∧ s2 = false ∧ s3 = true) ∨ (m = true ∧ s1 = false ∧ s2 = false ∧ s3 = false ∧ s4 = true) ∨ (m = true ∧ s1 = false ∧ s2 = false ∧ s3 = false ∧ s4 = false ∧ s5 = true) := by
      cases m <;> cases s1 <;> cases s2 <;> cases s3 <;> cases s4 <;> cases s5 <;> simp
      refine hc ⟨rfl, ?_⟩
      have a1 := of_decide_eq_false g1; have a2 := of_decide_eq_false g2; have a3 := of_decide_eq_false g3; have a4 := of_decide_eq_false g4; have a5 := of_decide_eq_false g5
      omega
    clear hc
    rcases hcase with rfl | ⟨rfl, rfl⟩ | ⟨rfl, rfl, rfl⟩ | ⟨rfl, rfl, rfl, rfl⟩ | ⟨rfl, rfl, rfl, rfl, rfl⟩ | ⟨rfl, rfl, rfl, rfl, rfl, rfl⟩
    all_goals
      go_enter Tryz.func23, Tryz.ntmps23
      go_wp2_with (first | go_skip | ((fail_if_success have := kB); (with_reducible apply arm_box H); rfl; clear H; intro wn kB H) | ((fail_if_success have := kI); (with_reducible apply arm_box H); rfl; clear H; intro wn kI H) | ((fail_if_success have := kX); (with_reducible apply al_bk H); clear H; intro wn kX H) | ((fail_if_success have := kJ); (with_reducible apply al_bk H); clear H; intro wn kJ H) | ((with_reducible apply ld_bk); rfl; rfl; (focus (apply H.one; (repeat (first | with_reducible exact List.mem_cons_self | with_reducible apply List.mem_cons_of_mem)); done))) | (with_reducible apply bd_bk0) | ((with_reducible apply st_bk H); rfl; rfl; rfl; (repeat (first | with_reducible apply Upd.head | with_reducible apply Upd.tail)); (first | rfl | assumption | (refine Hid.out ?_; assumption)); clear H; intro wn H) | ((with_reducible apply ld_idS (k := key)); rfl; rfl; (focus (apply H.arr (t := 26); (repeat (first | with_reducible exact List.mem_cons_self | with_reducible apply List.mem_cons_of_mem)); done))) | (go_at_call 15; first | ((with_reducible refine (rbmay_v hm.out _ (Ha.out.below H.bel)).mono ?_); rintro e wn ⟨rfl, hb⟩; replace H := H.call hb; clear hb)) | (go_at_call 63; (with_reducible refine (rblast_v Hl.out _ (Ha.out.below H.bel)).mono ?_); rintro e wn ⟨rfl, hb⟩; replace H := H.call hb; clear hb) | (go_at_call 62; (with_reducible refine (rnext_m _ _ _ _ _ _ Hn2.out _).mono ?_); rintro e wn ⟨rfl, hb⟩; replace H := H.call hb; clear hb) | ((fail_if_success have := k2); (with_reducible apply al_stp H); clear H; intro wn k2 H) | ((with_reducible apply st_stamp H); rfl; rfl; rfl; (repeat (first | with_reducible apply Upd.head | with_reducible apply Upd.tail)); clear H; intro wn H) | ((with_reducible apply ld_stp); rfl; rfl; (focus (apply H.arr; (repeat (first | with_reducible exact List.mem_cons_self | with_reducible apply List.mem_cons_of_mem)); done))))
      all_goals first | (rw [Exit.noGoto_ret]) | skip
      have hR := H.arr (b := kX) (t := 24) (cs := #[.slice none 0 0]) (by (repeat (first | with_reducible exact List.mem_cons_self | with_reducible apply List.mem_cons_of_mem)))
      exact bodyPost_ret (results_cell_tmp Tryz.results23 _ _ kX #[.slice none 0 0] _ _ rfl rfl hR Tryz.underlying24 rfl bk_info) rfl ⟨.slice none 0 0, Res.none, rfl, fun W _ => Recs.nil W, H.addNone.sub (by (repeat (first | with_reducible exact List.Sublist.refl _ | with_reducible refine List.Sublist.cons_cons _ ?_ | refine List.Sublist.cons _ ?_)))⟩
set_option maxHeartbeats 6400000 in
theorem rbkill_k {va : Value} {L : BK} {key : IDK} {rep : Int} {d : Int} {J : BK} (h : bKill L key rep = (d, J)) (w : World) (hv : Recs w va L) :
    Calls Tryz.prog 25 #[.agg #[va], encK key, .int .i64 rep] w (JoinP w d J) := by
  obtain ⟨m, hm⟩ : ∃ m, Hid (bMay L = m) := ⟨_, rfl⟩
  obtain ⟨⟨fr, fb⟩, hF⟩ : ∃ p, bFindP L key.1 = p := ⟨_, rfl⟩
  have HF := Lib.hid hF
  have Hok : Hid fr.ok := Lib.hid (by
    unfold bFindP at hF
    split at hF
    · rename_i r hr; cases hF; exact hv.ok _ (bFind_mem hr).1
    · cases hF; exact noRD_ok)
  have Ha := Lib.hid hv; clear hv
  have Hone : Hid (Value.oneCell' (.slice none 0 0) = true) := Lib.hid rfl
  have H := St.init w
  by_cases hc : m = true ∧ 0 ≤ rep ∧ rep < 8
  · unfold bKill at h
    rw [hm.out, if_pos hc, hF] at h
    obtain ⟨rfl, h0, h8⟩ := hc
    have h1 : decide (rep < 0) = false := decide_eq_false (by omega)
    have h2 : decide (8 ≤ rep) = false := decide_eq_false (by omega)
    clear h0 h8 hF
    cases fb with
    | false =>
      simp only [Bool.false_eq_true, if_false] at h
      cases h
      go_enter Tryz.func25, Tryz.ntmps25
      go_wp2_with (first | go_skip | ((fail_if_success have := kB); (with_reducible apply arm_box H); rfl; clear H; intro wn kB H) | ((fail_if_success have := kI); (with_reducible apply arm_box H); rfl; clear H; intro wn kI H) | ((fail_if_success have := kX); (with_reducible apply al_bk H); clear H; intro wn kX H) | ((fail_if_success have := kJ); (with_reducible apply al_bk H); clear H; intro wn kJ H) | ((with_reducible apply ld_bk); rfl; rfl; (focus (apply H.one; (repeat (first | with_reducible exact List.mem_cons_self | with_reducible apply List.mem_cons_of_mem)); done))) | (with_reducible apply bd_bk0) | ((with_reducible apply st_bk H); rfl; rfl; rfl; (repeat (first | with_reducible apply Upd.head | with_reducible apply Upd.tail)); (first | rfl | assumption | (refine Hid.out ?_; assumption)); clear H; intro wn H) | ((with_reducible apply ld_idS (k := key)); rfl; rfl; (focus (apply H.arr (t := 26); (repeat (first | with_reducible exact List.mem_cons_self | with_reducible apply List.mem_cons_of_mem)); done))) | (go_at_call 15; first | ((with_reducible refine (rbmay_v hm.out _ (Ha.out.below H.bel)).mono ?_); rintro e wn ⟨rfl, hb⟩; replace H := H.call hb; clear hb)) | (go_at_call 63; (with_reducible refine (rblast_v Hl.out _ (Ha.out.below H.bel)).mono ?_); rintro e wn ⟨rfl, hb⟩; replace H := H.call hb; clear hb) | (go_at_call 62; (with_reducible refine (rnext_m _ _ _ _ _ _ Hn2.out _).mono ?_); rintro e wn ⟨rfl, hb⟩; replace H := H.call hb; clear hb) | ((fail_if_success have := k2); (with_reducible apply al_stp H); clear H; intro wn k2 H) | ((with_reducible apply st_stamp H); rfl; rfl; rfl; (repeat (first | with_reducible apply Upd.head | with_reducible apply Upd.tail)); clear H; intro wn H) | ((with_reducible apply ld_stp); rfl; rfl; (focus (apply H.arr; (repeat (first | with_reducible exact List.mem_cons_self | with_reducible apply List.mem_cons_of_mem)); done))) | (go_at_call 10; (with_reducible refine (rbfind_b HF.out Ha.out H.bel).mono ?_); rintro e wn ⟨s2, rfl, hf2, hb⟩; replace H := H.call hb; clear hb; have T2 : Hid (s2.oneCell' = true) := Lib.hid (flds_one hf2); clear hf2) | ((fail_if_success have := kr); (with_reducible apply al_rec H); clear H; intro wn kr H) | ((with_reducible apply st_rec H); rfl; rfl; rfl; (repeat (first | with_reducible apply Upd.head | with_reducible apply Upd.tail)); (first | assumption | (refine Hid.out ?_; assumption)); (first | rfl | assumption | (refine Hid.out ?_; assumption)); clear H; intro wn H))
      all_goals first | (rw [Exit.noGoto_ret]) | skip
      have hR := H.arr (b := kX) (t := 24) (cs := #[.slice none 0 0]) (by (repeat (first | with_reducible exact List.mem_cons_self | with_reducible apply List.mem_cons_of_mem)))
      exact bodyPost_ret (results_cell_tmp Tryz.results25 _ _ kX #[.slice none 0 0] _ _ rfl rfl hR Tryz.underlying24 rfl bk_info) rfl ⟨.slice none 0 0, Res.none, rfl, fun W _ => Recs.nil W, H.addNone.sub (by (repeat (first | with_reducible exact List.Sublist.refl _ | with_reducible refine List.Sublist.cons_cons _ ?_ | refine List.Sublist.cons _ ?_)))⟩
    | true =>
      simp only [if_true] at h
      obtain ⟨⟨N0, R0⟩, hl⟩ : ∃ p, bLast L = p := ⟨_, rfl⟩
      obtain ⟨⟨N, R, c⟩, hn⟩ : ∃ p, stNext N0 R0 rep = p := ⟨_, rfl⟩
      unfold bWithP at h
      rw [hl] at h
      dsimp only at h
      rw [hn] at h
      obtain ⟨x, hx⟩ : ∃ x, rK key N R = x := ⟨_, rfl⟩
      dsimp only at h
      rw [hx] at h
      have hd := congrArg Prod.fst h; have hJ := congrArg Prod.snd h
      dsimp only at hd hJ
      have Hl := Lib.hid hl; have Hn2 := Lib.hid hn
      clear h hl hn
      by_cases hc0 : c = 0
      · subst hc0
        rw [if_pos rfl] at hd hJ
        have Hd := Lib.hid hd; have HJ := Lib.hid hJ
        have Hbd : Hid (Tryz.prog.built 33 [(0, .agg (encU key.1).toArray), (1, .agg #[.int .i64 N, .int .i64 R])] = some (rA x (.slice none 0 0))) := Lib.hid (by rw [← hx]; exact built_id_dead (encU_arr16 key.2) N R)
        have Hxok : Hid x.ok := Lib.hid (by rw [← hx]; exact key.2)
        have Hxf : Hid (x.f = []) := Lib.hid (by rw [← hx]; rfl)
        clear hd hJ hx
        go_enter Tryz.func25, Tryz.ntmps25
        go_wp2_with (first | go_skip | ((fail_if_success have := kB); (with_reducible apply arm_box H); rfl; clear H; intro wn kB H) | ((fail_if_success have := kI); (with_reducible apply arm_box H); rfl; clear H; intro wn kI H) | ((fail_if_success have := kX); (with_reducible apply al_bk H); clear H; intro wn kX H) | ((fail_if_success have := kJ); (with_reducible apply al_bk H); clear H; intro wn kJ H) | ((with_reducible apply ld_bk); rfl; rfl; (focus (apply H.one; (repeat (first | with_reducible exact List.mem_cons_self | with_reducible apply List.mem_cons_of_mem)); done))) | (with_reducible apply bd_bk0) | ((with_reducible apply st_bk H); rfl; rfl; rfl; (repeat (first | with_reducible apply Upd.head | with_reducible apply Upd.tail)); (first | rfl | assumption | (refine Hid.out ?_; assumption)); clear H; intro wn H) | ((with_reducible apply ld_idS (k := key)); rfl; rfl; (focus (apply H.arr (t := 26); (repeat (first | with_reducible exact List.mem_cons_self | with_reducible apply List.mem_cons_of_mem)); done))) | (go_at_call 15; first | ((with_reducible refine (rbmay_v hm.out _ (Ha.out.below H.bel)).mono ?_); rintro e wn ⟨rfl, hb⟩; replace H := H.call hb; clear hb)) | (go_at_call 63; (with_reducible refine (rblast_v Hl.out _ (Ha.out.below H.bel)).mono ?_); rintro e wn ⟨rfl, hb⟩; replace H := H.call hb; clear hb) | (go_at_call 62; (with_reducible refine (rnext_m _ _ _ _ _ _ Hn2.out _).mono ?_); rintro e wn ⟨rfl, hb⟩; replace H := H.call hb; clear hb) | ((fail_if_success have := k2); (with_reducible apply al_stp H); clear H; intro wn k2 H) | ((with_reducible apply st_stamp H); rfl; rfl; rfl; (repeat (first | with_reducible apply Upd.head | with_reducible apply Upd.tail)); clear H; intro wn H) | ((with_reducible apply ld_stp); rfl; rfl; (focus (apply H.arr; (repeat (first | with_reducible exact List.mem_cons_self | with_reducible apply List.mem_cons_of_mem)); done))) | (go_at_call 10; (with_reducible refine (rbfind_b HF.out Ha.out H.bel).mono ?_); rintro e wn ⟨s2, rfl, hf2, hb⟩; replace H := H.call hb; clear hb; have T2 : Hid (s2.oneCell' = true) := Lib.hid (flds_one hf2); clear hf2) | ((fail_if_success have := kr); (with_reducible apply al_rec H); clear H; intro wn kr H) | ((with_reducible apply st_rec H); rfl; rfl; rfl; (repeat (first | with_reducible apply Upd.head | with_reducible apply Upd.tail)); (first | assumption | (refine Hid.out ?_; assumption)); (first | rfl | assumption | (refine Hid.out ?_; assumption)); clear H; intro wn H) | ((with_reducible apply bd_recD); rfl; rfl; exact Hbd.out) | ((fail_if_success have := kS); (with_reducible apply bs_rec Hxok.out H); rfl; clear H; intro wn kS H) | ((with_reducible apply bd_bk3); rfl) | (go_at_call 12; (fail_if_success have := Tj); (with_reducible refine (rbjoin_c Hd.out HJ.out _ (Ha.out.below H.bel) (recs_one0 H (kS := kS) (by (repeat (first | with_reducible exact List.mem_cons_self | with_reducible apply List.mem_cons_of_mem))) Hxok.out Hxf.out)).mono ?_); rintro e wn ⟨vj, rj, rfl, hrj, hs⟩; replace H := H.comp hs; clear hs; simp only [List.cons_append, List.nil_append] at H; have Tj : Hid (vj.oneCell' = true) := Lib.hid (hrj _ (H.get (r := rj) (by (repeat (first | with_reducible exact List.mem_cons_self | with_reducible apply List.mem_cons_of_mem))))).one; have Jj := Lib.hid hrj; clear hrj))
        all_goals first | (rw [Exit.noGoto_ret]) | skip
        have hR := H.arr (b := kX) (t := 24) (cs := #[vj]) (by (repeat (first | with_reducible exact List.mem_cons_self | with_reducible apply List.mem_cons_of_mem)))
        exact bodyPost_ret (results_cell_tmp Tryz.results25 _ _ kX #[vj] _ _ rfl rfl hR Tryz.underlying24 rfl bk_info) rfl ⟨vj, rj, rfl, Jj.out, H.sub (by (repeat (first | with_reducible exact List.Sublist.refl _ | with_reducible refine List.Sublist.cons_cons _ ?_ | refine List.Sublist.cons _ ?_)))⟩
      · rw [if_neg hc0] at hd hJ
        subst hd hJ
        clear hx
        go_enter Tryz.func25, Tryz.ntmps25
        go_wp2_with (first | go_skip | ((fail_if_success have := kB); (with_reducible apply arm_box H); rfl; clear H; intro wn kB H) | ((fail_if_success have := kI); (with_reducible apply arm_box H); rfl; clear H; intro wn kI H) | ((fail_if_success have := kX); (with_reducible apply al_bk H); clear H; intro wn kX H) | ((fail_if_success have := kJ); (with_reducible apply al_bk H); clear H; intro wn kJ H) | ((with_reducible apply ld_bk); rfl; rfl; (focus (apply H.one; (repeat (first | with_reducible exact List.mem_cons_self | with_reducible apply List.mem_cons_of_mem)); done))) | (with_reducible apply bd_bk0) | ((with_reducible apply st_bk H); rfl; rfl; rfl; (repeat (first | with_reducible apply Upd.head | with_reducible apply Upd.tail)); (first | rfl | assumption | (refine Hid.out ?_; assumption)); clear H; intro wn H) | ((with_reducible apply ld_idS (k := key)); rfl; rfl; (focus (apply H.arr (t := 26); (repeat (first | with_reducible exact List.mem_cons_self | with_reducible apply List.mem_cons_of_mem)); done))) | (go_at_call 15; first | ((with_reducible refine (rbmay_v hm.out _ (Ha.out.below H.bel)).mono ?_); rintro e wn ⟨rfl, hb⟩; replace H := H.call hb; clear hb)) | (go_at_call 63; (with_reducible refine (rblast_v Hl.out _ (Ha.out.below H.bel)).mono ?_); rintro e wn ⟨rfl, hb⟩; replace H := H.call hb; clear hb) | (go_at_call 62; (with_reducible refine (rnext_m _ _ _ _ _ _ Hn2.out _).mono ?_); rintro e wn ⟨rfl, hb⟩; replace H := H.call hb; clear hb) | ((fail_if_success have := k2); (with_reducible apply al_stp H); clear H; intro wn k2 H) | ((with_reducible apply st_stamp H); rfl; rfl; rfl; (repeat (first | with_reducible apply Upd.head | with_reducible apply Upd.tail)); clear H; intro wn H) | ((with_reducible apply ld_stp); rfl; rfl; (focus (apply H.arr; (repeat (first | with_reducible exact List.mem_cons_self | with_reducible apply List.mem_cons_of_mem)); done))) | (go_at_call 10; (with_reducible refine (rbfind_b HF.out Ha.out H.bel).mono ?_); rintro e wn ⟨s2, rfl, hf2, hb⟩; replace H := H.call hb; clear hb; have T2 : Hid (s2.oneCell' = true) := Lib.hid (flds_one hf2); clear hf2) | ((fail_if_success have := kr); (with_reducible apply al_rec H); clear H; intro wn kr H) | ((with_reducible apply st_rec H); rfl; rfl; rfl; (repeat (first | with_reducible apply Upd.head | with_reducible apply Upd.tail)); (first | assumption | (refine Hid.out ?_; assumption)); (first | rfl | assumption | (refine Hid.out ?_; assumption)); clear H; intro wn H))
        all_goals first | (rw [Exit.noGoto_ret]) | skip
        have hR := H.arr (b := kX) (t := 24) (cs := #[.slice none 0 0]) (by (repeat (first | with_reducible exact List.mem_cons_self | with_reducible apply List.mem_cons_of_mem)))
        exact bodyPost_ret (results_cell_tmp Tryz.results25 _ _ kX #[.slice none 0 0] _ _ rfl rfl hR Tryz.underlying24 rfl bk_info) rfl ⟨.slice none 0 0, Res.none, rfl, fun W _ => Recs.nil W, H.addNone.sub (by (repeat (first | with_reducible exact List.Sublist.refl _ | with_reducible refine List.Sublist.cons_cons _ ?_ | refine List.Sublist.cons _ ?_)))⟩
  · unfold bKill at h
    rw [hm.out, if_neg hc] at h
    cases h
    clear hF
    obtain ⟨s3, g3⟩ : ∃ s, decide (rep < 0) = s := ⟨_, rfl⟩
    obtain ⟨s4, g4⟩ : ∃ s, decide (8 ≤ rep) = s := ⟨_, rfl⟩
    have hcase : m = false ∨ (m = true ∧ s3 = true) ∨ (m = true ∧ s3 = false ∧ s4 = true) := by
      cases m <;> cases s3 <;> cases s4 <;> simp
      refine hc ⟨rfl, ?_⟩
      have a3 := of_decide_eq_false g3; have a4 := of_decide_eq_false g4
      omega
    clear hc
    rcases hcase with rfl | ⟨rfl, rfl⟩ | ⟨rfl, rfl, rfl⟩
    all_goals
      go_enter Tryz.func25, Tryz.ntmps25
      go_wp2_with (first | go_skip | ((fail_if_success have := kB); (with_reducible apply arm_box H); rfl; clear H; intro wn kB H) | ((fail_if_success have := kI); (with_reducible apply arm_box H); rfl; clear H; intro wn kI H) | ((fail_if_success have := kX); (with_reducible apply al_bk H); clear H; intro wn kX H) | ((fail_if_success have := kJ); (with_reducible apply al_bk H); clear H; intro wn kJ H) | ((with_reducible apply ld_bk); rfl; rfl; (focus (apply H.one; (repeat (first | with_reducible exact List.mem_cons_self | with_reducible apply List.mem_cons_of_mem)); done))) | (with_reducible apply bd_bk0) | ((with_reducible apply st_bk H); rfl; rfl; rfl; (repeat (first | with_reducible apply Upd.head | with_reducible apply Upd.tail)); (first | rfl | assumption | (refine Hid.out ?_; assumption)); clear H; intro wn H) | ((with_reducible apply ld_idS (k := key)); rfl; rfl; (focus (apply H.arr (t := 26); (repeat (first | with_reducible exact List.mem_cons_self | with_reducible apply List.mem_cons_of_mem)); done))) | (go_at_call 15; first | ((with_reducible refine (rbmay_v hm.out _ (Ha.out.below H.bel)).mono ?_); rintro e wn ⟨rfl, hb⟩; replace H := H.call hb; clear hb)) | (go_at_call 63; (with_reducible refine (rblast_v Hl.out _ (Ha.out.below H.bel)).mono ?_); rintro e wn ⟨rfl, hb⟩; replace H := H.call hb; clear hb) | (go_at_call 62; (with_reducible refine (rnext_m _ _ _ _ _ _ Hn2.out _).mono ?_); rintro e wn ⟨rfl, hb⟩; replace H := H.call hb; clear hb) | ((fail_if_success have := k2); (with_reducible apply al_stp H); clear H; intro wn k2 H) | ((with_reducible apply st_stamp H); rfl; rfl; rfl; (repeat (first | with_reducible apply Upd.head | with_reducible apply Upd.tail)); clear H; intro wn H) | ((with_reducible apply ld_stp); rfl; rfl; (focus (apply H.arr; (repeat (first | with_reducible exact List.mem_cons_self | with_reducible apply List.mem_cons_of_mem)); done))) | (go_at_call 10; (with_reducible refine (rbfind_b HF.out Ha.out H.bel).mono ?_); rintro e wn ⟨s2, rfl, hf2, hb⟩; replace H := H.call hb; clear hb; have T2 : Hid (s2.oneCell' = true) := Lib.hid (flds_one hf2); clear hf2) | ((fail_if_success have := kr); (with_reducible apply al_rec H); clear H; intro wn kr H) | ((with_reducible apply st_rec H); rfl; rfl; rfl; (repeat (first | with_reducible apply Upd.head | with_reducible apply Upd.tail)); (first | assumption | (refine Hid.out ?_; assumption)); (first | rfl | assumption | (refine Hid.out ?_; assumption)); clear H; intro wn H))
      all_goals first | (rw [Exit.noGoto_ret]) | skip
      have hR := H.arr (b := kX) (t := 24) (cs := #[.slice none 0 0]) (by (repeat (first | with_reducible exact List.mem_cons_self | with_reducible apply List.mem_cons_of_mem)))
      exact bodyPost_ret (results_cell_tmp Tryz.results25 _ _ kX #[.slice none 0 0] _ _ rfl rfl hR Tryz.underlying24 rfl bk_info) rfl ⟨.slice none 0 0, Res.none, rfl, fun W _ => Recs.nil W, H.addNone.sub (by (repeat (first | with_reducible exact List.Sublist.refl _ | with_reducible refine List.Sublist.cons_cons _ ?_ | refine List.Sublist.cons _ ?_)))⟩
end Go.Proofs.YtolbmemogoojhaaGreat
