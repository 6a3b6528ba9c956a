/- A value more; a record dead. -/
import Derived.Test.YtolbmemogoojhaaBookO
namespace Go.Proofs.Ytolbmemogoojhaa
open Go Go.RowKit Go.Deep
set_option linter.unusedVariables false
set_option linter.unusedSimpArgs false
set_option maxRecDepth 100000
theorem bkfind_k {va : Value} {L : BK} {key : IDK} {fr : RD} {fb : Bool} (h : bFindP L key.1 = (fr, fb)) (hs : ∀ r ∈ L, r.f.length ≤ 1000) (w : World) (hv : Recs w va L) : Calls Try.prog 26 #[.agg #[va], encK key] w fun e w' => ∃ s, e = .returned (.tuple #[.agg (rA fr s), .bool fb]) ∧ St w w' [Res.row 51 4 s fr.f.length (fieldsL fr.f)] := by
  have := bkfind_c va L key.1 key.2 hs w hv
  rw [h] at this
  exact this
def bWithP (L : BK) (rep : Int) (x : Int → Int → RD) : Int × BK :=
  let n := stNext (bLast L).1 (bLast L).2 rep
  (if n.2.2 = 0 then bCan L [x n.1 n.2.1] else n.2.2, if n.2.2 = 0 then bJ L [x n.1 n.2.1] else [])
def bWrite (L : BK) (key : IDK) (no rep : Int) (v : ByteArray) : Int × BK := if bMay L = true ∧ 0 ≤ no ∧ no < 8 ∧ v.size ≤ 200 then bWithP L rep (rW key no v) else (1, [])
def bKill (L : BK) (key : IDK) (rep : Int) : Int × BK := if bMay L = true ∧ 0 ≤ rep ∧ rep < 8 then (if (bFindP L key.1).2 = true then bWithP L rep (rK key) else (6, [])) else (1, [])
set_option maxHeartbeats 3200000 in
theorem bkwrite_c {va : Value} {L : BK} {key : IDK} {no rep : Int} {v : ByteArray} {d : Int} {J : BK} (h : bWrite L key no rep v = (d, J)) (w : World) (hv : Recs w va L) :
    Calls Try.prog 29 #[.agg #[va], .agg (encU key.1).toArray, .int .i64 no, .int .i64 rep, .string v] w (JoinP w d J) := by
  obtain ⟨m, hm⟩ : ∃ m, Hid (bMay L = m) := ⟨_, rfl⟩
  have Hv := Lib.hid hv; clear hv
  have Hone : Hid (Value.oneCell' (.slice none 0 0) = true) := Lib.hid rfl
  have H := St.init w
  by_cases hc : m = true ∧ 0 ≤ no ∧ no < 8 ∧ v.size ≤ 200
  · unfold bWrite at h
    rw [hm.out, if_pos hc] at h
    obtain ⟨rfl, h0, h8, h200⟩ := hc
    obtain ⟨⟨N0, R0⟩, hl⟩ : ∃ p, bLast L = p := ⟨_, rfl⟩
    obtain ⟨⟨N, R, c⟩, hn⟩ : ∃ p, stNext N0 R0 rep = p := ⟨_, rfl⟩
    unfold bWithP at h
    rw [hl] at h
    dsimp only at h
    rw [hn] at h
    obtain ⟨x, hx⟩ : ∃ x, rW key no v N R = x := ⟨_, rfl⟩
    dsimp only at h
    rw [hx] at h
    have Hd := Lib.hid (congrArg Prod.fst h); have HJ := Lib.hid (congrArg Prod.snd h)
    dsimp only at Hd HJ
    have Hl := Lib.hid hl; have Hn := Lib.hid hn; have Hx := Lib.hid hx
    have h1 : decide (no < 0) = false := decide_eq_false (by omega)
    have h2 : decide (8 ≤ no) = false := decide_eq_false (by omega)
    have h3 : decide ((200 : Int) < (v.size : Int)) = false := decide_eq_false (by omega)
    clear h hl hn hx h0 h8 h200
    go_enter Try.func29, Try.ntmps29
    go_wp2_with (first | go_skip | ((fail_if_success have := kB); (with_reducible apply arm_box H); rfl; clear H; intro wn kB H) | ((fail_if_success have := kI); (with_reducible apply arm_box H); rfl; clear H; intro wn kI H) | ((fail_if_success have := kN); (with_reducible apply arm_box1 H); (conv => lhs; whnf); rfl; clear H; intro wn kN H) | ((fail_if_success have := kV); (with_reducible apply arm_box1 H); (conv => lhs; whnf); rfl; clear H; intro wn kV H) | ((fail_if_success have := kR); (with_reducible apply al_bk H); clear H; intro wn kR H) | ((with_reducible apply ld_bk); rfl; rfl; (focus (apply H.one; (repeat (first | with_reducible exact List.mem_cons_self | with_reducible apply List.mem_cons_of_mem)); done))) | ((with_reducible apply ld_one (ty := 3) Try.underlying3 rfl); rfl; rfl; (focus (apply H.one; (repeat (first | with_reducible exact List.mem_cons_self | with_reducible apply List.mem_cons_of_mem)); done))) | ((with_reducible apply ld_one (ty := 9) Try.underlying9 rfl); rfl; rfl; (focus (apply H.one; (repeat (first | with_reducible exact List.mem_cons_self | with_reducible apply List.mem_cons_of_mem)); done))) | (with_reducible apply bd_bk0) | ((with_reducible apply st_bk H); rfl; rfl; rfl; (repeat (first | with_reducible apply Upd.head | with_reducible apply Upd.tail)); (first | rfl | assumption | (refine Hid.out ?_; assumption)); clear H; intro wn H) | (go_at_call 22; (with_reducible refine (bkmay_v hm.out _ (Hv.out.below H.bel)).mono ?_); rintro e wn ⟨rfl, hb⟩; replace H := H.call hb; clear hb) | (go_at_call 60; (with_reducible refine (withW Hl.out Hn.out Hd.out HJ.out _ (Hv.out.below H.bel) Hx.out (H.arr (b := kI) (t := 33) (by (repeat (first | with_reducible exact List.mem_cons_self | with_reducible apply List.mem_cons_of_mem)))) (H.one (b := kN) (t := 3) (by (repeat (first | with_reducible exact List.mem_cons_self | with_reducible apply List.mem_cons_of_mem)))) (H.one (b := kV) (t := 9) (by (repeat (first | with_reducible exact List.mem_cons_self | with_reducible apply List.mem_cons_of_mem))))).mono ?_); rintro e wn ⟨vj, rj, rfl, hrj, hs⟩; replace H := H.comp hs; clear hs; simp only [List.cons_append, List.nil_append] at H; have T1 : Hid (vj.oneCell' = true) := Lib.hid (hrj _ (H.get (r := rj) (by (repeat (first | with_reducible exact List.mem_cons_self | with_reducible apply List.mem_cons_of_mem))))).one; have HJ2 := Lib.hid hrj; clear hrj))
    all_goals first | (rw [Exit.noGoto_ret]) | skip
    have hR := H.arr (b := kR) (t := 24) (cs := #[vj]) (by (repeat (first | with_reducible exact List.mem_cons_self | with_reducible apply List.mem_cons_of_mem)))
    exact bodyPost_ret (results_cell_tmp Try.results29 _ _ kR #[vj] _ _ rfl rfl hR Try.underlying24 rfl bk_info) rfl ⟨vj, rj, rfl, HJ2.out, H.sub (by (repeat (first | with_reducible exact List.Sublist.refl _ | with_reducible refine List.Sublist.cons_cons _ ?_ | refine List.Sublist.cons _ ?_)))⟩
  · unfold bWrite at h
    rw [hm.out, if_neg hc] at h
    cases h
    have hcase : m = false ∨ (m = true ∧ no < 0) ∨ (m = true ∧ ¬ no < 0 ∧ 8 ≤ no) ∨ (m = true ∧ ¬ no < 0 ∧ ¬ 8 ≤ no ∧ (200 : Int) < (v.size : Int)) := by
      cases m with
      | false => exact .inl rfl
      | true =>
        by_cases h1 : no < 0
        · exact .inr (.inl ⟨rfl, h1⟩)
        · by_cases h2 : 8 ≤ no
          · exact .inr (.inr (.inl ⟨rfl, h1, h2⟩))
          · exact .inr (.inr (.inr ⟨rfl, h1, h2, by
              have : ¬ v.size ≤ 200 := fun h => hc ⟨rfl, by omega, by omega, h⟩
              omega⟩))
    clear hc
    replace hcase : m = false ∨ (m = true ∧ decide (no < 0) = true) ∨ (m = true ∧ decide (no < 0) = false ∧ decide (8 ≤ no) = true) ∨ (m = true ∧ decide (no < 0) = false ∧ decide (8 ≤ no) = false ∧ decide ((200 : Int) < (v.size : Int)) = true) := by simpa using hcase
    rcases hcase with rfl | ⟨rfl, h1⟩ | ⟨rfl, h1, h2⟩ | ⟨rfl, h1, h2, h3⟩
    all_goals
      go_enter Try.func29, Try.ntmps29
      go_wp2_with (first | go_skip | ((fail_if_success have := kB); (with_reducible apply arm_box H); rfl; clear H; intro wn kB H) | ((fail_if_success have := kI); (with_reducible apply arm_box H); rfl; clear H; intro wn kI H) | ((fail_if_success have := kN); (with_reducible apply arm_box1 H); (conv => lhs; whnf); rfl; clear H; intro wn kN H) | ((fail_if_success have := kV); (with_reducible apply arm_box1 H); (conv => lhs; whnf); rfl; clear H; intro wn kV H) | ((fail_if_success have := kR); (with_reducible apply al_bk H); clear H; intro wn kR H) | ((with_reducible apply ld_bk); rfl; rfl; (focus (apply H.one; (repeat (first | with_reducible exact List.mem_cons_self | with_reducible apply List.mem_cons_of_mem)); done))) | ((with_reducible apply ld_one (ty := 3) Try.underlying3 rfl); rfl; rfl; (focus (apply H.one; (repeat (first | with_reducible exact List.mem_cons_self | with_reducible apply List.mem_cons_of_mem)); done))) | ((with_reducible apply ld_one (ty := 9) Try.underlying9 rfl); rfl; rfl; (focus (apply H.one; (repeat (first | with_reducible exact List.mem_cons_self | with_reducible apply List.mem_cons_of_mem)); done))) | (with_reducible apply bd_bk0) | ((with_reducible apply st_bk H); rfl; rfl; rfl; (repeat (first | with_reducible apply Upd.head | with_reducible apply Upd.tail)); (first | rfl | assumption | (refine Hid.out ?_; assumption)); clear H; intro wn H) | (go_at_call 22; (with_reducible refine (bkmay_v hm.out _ (Hv.out.below H.bel)).mono ?_); rintro e wn ⟨rfl, hb⟩; replace H := H.call hb; clear hb) | (go_at_call 60; (with_reducible refine (withW Hl.out Hn.out Hd.out HJ.out _ (Hv.out.below H.bel) Hx.out (H.arr (b := kI) (t := 33) (by (repeat (first | with_reducible exact List.mem_cons_self | with_reducible apply List.mem_cons_of_mem)))) (H.one (b := kN) (t := 3) (by (repeat (first | with_reducible exact List.mem_cons_self | with_reducible apply List.mem_cons_of_mem)))) (H.one (b := kV) (t := 9) (by (repeat (first | with_reducible exact List.mem_cons_self | with_reducible apply List.mem_cons_of_mem))))).mono ?_); rintro e wn ⟨vj, rj, rfl, hrj, hs⟩; replace H := H.comp hs; clear hs; simp only [List.cons_append, List.nil_append] at H; have T1 : Hid (vj.oneCell' = true) := Lib.hid (hrj _ (H.get (r := rj) (by (repeat (first | with_reducible exact List.mem_cons_self | with_reducible apply List.mem_cons_of_mem))))).one; have HJ2 := Lib.hid hrj; clear hrj))
      all_goals first | (rw [Exit.noGoto_ret]) | skip
      have hR := H.arr (b := kR) (t := 24) (cs := #[.slice none 0 0]) (by (repeat (first | with_reducible exact List.mem_cons_self | with_reducible apply List.mem_cons_of_mem)))
      exact bodyPost_ret (results_cell_tmp Try.results29 _ _ kR #[.slice none 0 0] _ _ rfl rfl hR Try.underlying24 rfl bk_info) rfl ⟨.slice none 0 0, Res.none, rfl, fun W _ => Recs.nil W, H.addNone.sub (by (repeat (first | with_reducible exact List.Sublist.refl _ | with_reducible refine List.Sublist.cons_cons _ ?_ | refine List.Sublist.cons _ ?_)))⟩
set_option maxHeartbeats 3200000 in
theorem bkkill_c {va : Value} {L : BK} {key : IDK} {rep : Int} {d : Int} {J : BK} (h : bKill L key rep = (d, J)) (hs : ∀ r ∈ L, r.f.length ≤ 1000) (w : World) (hv : Recs w va L) :
    Calls Try.prog 32 #[.agg #[va], .agg (encU key.1).toArray, .int .i64 rep] w (JoinP w d J) := by
  obtain ⟨m, hm⟩ : ∃ m, Hid (bMay L = m) := ⟨_, rfl⟩
  obtain ⟨⟨fr, fb⟩, hF⟩ : ∃ p, bFindP L key.1 = p := ⟨_, rfl⟩
  have HF := Lib.hid hF
  have Hok : Hid fr.ok := Lib.hid (by
    unfold bFindP at hF
    split at hF
    · rename_i r hr; cases hF; exact hv.ok _ (bFind_mem hr).1
    · cases hF; exact noRD_ok)
  have Hv := Lib.hid hv; clear hv
  have Hs := Lib.hid hs; clear hs
  have Hone : Hid (Value.oneCell' (.slice none 0 0) = true) := Lib.hid rfl
  have H := St.init w
  by_cases hc : m = true ∧ 0 ≤ rep ∧ rep < 8
  · unfold bKill at h
    rw [hm.out, if_pos hc, hF] at h
    obtain ⟨rfl, h0, h8⟩ := hc
    have h1 : decide (rep < 0) = false := decide_eq_false (by omega)
    have h2 : decide (8 ≤ rep) = false := decide_eq_false (by omega)
    clear h0 h8 hF
    cases fb with
    | false =>
      simp only [Bool.false_eq_true, if_false] at h
      cases h
      go_enter Try.func32, Try.ntmps32
      go_wp2_with (first | go_skip | ((fail_if_success have := kB); (with_reducible apply arm_box H); rfl; clear H; intro wn kB H) | ((fail_if_success have := kI); (with_reducible apply arm_box H); rfl; clear H; intro wn kI H) | ((fail_if_success have := kR); (with_reducible apply al_bk H); clear H; intro wn kR H) | ((with_reducible apply ld_bk); rfl; rfl; (focus (apply H.one; (repeat (first | with_reducible exact List.mem_cons_self | with_reducible apply List.mem_cons_of_mem)); done))) | ((with_reducible apply ld_idS (k := key)); rfl; rfl; (focus (apply H.arr (t := 33); (repeat (first | with_reducible exact List.mem_cons_self | with_reducible apply List.mem_cons_of_mem)); done))) | (with_reducible apply bd_bk0) | ((with_reducible apply st_bk H); rfl; rfl; rfl; (repeat (first | with_reducible apply Upd.head | with_reducible apply Upd.tail)); (first | rfl | assumption | (refine Hid.out ?_; assumption)); clear H; intro wn H) | (go_at_call 22; (with_reducible refine (bkmay_v hm.out _ (Hv.out.below H.bel)).mono ?_); rintro e wn ⟨rfl, hb⟩; replace H := H.call hb; clear hb) | (go_at_call 26; (with_reducible refine (bkfind_k HF.out Hs.out _ (Hv.out.below H.bel)).mono ?_); rintro e wn ⟨sj, rfl, hs⟩; replace H := H.comp hs; clear hs; simp only [List.cons_append, List.nil_append] at H; have T2 : Hid (sj.oneCell' = true) := Lib.hid (by obtain ⟨_, _, _, rfl⟩ := H.rowSlice List.mem_cons_self; rfl)) | ((fail_if_success have := k8); (with_reducible apply al_rec H); clear H; intro wn k8 H) | ((with_reducible apply st_rec H); rfl; rfl; rfl; (repeat (first | with_reducible apply Upd.head | with_reducible apply Upd.tail)); (first | assumption | (refine Hid.out ?_; assumption)); (first | rfl | assumption | (refine Hid.out ?_; assumption)); clear H; intro wn H) | (go_at_call 60; (with_reducible refine (withK Hl.out Hn.out Hd.out HJ.out _ (Hv.out.below H.bel) Hx.out (H.arr (b := kI) (t := 33) (by (repeat (first | with_reducible exact List.mem_cons_self | with_reducible apply List.mem_cons_of_mem))))).mono ?_); rintro e wn ⟨vj, rj, rfl, hrj, hs⟩; replace H := H.comp hs; clear hs; simp only [List.cons_append, List.nil_append] at H; have T1 : Hid (vj.oneCell' = true) := Lib.hid (hrj _ (H.get (r := rj) (by (repeat (first | with_reducible exact List.mem_cons_self | with_reducible apply List.mem_cons_of_mem))))).one; have HJ2 := Lib.hid hrj; clear hrj))
      all_goals first | (rw [Exit.noGoto_ret]) | skip
      have hR := H.arr (b := kR) (t := 24) (cs := #[.slice none 0 0]) (by (repeat (first | with_reducible exact List.mem_cons_self | with_reducible apply List.mem_cons_of_mem)))
      exact bodyPost_ret (results_cell_tmp Try.results32 _ _ kR #[.slice none 0 0] _ _ rfl rfl hR Try.underlying24 rfl bk_info) rfl ⟨.slice none 0 0, Res.none, rfl, fun W _ => Recs.nil W, H.addNone.sub (by (repeat (first | with_reducible exact List.Sublist.refl _ | with_reducible refine List.Sublist.cons_cons _ ?_ | refine List.Sublist.cons _ ?_)))⟩
    | true =>
      simp only [if_true] at h
      obtain ⟨⟨N0, R0⟩, hl⟩ : ∃ p, bLast L = p := ⟨_, rfl⟩
      obtain ⟨⟨N, R, c⟩, hn⟩ : ∃ p, stNext N0 R0 rep = p := ⟨_, rfl⟩
      unfold bWithP at h
      rw [hl] at h
      dsimp only at h
      rw [hn] at h
      obtain ⟨x, hx⟩ : ∃ x, rK key N R = x := ⟨_, rfl⟩
      dsimp only at h
      rw [hx] at h
      have Hd := Lib.hid (congrArg Prod.fst h); have HJ := Lib.hid (congrArg Prod.snd h)
      dsimp only at Hd HJ
      have Hl := Lib.hid hl; have Hn := Lib.hid hn; have Hx := Lib.hid hx
      clear h hl hn hx
      go_enter Try.func32, Try.ntmps32
      go_wp2_with (first | go_skip | ((fail_if_success have := kB); (with_reducible apply arm_box H); rfl; clear H; intro wn kB H) | ((fail_if_success have := kI); (with_reducible apply arm_box H); rfl; clear H; intro wn kI H) | ((fail_if_success have := kR); (with_reducible apply al_bk H); clear H; intro wn kR H) | ((with_reducible apply ld_bk); rfl; rfl; (focus (apply H.one; (repeat (first | with_reducible exact List.mem_cons_self | with_reducible apply List.mem_cons_of_mem)); done))) | ((with_reducible apply ld_idS (k := key)); rfl; rfl; (focus (apply H.arr (t := 33); (repeat (first | with_reducible exact List.mem_cons_self | with_reducible apply List.mem_cons_of_mem)); done))) | (with_reducible apply bd_bk0) | ((with_reducible apply st_bk H); rfl; rfl; rfl; (repeat (first | with_reducible apply Upd.head | with_reducible apply Upd.tail)); (first | rfl | assumption | (refine Hid.out ?_; assumption)); clear H; intro wn H) | (go_at_call 22; (with_reducible refine (bkmay_v hm.out _ (Hv.out.below H.bel)).mono ?_); rintro e wn ⟨rfl, hb⟩; replace H := H.call hb; clear hb) | (go_at_call 26; (with_reducible refine (bkfind_k HF.out Hs.out _ (Hv.out.below H.bel)).mono ?_); rintro e wn ⟨sj, rfl, hs⟩; replace H := H.comp hs; clear hs; simp only [List.cons_append, List.nil_append] at H; have T2 : Hid (sj.oneCell' = true) := Lib.hid (by obtain ⟨_, _, _, rfl⟩ := H.rowSlice List.mem_cons_self; rfl)) | ((fail_if_success have := k8); (with_reducible apply al_rec H); clear H; intro wn k8 H) | ((with_reducible apply st_rec H); rfl; rfl; rfl; (repeat (first | with_reducible apply Upd.head | with_reducible apply Upd.tail)); (first | assumption | (refine Hid.out ?_; assumption)); (first | rfl | assumption | (refine Hid.out ?_; assumption)); clear H; intro wn H) | (go_at_call 60; (with_reducible refine (withK Hl.out Hn.out Hd.out HJ.out _ (Hv.out.below H.bel) Hx.out (H.arr (b := kI) (t := 33) (by (repeat (first | with_reducible exact List.mem_cons_self | with_reducible apply List.mem_cons_of_mem))))).mono ?_); rintro e wn ⟨vj, rj, rfl, hrj, hs⟩; replace H := H.comp hs; clear hs; simp only [List.cons_append, List.nil_append] at H; have T1 : Hid (vj.oneCell' = true) := Lib.hid (hrj _ (H.get (r := rj) (by (repeat (first | with_reducible exact List.mem_cons_self | with_reducible apply List.mem_cons_of_mem))))).one; have HJ2 := Lib.hid hrj; clear hrj))
      all_goals first | (rw [Exit.noGoto_ret]) | skip
      have hR := H.arr (b := kR) (t := 24) (cs := #[vj]) (by (repeat (first | with_reducible exact List.mem_cons_self | with_reducible apply List.mem_cons_of_mem)))
      exact bodyPost_ret (results_cell_tmp Try.results32 _ _ kR #[vj] _ _ rfl rfl hR Try.underlying24 rfl bk_info) rfl ⟨vj, rj, rfl, HJ2.out, H.sub (by (repeat (first | with_reducible exact List.Sublist.refl _ | with_reducible refine List.Sublist.cons_cons _ ?_ | refine List.Sublist.cons _ ?_)))⟩
  · unfold bKill at h
    rw [hm.out, if_neg hc] at h
    cases h
    have hcase : m = false ∨ (m = true ∧ rep < 0) ∨ (m = true ∧ ¬ rep < 0 ∧ 8 ≤ rep) := by
      cases m with
      | false => exact .inl rfl
      | true =>
        by_cases h1 : rep < 0
        · exact .inr (.inl ⟨rfl, h1⟩)
        · exact .inr (.inr ⟨rfl, h1, by
            have : ¬ rep < 8 := fun h => hc ⟨rfl, by omega, h⟩
            omega⟩)
    clear hc hF
    replace hcase : m = false ∨ (m = true ∧ decide (rep < 0) = true) ∨ (m = true ∧ decide (rep < 0) = false ∧ decide (8 ≤ rep) = true) := by simpa using hcase
    rcases hcase with rfl | ⟨rfl, h1⟩ | ⟨rfl, h1, h2⟩
    all_goals
      go_enter Try.func32, Try.ntmps32
      go_wp2_with (first | go_skip | ((fail_if_success have := kB); (with_reducible apply arm_box H); rfl; clear H; intro wn kB H) | ((fail_if_success have := kI); (with_reducible apply arm_box H); rfl; clear H; intro wn kI H) | ((fail_if_success have := kR); (with_reducible apply al_bk H); clear H; intro wn kR H) | ((with_reducible apply ld_bk); rfl; rfl; (focus (apply H.one; (repeat (first | with_reducible exact List.mem_cons_self | with_reducible apply List.mem_cons_of_mem)); done))) | ((with_reducible apply ld_idS (k := key)); rfl; rfl; (focus (apply H.arr (t := 33); (repeat (first | with_reducible exact List.mem_cons_self | with_reducible apply List.mem_cons_of_mem)); done))) | (with_reducible apply bd_bk0) | ((with_reducible apply st_bk H); rfl; rfl; rfl; (repeat (first | with_reducible apply Upd.head | with_reducible apply Upd.tail)); (first | rfl | assumption | (refine Hid.out ?_; assumption)); clear H; intro wn H) | (go_at_call 22; (with_reducible refine (bkmay_v hm.out _ (Hv.out.below H.bel)).mono ?_); rintro e wn ⟨rfl, hb⟩; replace H := H.call hb; clear hb) | (go_at_call 26; (with_reducible refine (bkfind_k HF.out Hs.out _ (Hv.out.below H.bel)).mono ?_); rintro e wn ⟨sj, rfl, hs⟩; replace H := H.comp hs; clear hs; simp only [List.cons_append, List.nil_append] at H; have T2 : Hid (sj.oneCell' = true) := Lib.hid (by obtain ⟨_, _, _, rfl⟩ := H.rowSlice List.mem_cons_self; rfl)) | ((fail_if_success have := k8); (with_reducible apply al_rec H); clear H; intro wn k8 H) | ((with_reducible apply st_rec H); rfl; rfl; rfl; (repeat (first | with_reducible apply Upd.head | with_reducible apply Upd.tail)); (first | assumption | (refine Hid.out ?_; assumption)); (first | rfl | assumption | (refine Hid.out ?_; assumption)); clear H; intro wn H) | (go_at_call 60; (with_reducible refine (withK Hl.out Hn.out Hd.out HJ.out _ (Hv.out.below H.bel) Hx.out (H.arr (b := kI) (t := 33) (by (repeat (first | with_reducible exact List.mem_cons_self | with_reducible apply List.mem_cons_of_mem))))).mono ?_); rintro e wn ⟨vj, rj, rfl, hrj, hs⟩; replace H := H.comp hs; clear hs; simp only [List.cons_append, List.nil_append] at H; have T1 : Hid (vj.oneCell' = true) := Lib.hid (hrj _ (H.get (r := rj) (by (repeat (first | with_reducible exact List.mem_cons_self | with_reducible apply List.mem_cons_of_mem))))).one; have HJ2 := Lib.hid hrj; clear hrj))
      all_goals first | (rw [Exit.noGoto_ret]) | skip
      have hR := H.arr (b := kR) (t := 24) (cs := #[.slice none 0 0]) (by (repeat (first | with_reducible exact List.mem_cons_self | with_reducible apply List.mem_cons_of_mem)))
      exact bodyPost_ret (results_cell_tmp Try.results32 _ _ kR #[.slice none 0 0] _ _ rfl rfl hR Try.underlying24 rfl bk_info) rfl ⟨.slice none 0 0, Res.none, rfl, fun W _ => Recs.nil W, H.addNone.sub (by (repeat (first | with_reducible exact List.Sublist.refl _ | with_reducible refine List.Sublist.cons_cons _ ?_ | refine List.Sublist.cons _ ?_)))⟩
end Go.Proofs.Ytolbmemogoojhaa
