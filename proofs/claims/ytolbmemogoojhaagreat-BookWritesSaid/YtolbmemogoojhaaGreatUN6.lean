/- At most 14 records; the chapter's example. -/
import Derived.Test.YtolbmemogoojhaaGreatUN5
namespace Go.Proofs.YtolbmemogoojhaaGreat
open Go Go.RowKit Go.Deep
set_option linter.unusedVariables false
set_option linter.unusedSimpArgs false
set_option maxRecDepth 100000
def bFewL : BK → Bool
  | [] => true
  | r :: l => rFew r && bFewL l
def bFew (L : BK) : Bool := decide (L.length ≤ 14) && bFewL L
set_option maxHeartbeats 1600000 in
theorem few7_c (v : Value) (L : BK) (w : World) (hv : Recs w v L) : Calls Tryz.prog 8 #[.agg #[v]] w fun e w' => e = .returned (.bool (bFew L)) ∧ Below w.heap.size w w' := by
  obtain ⟨n, hn⟩ : ∃ n, L.length = n := ⟨_, rfl⟩
  obtain ⟨a, c, rfl, hm1, _⟩ := id hv.slice
  rw [hn] at hv hm1 ⊢
  unfold maxLen at hm1
  have Hv := Lib.hid hv; have Hn := Lib.hid hn; clear hv hn
  have H := St.init w
  by_cases h14 : 14 < n
  · have Hres : Hid (bFew L = false) := Lib.hid (by unfold bFew; rw [Hn.out, decide_eq_false (by omega)]; rfl)
    go_enter Tryz.func8, Tryz.ntmps8
    go_wp2_with (first | go_skip | ((fail_if_success have := kB); (with_reducible apply arm_box H); rfl; clear H; intro wn kB H) | ((with_reducible apply ld_one (ty := 22) Tryz.underlying22 rfl); rfl; rfl; (focus (apply H.one; (repeat (first | with_reducible exact List.mem_cons_self | with_reducible apply List.mem_cons_of_mem)); done))) | ((with_reducible apply ld_rec); rfl; rfl; (first | (focus (apply H.rc; (repeat (first | with_reducible exact List.mem_cons_self | with_reducible apply List.mem_cons_of_mem)); done)) | (apply RecAt.bel (hb := H.bel); assumption) | assumption)) | (go_at_call 46; (with_reducible refine (few6_v Hok.out hq.out _ (Hf.out.below H.bel)).mono ?_); rintro e wn ⟨rfl, hb⟩; replace H := H.call hb; clear hb))
    all_goals first | (rw [Exit.noGoto_ret]; go_ret) | go_ret
    all_goals exact ⟨by rw [Hres.out]; rfl, H.bel⟩
  go_enter Tryz.func8, Tryz.ntmps8
  go_wp2_with (first | go_skip | ((fail_if_success have := kB); (with_reducible apply arm_box H); rfl; clear H; intro wn kB H) | ((with_reducible apply ld_one (ty := 22) Tryz.underlying22 rfl); rfl; rfl; (focus (apply H.one; (repeat (first | with_reducible exact List.mem_cons_self | with_reducible apply List.mem_cons_of_mem)); done))) | ((with_reducible apply ld_rec); rfl; rfl; (first | (focus (apply H.rc; (repeat (first | with_reducible exact List.mem_cons_self | with_reducible apply List.mem_cons_of_mem)); done)) | (apply RecAt.bel (hb := H.bel); assumption) | assumption)) | (go_at_call 46; (with_reducible refine (few6_v Hok.out hq.out _ (Hf.out.below H.bel)).mono ?_); rintro e wn ⟨rfl, hb⟩; replace H := H.call hb; clear hb))
  go_loopw [3] (fun i wr => ∃ (j : Nat), j ≤ n ∧ i = .int .i64 j ∧ Hid (bFewL L = bFewL (L.drop j)) ∧ St w wr [Res.blk kB 24 #[.slice a n c]]) (fun i _ => n - (intOf i).toNat)
  case atStart => exact ⟨0, by omega, rfl, Lib.hid rfl, H⟩
  case round =>
    clear H
    obtain ⟨j, hj, rfl, I, H⟩ := hrel
    by_cases hlt : j < n
    · obtain ⟨r, hr⟩ : ∃ r, L[j]? = some r := ⟨_, List.getElem?_eq_getElem (by rw [Hn.out]; exact hlt)⟩
      obtain ⟨b, off, s, rfl, hbw, G, hf⟩ := Hv.out.at hr
      have Hst := Lib.hid (drop_at hr)
      have Hok : Hid r.ok := Lib.hid G.2
      have Hf := Lib.hid hf
      obtain ⟨q, hq⟩ : ∃ q, Hid (rFew r = q) := ⟨_, rfl⟩
      clear hf hr hbw
      cases q with
      | true =>
        go_wp2_with (first | go_skip | ((fail_if_success have := kB); (with_reducible apply arm_box H); rfl; clear H; intro wn kB H) | ((with_reducible apply ld_one (ty := 22) Tryz.underlying22 rfl); rfl; rfl; (focus (apply H.one; (repeat (first | with_reducible exact List.mem_cons_self | with_reducible apply List.mem_cons_of_mem)); done))) | ((with_reducible apply ld_rec); rfl; rfl; (first | (focus (apply H.rc; (repeat (first | with_reducible exact List.mem_cons_self | with_reducible apply List.mem_cons_of_mem)); done)) | (apply RecAt.bel (hb := H.bel); assumption) | assumption)) | (go_at_call 46; (with_reducible refine (few6_v Hok.out hq.out _ (Hf.out.below H.bel)).mono ?_); rintro e wn ⟨rfl, hb⟩; replace H := H.call hb; clear hb))
        go_roundw
        case rel => exact ⟨j + 1, by omega, by go_num, Lib.hid (by rw [I.out, Hst.out, bFewL, hq.out]; rfl), H.sub (by (repeat (first | with_reducible exact List.Sublist.refl _ | with_reducible refine List.Sublist.cons_cons _ ?_ | refine List.Sublist.cons _ ?_)))⟩
        case measure => simp [intOf]; omega
      | false =>
        have Hres : Hid (bFew L = false) := Lib.hid (by unfold bFew; rw [I.out, Hst.out, bFewL, hq.out]; simp)
        go_wp2_with (first | go_skip | ((fail_if_success have := kB); (with_reducible apply arm_box H); rfl; clear H; intro wn kB H) | ((with_reducible apply ld_one (ty := 22) Tryz.underlying22 rfl); rfl; rfl; (focus (apply H.one; (repeat (first | with_reducible exact List.mem_cons_self | with_reducible apply List.mem_cons_of_mem)); done))) | ((with_reducible apply ld_rec); rfl; rfl; (first | (focus (apply H.rc; (repeat (first | with_reducible exact List.mem_cons_self | with_reducible apply List.mem_cons_of_mem)); done)) | (apply RecAt.bel (hb := H.bel); assumption) | assumption)) | (go_at_call 46; (with_reducible refine (few6_v Hok.out hq.out _ (Hf.out.below H.bel)).mono ?_); rintro e wn ⟨rfl, hb⟩; replace H := H.call hb; clear hb))
        all_goals first | (rw [Exit.noGoto_ret]; go_ret) | go_ret
        all_goals exact ⟨by rw [Hres.out]; rfl, H.bel⟩
    · have hjn : j = n := by omega
      subst hjn
      have Hres : Hid (bFew L = true) := Lib.hid (by unfold bFew; rw [I.out, Hn.out, ← Hn.out, List.drop_length, Hn.out, decide_eq_true (by omega)]; rfl)
      go_wp2_with (first | go_skip | ((fail_if_success have := kB); (with_reducible apply arm_box H); rfl; clear H; intro wn kB H) | ((with_reducible apply ld_one (ty := 22) Tryz.underlying22 rfl); rfl; rfl; (focus (apply H.one; (repeat (first | with_reducible exact List.mem_cons_self | with_reducible apply List.mem_cons_of_mem)); done))) | ((with_reducible apply ld_rec); rfl; rfl; (first | (focus (apply H.rc; (repeat (first | with_reducible exact List.mem_cons_self | with_reducible apply List.mem_cons_of_mem)); done)) | (apply RecAt.bel (hb := H.bel); assumption) | assumption)) | (go_at_call 46; (with_reducible refine (few6_v Hok.out hq.out _ (Hf.out.below H.bel)).mono ?_); rintro e wn ⟨rfl, hb⟩; replace H := H.call hb; clear hb))
      all_goals first | (rw [Exit.noGoto_ret]; go_ret) | go_ret
      all_goals exact ⟨by rw [Hres.out]; rfl, H.bel⟩
theorem few7_v {v : Value} {L : BK} {q : Bool} (h : bFew L = q) (w : World) (hv : Recs w v L) : Calls Tryz.prog 8 #[.agg #[v]] w fun e w' => e = .returned (.bool q) ∧ Below w.heap.size w w' := by subst h; exact few7_c v L w hv
end Go.Proofs.YtolbmemogoojhaaGreat
/- The chapter's example of books. -/
namespace Go.Proofs.YtolbmemogoojhaaGreat
open Go Go.RowKit Go.Deep
set_option linter.unusedVariables false
set_option linter.unusedSimpArgs false
set_option maxRecDepth 100000
def k7 : IDK := ⟨[7, 0, 0, 0, 0, 0, 0, 0, 0, 0, 0, 0, 0, 0, 0, 0], rfl⟩
def aw71 : RD := ⟨k7.1, 0, 0, [(2, 1, 1, ⟨#[120]⟩)]⟩
def aw72 : RD := ⟨k7.1, 2, 3, []⟩
theorem aw71_ok : aw71.ok := rfl
theorem aw7M1 : rMay aw71 = true := by decide +kernel
theorem aw7M2 : rMay aw72 = true := by decide +kernel
theorem aw7Mb1 : bMay [aw71] = true := by unfold bMay bMayL bMayL; rw [aw7M1]; rfl
theorem aw7Mb2 : bMay [aw72] = true := by unfold bMay bMayL bMayL; rw [aw7M2]; rfl
theorem aw7W : bWrite [] k7 2 1 ⟨#[120]⟩ = (0, [aw71]) := by
  have h1 : bLast [] = (0, 0) := rfl
  have h2 : stNext 0 0 1 = (1, 1, 0) := by decide +kernel
  have h3 : rW k7 2 ⟨#[120]⟩ 1 1 = aw71 := rfl
  have h4 : bBoth [] [aw71] = [aw71] := rfl
  have h5 : bCan [] [aw71] = 0 := bCan_ok.2 ⟨rfl, aw7Mb1, by rw [h4]; decide⟩
  have h6 : bJ [] [aw71] = [aw71] := by unfold bJ; rw [if_pos h5, h4]
  unfold bWrite
  rw [if_pos ⟨rfl, by decide, by decide, by decide⟩]
  unfold bWithP
  rw [h1]
  dsimp only
  rw [h2]
  dsimp only
  rw [h3, if_pos rfl, if_pos rfl, h5, h6]
theorem aw7C7 : rCan aw71 aw72 = true := by decide +kernel
theorem aw7J7 : rJoin aw71 aw72 = aw72 := by
  unfold rJoin; rw [if_pos aw7C7]; rfl
theorem aw7Both : bBoth [aw71] [aw72] = [aw72] := by
  show bPut [aw71] aw72 = _
  unfold bPut
  rw [show aw71.id = aw72.id from rfl]
  simp only [idl_irrefl, if_false, if_true]
  rw [aw7J7]
theorem aw7Can12 : bCan [aw71] [aw72] = 0 := bCan_ok.2 ⟨aw7Mb1, aw7Mb2, by rw [aw7Both]; decide⟩
theorem aw7J12 : bJ [aw71] [aw72] = [aw72] := by unfold bJ; rw [if_pos aw7Can12, aw7Both]
theorem aw7F7 : bFindP [aw71] k7.1 = (aw71, true) := rfl
theorem aw7K : bKill [aw71] k7 3 = (0, [aw72]) := by
  have h1 : bLast [aw71] = (1, 1) := by decide +kernel
  have h2 : stNext 1 1 3 = (2, 3, 0) := by decide +kernel
  have h3 : rK k7 2 3 = aw72 := rfl
  unfold bKill
  rw [if_pos ⟨aw7Mb1, by decide, by decide⟩, aw7F7, if_pos rfl]
  unfold bWithP
  rw [h1]
  dsimp only
  rw [h2]
  dsimp only
  rw [h3, if_pos rfl, if_pos rfl, aw7Can12, aw7J12]
theorem aw7L7 : bLeq [aw71] [aw72] = true := by
  unfold bLeq; rw [aw7Can12, aw7J12, (bSame_iff _ _).2 rfl]; rfl
theorem aw7S7 : bSame [aw71] [aw72] = false := by decide +kernel
theorem aw7FF : fFindP aw71.f 2 = (1, 1, ⟨#[120]⟩, true) := rfl
end Go.Proofs.YtolbmemogoojhaaGreat
/- The chapter's example of books: the walk. -/
namespace Go.Proofs.YtolbmemogoojhaaGreat
open Go Go.RowKit Go.Deep
set_option linter.unusedVariables false
set_option linter.unusedSimpArgs false
set_option maxRecDepth 100000
theorem bd_id7 {ops : Array Oper} {rest : List Oper} {a : Act} {w : World} {Q : Exit → Act → World → Prop} {dst : Option Tmp} {typ : TypeId} {x : Operand} {pos : String} {af : Array Edge} (hx : a.eval x = .int .u8 7) (h : wpList Tryz.prog ops Q rest (a.put dst (encK k7)) w) : wpList Tryz.prog ops Q (⟨dst, .build 26 #[(0, x)], typ, pos, af, none⟩ :: rest) a w :=
  wpList_build_to rfl 26 #[(0, x)] rfl dst rfl _ (by simp only [List.map_toArray, List.map_cons, List.map_nil, hx]; kernel_rfl) h
theorem flds_row {w0 w : World} {Γ : List Res} (H : St w0 w Γ) {s : Value} {f : List F4} (hm : Res.row 82 4 s f.length (fieldsL f) ∈ Γ) : Flds w s f := H.rowRead hm
theorem bkwrite_k {va : Value} {L : BK} {key : IDK} {no rep : Int} {v : ByteArray} {d : Int} {J : BK} (h : bWrite L key no rep v = (d, J)) (w : World) (hv : Recs w va L) :
    Calls Tryz.prog 22 #[.agg #[va], encK key, .int .i64 no, .int .i64 rep, .string v] w (JoinP w d J) := bkwrite_c h w hv
theorem bkkill_k {va : Value} {L : BK} {key : IDK} {rep : Int} {d : Int} {J : BK} (h : bKill L key rep = (d, J)) (hs : ∀ r ∈ L, r.f.length ≤ 1000) (w : World) (hv : Recs w va L) :
    Calls Tryz.prog 24 #[.agg #[va], encK key, .int .i64 rep] w (JoinP w d J) := bkkill_c h hs w hv
set_option maxHeartbeats 3200000 in
theorem awake7_c (w : World) : Calls Tryz.prog 7 #[] w fun e w' => e = .returned (.bool true) ∧ Below w.heap.size w w' := by
  have HW := Lib.hid aw7W; have HF := Lib.hid aw7F7; have HFF := Lib.hid aw7FF; have HK := Lib.hid aw7K; have HLq := Lib.hid aw7L7; have HMb := Lib.hid aw7Mb2; have HS := Lib.hid aw7S7
  have Hs : Hid (∀ r ∈ [aw71], r.f.length ≤ 1000) := Lib.hid (fun r hr => by rw [List.mem_singleton.1 hr]; decide)
  have Hok1 : Hid aw71.ok := Lib.hid aw71_ok
  have Hone : Hid (Value.oneCell' (.slice none 0 0) = true) := Lib.hid rfl
  have H := St.init w
  go_enter Tryz.func7, Tryz.ntmps7
  go_wp2_with (first | go_skip | ((fail_if_success have := kb); (with_reducible apply al_bk H); clear H; intro wn kb H) | ((fail_if_success have := kd); (with_reducible apply al_bk H); clear H; intro wn kd H) | ((with_reducible apply ld_bk); rfl; rfl; (focus (apply H.one; (repeat (first | with_reducible exact List.mem_cons_self | with_reducible apply List.mem_cons_of_mem)); done))) | (with_reducible apply bd_bk0) | ((with_reducible apply st_bk H); rfl; rfl; rfl; (repeat (first | with_reducible apply Upd.head | with_reducible apply Upd.tail)); (first | rfl | assumption | (refine Hid.out ?_; assumption)); clear H; intro wn H) | ((with_reducible apply bd_id7); rfl) | (go_at_call 22; (with_reducible refine (bkwrite_k HW.out _ (Recs.nil _)).mono ?_); rintro e wn ⟨v1, r1, rfl, hrj, hs⟩; replace H := H.comp hs; clear hs; simp only [List.cons_append, List.nil_append] at H; have Tv1 : Hid (v1.oneCell' = true) := Lib.hid (hrj _ (H.get (r := r1) (by (repeat (first | with_reducible exact List.mem_cons_self | with_reducible apply List.mem_cons_of_mem))))).one; have Jv1 := Lib.hid hrj; clear hrj) | (go_at_call 9; (with_reducible refine (bkfind_k HF.out Hs.out _ (Jv1.out _ (H.get (r := r1) (by (repeat (first | with_reducible exact List.mem_cons_self | with_reducible apply List.mem_cons_of_mem)))))).mono ?_); rintro e wn ⟨sj, rfl, hs⟩; replace H := H.comp hs; clear hs; simp only [List.cons_append, List.nil_append] at H; have T2 : Hid (sj.oneCell' = true) := Lib.hid (by obtain ⟨_, _, _, rfl⟩ := H.rowSlice List.mem_cons_self; rfl)) | ((fail_if_success have := kr); (with_reducible apply al_rec H); clear H; intro wn kr H) | ((with_reducible apply st_rec H); rfl; rfl; rfl; (repeat (first | with_reducible apply Upd.head | with_reducible apply Upd.tail)); (first | assumption | (refine Hid.out ?_; assumption)); (first | rfl | assumption | (refine Hid.out ?_; assumption)); clear H; intro wn H) | ((with_reducible apply ld_rec); rfl; rfl; (first | (focus (apply H.rc; (repeat (first | with_reducible exact List.mem_cons_self | with_reducible apply List.mem_cons_of_mem)); done)) | (apply RecAt.bel (hb := H.bel); assumption) | assumption)) | (go_at_call 45; (with_reducible refine (rfindD Hok1.out HFF.out _ (flds_row H (s := sj) (by (repeat (first | with_reducible exact List.mem_cons_self | with_reducible apply List.mem_cons_of_mem))))).mono ?_); rintro e wn ⟨rfl, hb⟩; replace H := H.call hb; clear hb) | ((fail_if_success have := kc); (with_reducible apply al_cel H); clear H; intro wn kc H) | ((with_reducible apply st_cel H); rfl; rfl; rfl; (repeat (first | with_reducible apply Upd.head | with_reducible apply Upd.tail)); clear H; intro wn H) | ((with_reducible apply ld_cel); rfl; rfl; (first | (focus (apply H.cel; (repeat (first | with_reducible exact List.mem_cons_self | with_reducible apply List.mem_cons_of_mem)); done)) | (apply CelAt.bel (hb := H.bel); assumption))) | (go_at_call 24; (with_reducible refine (bkkill_k HK.out Hs.out _ (Jv1.out _ (H.get (r := r1) (by (repeat (first | with_reducible exact List.mem_cons_self | with_reducible apply List.mem_cons_of_mem)))))).mono ?_); rintro e wn ⟨v2, r2, rfl, hrj, hs⟩; replace H := H.comp hs; clear hs; simp only [List.cons_append, List.nil_append] at H; have Hb0 := Lib.hid H.bel; have S1 := Lib.hid (H.one (b := kb) (t := 24) (v := v1) (by (repeat (first | with_reducible exact List.mem_cons_self | with_reducible apply List.mem_cons_of_mem)))); have SC := H.cel (b := kc) (t := 68) (by (repeat (first | with_reducible exact List.mem_cons_self | with_reducible apply List.mem_cons_of_mem))); have R1 := Lib.hid (Jv1.out _ (H.get (r := r1) (by (repeat (first | with_reducible exact List.mem_cons_self | with_reducible apply List.mem_cons_of_mem))))); have R2 := Lib.hid (hrj _ (H.get (r := r2) (by (repeat (first | with_reducible exact List.mem_cons_self | with_reducible apply List.mem_cons_of_mem))))); clear hrj; obtain ⟨p2, c2, e1, -, -⟩ := R2.out.slice; replace e1 : v2 = .slice p2 1 c2 := e1; subst e1; obtain ⟨b2, off2, s2, e2, -, G, hf2⟩ := R2.out.at (j := 0) rfl; subst e2; rw [Nat.zero_mul, Nat.add_zero] at G; obtain ⟨-, fa, fc, e3, -⟩ := hf2; replace e3 : s2 = .slice fa 0 fc := e3; subst e3; replace H := St.init wn) | ((with_reducible refine ld_bk ?_ ?_ (S1.out.keep H.bel) ?_); rfl; rfl) | ((with_reducible apply ld_cel); rfl; rfl; exact SC.bel H.bel) | ((with_reducible apply ld_one (ty := 22) Tryz.underlying22 rfl); rfl; rfl; (focus (apply H.one; (repeat (first | with_reducible exact List.mem_cons_self | with_reducible apply List.mem_cons_of_mem)); done))) | ((with_reducible apply ld_F); rfl; rfl; exact G.bel H.bel) | (go_at_call 20; (with_reducible refine (bkleq_v HLq.out _ (R1.out.below H.bel) (R2.out.below H.bel)).mono ?_); rintro e wn ⟨rfl, hb⟩; replace H := H.call hb; clear hb) | (go_at_call 18; (with_reducible refine (bkmay_v HMb.out _ (R2.out.below H.bel)).mono ?_); rintro e wn ⟨rfl, hb⟩; replace H := H.call hb; clear hb) | (go_at_call 19; (with_reducible refine (bksame_v HS.out _ (R1.out.below H.bel) (R2.out.below H.bel)).mono ?_); rintro e wn ⟨rfl, hb⟩; replace H := H.call hb; clear hb))
  all_goals first | (rw [Exit.noGoto_ret]; go_ret) | go_ret
  all_goals exact ⟨rfl, Hb0.out.trans (H.bel.mono Hb0.out.size)⟩
end Go.Proofs.YtolbmemogoojhaaGreat
/- Arms of the Book laws' walks. -/
namespace Go.Proofs.YtolbmemogoojhaaGreat
open Go Go.RowKit Go.Deep
set_option linter.unusedVariables false
set_option linter.unusedSimpArgs false
set_option maxRecDepth 100000
section
variable {a : Act} {b : Nat} {dst : Option Tmp} {ty typ : TypeId} {x : Operand} {pos : String} {af : Array Edge} {gd : Option (Nat × Bool)} {C : World → Prop} {K : Act → Prop} {v : Value} {d : TypeDesc}
end
end Go.Proofs.YtolbmemogoojhaaGreat
/- The plain law of BookJoins. No program. -/
namespace Go.Proofs.YtolbmemogoojhaaGreat
open Go Go.RowKit Go.Deep
set_option linter.unusedVariables false
set_option linter.unusedSimpArgs false
set_option maxRecDepth 100000
theorem bBoth_eq {a b : BK} (h : bCan a b = 0) : bJ a b = bBoth a b := by unfold bJ; rw [if_pos h]
end Go.Proofs.YtolbmemogoojhaaGreat
/- The plain law of BookFinds. No program. -/
namespace Go.Proofs.YtolbmemogoojhaaGreat
open Go Go.RowKit Go.Deep
set_option linter.unusedVariables false
set_option linter.unusedSimpArgs false
set_option maxRecDepth 100000
theorem bFew_f {L : BK} (h : bFew L = true) : ∀ r ∈ L, r.f.length ≤ 1000 := by
  unfold bFew at h
  simp only [Bool.and_eq_true] at h
  have key : ∀ l : BK, bFewL l = true → ∀ r ∈ l, r.f.length ≤ 1000 := by
    intro l
    induction l with
    | nil => intro _ r hr; cases hr
    | cons x l ih =>
      intro hl r hr
      rw [bFewL, Bool.and_eq_true] at hl
      rcases List.mem_cons.1 hr with rfl | hr
      · have := hl.1
        unfold rFew at this
        simp only [Bool.and_eq_true, decide_eq_true_eq] at this
        omega
      · exact ih hl.2 r hr
  exact key L h.2
end Go.Proofs.YtolbmemogoojhaaGreat
/- The plain laws of BookNew and BookKills. No program. -/
namespace Go.Proofs.YtolbmemogoojhaaGreat
open Go Go.RowKit Go.Deep
set_option linter.unusedVariables false
set_option linter.unusedSimpArgs false
set_option maxRecDepth 100000
end Go.Proofs.YtolbmemogoojhaaGreat
/- The plain laws of BookParts and BookNames. No program. -/
namespace Go.Proofs.YtolbmemogoojhaaGreat
open Go Go.RowKit Go.Deep
set_option linter.unusedVariables false
set_option linter.unusedSimpArgs false
set_option maxRecDepth 100000
theorem idLt_iff (a b : IDL) : idLt a b = true ↔ a < b := by unfold idLt; exact decide_eq_true_iff
theorem idLt_self (a : IDL) : idLt a a = false := by
  cases h : idLt a a
  · rfl
  · exact absurd ((idLt_iff _ _).1 h) (idl_irrefl a)
end Go.Proofs.YtolbmemogoojhaaGreat
