/- At most 14 records; the chapter's example. -/
import Derived.Test.YtolbmemogoojhaaN5
namespace Go.Proofs.Ytolbmemogoojhaa
open Go Go.RowKit Go.Deep
set_option linter.unusedVariables false
set_option linter.unusedSimpArgs false
set_option maxRecDepth 100000
def bFewL : BK → Bool
  | [] => true
  | r :: l => rFew r && bFewL l
def bFew (L : BK) : Bool := decide (L.length ≤ 14) && bFewL L
set_option maxHeartbeats 1600000 in
theorem few7_c (v : Value) (L : BK) (w : World) (hv : Recs w v L) : Calls Try.prog 21 #[.agg #[v]] w fun e w' => e = .returned (.bool (bFew L)) ∧ Below w.heap.size w w' := by
  obtain ⟨n, hn⟩ : ∃ n, L.length = n := ⟨_, rfl⟩
  obtain ⟨a, c, rfl, hm1, _⟩ := id hv.slice
  rw [hn] at hv hm1 ⊢
  unfold maxLen at hm1
  have Hv := Lib.hid hv; have Hn := Lib.hid hn; clear hv hn
  have H := St.init w
  by_cases h14 : 14 < n
  · have Hres : Hid (bFew L = false) := Lib.hid (by unfold bFew; rw [Hn.out, decide_eq_false (by omega)]; rfl)
    go_enter Try.func21, Try.ntmps21
    go_wp2_with (first | go_skip | ((fail_if_success have := kB); (with_reducible apply arm_box H); rfl; clear H; intro wn kB H) | ((with_reducible apply ld_one (ty := 22) Try.underlying22 rfl); rfl; rfl; (focus (apply H.one; (repeat (first | with_reducible exact List.mem_cons_self | with_reducible apply List.mem_cons_of_mem)); done))) | ((with_reducible apply ld_rec); rfl; rfl; (first | (focus (apply H.rc; (repeat (first | with_reducible exact List.mem_cons_self | with_reducible apply List.mem_cons_of_mem)); done)) | (apply RecAt.bel (hb := H.bel); assumption) | assumption)) | (go_at_call 47; (with_reducible refine (few6_v Hok.out hq.out _ (Hf.out.below H.bel)).mono ?_); rintro e wn ⟨rfl, hb⟩; replace H := H.call hb; clear hb))
    all_goals first | (rw [Exit.noGoto_ret]; go_ret) | go_ret
    all_goals exact ⟨by rw [Hres.out]; rfl, H.bel⟩
  go_enter Try.func21, Try.ntmps21
  go_wp2_with (first | go_skip | ((fail_if_success have := kB); (with_reducible apply arm_box H); rfl; clear H; intro wn kB H) | ((with_reducible apply ld_one (ty := 22) Try.underlying22 rfl); rfl; rfl; (focus (apply H.one; (repeat (first | with_reducible exact List.mem_cons_self | with_reducible apply List.mem_cons_of_mem)); done))) | ((with_reducible apply ld_rec); rfl; rfl; (first | (focus (apply H.rc; (repeat (first | with_reducible exact List.mem_cons_self | with_reducible apply List.mem_cons_of_mem)); done)) | (apply RecAt.bel (hb := H.bel); assumption) | assumption)) | (go_at_call 47; (with_reducible refine (few6_v Hok.out hq.out _ (Hf.out.below H.bel)).mono ?_); rintro e wn ⟨rfl, hb⟩; replace H := H.call hb; clear hb))
  go_loopw [3] (fun i wr => ∃ (j : Nat), j ≤ n ∧ i = .int .i64 j ∧ Hid (bFewL L = bFewL (L.drop j)) ∧ St w wr [Res.blk kB 24 #[.slice a n c]]) (fun i _ => n - (intOf i).toNat)
  case atStart => exact ⟨0, by omega, rfl, Lib.hid rfl, H⟩
  case round =>
    clear H
    obtain ⟨j, hj, rfl, I, H⟩ := hrel
    by_cases hlt : j < n
    · obtain ⟨r, hr⟩ : ∃ r, L[j]? = some r := ⟨_, List.getElem?_eq_getElem (by rw [Hn.out]; exact hlt)⟩
      obtain ⟨b, off, s, rfl, hbw, G, hf⟩ := Hv.out.at hr
      have Hst := Lib.hid (drop_at hr)
      have Hok : Hid r.ok := Lib.hid G.2
      have Hf := Lib.hid hf
      obtain ⟨q, hq⟩ : ∃ q, Hid (rFew r = q) := ⟨_, rfl⟩
      clear hf hr hbw
      cases q with
      | true =>
        go_wp2_with (first | go_skip | ((fail_if_success have := kB); (with_reducible apply arm_box H); rfl; clear H; intro wn kB H) | ((with_reducible apply ld_one (ty := 22) Try.underlying22 rfl); rfl; rfl; (focus (apply H.one; (repeat (first | with_reducible exact List.mem_cons_self | with_reducible apply List.mem_cons_of_mem)); done))) | ((with_reducible apply ld_rec); rfl; rfl; (first | (focus (apply H.rc; (repeat (first | with_reducible exact List.mem_cons_self | with_reducible apply List.mem_cons_of_mem)); done)) | (apply RecAt.bel (hb := H.bel); assumption) | assumption)) | (go_at_call 47; (with_reducible refine (few6_v Hok.out hq.out _ (Hf.out.below H.bel)).mono ?_); rintro e wn ⟨rfl, hb⟩; replace H := H.call hb; clear hb))
        go_roundw
        case rel => exact ⟨j + 1, by omega, by go_num, Lib.hid (by rw [I.out, Hst.out, bFewL, hq.out]; rfl), H.sub (by (repeat (first | with_reducible exact List.Sublist.refl _ | with_reducible refine List.Sublist.cons_cons _ ?_ | refine List.Sublist.cons _ ?_)))⟩
        case measure => simp [intOf]; omega
      | false =>
        have Hres : Hid (bFew L = false) := Lib.hid (by unfold bFew; rw [I.out, Hst.out, bFewL, hq.out]; simp)
        go_wp2_with (first | go_skip | ((fail_if_success have := kB); (with_reducible apply arm_box H); rfl; clear H; intro wn kB H) | ((with_reducible apply ld_one (ty := 22) Try.underlying22 rfl); rfl; rfl; (focus (apply H.one; (repeat (first | with_reducible exact List.mem_cons_self | with_reducible apply List.mem_cons_of_mem)); done))) | ((with_reducible apply ld_rec); rfl; rfl; (first | (focus (apply H.rc; (repeat (first | with_reducible exact List.mem_cons_self | with_reducible apply List.mem_cons_of_mem)); done)) | (apply RecAt.bel (hb := H.bel); assumption) | assumption)) | (go_at_call 47; (with_reducible refine (few6_v Hok.out hq.out _ (Hf.out.below H.bel)).mono ?_); rintro e wn ⟨rfl, hb⟩; replace H := H.call hb; clear hb))
        all_goals first | (rw [Exit.noGoto_ret]; go_ret) | go_ret
        all_goals exact ⟨by rw [Hres.out]; rfl, H.bel⟩
    · have hjn : j = n := by omega
      subst hjn
      have Hres : Hid (bFew L = true) := Lib.hid (by unfold bFew; rw [I.out, Hn.out, ← Hn.out, List.drop_length, Hn.out, decide_eq_true (by omega)]; rfl)
      go_wp2_with (first | go_skip | ((fail_if_success have := kB); (with_reducible apply arm_box H); rfl; clear H; intro wn kB H) | ((with_reducible apply ld_one (ty := 22) Try.underlying22 rfl); rfl; rfl; (focus (apply H.one; (repeat (first | with_reducible exact List.mem_cons_self | with_reducible apply List.mem_cons_of_mem)); done))) | ((with_reducible apply ld_rec); rfl; rfl; (first | (focus (apply H.rc; (repeat (first | with_reducible exact List.mem_cons_self | with_reducible apply List.mem_cons_of_mem)); done)) | (apply RecAt.bel (hb := H.bel); assumption) | assumption)) | (go_at_call 47; (with_reducible refine (few6_v Hok.out hq.out _ (Hf.out.below H.bel)).mono ?_); rintro e wn ⟨rfl, hb⟩; replace H := H.call hb; clear hb))
      all_goals first | (rw [Exit.noGoto_ret]; go_ret) | go_ret
      all_goals exact ⟨by rw [Hres.out]; rfl, H.bel⟩
theorem few7_v {v : Value} {L : BK} {q : Bool} (h : bFew L = q) (w : World) (hv : Recs w v L) : Calls Try.prog 21 #[.agg #[v]] w fun e w' => e = .returned (.bool q) ∧ Below w.heap.size w w' := by subst h; exact few7_c v L w hv
end Go.Proofs.Ytolbmemogoojhaa
/- The chapter's example of books. -/
namespace Go.Proofs.Ytolbmemogoojhaa
open Go Go.RowKit Go.Deep
set_option linter.unusedVariables false
set_option linter.unusedSimpArgs false
set_option maxRecDepth 100000
def k7 : IDK := ⟨[7, 0, 0, 0, 0, 0, 0, 0, 0, 0, 0, 0, 0, 0, 0, 0], rfl⟩
def aw71 : RD := ⟨k7.1, 0, 0, [(2, 1, 1, ⟨#[120]⟩)]⟩
def aw72 : RD := ⟨k7.1, 2, 3, []⟩
theorem aw71_ok : aw71.ok := rfl
theorem aw7M1 : rMay aw71 = true := by decide +kernel
theorem aw7M2 : rMay aw72 = true := by decide +kernel
theorem aw7Mb1 : bMay [aw71] = true := by unfold bMay bMayL bMayL; rw [aw7M1]; rfl
theorem aw7Mb2 : bMay [aw72] = true := by unfold bMay bMayL bMayL; rw [aw7M2]; rfl
theorem aw7W : bWrite [] k7 2 1 ⟨#[120]⟩ = (0, [aw71]) := by
  have h1 : bLast [] = (0, 0) := rfl
  have h2 : stNext 0 0 1 = (1, 1, 0) := by decide +kernel
  have h3 : rW k7 2 ⟨#[120]⟩ 1 1 = aw71 := rfl
  have h4 : bBoth [] [aw71] = [aw71] := rfl
  have h5 : bCan [] [aw71] = 0 := bCan_ok.2 ⟨rfl, aw7Mb1, by rw [h4]; decide⟩
  have h6 : bJ [] [aw71] = [aw71] := by unfold bJ; rw [if_pos h5, h4]
  unfold bWrite
  rw [if_pos ⟨rfl, by decide, by decide, by decide⟩]
  unfold bWithP
  rw [h1]
  dsimp only
  rw [h2]
  dsimp only
  rw [h3, if_pos rfl, if_pos rfl, h5, h6]
theorem aw7C7 : rCan aw71 aw72 = true := by decide +kernel
theorem aw7J7 : rJoin aw71 aw72 = aw72 := by
  unfold rJoin; rw [if_pos aw7C7]; rfl
theorem aw7Both : bBoth [aw71] [aw72] = [aw72] := by
  show bPut [aw71] aw72 = _
  unfold bPut
  rw [show aw71.id = aw72.id from rfl]
  simp only [idl_irrefl, if_false, if_true]
  rw [aw7J7]
theorem aw7Can12 : bCan [aw71] [aw72] = 0 := bCan_ok.2 ⟨aw7Mb1, aw7Mb2, by rw [aw7Both]; decide⟩
theorem aw7J12 : bJ [aw71] [aw72] = [aw72] := by unfold bJ; rw [if_pos aw7Can12, aw7Both]
theorem aw7F7 : bFindP [aw71] k7.1 = (aw71, true) := rfl
theorem aw7K : bKill [aw71] k7 3 = (0, [aw72]) := by
  have h1 : bLast [aw71] = (1, 1) := by decide +kernel
  have h2 : stNext 1 1 3 = (2, 3, 0) := by decide +kernel
  have h3 : rK k7 2 3 = aw72 := rfl
  unfold bKill
  rw [if_pos ⟨aw7Mb1, by decide, by decide⟩, aw7F7, if_pos rfl]
  unfold bWithP
  rw [h1]
  dsimp only
  rw [h2]
  dsimp only
  rw [h3, if_pos rfl, if_pos rfl, aw7Can12, aw7J12]
theorem aw7L7 : bLeq [aw71] [aw72] = true := by
  unfold bLeq; rw [aw7Can12, aw7J12, (bSame_iff _ _).2 rfl]; rfl
theorem aw7S7 : bSame [aw71] [aw72] = false := by decide +kernel
theorem aw7FF : fFindP aw71.f 2 = (1, 1, ⟨#[120]⟩, true) := rfl
end Go.Proofs.Ytolbmemogoojhaa
/- The chapter's example of books: the walk. -/
namespace Go.Proofs.Ytolbmemogoojhaa
open Go Go.RowKit Go.Deep
set_option linter.unusedVariables false
set_option linter.unusedSimpArgs false
set_option maxRecDepth 100000
theorem bd_id7 {ops : Array Oper} {rest : List Oper} {a : Act} {w : World} {Q : Exit → Act → World → Prop} {dst : Option Tmp} {typ : TypeId} {x : Operand} {pos : String} {af : Array Edge} (hx : a.eval x = .int .u8 7) (h : wpList Try.prog ops Q rest (a.put dst (encK k7)) w) : wpList Try.prog ops Q (⟨dst, .build 33 #[(0, x)], typ, pos, af, none⟩ :: rest) a w :=
  wpList_build_to rfl 33 #[(0, x)] rfl dst rfl _ (by simp only [List.map_toArray, List.map_cons, List.map_nil, hx]; kernel_rfl) h
theorem flds_row {w0 w : World} {Γ : List Res} (H : St w0 w Γ) {s : Value} {f : List F4} (hm : Res.row 51 4 s f.length (fieldsL f) ∈ Γ) : Flds w s f := H.rowRead hm
theorem bkwrite_k {va : Value} {L : BK} {key : IDK} {no rep : Int} {v : ByteArray} {d : Int} {J : BK} (h : bWrite L key no rep v = (d, J)) (w : World) (hv : Recs w va L) :
    Calls Try.prog 29 #[.agg #[va], encK key, .int .i64 no, .int .i64 rep, .string v] w (JoinP w d J) := bkwrite_c h w hv
theorem bkkill_k {va : Value} {L : BK} {key : IDK} {rep : Int} {d : Int} {J : BK} (h : bKill L key rep = (d, J)) (hs : ∀ r ∈ L, r.f.length ≤ 1000) (w : World) (hv : Recs w va L) :
    Calls Try.prog 32 #[.agg #[va], encK key, .int .i64 rep] w (JoinP w d J) := bkkill_c h hs w hv
set_option maxHeartbeats 3200000 in
theorem awake7_c (w : World) : Calls Try.prog 20 #[] w fun e w' => e = .returned (.bool true) ∧ Below w.heap.size w w' := by
  have HW := Lib.hid aw7W; have HF := Lib.hid aw7F7; have HFF := Lib.hid aw7FF; have HK := Lib.hid aw7K; have HLq := Lib.hid aw7L7; have HMb := Lib.hid aw7Mb2; have HS := Lib.hid aw7S7
  have Hs : Hid (∀ r ∈ [aw71], r.f.length ≤ 1000) := Lib.hid (fun r hr => by rw [List.mem_singleton.1 hr]; decide)
  have Hok1 : Hid aw71.ok := Lib.hid aw71_ok
  have Hone : Hid (Value.oneCell' (.slice none 0 0) = true) := Lib.hid rfl
  have H := St.init w
  go_enter Try.func20, Try.ntmps20
  go_wp2_with (first | go_skip | ((fail_if_success have := kb); (with_reducible apply al_bk H); clear H; intro wn kb H) | ((fail_if_success have := kd); (with_reducible apply al_bk H); clear H; intro wn kd H) | ((with_reducible apply ld_bk); rfl; rfl; (focus (apply H.one; (repeat (first | with_reducible exact List.mem_cons_self | with_reducible apply List.mem_cons_of_mem)); done))) | (with_reducible apply bd_bk0) | ((with_reducible apply st_bk H); rfl; rfl; rfl; (repeat (first | with_reducible apply Upd.head | with_reducible apply Upd.tail)); (first | rfl | assumption | (refine Hid.out ?_; assumption)); clear H; intro wn H) | ((with_reducible apply bd_id7); rfl) | (go_at_call 29; (with_reducible refine (bkwrite_k HW.out _ (Recs.nil _)).mono ?_); rintro e wn ⟨v1, r1, rfl, hrj, hs⟩; replace H := H.comp hs; clear hs; simp only [List.cons_append, List.nil_append] at H; have Tv1 : Hid (v1.oneCell' = true) := Lib.hid (hrj _ (H.get (r := r1) (by (repeat (first | with_reducible exact List.mem_cons_self | with_reducible apply List.mem_cons_of_mem))))).one; have Jv1 := Lib.hid hrj; clear hrj) | (go_at_call 26; (with_reducible refine (bkfind_k HF.out Hs.out _ (Jv1.out _ (H.get (r := r1) (by (repeat (first | with_reducible exact List.mem_cons_self | with_reducible apply List.mem_cons_of_mem)))))).mono ?_); rintro e wn ⟨sj, rfl, hs⟩; replace H := H.comp hs; clear hs; simp only [List.cons_append, List.nil_append] at H; have T2 : Hid (sj.oneCell' = true) := Lib.hid (by obtain ⟨_, _, _, rfl⟩ := H.rowSlice List.mem_cons_self; rfl)) | ((fail_if_success have := kr); (with_reducible apply al_rec H); clear H; intro wn kr H) | ((with_reducible apply st_rec H); rfl; rfl; rfl; (repeat (first | with_reducible apply Upd.head | with_reducible apply Upd.tail)); (first | assumption | (refine Hid.out ?_; assumption)); (first | rfl | assumption | (refine Hid.out ?_; assumption)); clear H; intro wn H) | ((with_reducible apply ld_rec); rfl; rfl; (first | (focus (apply H.rc; (repeat (first | with_reducible exact List.mem_cons_self | with_reducible apply List.mem_cons_of_mem)); done)) | (apply RecAt.bel (hb := H.bel); assumption) | assumption)) | (go_at_call 30; (with_reducible refine (rfindD Hok1.out HFF.out _ (flds_row H (s := sj) (by (repeat (first | with_reducible exact List.mem_cons_self | with_reducible apply List.mem_cons_of_mem))))).mono ?_); rintro e wn ⟨rfl, hb⟩; replace H := H.call hb; clear hb) | ((fail_if_success have := kc); (with_reducible apply al_cel H); clear H; intro wn kc H) | ((with_reducible apply st_cel H); rfl; rfl; rfl; (repeat (first | with_reducible apply Upd.head | with_reducible apply Upd.tail)); clear H; intro wn H) | ((with_reducible apply ld_cel); rfl; rfl; (first | (focus (apply H.cel; (repeat (first | with_reducible exact List.mem_cons_self | with_reducible apply List.mem_cons_of_mem)); done)) | (apply CelAt.bel (hb := H.bel); assumption))) | (go_at_call 32; (with_reducible refine (bkkill_k HK.out Hs.out _ (Jv1.out _ (H.get (r := r1) (by (repeat (first | with_reducible exact List.mem_cons_self | with_reducible apply List.mem_cons_of_mem)))))).mono ?_); rintro e wn ⟨v2, r2, rfl, hrj, hs⟩; replace H := H.comp hs; clear hs; simp only [List.cons_append, List.nil_append] at H; have Hb0 := Lib.hid H.bel; have S1 := Lib.hid (H.one (b := kb) (t := 24) (v := v1) (by (repeat (first | with_reducible exact List.mem_cons_self | with_reducible apply List.mem_cons_of_mem)))); have SC := H.cel (b := kc) (t := 46) (by (repeat (first | with_reducible exact List.mem_cons_self | with_reducible apply List.mem_cons_of_mem))); have R1 := Lib.hid (Jv1.out _ (H.get (r := r1) (by (repeat (first | with_reducible exact List.mem_cons_self | with_reducible apply List.mem_cons_of_mem))))); have R2 := Lib.hid (hrj _ (H.get (r := r2) (by (repeat (first | with_reducible exact List.mem_cons_self | with_reducible apply List.mem_cons_of_mem))))); clear hrj; obtain ⟨p2, c2, e1, -, -⟩ := R2.out.slice; replace e1 : v2 = .slice p2 1 c2 := e1; subst e1; obtain ⟨b2, off2, s2, e2, -, G, hf2⟩ := R2.out.at (j := 0) rfl; subst e2; rw [Nat.zero_mul, Nat.add_zero] at G; obtain ⟨-, fa, fc, e3, -⟩ := hf2; replace e3 : s2 = .slice fa 0 fc := e3; subst e3; replace H := St.init wn) | ((with_reducible refine ld_bk ?_ ?_ (S1.out.keep H.bel) ?_); rfl; rfl) | ((with_reducible apply ld_cel); rfl; rfl; exact SC.bel H.bel) | ((with_reducible apply ld_one (ty := 22) Try.underlying22 rfl); rfl; rfl; (focus (apply H.one; (repeat (first | with_reducible exact List.mem_cons_self | with_reducible apply List.mem_cons_of_mem)); done))) | ((with_reducible apply ld_F); rfl; rfl; exact G.bel H.bel) | (go_at_call 25; (with_reducible refine (bkleq_v HLq.out _ (R1.out.below H.bel) (R2.out.below H.bel)).mono ?_); rintro e wn ⟨rfl, hb⟩; replace H := H.call hb; clear hb) | (go_at_call 22; (with_reducible refine (bkmay_v HMb.out _ (R2.out.below H.bel)).mono ?_); rintro e wn ⟨rfl, hb⟩; replace H := H.call hb; clear hb) | (go_at_call 24; (with_reducible refine (bksame_v HS.out _ (R1.out.below H.bel) (R2.out.below H.bel)).mono ?_); rintro e wn ⟨rfl, hb⟩; replace H := H.call hb; clear hb))
  all_goals first | (rw [Exit.noGoto_ret]; go_ret) | go_ret
  all_goals exact ⟨rfl, Hb0.out.trans (H.bel.mono Hb0.out.size)⟩
end Go.Proofs.Ytolbmemogoojhaa
/- Arms of the Book laws' walks. -/
namespace Go.Proofs.Ytolbmemogoojhaa
open Go Go.RowKit Go.Deep
set_option linter.unusedVariables false
set_option linter.unusedSimpArgs false
set_option maxRecDepth 100000
section
variable {a : Act} {b : Nat} {dst : Option Tmp} {ty typ : TypeId} {x : Operand} {pos : String} {af : Array Edge} {gd : Option (Nat × Bool)} {C : World → Prop} {K : Act → Prop} {v : Value} {d : TypeDesc}
theorem qd_bk {o : Nat} (hx : a.eval x = .pointer (some ⟨b, o, none⟩)) (h : ∀ w', C w' → Sub w' b o #[v]) (k : K (a.put dst (.agg #[v]))) : (⟨dst, .load 24 x, typ, pos, af, gd⟩ : Oper).quiet Try.prog a C K :=
  quiet_load_sub 24 x rfl dst rfl b _ hx #[v] _ h Try.underlying24 rfl bk_info k
end
end Go.Proofs.Ytolbmemogoojhaa
/- The plain law of BookJoins. No program. -/
namespace Go.Proofs.Ytolbmemogoojhaa
open Go Go.RowKit Go.Deep
set_option linter.unusedVariables false
set_option linter.unusedSimpArgs false
set_option maxRecDepth 100000
theorem bCan_big {a b : BK} (ha : bMay a = true) (hb : bMay b = true) : bCan a b = 0 ∨ bCan a b = 4 := by
  unfold bCan
  rw [if_pos (by rw [ha, hb]; rfl)]
  split
  · exact .inl rfl
  · exact .inr rfl
theorem bBoth_eq {a b : BK} (h : bCan a b = 0) : bJ a b = bBoth a b := by unfold bJ; rw [if_pos h]
theorem bCan_self {a : BK} (ha : bMay a = true) : bCan a a = 0 := bCan_ok.2 ⟨ha, ha, by
  obtain ⟨h1, h2⟩ := bMay_iff.1 ha
  rw [bBoth_self h1]; exact h2⟩
theorem bJ_self {a : BK} (ha : bMay a = true) : bJ a a = a := by rw [bBoth_eq (bCan_self ha), bBoth_self (bMay_iff.1 ha).1]
/-- Of three, whichever are taken first. -/
theorem bJ_three {a b c : BK} (ha : bMay a = true) (hb : bMay b = true) (hc : bMay c = true) (h : bCan a b = 0) (k : bCan b c = 0) : bCan (bJ a b) c = bCan a (bJ b c) ∧ bJ (bJ a b) c = bJ a (bJ b c) := by
  have h1 := (bMay_iff.1 ha).1
  have h2 := (bMay_iff.1 hb).1
  have h3 := (bMay_iff.1 hc).1
  rw [bBoth_eq h, bBoth_eq k]
  have m1 := bBoth_may h
  have m2 := bBoth_may k
  have e := bBoth_assoc h1 h2 h3
  have ec : bCan (bBoth a b) c = bCan a (bBoth b c) := by unfold bCan; rw [m1, m2, ha, hc, e]
  refine ⟨ec, ?_⟩
  unfold bJ
  rw [ec, e]
end Go.Proofs.Ytolbmemogoojhaa
/- The plain law of BookFinds. No program. -/
namespace Go.Proofs.Ytolbmemogoojhaa
open Go Go.RowKit Go.Deep
set_option linter.unusedVariables false
set_option linter.unusedSimpArgs false
set_option maxRecDepth 100000
theorem bFindP_some {L : BK} {i : IDL} {r : RD} (h : bFind L i = some r) : bFindP L i = (r, true) := by unfold bFindP; rw [h]
theorem bFindP_none {L : BK} {i : IDL} (h : bFind L i = none) : bFindP L i = (noRD, false) := by unfold bFindP; rw [h]
theorem bFew_f {L : BK} (h : bFew L = true) : ∀ r ∈ L, r.f.length ≤ 1000 := by
  unfold bFew at h
  simp only [Bool.and_eq_true] at h
  have key : ∀ l : BK, bFewL l = true → ∀ r ∈ l, r.f.length ≤ 1000 := by
    intro l
    induction l with
    | nil => intro _ r hr; cases hr
    | cons x l ih =>
      intro hl r hr
      rw [bFewL, Bool.and_eq_true] at hl
      rcases List.mem_cons.1 hr with rfl | hr
      · have := hl.1
        unfold rFew at this
        simp only [Bool.and_eq_true, decide_eq_true_eq] at this
        omega
      · exact ih hl.2 r hr
  exact key L h.2
theorem bMay_f {L : BK} (h : bMay L = true) : ∀ r ∈ L, r.f.length ≤ 1000 := fun r hr => Nat.le_trans (rMay_few ((bMay_iff.1 h).1.2 r hr)) (by decide)
theorem bJ_may {a b : BK} (h : bCan a b = 0) : bMay (bJ a b) = true := by rw [bBoth_eq h]; exact bBoth_may h
theorem bJ_find {a b : BK} (h : bCan a b = 0) (i : IDL) : bFind (bJ a b) i = bComb (bFind a i) (bFind b i) := by
  obtain ⟨h1, h2, _⟩ := bCan_ok.1 h
  rw [bBoth_eq h]
  exact bBoth_find (bMay_iff.1 h1).1 (bMay_iff.1 h2).1 i
theorem finds_can {a b : BK} (h : bCan a b = 0) {i : IDL} {x y : RD} (hx : bFind a i = some x) (hy : bFind b i = some y) : rCan x y = true := by
  obtain ⟨h1, h2, _⟩ := bCan_ok.1 h
  obtain ⟨a1, a2⟩ := find_good (bMay_iff.1 h1).1 hx
  obtain ⟨b1, b2⟩ := find_good (bMay_iff.1 h2).1 hy
  unfold rCan
  rw [a1, b1, a2, b2]; simp
end Go.Proofs.Ytolbmemogoojhaa
/- The plain laws of BookNew and BookKills. No program. -/
namespace Go.Proofs.Ytolbmemogoojhaa
open Go Go.RowKit Go.Deep
set_option linter.unusedVariables false
set_option linter.unusedSimpArgs false
set_option maxRecDepth 100000
theorem stl_trans {a b c d e f : Int} (h : stLess a b c d = true) (k : stLess c d e f = true) : stLess a b e f = true := by rw [stl] at *; omega
/-- Below or even. -/
theorem stl_le {a b c d e f : Int} (h : stLess c d a b = false) (k : stLess c d e f = true) : stLess a b e f = true := by rw [stl] at *; rw [stl_f] at h; omega
theorem stl_lef {a b c d e f : Int} (h : stLess c d a b = false) (k : stLess e f c d = false) : stLess e f a b = false := by rw [stl_f] at *; omega
theorem fLast_ge : ∀ (l : List F4) (p : Int × Int), stLess (fLast p l).1 (fLast p l).2 p.1 p.2 = false ∧ ∀ f ∈ l, stLess (fLast p l).1 (fLast p l).2 f.2.1 f.2.2.1 = false
  | [], p => ⟨by rw [stl_f]; show ¬ _; simp only [fLast, List.foldl_nil]; omega, fun f hf => (List.not_mem_nil hf).elim⟩
  | g :: l, p => by
    have ih := fLast_ge l (sMx p g.2.1 g.2.2.1)
    have e : fLast p (g :: l) = fLast (sMx p g.2.1 g.2.2.1) l := rfl
    rw [e]
    have h1 : stLess (sMx p g.2.1 g.2.2.1).1 (sMx p g.2.1 g.2.2.1).2 p.1 p.2 = false := mx_ge1 _ _ _ _
    have h2 : stLess (sMx p g.2.1 g.2.2.1).1 (sMx p g.2.1 g.2.2.1).2 g.2.1 g.2.2.1 = false := mx_ge2 _ _ _ _
    refine ⟨stl_lef h1 ih.1, fun f hf => ?_⟩
    rcases List.mem_cons.1 hf with rfl | hf
    · exact stl_lef h2 ih.1
    · exact ih.2 f hf
theorem rLast_ge (r : RD) (p : Int × Int) : stLess (rLast p r).1 (rLast p r).2 p.1 p.2 = false ∧ stLess (rLast p r).1 (rLast p r).2 r.N r.R = false ∧ ∀ f ∈ r.f, stLess (rLast p r).1 (rLast p r).2 f.2.1 f.2.2.1 = false := by
  have h := fLast_ge r.f (sMx p r.N r.R)
  have h1 : stLess (sMx p r.N r.R).1 (sMx p r.N r.R).2 p.1 p.2 = false := mx_ge1 _ _ _ _
  have h2 : stLess (sMx p r.N r.R).1 (sMx p r.N r.R).2 r.N r.R = false := mx_ge2 _ _ _ _
  exact ⟨stl_lef h1 h.1, stl_lef h2 h.1, h.2⟩
theorem bLast_ge' : ∀ (L : BK) (p : Int × Int), stLess (L.foldl rLast p).1 (L.foldl rLast p).2 p.1 p.2 = false ∧ ∀ r ∈ L, stLess (L.foldl rLast p).1 (L.foldl rLast p).2 r.N r.R = false ∧ ∀ f ∈ r.f, stLess (L.foldl rLast p).1 (L.foldl rLast p).2 f.2.1 f.2.2.1 = false
  | [], p => ⟨by rw [stl_f]; show ¬ _; simp only [List.foldl_nil]; omega, fun r hr => (List.not_mem_nil hr).elim⟩
  | x :: L, p => by
    have ih := bLast_ge' L (rLast p x)
    have e : (x :: L).foldl rLast p = L.foldl rLast (rLast p x) := rfl
    rw [e]
    obtain ⟨h1, h2, h3⟩ := rLast_ge x p
    refine ⟨stl_lef h1 ih.1, fun r hr => ?_⟩
    rcases List.mem_cons.1 hr with rfl | hr
    · exact ⟨stl_lef h2 ih.1, fun f hf => stl_lef (h3 f hf) ih.1⟩
    · exact ih.2 r hr
theorem bLast_ge (L : BK) : stLess (bLast L).1 (bLast L).2 0 0 = false ∧ ∀ r ∈ L, stLess (bLast L).1 (bLast L).2 r.N r.R = false ∧ ∀ f ∈ r.f, stLess (bLast L).1 (bLast L).2 f.2.1 f.2.2.1 = false := bLast_ge' L (0, 0)
/-- The next stamp is greater than all. -/
def Over (L : BK) (N R : Int) : Prop := stLess 0 0 N R = true ∧ ∀ r ∈ L, stLess r.N r.R N R = true ∧ ∀ f ∈ r.f, stLess f.2.1 f.2.2.1 N R = true
theorem next_over {L : BK} {rep N R c : Int} (h : stNext (bLast L).1 (bLast L).2 rep = (N, R, c)) (hc : c = 0) : Over L N R ∧ R = rep ∧ stMay N R = true := by
  unfold stNext at h
  subst hc
  split at h
  · rename_i hm
    split at h
    · cases h
    · rename_i hn
      have e1 : (bLast L).1 + 1 = N := congrArg Prod.fst h
      have e2 : rep = R := congrArg (fun p => p.2.1) h
      have hl : stLess (bLast L).1 (bLast L).2 N R = true := by rw [stl]; omega
      obtain ⟨g1, g2⟩ := bLast_ge L
      refine ⟨⟨stl_le g1 hl, fun r hr => ⟨stl_le (g2 r hr).1 hl, fun f hf => stl_le ((g2 r hr).2 f hf) hl⟩⟩, e2.symm, ?_⟩
      have := stMay_le hm.1
      rw [← e1, ← e2, stMay_next _ _ this.1 this.2.1 hm.2.1 hm.2.2]
      simp [hn]
  · cases h
theorem bWithP_err {L : BK} {rep : Int} {x : Int → Int → RD} {d : Int} {J : BK} (h : bWithP L rep x = (d, J)) : d = 0 ∨ ((d = 1 ∨ d = 4) ∧ J = []) := by
  unfold bWithP at h
  dsimp only at h
  have e1 := congrArg Prod.fst h
  have e2 := congrArg Prod.snd h
  dsimp only at e1 e2
  by_cases hc : (stNext (bLast L).1 (bLast L).2 rep).2.2 = 0
  · rw [if_pos hc] at e1 e2
    by_cases hd : d = 0
    · exact .inl hd
    · right
      constructor
      · rw [← e1] at hd ⊢
        unfold bCan at hd ⊢
        split
        · rename_i h1
          rw [if_pos h1] at hd
          split
          · rename_i h2; rw [if_pos h2] at hd; exact absurd rfl hd
          · exact .inr rfl
        · exact .inl rfl
      · rw [← e2]; unfold bJ; rw [if_neg (by rw [e1]; exact hd)]
  · rw [if_neg hc] at e1 e2
    right
    refine ⟨?_, e2.symm⟩
    rw [← e1]
    unfold stNext at hc ⊢
    split
    · split
      · exact .inr rfl
      · rename_i h1 h2; rw [if_pos h1, if_neg h2] at hc; exact absurd rfl hc
    · exact .inl rfl
theorem bWithP_ok {L : BK} {rep : Int} {x : Int → Int → RD} {J : BK} (h : bWithP L rep x = (0, J)) : ∃ N R, Over L N R ∧ R = rep ∧ stMay N R = true ∧ bCan L [x N R] = 0 ∧ J = bJ L [x N R] := by
  unfold bWithP at h
  dsimp only at h
  have e1 := congrArg Prod.fst h
  have e2 := congrArg Prod.snd h
  dsimp only at e1 e2
  obtain ⟨⟨N, R, c⟩, hn⟩ : ∃ p, stNext (bLast L).1 (bLast L).2 rep = p := ⟨_, rfl⟩
  rw [hn] at e1 e2
  dsimp only at e1 e2
  by_cases hc : c = 0
  · rw [if_pos hc] at e1 e2
    obtain ⟨h1, h2, h3⟩ := next_over hn hc
    exact ⟨N, R, h1, h2, h3, e1, e2.symm⟩
  · rw [if_neg hc] at e1
    exact absurd e1 hc
theorem bWrite_err {L : BK} {key : IDK} {no rep : Int} {v : ByteArray} {d : Int} {J : BK} (h : bWrite L key no rep v = (d, J)) (hd : d ≠ 0) : J = [] := by
  unfold bWrite at h
  split at h
  · rcases bWithP_err h with h | h
    · exact absurd h hd
    · exact h.2
  · cases h; rfl
theorem bWrite_ok {L : BK} {key : IDK} {no rep : Int} {v : ByteArray} {J : BK} (h : bWrite L key no rep v = (0, J)) : bMay L = true ∧ ∃ N R, Over L N R ∧ R = rep ∧ bCan L [rW key no v N R] = 0 ∧ J = bJ L [rW key no v N R] := by
  unfold bWrite at h
  split at h
  · rename_i hm
    obtain ⟨N, R, h1, h2, _, h3, h4⟩ := bWithP_ok h
    exact ⟨hm.1, N, R, h1, h2, h3, h4⟩
  · cases h
theorem mx_lt {a b c d : Int} (h : stLess a b c d = true) : mxN a b c d = c ∧ mxR a b c d = d := by unfold mxN mxR; rw [h]; exact ⟨rfl, rfl⟩
theorem mx_ge {a b c d : Int} (h : stLess a b c d = false) : mxN a b c d = a ∧ mxR a b c d = b := by unfold mxN mxR; rw [h]; exact ⟨rfl, rfl⟩
theorem cL_of {a b : C3} (h : stLess a.1 a.2.1 b.1 b.2.1 = true) : cL a b = true := by
  refine (cLess_iff _ _ _ _ _ _).2 (.inl ?_)
  exact (stl _ _ _ _).1 h
theorem cJ_of {a b : C3} (h : stLess a.1 a.2.1 b.1 b.2.1 = true) : cJ a b = b := cJ_right (cL_of h)
/-- A value more: the record of the name is there, and its cell. -/
theorem write_finds {L : BK} {key : IDK} {no N R : Int} {v : ByteArray} (hL : bMay L = true) (ho : Over L N R) (hc : bCan L [rW key no v N R] = 0) :
    ∃ z, bFind (bJ L [rW key no v N R]) key.1 = some z ∧ fFind z.f no = some (N, R, v) ∧ ((∀ y, bFind L key.1 = some y → y.f = [] → z.N = y.N ∧ z.R = y.R ∧ z.f = [(no, N, R, v)])) := by
  obtain ⟨x, hx⟩ : ∃ x, rW key no v N R = x := ⟨_, rfl⟩
  have xi : x.id = key.1 := by rw [← hx]; rfl
  have xN : x.N = 0 := by rw [← hx]; rfl
  have xR : x.R = 0 := by rw [← hx]; rfl
  have xf : x.f = [(no, N, R, v)] := by rw [← hx]; rfl
  have xff : ∀ k, fFind x.f k = if no = k then some (N, R, v) else none := fun k => by rw [xf]; rfl
  rw [hx] at hc ⊢
  have hb := bJ_find hc key.1
  have hfx : bFind [x] key.1 = some x := by unfold bFind; rw [if_pos xi]
  rw [hfx] at hb
  have hmx : rMay x = true := (bMay_iff.1 (bCan_ok.1 hc).2.1).1.2 x List.mem_cons_self
  cases hy : bFind L key.1 with
  | none =>
    rw [hy] at hb
    exact ⟨x, hb, by rw [xff, if_pos rfl], (fun y h => by cases h)⟩
  | some y =>
    rw [hy] at hb
    refine ⟨rBoth y x, hb, ?_⟩
    obtain ⟨my, iy⟩ := find_good (bMay_iff.1 hL).1 hy
    have ym := (bFind_mem hy).1
    obtain ⟨o1, o2⟩ := ho.2 y ym
    have hyN : (rBoth y x).N = y.N ∧ (rBoth y x).R = y.R := by
      have hge : stLess y.N y.R x.N x.R = false := by
        rw [xN, xR, stl_f]
        have := stMay_ge (rMay_iff.1 my).1
        omega
      exact mx_ge hge
    have hlv : stLess (rBoth y x).N (rBoth y x).R N R = true := by rw [hyN.1, hyN.2]; exact o1
    constructor
    · rw [both_find my hmx, xff, if_pos rfl]
      cases hu : fFind y.f no with
      | none => exact live_some hlv
      | some u =>
        show live _ _ (some (cJ u (N, R, v))) = _
        rw [cJ_of (a := u) (b := (N, R, v)) (o2 _ (fFind_mem hu))]
        exact live_some hlv
    · rintro y' h1 hyf
      cases h1
      refine ⟨hyN.1, hyN.2, ?_⟩
      rw [← xf]
      refine asc_ext (both_asc _ _) (rMay_asc hmx) fun k => ?_
      rw [both_find my hmx, hyf, xff]
      show live _ _ (if no = k then some (N, R, v) else none) = _
      split
      · exact live_some hlv
      · rfl
theorem new_law {L : BK} {key : IDK} {no rep : Int} {v : ByteArray} {J : BK} (h : bWrite L key no rep v = (0, J)) :
    ∃ z N, bFind J key.1 = some z ∧ fFind z.f no = some (N, rep, v) ∧ bLeq L J = true ∧ bMay J = true ∧ Over L N rep := by
  obtain ⟨hm, N, R, ho, rfl, hc, rfl⟩ := bWrite_ok h
  obtain ⟨z, h1, h2, _⟩ := write_finds hm ho hc
  exact ⟨z, N, h1, h2, by rw [bBoth_eq hc]; exact bLeq_both1 hc, bJ_may hc, ho⟩
theorem bKill_ok {L : BK} {key : IDK} {rep : Int} {J : BK} (h : bKill L key rep = (0, J)) : bMay L = true ∧ (bFindP L key.1).2 = true ∧ ∃ N R, Over L N R ∧ bCan L [rK key N R] = 0 ∧ J = bJ L [rK key N R] := by
  unfold bKill at h
  split at h
  · rename_i hm
    split at h
    · rename_i hf
      obtain ⟨N, R, h1, h2, _, h3, h4⟩ := bWithP_ok h
      exact ⟨hm.1, hf, N, R, h1, h3, h4⟩
    · cases h
  · cases h
theorem bKill_err {L : BK} {key : IDK} {rep : Int} {d : Int} {J : BK} (h : bKill L key rep = (d, J)) (hd : d ≠ 0) : J = [] ∧ (d = 6 → bFindP L key.1 = (noRD, false)) := by
  unfold bKill at h
  split at h
  · split at h
    · rcases bWithP_err h with h | h
      · exact absurd h hd
      · exact ⟨h.2, by omega⟩
    · rename_i hf
      cases h
      refine ⟨rfl, fun _ => ?_⟩
      unfold bFindP at hf ⊢
      split
      · rename_i r hr; rw [hr] at hf; exact absurd rfl hf
      · rfl
  · cases h; exact ⟨rfl, by omega⟩
theorem bPut_lenf {l : BK} {r y : RD} (hl : Asc l) (hy : bFind l r.id = some y) : (bPut l r).length = l.length := by
  induction l with
  | nil => cases hy
  | cons x l ih =>
    unfold bFind at hy
    unfold bPut
    split at hy
    · rename_i hx
      rw [if_neg (by rw [hx]; exact idl_irrefl _), if_pos hx]; rfl
    · rename_i hx
      have hm := bFind_mem hy
      have hlt := hl.1 y hm.1
      rw [hm.2] at hlt
      rw [if_neg (idl_asymm hlt), if_neg hx]
      simp only [List.length_cons, ih hl.2 hy]
theorem kill_law {L : BK} {key : IDK} {rep : Int} {J : BK} (h : bKill L key rep = (0, J)) :
    ∃ y z, bFind L key.1 = some y ∧ bFind J key.1 = some z ∧ z.f = [] ∧ stLess y.N y.R z.N z.R = true ∧ bLeq L J = true ∧ bMay J = true ∧ J.length = L.length := by
  obtain ⟨hm, hf, N, R, ho, hc, rfl⟩ := bKill_ok h
  obtain ⟨y, hy⟩ : ∃ y, bFind L key.1 = some y := by
    unfold bFindP at hf
    split at hf
    · rename_i r hr; exact ⟨r, hr⟩
    · cases hf
  obtain ⟨x, hx⟩ : ∃ x, rK key N R = x := ⟨_, rfl⟩
  have xi : x.id = key.1 := by rw [← hx]; rfl
  have xN : x.N = N := by rw [← hx]; rfl
  have xR : x.R = R := by rw [← hx]; rfl
  have xf : x.f = [] := by rw [← hx]; rfl
  rw [hx] at hc ⊢
  have hb := bJ_find hc key.1
  have hfx : bFind [x] key.1 = some x := by unfold bFind; rw [if_pos xi]
  rw [hfx, hy] at hb
  have hmx : rMay x = true := (bMay_iff.1 (bCan_ok.1 hc).2.1).1.2 x List.mem_cons_self
  obtain ⟨my, iy⟩ := find_good (bMay_iff.1 hm).1 hy
  obtain ⟨o1, o2⟩ := ho.2 y (bFind_mem hy).1
  have hlt : stLess y.N y.R x.N x.R = true := by rw [xN, xR]; exact o1
  have hyN : (rBoth y x).N = x.N ∧ (rBoth y x).R = x.R := mx_lt hlt
  refine ⟨y, rBoth y x, hy, hb, ?_, ?_, by rw [bBoth_eq hc]; exact bLeq_both1 hc, bJ_may hc, ?_⟩
  · rw [← xf]
    refine asc_ext (both_asc _ _) (rMay_asc hmx) fun k => ?_
    rw [both_find my hmx, xf]
    show live _ _ (comb _ none) = none
    rw [comb_none, hyN.1, hyN.2, xN, xR]
    cases hu : fFind y.f k with
    | none => rfl
    | some u =>
      have := o2 _ (fFind_mem hu)
      refine live_dead ?_
      dsimp only at this
      rw [stl] at this; rw [stl_f]; omega
  · rw [hyN.1, hyN.2]; exact hlt
  · rw [bBoth_eq hc]
    unfold bBoth
    rw [bPuts_nil (bMay_iff.1 hm).1]
    exact bPut_lenf (bMay_iff.1 hm).1.1 (by rw [xi]; exact hy)
/-- What is written on what is dead is there again. -/
theorem again_law {C : BK} {key : IDK} {no rep : Int} {v : ByteArray} {D : BK} {r : RD} (h : bWrite C key no rep v = (0, D)) (hr : bFind C key.1 = some r) (hf : r.f = []) :
    ∃ z N, bFind D key.1 = some z ∧ fFind z.f no = some (N, rep, v) ∧ z.N = r.N ∧ z.R = r.R ∧ z.f.length = 1 := by
  obtain ⟨hm, N, R, ho, rfl, hc, rfl⟩ := bWrite_ok h
  obtain ⟨z, h1, h2, h3⟩ := write_finds hm ho hc
  obtain ⟨k1, k2, k3⟩ := h3 r hr hf
  exact ⟨z, N, h1, h2, k1, k2, by rw [k3]; rfl⟩
end Go.Proofs.Ytolbmemogoojhaa
/- The plain laws of BookParts and BookNames. No program. -/
namespace Go.Proofs.Ytolbmemogoojhaa
open Go Go.RowKit Go.Deep
set_option linter.unusedVariables false
set_option linter.unusedSimpArgs false
set_option maxRecDepth 100000
/-- The records taken so far. -/
def taken (L : BK) (first : Nat) (i : Nat) (r : RD) : Prop := ∃ k, k < i ∧ L[(k + first) % L.length]? = some r
def takenB (L : BK) (first i : Nat) (r : RD) : Bool := (List.range i).any fun k => match L[(k + first) % L.length]? with | some x => rSame x r | none => false
theorem takenB_iff {L : BK} {first i : Nat} {r : RD} : takenB L first i r = true ↔ taken L first i r := by
  unfold takenB taken
  rw [List.any_eq_true]
  constructor
  · rintro ⟨k, hk, h⟩
    refine ⟨k, List.mem_range.1 hk, ?_⟩
    cases hx : L[(k + first) % L.length]? with
    | none => rw [hx] at h; cases h
    | some x => rw [hx] at h; rw [(rSame_iff _ _).1 h]
  · rintro ⟨k, hk, h⟩
    refine ⟨k, List.mem_range.2 hk, ?_⟩
    rw [h]; exact (rSame_iff _ _).2 rfl
def pOut (L : BK) (first i : Nat) : BK := L.filter fun r => takenB L first i r
theorem asc_filter : ∀ {l : BK} (p : RD → Bool), Asc l → Asc (l.filter p)
  | [], _, _ => trivial
  | r :: l, p, h => by
    rw [List.filter_cons]
    split
    · exact ⟨fun x hx => h.1 x (List.mem_filter.1 hx).1, asc_filter p h.2⟩
    · exact asc_filter p h.2
theorem pOut_good {L : BK} {first i : Nat} (h : Good L) : Good (pOut L first i) := ⟨asc_filter _ h.1, fun r hr => h.2 r (List.mem_filter.1 hr).1⟩
theorem pOut_may {L : BK} {first i : Nat} (h : bMay L = true) : bMay (pOut L first i) = true := by
  obtain ⟨h1, h2⟩ := bMay_iff.1 h
  exact bMay_iff.2 ⟨pOut_good h1, Nat.le_trans (List.length_filter_le _ _) h2⟩
theorem pOut_zero (L : BK) (first : Nat) : pOut L first 0 = [] := by
  unfold pOut
  rw [List.filter_eq_nil_iff]
  rintro r _ h
  obtain ⟨k, hk, _⟩ := takenB_iff.1 h
  omega
theorem pOut_all {L : BK} {first : Nat} (hf : first < L.length) : pOut L first L.length = L := by
  unfold pOut
  rw [List.filter_eq_self]
  intro r hr
  refine takenB_iff.2 ?_
  obtain ⟨m, hm, e⟩ := List.getElem_of_mem hr
  by_cases h : first ≤ m
  · refine ⟨m - first, by omega, ?_⟩
    rw [show m - first + first = m by omega, Nat.mod_eq_of_lt hm, List.getElem?_eq_getElem hm, e]
  · refine ⟨m + L.length - first, by omega, ?_⟩
    rw [show m + L.length - first + first = m + L.length by omega, Nat.add_mod_right, Nat.mod_eq_of_lt hm, List.getElem?_eq_getElem hm, e]
theorem good_one {r : RD} (h : rMay r = true) : Good [r] := ⟨⟨fun x hx => (List.not_mem_nil hx).elim, trivial⟩, fun x hx => by rw [List.mem_singleton.1 hx]; exact h⟩
theorem good_inj {l : BK} (h : Good l) {x y : RD} (hx : x ∈ l) (hy : y ∈ l) (e : x.id = y.id) : x = y := by
  have h1 := bFind_of h.1 hx
  have h2 := bFind_of h.1 hy
  rw [e, h2] at h1
  exact (Option.some.inj h1).symm
theorem find_mem_iff {l : BK} (h : Good l) {i : IDL} {r : RD} : bFind l i = some r ↔ r ∈ l ∧ r.id = i :=
  ⟨bFind_mem, fun ⟨h1, h2⟩ => by rw [← h2]; exact bFind_of h.1 h1⟩
theorem pOut_succ {L : BK} {first i : Nat} {r : RD} (h : bMay L = true) (hr : L[(i + first) % L.length]? = some r) : bCan [r] (pOut L first i) = 0 ∧ bJ [r] (pOut L first i) = pOut L first (i + 1) := by
  obtain ⟨g, hl⟩ := bMay_iff.1 h
  have hm : r ∈ L := List.mem_of_getElem? hr
  have g1 := good_one (g.2 r hm)
  have g2 : Good (pOut L first i) := pOut_good g
  have g3 : Good (pOut L first (i + 1)) := pOut_good g
  have e : bBoth [r] (pOut L first i) = pOut L first (i + 1) := by
    refine asc_ext_b (bBoth_good g1 g2).1 g3.1 fun k => ?_
    rw [bBoth_find g1 g2]
    have hs : ∀ x : RD, taken L first (i + 1) x ↔ (x = r ∨ taken L first i x) := by
      intro x
      constructor
      · rintro ⟨j, hj, hx⟩
        by_cases hji : j = i
        · subst hji; rw [hr] at hx; exact .inl (Option.some.inj hx).symm
        · exact .inr ⟨j, by omega, hx⟩
      · rintro (rfl | ⟨j, hj, hx⟩)
        · exact ⟨i, by omega, hr⟩
        · exact ⟨j, by omega, hx⟩
    have mem : ∀ (n : Nat) (x : RD), x ∈ pOut L first n ↔ x ∈ L ∧ taken L first n x := fun n x => by
      unfold pOut; rw [List.mem_filter, takenB_iff]
    by_cases hk : r.id = k
    · subst hk
      have e1 : bFind [r] r.id = some r := by unfold bFind; rw [if_pos rfl]
      rw [e1]
      have e3 : bFind (pOut L first (i + 1)) r.id = some r := (find_mem_iff g3).2 ⟨(mem _ _).2 ⟨hm, (hs r).2 (.inl rfl)⟩, rfl⟩
      rw [e3]
      cases h2 : bFind (pOut L first i) r.id with
      | none => rfl
      | some y =>
        obtain ⟨k1, k2⟩ := bFind_mem h2
        have : y = r := good_inj g ((mem _ _).1 k1).1 hm k2
        subst this
        show some (rBoth y y) = some y
        rw [both_self (g.2 y hm)]
    · have e1 : bFind [r] k = none := by unfold bFind; rw [if_neg hk]; rfl
      rw [e1]
      show bFind (pOut L first i) k = _
      cases h2 : bFind (pOut L first i) k with
      | some y =>
        obtain ⟨k1, k2⟩ := bFind_mem h2
        obtain ⟨m1, m2⟩ := (mem _ _).1 k1
        exact ((find_mem_iff g3).2 ⟨(mem _ _).2 ⟨m1, (hs y).2 (.inr m2)⟩, k2⟩).symm
      | none =>
        cases h3 : bFind (pOut L first (i + 1)) k with
        | none => rfl
        | some y =>
          obtain ⟨k1, k2⟩ := bFind_mem h3
          obtain ⟨m1, m2⟩ := (mem _ _).1 k1
          rcases (hs y).1 m2 with rfl | m3
          · exact absurd k2 hk
          · have := (find_mem_iff g2).2 ⟨(mem _ _).2 ⟨m1, m3⟩, k2⟩
            rw [h2] at this; cases this
  have hc : bCan [r] (pOut L first i) = 0 := bCan_ok.2 ⟨bMay_iff.2 ⟨g1, by simp⟩, pOut_may h, by rw [e]; exact (bMay_iff.1 (pOut_may h)).2⟩
  exact ⟨hc, by rw [bBoth_eq hc, e]⟩
theorem idLt_iff (a b : IDL) : idLt a b = true ↔ a < b := by unfold idLt; exact decide_eq_true_iff
theorem idLt_self (a : IDL) : idLt a a = false := by
  cases h : idLt a a
  · rfl
  · exact absurd ((idLt_iff _ _).1 h) (idl_irrefl a)
theorem idLt_asym {a b : IDL} (h : idLt a b = true) : idLt b a = false := by
  cases k : idLt b a
  · rfl
  · exact absurd ((idLt_iff _ _).1 k) (idl_asymm ((idLt_iff _ _).1 h))
theorem idLt_trans {a b c : IDL} (h : idLt a b = true) (k : idLt b c = true) : idLt a c = true :=
  (idLt_iff _ _).2 (idl_trans ((idLt_iff _ _).1 h) ((idLt_iff _ _).1 k))
theorem idLt_ne {a b : IDL} (h : a ≠ b) (k : idLt a b = false) : idLt b a = true := by
  rcases idl_tri a b with h1 | h1 | h1
  · rw [(idLt_iff _ _).2 h1] at k; cases k
  · exact absurd h1 h
  · exact (idLt_iff _ _).2 h1
/-- The names of a book that may be rise. -/
theorem names_rise : ∀ {L : BK} {i : Nat} {x y : RD}, Asc L → L[i]? = some x → L[i + 1]? = some y → idLt x.id y.id = true
  | r :: l, 0, x, y, h, hx, hy => by
    cases hx
    exact (idLt_iff _ _).2 (h.1 y (List.mem_of_getElem? (i := 0) (by simpa using hy)))
  | r :: l, i + 1, x, y, h, hx, hy => names_rise (L := l) h.2 (by simpa using hx) (by simpa using hy)
end Go.Proofs.Ytolbmemogoojhaa
