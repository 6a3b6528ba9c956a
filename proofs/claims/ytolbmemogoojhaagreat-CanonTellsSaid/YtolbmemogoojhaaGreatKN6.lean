/- At most 14 records; the chapter's example. -/
import Derived.Test.YtolbmemogoojhaaGreatKN5
namespace Go.Proofs.YtolbmemogoojhaaGreat
open Go Go.RowKit Go.Deep
set_option linter.unusedVariables false
set_option linter.unusedSimpArgs false
set_option maxRecDepth 100000
def bFewL : BK → Bool
  | [] => true
  | r :: l => rFew r && bFewL l
def bFew (L : BK) : Bool := decide (L.length ≤ 14) && bFewL L
set_option maxHeartbeats 1600000 in
theorem few7_c (v : Value) (L : BK) (w : World) (hv : Recs w v L) : Calls Tryz.prog 8 #[.agg #[v]] w fun e w' => e = .returned (.bool (bFew L)) ∧ Below w.heap.size w w' := by
  obtain ⟨n, hn⟩ : ∃ n, L.length = n := ⟨_, rfl⟩
  obtain ⟨a, c, rfl, hm1, _⟩ := id hv.slice
  rw [hn] at hv hm1 ⊢
  unfold maxLen at hm1
  have Hv := Lib.hid hv; have Hn := Lib.hid hn; clear hv hn
  have H := St.init w
  by_cases h14 : 14 < n
  · have Hres : Hid (bFew L = false) := Lib.hid (by unfold bFew; rw [Hn.out, decide_eq_false (by omega)]; rfl)
    go_enter Tryz.func8, Tryz.ntmps8
    go_wp2_with (first | go_skip | ((fail_if_success have := kB); (with_reducible apply arm_box H); rfl; clear H; intro wn kB H) | ((with_reducible apply ld_one (ty := 22) Tryz.underlying22 rfl); rfl; rfl; (focus (apply H.one; (repeat (first | with_reducible exact mH | with_reducible apply mT)); done))) | ((with_reducible apply ld_rec); rfl; rfl; (first | (focus (apply H.rc; (repeat (first | with_reducible exact mH | with_reducible apply mT)); done)) | (apply RecAt.bel (hb := H.bel); assumption) | assumption)) | (go_at_call 46; (with_reducible refine (few6_v Hok.out hq.out _ (Hf.out.below H.bel)).mono ?_); rintro e wn ⟨rfl, hb⟩; replace H := H.call hb; clear hb))
    all_goals first | (rw [Exit.noGoto_ret]; go_ret) | go_ret
    all_goals exact ⟨by rw [Hres.out]; rfl, H.bel⟩
  go_enter Tryz.func8, Tryz.ntmps8
  go_wp2_with (first | go_skip | ((fail_if_success have := kB); (with_reducible apply arm_box H); rfl; clear H; intro wn kB H) | ((with_reducible apply ld_one (ty := 22) Tryz.underlying22 rfl); rfl; rfl; (focus (apply H.one; (repeat (first | with_reducible exact mH | with_reducible apply mT)); done))) | ((with_reducible apply ld_rec); rfl; rfl; (first | (focus (apply H.rc; (repeat (first | with_reducible exact mH | with_reducible apply mT)); done)) | (apply RecAt.bel (hb := H.bel); assumption) | assumption)) | (go_at_call 46; (with_reducible refine (few6_v Hok.out hq.out _ (Hf.out.below H.bel)).mono ?_); rintro e wn ⟨rfl, hb⟩; replace H := H.call hb; clear hb))
  go_loopw [3] (fun i wr => ∃ (j : Nat), j ≤ n ∧ i = .int .i64 j ∧ Hid (bFewL L = bFewL (L.drop j)) ∧ St w wr [Res.blk kB 24 #[.slice a n c]]) (fun i _ => n - (intOf i).toNat)
  case atStart => exact ⟨0, by omega, rfl, Lib.hid rfl, H⟩
  case round =>
    clear H
    obtain ⟨j, hj, rfl, I, H⟩ := hrel
    by_cases hlt : j < n
    · obtain ⟨r, hr⟩ : ∃ r, L[j]? = some r := ⟨_, List.getElem?_eq_getElem (by rw [Hn.out]; exact hlt)⟩
      obtain ⟨b, off, s, rfl, hbw, G, hf⟩ := Hv.out.at hr
      have Hst := Lib.hid (drop_at hr)
      have Hok : Hid r.ok := Lib.hid G.2
      have Hf := Lib.hid hf
      obtain ⟨q, hq⟩ : ∃ q, Hid (rFew r = q) := ⟨_, rfl⟩
      clear hf hr hbw
      cases q with
      | true =>
        go_wp2_with (first | go_skip | ((fail_if_success have := kB); (with_reducible apply arm_box H); rfl; clear H; intro wn kB H) | ((with_reducible apply ld_one (ty := 22) Tryz.underlying22 rfl); rfl; rfl; (focus (apply H.one; (repeat (first | with_reducible exact mH | with_reducible apply mT)); done))) | ((with_reducible apply ld_rec); rfl; rfl; (first | (focus (apply H.rc; (repeat (first | with_reducible exact mH | with_reducible apply mT)); done)) | (apply RecAt.bel (hb := H.bel); assumption) | assumption)) | (go_at_call 46; (with_reducible refine (few6_v Hok.out hq.out _ (Hf.out.below H.bel)).mono ?_); rintro e wn ⟨rfl, hb⟩; replace H := H.call hb; clear hb))
        go_roundw
        case rel => exact ⟨j + 1, by omega, by go_num, Lib.hid (by rw [I.out, Hst.out, bFewL, hq.out]; rfl), H.sub (by (repeat (first | with_reducible exact List.Sublist.refl _ | with_reducible refine List.Sublist.cons_cons _ ?_ | refine List.Sublist.cons _ ?_)))⟩
        case measure => simp [intOf]; omega
      | false =>
        have Hres : Hid (bFew L = false) := Lib.hid (by unfold bFew; rw [I.out, Hst.out, bFewL, hq.out]; simp)
        go_wp2_with (first | go_skip | ((fail_if_success have := kB); (with_reducible apply arm_box H); rfl; clear H; intro wn kB H) | ((with_reducible apply ld_one (ty := 22) Tryz.underlying22 rfl); rfl; rfl; (focus (apply H.one; (repeat (first | with_reducible exact mH | with_reducible apply mT)); done))) | ((with_reducible apply ld_rec); rfl; rfl; (first | (focus (apply H.rc; (repeat (first | with_reducible exact mH | with_reducible apply mT)); done)) | (apply RecAt.bel (hb := H.bel); assumption) | assumption)) | (go_at_call 46; (with_reducible refine (few6_v Hok.out hq.out _ (Hf.out.below H.bel)).mono ?_); rintro e wn ⟨rfl, hb⟩; replace H := H.call hb; clear hb))
        all_goals first | (rw [Exit.noGoto_ret]; go_ret) | go_ret
        all_goals exact ⟨by rw [Hres.out]; rfl, H.bel⟩
    · have hjn : j = n := by omega
      subst hjn
      have Hres : Hid (bFew L = true) := Lib.hid (by unfold bFew; rw [I.out, Hn.out, ← Hn.out, List.drop_length, Hn.out, decide_eq_true (by omega)]; rfl)
      go_wp2_with (first | go_skip | ((fail_if_success have := kB); (with_reducible apply arm_box H); rfl; clear H; intro wn kB H) | ((with_reducible apply ld_one (ty := 22) Tryz.underlying22 rfl); rfl; rfl; (focus (apply H.one; (repeat (first | with_reducible exact mH | with_reducible apply mT)); done))) | ((with_reducible apply ld_rec); rfl; rfl; (first | (focus (apply H.rc; (repeat (first | with_reducible exact mH | with_reducible apply mT)); done)) | (apply RecAt.bel (hb := H.bel); assumption) | assumption)) | (go_at_call 46; (with_reducible refine (few6_v Hok.out hq.out _ (Hf.out.below H.bel)).mono ?_); rintro e wn ⟨rfl, hb⟩; replace H := H.call hb; clear hb))
      all_goals first | (rw [Exit.noGoto_ret]; go_ret) | go_ret
      all_goals exact ⟨by rw [Hres.out]; rfl, H.bel⟩
theorem few7_v {v : Value} {L : BK} {q : Bool} (h : bFew L = q) (w : World) (hv : Recs w v L) : Calls Tryz.prog 8 #[.agg #[v]] w fun e w' => e = .returned (.bool q) ∧ Below w.heap.size w w' := by subst h; exact few7_c v L w hv
end Go.Proofs.YtolbmemogoojhaaGreat
/- The chapter's example of books. -/
namespace Go.Proofs.YtolbmemogoojhaaGreat
open Go Go.RowKit Go.Deep
set_option linter.unusedVariables false
set_option linter.unusedSimpArgs false
set_option maxRecDepth 100000
def k7 : IDK := ⟨[7, 0, 0, 0, 0, 0, 0, 0, 0, 0, 0, 0, 0, 0, 0, 0], rfl⟩
def aw71 : RD := ⟨k7.1, 0, 0, [(2, 1, 1, ⟨#[120]⟩)]⟩
theorem aw71_ok : aw71.ok := rfl
theorem aw7M1 : rMay aw71 = true := by decide +kernel
theorem aw7Mb1 : bMay [aw71] = true := by unfold bMay bMayL bMayL; rw [aw7M1]; rfl
theorem aw7W : bWrite [] k7 2 1 ⟨#[120]⟩ = (0, [aw71]) := by
  have h1 : bLast [] = (0, 0) := rfl
  have h2 : stNext 0 0 1 = (1, 1, 0) := by decide +kernel
  have h3 : rW k7 2 ⟨#[120]⟩ 1 1 = aw71 := rfl
  have h4 : bBoth [] [aw71] = [aw71] := rfl
  have h5 : bCan [] [aw71] = 0 := bCan_ok.2 ⟨rfl, aw7Mb1, by rw [h4]; decide⟩
  have h6 : bJ [] [aw71] = [aw71] := by unfold bJ; rw [if_pos h5, h4]
  unfold bWrite
  rw [if_pos ⟨rfl, by decide, by decide, by decide⟩]
  unfold bWithP
  rw [h1]
  dsimp only
  rw [h2]
  dsimp only
  rw [h3, if_pos rfl, if_pos rfl, h5, h6]
end Go.Proofs.YtolbmemogoojhaaGreat
/- The chapter's example of books: the walk. -/
namespace Go.Proofs.YtolbmemogoojhaaGreat
open Go Go.RowKit Go.Deep
set_option linter.unusedVariables false
set_option linter.unusedSimpArgs false
set_option maxRecDepth 100000
theorem bd_id7 {ops : Array Oper} {rest : List Oper} {a : Act} {w : World} {Q : Exit → Act → World → Prop} {dst : Option Tmp} {typ : TypeId} {x : Operand} {pos : String} {af : Array Edge} (hx : a.eval x = .int .u8 7) (h : wpList Tryz.prog ops Q rest (a.put dst (encK k7)) w) : wpList Tryz.prog ops Q (⟨dst, .build 26 #[(0, x)], typ, pos, af, none⟩ :: rest) a w :=
  wpList_build_to rfl 26 #[(0, x)] rfl dst rfl _ (by simp only [List.map_toArray, List.map_cons, List.map_nil, hx]; kernel_rfl) h
theorem bkwrite_k {va : Value} {L : BK} {key : IDK} {no rep : Int} {v : ByteArray} {d : Int} {J : BK} (h : bWrite L key no rep v = (d, J)) (w : World) (hv : Recs w va L) :
    Calls Tryz.prog 22 #[.agg #[va], encK key, .int .i64 no, .int .i64 rep, .string v] w (JoinP w d J) := bkwrite_c h w hv
end Go.Proofs.YtolbmemogoojhaaGreat
/- Arms of the Book laws' walks. -/
namespace Go.Proofs.YtolbmemogoojhaaGreat
open Go Go.RowKit Go.Deep
set_option linter.unusedVariables false
set_option linter.unusedSimpArgs false
set_option maxRecDepth 100000
section
variable {a : Act} {b : Nat} {dst : Option Tmp} {ty typ : TypeId} {x : Operand} {pos : String} {af : Array Edge} {gd : Option (Nat × Bool)} {C : World → Prop} {K : Act → Prop} {v : Value} {d : TypeDesc}
theorem qd_bk {o : Nat} (hx : a.eval x = .pointer (some ⟨b, o, none⟩)) (h : ∀ w', C w' → Sub w' b o #[v]) (k : K (a.put dst (.agg #[v]))) : (⟨dst, .load 24 x, typ, pos, af, gd⟩ : Oper).quiet Tryz.prog a C K :=
  quiet_load_sub 24 x rfl dst rfl b _ hx #[v] _ h Tryz.underlying24 rfl bk_info k
end
end Go.Proofs.YtolbmemogoojhaaGreat
/- The plain law of BookJoins. No program. -/
namespace Go.Proofs.YtolbmemogoojhaaGreat
open Go Go.RowKit Go.Deep
set_option linter.unusedVariables false
set_option linter.unusedSimpArgs false
set_option maxRecDepth 100000
end Go.Proofs.YtolbmemogoojhaaGreat
/- The plain law of BookFinds. No program. -/
namespace Go.Proofs.YtolbmemogoojhaaGreat
open Go Go.RowKit Go.Deep
set_option linter.unusedVariables false
set_option linter.unusedSimpArgs false
set_option maxRecDepth 100000
end Go.Proofs.YtolbmemogoojhaaGreat
/- The plain laws of BookNew and BookKills. No program. -/
namespace Go.Proofs.YtolbmemogoojhaaGreat
open Go Go.RowKit Go.Deep
set_option linter.unusedVariables false
set_option linter.unusedSimpArgs false
set_option maxRecDepth 100000
end Go.Proofs.YtolbmemogoojhaaGreat
/- The plain laws of BookParts and BookNames. No program. -/
namespace Go.Proofs.YtolbmemogoojhaaGreat
open Go Go.RowKit Go.Deep
set_option linter.unusedVariables false
set_option linter.unusedSimpArgs false
set_option maxRecDepth 100000
/-- The records taken so far. -/
def taken (L : BK) (first : Nat) (i : Nat) (r : RD) : Prop := ∃ k, k < i ∧ L[(k + first) % L.length]? = some r
theorem idLt_iff (a b : IDL) : idLt a b = true ↔ a < b := by unfold idLt; exact decide_eq_true_iff
theorem idLt_self (a : IDL) : idLt a a = false := by
  cases h : idLt a a
  · rfl
  · exact absurd ((idLt_iff _ _).1 h) (idl_irrefl a)
end Go.Proofs.YtolbmemogoojhaaGreat
