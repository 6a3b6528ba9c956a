/- Records as data; the contracts in that dress; Leq. -/
import Derived.Test.YtgckgbonhbabpaaRecH
namespace Go.Proofs.Ytgckgbonhbabpaa
open Go Go.RowKit Go.Deep
set_option linter.unusedVariables false
set_option linter.unusedSimpArgs false
set_option maxRecDepth 100000

/-- A record. -/
structure RD where
  id : List UInt8
  N : Int
  R : Int
  f : List F4
def RD.ok (r : RD) : Prop := r.id.length = 16
def rA (r : RD) (s : Value) : Array Value := recA (encU r.id).toArray r.N r.R s
def idA (r : RD) : Array Value := (encU r.id).toArray
theorem idA_size {r : RD} (h : r.ok) : (idA r).size = 16 := encU_arr16 h
theorem rA_size {r : RD} {s : Value} (h : r.ok) : (rA r s).size = 19 := recA_size (encU_arr16 h)
theorem rA_info {r : RD} {s : Value} (h : r.ok) : (Try.prog.info? 54).map (·.size) = some (rA r s).size := info_rec (encU_arr16 h)
theorem rA_one {w : World} {r : RD} {s : Value} (h : Flds w s r.f) : (rA r s).all (·.oneCell') = true := recA_one (encU_all _) (flds_one h)
theorem rA_cells {w : World} {b : Nat} {t : TypeId} {r : RD} {s : Value} (h : Blk w b t (rA r s)) (hr : r.ok) :
    w.cell? ⟨b, 16, none⟩ = some (.int .i64 r.N) ∧ w.cell? ⟨b, 17, none⟩ = some (.int .i64 r.R) ∧ w.cell? ⟨b, 18, none⟩ = some s ∧ Sub w b 0 (idA r) ∧ Sub w b 0 (rA r s) := rec_cells h (encU_arr16 hr)
/-- The record of no name, dead since none, without fields. -/
def noRD : RD := ⟨zid, 0, 0, []⟩
theorem noRD_ok : noRD.ok := zid_length
def noA : Array Value := rA noRD (.slice none 0 0)
theorem noA_size : noA.size = 19 := rA_size noRD_ok
theorem noA_zero : (Try.prog.info? 54).map (·.zero) = some (some (.agg noA)) := zero_rec
theorem noA_built : Try.prog.built 54 [] = some noA := built_none
def rMay (r : RD) : Bool := recMay r.N r.R r.f
def rSame (r r' : RD) : Bool := recSame r.id r.N r.R r.f r'.id r'.N r'.R r'.f
def rCan (r r' : RD) : Bool := rMay r && rMay r' && (r.id == r'.id)
def rBoth (r r' : RD) : RD := ⟨r.id, mxN r.N r.R r'.N r'.R, mxR r.N r.R r'.N r'.R, outTo (mxN r.N r.R r'.N r'.R) (mxR r.N r.R r'.N r'.R) (putAll (putAll [] r.f) r'.f) 8⟩
def rJoin (r r' : RD) : RD := if rCan r r' = true then rBoth r r' else noRD
def rLeq (r r' : RD) : Bool := rCan r r' && rSame (rJoin r r') r'
theorem rJoin_ok {r r' : RD} (h : r.ok) : (rJoin r r').ok := by unfold rJoin; split; exact h; exact noRD_ok
theorem rSame_iff (r r' : RD) : rSame r r' = true ↔ r = r' := by
  cases r; cases r'
  simp only [rSame, recSame, Bool.and_eq_true, beq_iff_eq, stEq_iff, fsEq_iff, RD.mk.injEq]
  constructor
  · rintro ⟨⟨rfl, rfl, rfl⟩, rfl⟩; exact ⟨rfl, rfl, rfl, rfl⟩
  · rintro ⟨rfl, rfl, rfl, rfl⟩; exact ⟨⟨rfl, rfl, rfl⟩, rfl⟩

theorem rmayD {r : RD} {s : Value} {b : Bool} (hr : r.ok) (h : rMay r = b) (w : World) (hv : Flds w s r.f) : Calls Try.prog 42 #[.agg (rA r s)] w fun e w' => e = .returned (.bool b) ∧ Below w.heap.size w w' :=
  recmay_v (encU_arr16 hr) h w hv
theorem rsameD {r r' : RD} {s s' : Value} {b : Bool} (hr : r.ok) (hr' : r'.ok) (h : rSame r r' = b) (w : World) (hv : Flds w s r.f) (hv' : Flds w s' r'.f) : Calls Try.prog 43 #[.agg (rA r s), .agg (rA r' s')] w fun e w' => e = .returned (.bool b) ∧ Below w.heap.size w w' := by
  subst h; exact recsame_c r.id r'.id hr hr' r.N r.R r'.N r'.R s s' r.f r'.f w hv hv'
theorem rfindD {r : RD} {s : Value} {no fN fR : Int} {fS : ByteArray} {d : Bool} (hr : r.ok) (h : fFindP r.f no = (fN, fR, fS, d)) (w : World) (hv : Flds w s r.f) : Calls Try.prog 35 #[.agg (rA r s), .int .i64 no] w fun e w' => e = .returned (.tuple #[.agg #[.int .i64 fN, .int .i64 fR, .string fS], .bool d]) ∧ Below w.heap.size w w' :=
  recfind_c _ (encU_arr16 hr) r.N r.R s r.f no w hv h
theorem rjoinO {r r' j : RD} {s s' : Value} {d : Bool} (hr : r.ok) (hr' : r'.ok) (h : rCan r r' = d) (hj : rJoin r r' = j) (w : World) (hv : Flds w s r.f) (hv' : Flds w s' r'.f) :
    Calls Try.prog 37 #[.agg (rA r s), .agg (rA r' s')] w fun e w' => ∃ sj, e = .returned (.tuple #[.agg (rA j sj), .bool d]) ∧ OwnF w.heap.size w' sj j.f ∧ Below w.heap.size w w' := by
  subst h hj
  cases hc : rCan r r'
  · have e : rJoin r r' = noRD := by unfold rJoin; rw [if_neg (by rw [hc]; simp)]
    rw [e]
    exact (recjoin_no r.id r'.id hr hr' r.N r.R r'.N r'.R s s' r.f r'.f w hv hv' hc).mono fun e w' ⟨h1, h2⟩ => ⟨_, h1, OwnF.nil _ _, h2⟩
  · have e : rJoin r r' = rBoth r r' := by unfold rJoin; rw [if_pos hc]
    rw [e]
    simp only [rCan, Bool.and_eq_true, beq_iff_eq] at hc
    have := recjoin_yes r.id hr r.N r.R r'.N r'.R s s' r.f r'.f w hv hv' hc.1.1 hc.1.2
    have e2 : (.agg (rA r' s') : Value) = .agg (recA (encU r.id).toArray r'.N r'.R s') := by unfold rA; rw [hc.2]
    rw [e2]
    exact this
theorem rjoinD {r r' j : RD} {s s' : Value} {d : Bool} (hr : r.ok) (hr' : r'.ok) (h : rCan r r' = d) (hj : rJoin r r' = j) (w : World) (hv : Flds w s r.f) (hv' : Flds w s' r'.f) :
    Calls Try.prog 37 #[.agg (rA r s), .agg (rA r' s')] w fun e w' => ∃ sj, e = .returned (.tuple #[.agg (rA j sj), .bool d]) ∧ Flds w' sj j.f ∧ Below w.heap.size w w' :=
  (rjoinO hr hr' h hj w hv hv').mono fun e w' ⟨s, h1, h2, h3⟩ => ⟨s, h1, h2.flds, h3⟩
set_option maxHeartbeats 1600000 in
theorem rleq_c (r r' : RD) (hr : r.ok) (hr' : r'.ok) (s s' : Value) (w : World) (hv : Flds w s r.f) (hv' : Flds w s' r'.f) : Calls Try.prog 44 #[.agg (rA r s), .agg (rA r' s')] w fun e w' => e = .returned (.bool (rLeq r r')) ∧ Below w.heap.size w w' := by
  have hAc := @after_cell
  have hAf := @after_frozen
  have hSz := sz_facts
  obtain ⟨j, hj⟩ : ∃ j, Hid (rJoin r r' = j) := ⟨_, rfl⟩
  obtain ⟨d, hd⟩ : ∃ d, Hid (rCan r r' = d) := ⟨_, rfl⟩
  obtain ⟨q, hq⟩ : ∃ q, Hid (rSame j r' = q) := ⟨_, rfl⟩
  have Hjo : Hid j.ok := Lib.hid (by rw [← hj.out]; exact rJoin_ok hr)
  have hE : Hid (rLeq r r' = (d && q)) := Lib.hid (by unfold rLeq; rw [hj.out, hd.out, hq.out])
  have Hr := Lib.hid hr; have Hr' := Lib.hid hr'; have Hv := Lib.hid hv; have Hv' := Lib.hid hv'; clear hr hr' hv hv'
  cases d
  all_goals
    go_enter Try.func44, Try.ntmps44
    go_wp2_with (first | ((fail_if_success have := k1); refine wpList_box_blk rfl 54 _ rfl _ rfl (rA r s) rfl ?_; intro w1 k1 b1 s1; obtain ⟨y1, rfl⟩ := after_of b1) | ((fail_if_success have := k2); refine wpList_box_blk rfl 54 _ rfl _ rfl (rA r' s') rfl ?_; intro w2 k2 b2 s2; obtain ⟨y2, rfl⟩ := after_of b2; rw [s1] at k2) | (refine wpList_load_sub rfl 54 _ rfl _ rfl w.heap.size 0 rfl (rA r s) _ (by repeat (first | exact k1.subA | refine Sub.after ?_ _)) Try.underlying54 rfl (rA_info Hr.out) ?_) | (refine wpList_load_sub rfl 54 _ rfl _ rfl (w.heap.size + 1) 0 rfl (rA r' s') _ (by repeat (first | exact k2.subA | refine Sub.after ?_ _)) Try.underlying54 rfl (rA_info Hr'.out) ?_) | (go_at_call 37; (with_reducible refine (rjoinD Hr.out Hr'.out hd.out hj.out _ (Hv.out.below (by (repeat (first | exact Below.refl _ _ | assumption | refine bel_alloc ?_ _ | refine bel_after _ ?_ | refine bel_drewN ?_ _ | refine bel_drew ?_ | refine bel_set ?_ (by first | omega | (simp only [World.size_alloc, World.size_drew, World.size_setCell]; omega) | (simp; omega)) _)))) (Hv'.out.below (by (repeat (first | exact Below.refl _ _ | assumption | refine bel_alloc ?_ _ | refine bel_after _ ?_ | refine bel_drewN ?_ _ | refine bel_drew ?_ | refine bel_set ?_ (by first | omega | (simp only [World.size_alloc, World.size_drew, World.size_setCell]; omega) | (simp; omega)) _))))).mono ?_); rintro e w' ⟨sj, rfl, hsj, hb⟩; obtain ⟨y3, rfl⟩ := after_of hb; clear hb; have Hsj := Lib.hid hsj; clear hsj; have Hsz : Hid (noA.size = (rA j sj).size) := Lib.hid (by rw [noA_size, rA_size Hjo.out])) | ((fail_if_success have := k4); refine wpList_alloc_blk rfl 54 rfl _ rfl (.agg noA) noA noA_zero rfl ?_; intro w4 k4 b4 s4; obtain ⟨y4, rfl⟩ := after_of b4) | ((fail_if_success have := k5); refine wpList_store_blk rfl 54 _ _ rfl y3.w.heap.size (rA j sj) rfl rfl 54 noA k4 (rA_info Hjo.out) Hsz.out (rA_one Hsj.out) ?_; intro w5 k5 b5 s5; clear s5; obtain ⟨y5, rfl⟩ := after_of (y4.h.trans (b5.below (Nat.le_refl _) y4.h.size))) | (refine wpList_load_sub rfl 54 _ rfl _ rfl y3.w.heap.size 0 rfl (rA j sj) _ (by repeat (first | exact k5.subA | refine Sub.after ?_ _)) Try.underlying54 rfl (rA_info Hjo.out) ?_) | (go_at_call 43; (with_reducible refine (rsameD Hjo.out Hr'.out hq.out _ (Hsj.out.below (by (repeat (first | exact Below.refl _ _ | assumption | refine bel_alloc ?_ _ | refine bel_after _ ?_ | refine bel_drewN ?_ _ | refine bel_drew ?_ | refine bel_set ?_ (by first | omega | (simp only [World.size_alloc, World.size_drew, World.size_setCell]; omega) | (simp; omega)) _)))) (Hv'.out.below (by (repeat (first | exact Below.refl _ _ | assumption | refine bel_alloc ?_ _ | refine bel_after _ ?_ | refine bel_drewN ?_ _ | refine bel_drew ?_ | refine bel_set ?_ (by first | omega | (simp only [World.size_alloc, World.size_drew, World.size_setCell]; omega) | (simp; omega)) _))))).mono ?_); rintro e w' ⟨rfl, hb⟩; obtain ⟨y6, rfl⟩ := after_of hb; clear hb))
    all_goals first | (rw [Exit.noGoto_ret]; go_ret) | go_ret
    exact ⟨by rw [hE.out]; rfl, by (repeat (first | exact Below.refl _ _ | assumption | refine bel_alloc ?_ _ | refine bel_after _ ?_ | refine bel_drewN ?_ _ | refine bel_drew ?_ | refine bel_set ?_ (by first | omega | (simp only [World.size_alloc, World.size_drew, World.size_setCell]; omega) | (simp; omega)) _))⟩
end Go.Proofs.Ytgckgbonhbabpaa
