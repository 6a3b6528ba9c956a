/- Names compared. -/
import Derived.Test.YtolbmemogoojhaaRecs
namespace Go.Proofs.Ytolbmemogoojhaa
open Go Go.RowKit Go.Deep
set_option linter.unusedVariables false
set_option linter.unusedSimpArgs false
set_option maxRecDepth 100000
theorem St.blkOf {w0 w : World} {Γ : List Res} (H : St w0 w Γ) {b : Nat} {t : TypeId} {cs : Array Value} (hm : Res.blk b t cs ∈ Γ) : Blk w b t cs := H.get hm
section
variable {a : Act} {b : Nat} {dst : Option Tmp} {ty typ : TypeId} {x : Operand} {pos : String} {af : Array Edge} {gd : Option (Nat × Bool)} {C : World → Prop} {K : Act → Prop} {v : Value} {d : TypeDesc}
theorem qd_one (hu : Try.prog.underlying ty = some d) (hd : (match (generalizing := false) d with | .struct _ | .array _ _ => true | _ => false) = false) (hx : a.eval x = .pointer (some ⟨b, 0, none⟩)) (h : ∀ w', C w' → Sub w' b 0 #[v]) (k : K (a.put dst v)) : (⟨dst, .load ty x, typ, pos, af, gd⟩ : Oper).quiet Try.prog a C K :=
  quiet_load_one (P := Try.prog) (C := C) (K := K) ty x rfl dst rfl b 0 hx v d h hu (by cases d <;> first | rfl | (exact absurd hd (by simp))) k
end
section
variable {ops : Array Oper} {rest : List Oper} {a : Act} {w0 w : World} {Q : Exit → Act → World → Prop} {Γ Γ' : List Res}
variable {dst : Option Tmp} {ty typ t : TypeId} {x y : Operand} {pos : String} {af : Array Edge} {gd : Option (Nat × Bool)} {b off : Nat} {v v' : Value} {d : TypeDesc}
theorem ld_one (hu : Try.prog.underlying ty = some d) (hd : (match (generalizing := false) d with | .struct _ | .array _ _ => true | _ => false) = false) (hw : Region.wanted (⟨dst, .load ty x, typ, pos, af, gd⟩ : Oper) (yielded ops a.tmps) = true) (hx : a.eval x = .pointer (some ⟨b, off, none⟩)) (hg : Sub w b off #[v])
    (h : wpList Try.prog ops Q rest (a.put dst v) w) : wpList Try.prog ops Q (⟨dst, .load ty x, typ, pos, af, gd⟩ :: rest) a w := arm_ld1 hw hx hg hu (by cases d <;> first | rfl | (exact absurd hd (by simp))) h
theorem st_on (hi : (Try.prog.info? ty).map (·.size) = some 1) (H : St w0 w Γ) (hw : Region.wanted (⟨dst, .store ty x y, typ, pos, af, gd⟩ : Oper) (yielded ops a.tmps) = true) (hx : a.eval x = .pointer (some ⟨b, 0, none⟩)) (hy : a.eval y = v')
    (u : Upd Γ (Res.blk b t #[v]) (Res.blk b t #[v']) Γ') (hv : v'.cells = #[v']) (h1 : v'.oneCell' = true) (h : ∀ w', St w0 w' Γ' → wpList Try.prog ops Q rest (a.put dst undef) w') : wpList Try.prog ops Q (⟨dst, .store ty x y, typ, pos, af, gd⟩ :: rest) a w :=
  st_one H hw hx hy u hi hv h1 h
end
theorem byt_blk {w : World} {k : Nat} {ty : TypeId} {a : List UInt8} {n : Nat} (h : Blk w k ty (encU a).toArray) (ha : a.length = n) (hn : n ≤ maxLen) : Byt w (.slice (some ⟨k, 0, none⟩) n n) a := by
  subst ha
  refine ⟨by rw [encU_length, Nat.mul_one], some ⟨k, 0, none⟩, _, rfl, Nat.le_refl _, hn, fun h => (by cases h), fun _ => ⟨k, 0, rfl, fun j u hj => ?_⟩⟩
  rw [h.cell, Nat.zero_add]; simpa using hj
def cmpID (a b : List UInt8) : Int := Lib.compareBytes a b
theorem id_info16 {A : Array Value} (h : A.size = 16) : (Try.prog.info? 33).map (·.size) = some A.size := info_id h
set_option maxHeartbeats 1600000 in
theorem bkcmp_c (a b : List UInt8) (ha : a.length = 16) (hb : b.length = 16) (w : World) : Calls Try.prog 52 #[.agg (encU a).toArray, .agg (encU b).toArray] w fun e w' => e = .returned (.int .i64 (cmpID a b)) ∧ Below w.heap.size w w' := by
  obtain ⟨A, hA⟩ : ∃ A, Hid ((encU a).toArray = A) := ⟨_, rfl⟩
  obtain ⟨B, hB⟩ : ∃ B, Hid ((encU b).toArray = B) := ⟨_, rfl⟩
  obtain ⟨r, hr⟩ : ∃ r, Hid (cmpID a b = r) := ⟨_, rfl⟩
  rw [hA.out, hB.out, hr.out]
  have H := St.init w
  have Ha := Lib.hid ha; have Hb := Lib.hid hb; clear ha hb
  go_enter Try.func52, Try.ntmps52
  go_wp2_with (first | go_skip | ((fail_if_success have := kA); (with_reducible apply arm_box H); rfl; clear H; intro wn kA H) | ((fail_if_success have := kB); (with_reducible apply arm_box H); rfl; clear H; intro wn kB H))
  have hc : ∀ x : After wn, Calls Try.prog 67 #[.slice (some ⟨kA, 0, none⟩) 16 16, .slice (some ⟨kB, 0, none⟩) 16 16] x.w fun e w' => e = .returned (.int .i64 r) ∧ x.w = w' := fun x => by
    have h1 : Blk x.w kA 33 A := (H.call x.h).blkOf (by (repeat (first | with_reducible exact List.mem_cons_self | with_reducible apply List.mem_cons_of_mem)))
    have h2 : Blk x.w kB 33 B := (H.call x.h).blkOf (by (repeat (first | with_reducible exact List.mem_cons_self | with_reducible apply List.mem_cons_of_mem)))
    rw [← hA.out] at h1; rw [← hB.out] at h2
    have := bcompare_c _ _ a b x.w (byt_blk h1 Ha.out (by decide)) (byt_blk h2 Hb.out (by decide))
    unfold cmpID at hr
    rwa [hr.out] at this
  have Hc := Lib.hid hc; clear hc
  refine wp_quiet_all (C := fun w' => ∃ x : After _, w' = x.w) (by kernel_rfl) (by kernel_rfl) (since_drew _) ?_
  repeat (first | go_big_quiet_skip | (go_big_quiet_step ((first | (go_at_call 67; with_reducible exact after_call_same _ (Hc.out _))))))
  refine wpQuiet_nil ?_
  rintro _ ⟨zq, rfl⟩; replace H := H.call zq.h
  go_wp2
  all_goals first | (rw [Exit.noGoto_ret]; go_ret) | go_ret
  exact ⟨rfl, H.bel⟩
theorem bkcmp_v {a b : List UInt8} {r : Int} (h : cmpID a b = r) (ha : a.length = 16) (hb : b.length = 16) (w : World) : Calls Try.prog 52 #[.agg (encU a).toArray, .agg (encU b).toArray] w fun e w' => e = .returned (.int .i64 r) ∧ Below w.heap.size w w' := by subst h; exact bkcmp_c a b ha hb w
def idLt (a b : IDL) : Bool := decide (a < b)
theorem cmp_lt (a b : IDL) : decide (cmpID a b < 0) = idLt a b := by unfold idLt cmpID; exact decide_eq_decide.2 (cb_iff a b)
set_option maxHeartbeats 1600000 in
theorem bkless_c (a b : List UInt8) (ha : a.length = 16) (hb : b.length = 16) (w : World) : Calls Try.prog 33 #[.agg (encU a).toArray, .agg (encU b).toArray] w fun e w' => e = .returned (.bool (idLt a b)) ∧ Below w.heap.size w w' := by
  obtain ⟨A, hA⟩ : ∃ A, Hid ((encU a).toArray = A) := ⟨_, rfl⟩
  obtain ⟨B, hB⟩ : ∃ B, Hid ((encU b).toArray = B) := ⟨_, rfl⟩
  have HAs : Hid ((Try.prog.info? 33).map (·.size) = some A.size) := Lib.hid (by rw [← hA.out]; exact id_info16 (encU_arr16 ha))
  have HBs : Hid ((Try.prog.info? 33).map (·.size) = some B.size) := Lib.hid (by rw [← hB.out]; exact id_info16 (encU_arr16 hb))
  obtain ⟨r, hr⟩ : ∃ r, Hid (cmpID a b = r) := ⟨_, rfl⟩
  obtain ⟨q, hq⟩ : ∃ q, Hid ((a == b) = q) := ⟨_, rfl⟩
  have hneq : ∀ W, (binOp .neq 33 (.agg A) (.agg B)).run Try.prog W = .ok (.bool (!q)) W := fun W => by rw [← hA.out, ← hB.out, ← hq.out]; exact neq_id a b ha hb W
  have hres : Hid (idLt a b = (!q && decide (r < 0))) := Lib.hid (by
    rw [← hr.out, cmp_lt, ← hq.out]
    cases h : (a == b) with
    | false => simp
    | true => have : a = b := by simpa using h
              subst this; simp [idLt, idl_irrefl])
  rw [hA.out, hB.out]
  have H := St.init w
  have Ha := Lib.hid ha; have Hb := Lib.hid hb; clear ha hb
  cases q
  all_goals
    go_enter Try.func33, Try.ntmps33
    go_wp2_with (first | go_skip | ((fail_if_success have := kA); (with_reducible apply arm_box H); rfl; clear H; intro wn kA H) | ((fail_if_success have := kB); (with_reducible apply arm_box H); rfl; clear H; intro wn kB H))
    have hc : ∀ x : After wn, Calls Try.prog 67 #[.slice (some ⟨kA, 0, none⟩) 16 16, .slice (some ⟨kB, 0, none⟩) 16 16] x.w fun e w' => e = .returned (.int .i64 r) ∧ x.w = w' := fun x => by
      have h1 : Blk x.w kA 33 A := (H.call x.h).blkOf (by (repeat (first | with_reducible exact List.mem_cons_self | with_reducible apply List.mem_cons_of_mem)))
      have h2 : Blk x.w kB 33 B := (H.call x.h).blkOf (by (repeat (first | with_reducible exact List.mem_cons_self | with_reducible apply List.mem_cons_of_mem)))
      rw [← hA.out] at h1; rw [← hB.out] at h2
      have := bcompare_c _ _ a b x.w (byt_blk h1 Ha.out (by decide)) (byt_blk h2 Hb.out (by decide))
      unfold cmpID at hr
      rwa [hr.out] at this
    have Hc := Lib.hid hc; clear hc
    refine wp_quiet_all (C := fun w' => ∃ x : After _, w' = x.w) (by kernel_rfl) (by kernel_rfl) (since_drew _) ?_
    repeat (first | go_big_quiet_skip | (go_big_quiet_want; (refine quiet_load_sub 33 _ rfl _ rfl kA 0 rfl A _ ?_ Try.underlying33 rfl HAs.out ?_; rotate_left; (go_simp; go_big_quiet_on); rotate_left; (rintro _ ⟨x, rfl⟩; apply (H.call x.h).arr (t := 33); (repeat (first | with_reducible exact List.mem_cons_self | with_reducible apply List.mem_cons_of_mem))))) | (go_big_quiet_want; (refine quiet_load_sub 33 _ rfl _ rfl kB 0 rfl B _ ?_ Try.underlying33 rfl HBs.out ?_; rotate_left; (go_simp; go_big_quiet_on); rotate_left; (rintro _ ⟨x, rfl⟩; apply (H.call x.h).arr (t := 33); (repeat (first | with_reducible exact List.mem_cons_self | with_reducible apply List.mem_cons_of_mem))))) | (go_big_quiet_step ((first | (go_at_call 67; with_reducible exact after_call_same _ (Hc.out _))))))
    refine wpQuiet_nil ?_
    rintro _ ⟨zq, rfl⟩; replace H := H.call zq.h
    go_wp2
    all_goals first | (rw [Exit.noGoto_ret]; go_ret) | go_ret
    exact ⟨by rw [hres.out]; simp, H.bel⟩
theorem bkless_v {a b : List UInt8} {r : Bool} (h : idLt a b = r) (ha : a.length = 16) (hb : b.length = 16) (w : World) : Calls Try.prog 33 #[.agg (encU a).toArray, .agg (encU b).toArray] w fun e w' => e = .returned (.bool r) ∧ Below w.heap.size w w' := by subst h; exact bkless_c a b ha hb w
theorem bkless_r {r r' : RD} {q : Bool} (h : idLt r.id r'.id = q) (hr : r.ok) (hr' : r'.ok) (w : World) : Calls Try.prog 33 #[.agg (idA r), .agg (idA r')] w fun e w' => e = .returned (.bool q) ∧ Below w.heap.size w w' := bkless_v h hr hr' w
end Go.Proofs.Ytolbmemogoojhaa
