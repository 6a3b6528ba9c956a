/- The document's books: what is found, a record of its own. -/
import Derived.Test.YtolbmemogoojhaaGreatURbA
namespace Go.Proofs.YtolbmemogoojhaaGreat
open Go Go.RowKit Go.Deep
set_option linter.unusedVariables false
set_option linter.unusedSimpArgs false
set_option maxRecDepth 100000
theorem qd_idS {a : Act} {b o : Nat} {dst : Option Tmp} {typ : TypeId} {x : Operand} {pos : String} {af : Array Edge} {gd : Option (Nat × Bool)} {C : World → Prop} {K : Act → Prop} {k : IDK} (hx : a.eval x = .pointer (some ⟨b, o, none⟩)) (h : ∀ w', C w' → Sub w' b o (encU k.1).toArray) (q : K (a.put dst (encK k))) : (⟨dst, .load 26 x, typ, pos, af, gd⟩ : Oper).quiet Tryz.prog a C K :=
  quiet_load_sub 26 x rfl dst rfl b _ hx (encU k.1).toArray _ h Tryz.underlying26 rfl (id_inf k.2) q
theorem guard_ra (r : RD) (k : IDK) (x y : Operand) (W : World) : (eqGuard .eql 26 x y (.agg (idA r)) (encK k)).run Tryz.prog W = .ok () W := by
  unfold encK
  kernel_rfl
theorem bFind_step {L : BK} {j : Nat} {r : RD} {i : IDL} (h : L[j]? = some r) : bFind (L.drop j) i = if r.id = i then some r else bFind (L.drop (j + 1)) i := by
  rw [drop_at h, bFind]
set_option maxHeartbeats 6400000 in
theorem rbfind_b {v : Value} {L : BK} {key : IDK} {fr : RD} {fb : Bool} {W0 w : World} (hF : bFindP L key.1 = (fr, fb)) (hv : Recs W0 v L) (hb0 : Below W0.heap.size W0 w) : Calls Tryz.prog 10 #[.agg #[v], encK key] w fun e w' => ∃ s, e = .returned (.tuple #[.agg (rA fr s), .bool fb]) ∧ Flds W0 s fr.f ∧ Below w.heap.size w w' := by
  obtain ⟨n, hn⟩ : ∃ n, L.length = n := ⟨_, rfl⟩
  obtain ⟨a, c, rfl, hm1, _⟩ := id hv.slice
  rw [hn] at hv hm1 ⊢
  unfold maxLen at hm1
  have Hv := Lib.hid hv; have Hn := Lib.hid hn; clear hv hn
  have HF := Lib.hid hF; clear hF
  have HoneN : Hid (Value.oneCell' (.slice none 0 0) = true) := Lib.hid rfl
  have Hno : Hid noRD.ok := Lib.hid noRD_ok
  have H := St.init w
  go_enter Tryz.func10, Tryz.ntmps10
  go_wp2_with (first | go_skip | ((fail_if_success have := kB); (with_reducible apply arm_box H); rfl; clear H; intro wn kB H) | ((fail_if_success have := kI); (with_reducible apply arm_box H); rfl; clear H; intro wn kI H) | ((fail_if_success have := kR); (with_reducible apply al_rec H); clear H; intro wn kR H))
  go_loopw [6] (fun i wr => ∃ j : Nat, j ≤ n ∧ i = .int .i64 j ∧ Hid (bFind L key.1 = bFind (L.drop j) key.1) ∧ St w wr [Res.rc kR noRD (.slice none 0 0), Res.blk kI 26 (encU key.1).toArray, Res.blk kB 24 #[.slice a n c]]) (fun i _ => n - (intOf i).toNat)
  case atStart => exact ⟨0, by omega, rfl, Lib.hid rfl, H⟩
  case round =>
    clear H
    obtain ⟨j, hj, rfl, I, H⟩ := hrel
    by_cases hlt : j < n
    · obtain ⟨r, hr⟩ : ∃ r, L[j]? = some r := ⟨_, List.getElem?_eq_getElem (by rw [Hn.out]; exact hlt)⟩
      obtain ⟨b, off, s, rfl, hbw, G0, hf⟩ := Hv.out.at hr
      have G : RecAt w b (off + j * 19) r s := by apply RecAt.bel (hb := hb0); exact G0
      have hok : Hid r.ok := Lib.hid G.2
      have Hf := Lib.hid hf
      have Hone : Hid (s.oneCell' = true) := Lib.hid (flds_one hf)
      have Hst := Lib.hid (bFind_step (i := key.1) hr)
      obtain ⟨q, hq⟩ : ∃ q, Hid ((r.id == key.1) = q) := ⟨_, rfl⟩
      have heq : ∀ W, (binOp .eql 26 (.agg (idA r)) (encK key)).run Tryz.prog W = .ok (.bool q) W := fun W => by
        have := eql_id r.id key.1 hok.out key.2 W
        rw [hq.out] at this; exact this
      have hgd := guard_ra r key
      clear hf hr hbw
      cases q with
      | true =>
        have he : r.id = key.1 := by simpa using hq.out
        have hP := HF.out
        unfold bFindP at hP
        rw [I.out, Hst.out, if_pos he] at hP
        cases hP
        go_wp2_with (first | go_skip | ((with_reducible apply ld_one (ty := 22) Tryz.underlying22 rfl); rfl; rfl; (focus (apply H.one; (repeat (first | with_reducible exact List.mem_cons_self | with_reducible apply List.mem_cons_of_mem)); done))) | ((with_reducible apply ld_rec); rfl; rfl; (first | (focus (apply H.rc; (repeat (first | with_reducible exact List.mem_cons_self | with_reducible apply List.mem_cons_of_mem)); done)) | (apply RecAt.bel (hb := H.bel); assumption) | assumption)) | ((with_reducible apply st_rec H); rfl; rfl; rfl; (repeat (first | with_reducible apply Upd.head | with_reducible apply Upd.tail)); (first | assumption | (refine Hid.out ?_; assumption)); (first | rfl | assumption | (refine Hid.out ?_; assumption)); clear H; intro wn H) | (with_reducible apply bd_rec0))
        (try simp only [Act.put, List.setIfInBounds_toArray, List.set_cons_zero, List.set_cons_succ])
        refine wp_quiet_all (C := fun w' => ∃ x : After _, w' = x.w) (by kernel_rfl) (by kernel_rfl) (since_drew _) ?_
        repeat (first | go_big_quiet_skip | (go_big_quiet_want; (with_reducible apply qd_rec); rfl; (rintro _ ⟨x, rfl⟩; have H := H.call x.h; (first | (focus (apply H.rc; (repeat (first | with_reducible exact List.mem_cons_self | with_reducible apply List.mem_cons_of_mem)); done)) | (apply RecAt.bel (hb := H.bel); assumption))); (first | assumption | (refine Hid.out ?_; assumption)); (go_simp; go_big_quiet_on)) | (go_big_quiet_want; (with_reducible apply qd_id); rfl; (rintro _ ⟨x, rfl⟩; have H := H.call x.h; (first | (focus (apply H.rc; (repeat (first | with_reducible exact List.mem_cons_self | with_reducible apply List.mem_cons_of_mem)); done)) | (apply RecAt.bel (hb := H.bel); assumption))); (first | assumption | (refine Hid.out ?_; assumption)); (go_simp; go_big_quiet_on)) | (go_big_quiet_want; (with_reducible apply qd_one (ty := 22) Tryz.underlying22 rfl); rfl; (rintro _ ⟨x, rfl⟩; have H := H.call x.h; (focus (apply H.one; (repeat (first | with_reducible exact List.mem_cons_self | with_reducible apply List.mem_cons_of_mem)); done))); (go_simp; go_big_quiet_on)) | (go_big_quiet_want; (with_reducible apply qd_idS (k := key)); rfl; (rintro _ ⟨x, rfl⟩; exact (H.call x.h).arr (b := kI) (t := 26) (by (repeat (first | with_reducible exact List.mem_cons_self | with_reducible apply List.mem_cons_of_mem)))); (go_simp; go_big_quiet_on)) | (go_big_quiet_step (fail)))
        refine wpQuiet_nil ?_
        rintro _ ⟨zq, rfl⟩; replace H := H.call zq.h
        clear heq hgd
        go_wp2_with (first | go_skip | ((with_reducible apply ld_one (ty := 22) Tryz.underlying22 rfl); rfl; rfl; (focus (apply H.one; (repeat (first | with_reducible exact List.mem_cons_self | with_reducible apply List.mem_cons_of_mem)); done))) | ((with_reducible apply ld_rec); rfl; rfl; (first | (focus (apply H.rc; (repeat (first | with_reducible exact List.mem_cons_self | with_reducible apply List.mem_cons_of_mem)); done)) | (apply RecAt.bel (hb := H.bel); assumption) | assumption)) | ((with_reducible apply st_rec H); rfl; rfl; rfl; (repeat (first | with_reducible apply Upd.head | with_reducible apply Upd.tail)); (first | assumption | (refine Hid.out ?_; assumption)); (first | rfl | assumption | (refine Hid.out ?_; assumption)); clear H; intro wn H) | (with_reducible apply bd_rec0))
        all_goals first | (rw [Exit.noGoto_ret]) | skip
        have hR := (H.rc (b := kR) (r := fr) (s := s) (by (repeat (first | with_reducible exact List.mem_cons_self | with_reducible apply List.mem_cons_of_mem)))).1
        exact bodyPost_ret (results_cell_tmp Tryz.results10 _ _ kR (rA fr s) _ _ rfl rfl hR Tryz.underlying33 rfl (rA_info hok.out)) rfl ⟨_, rfl, Hf.out, H.bel⟩
      | false =>
        have hne : ¬ r.id = key.1 := by simpa using hq.out
        have I2 : Hid (bFind L key.1 = bFind (L.drop (j + 1)) key.1) := Lib.hid (by rw [I.out, Hst.out, if_neg hne])
        clear hne
        go_wp2_with (first | go_skip | ((with_reducible apply ld_one (ty := 22) Tryz.underlying22 rfl); rfl; rfl; (focus (apply H.one; (repeat (first | with_reducible exact List.mem_cons_self | with_reducible apply List.mem_cons_of_mem)); done))) | ((with_reducible apply ld_rec); rfl; rfl; (first | (focus (apply H.rc; (repeat (first | with_reducible exact List.mem_cons_self | with_reducible apply List.mem_cons_of_mem)); done)) | (apply RecAt.bel (hb := H.bel); assumption) | assumption)) | ((with_reducible apply st_rec H); rfl; rfl; rfl; (repeat (first | with_reducible apply Upd.head | with_reducible apply Upd.tail)); (first | assumption | (refine Hid.out ?_; assumption)); (first | rfl | assumption | (refine Hid.out ?_; assumption)); clear H; intro wn H) | (with_reducible apply bd_rec0))
        (try simp only [Act.put, List.setIfInBounds_toArray, List.set_cons_zero, List.set_cons_succ])
        refine wp_quiet_all (C := fun w' => ∃ x : After _, w' = x.w) (by kernel_rfl) (by kernel_rfl) (since_drew _) ?_
        repeat (first | go_big_quiet_skip | (go_big_quiet_want; (with_reducible apply qd_rec); rfl; (rintro _ ⟨x, rfl⟩; have H := H.call x.h; (first | (focus (apply H.rc; (repeat (first | with_reducible exact List.mem_cons_self | with_reducible apply List.mem_cons_of_mem)); done)) | (apply RecAt.bel (hb := H.bel); assumption))); (first | assumption | (refine Hid.out ?_; assumption)); (go_simp; go_big_quiet_on)) | (go_big_quiet_want; (with_reducible apply qd_id); rfl; (rintro _ ⟨x, rfl⟩; have H := H.call x.h; (first | (focus (apply H.rc; (repeat (first | with_reducible exact List.mem_cons_self | with_reducible apply List.mem_cons_of_mem)); done)) | (apply RecAt.bel (hb := H.bel); assumption))); (first | assumption | (refine Hid.out ?_; assumption)); (go_simp; go_big_quiet_on)) | (go_big_quiet_want; (with_reducible apply qd_one (ty := 22) Tryz.underlying22 rfl); rfl; (rintro _ ⟨x, rfl⟩; have H := H.call x.h; (focus (apply H.one; (repeat (first | with_reducible exact List.mem_cons_self | with_reducible apply List.mem_cons_of_mem)); done))); (go_simp; go_big_quiet_on)) | (go_big_quiet_want; (with_reducible apply qd_idS (k := key)); rfl; (rintro _ ⟨x, rfl⟩; exact (H.call x.h).arr (b := kI) (t := 26) (by (repeat (first | with_reducible exact List.mem_cons_self | with_reducible apply List.mem_cons_of_mem)))); (go_simp; go_big_quiet_on)) | (go_big_quiet_step (fail)))
        refine wpQuiet_nil ?_
        rintro _ ⟨zq, rfl⟩; replace H := H.call zq.h
        clear heq hgd
        go_wp2
        go_roundw
        case rel => exact ⟨j + 1, by omega, by go_num, I2, H⟩
        case measure => simp [intOf]; omega
    · have hjn : j = n := by omega
      subst hjn
      have hP := HF.out
      unfold bFindP at hP
      rw [I.out, ← Hn.out, List.drop_length, bFind] at hP
      cases hP
      go_wp2_with (first | go_skip | ((with_reducible apply ld_one (ty := 22) Tryz.underlying22 rfl); rfl; rfl; (focus (apply H.one; (repeat (first | with_reducible exact List.mem_cons_self | with_reducible apply List.mem_cons_of_mem)); done))) | ((with_reducible apply ld_rec); rfl; rfl; (first | (focus (apply H.rc; (repeat (first | with_reducible exact List.mem_cons_self | with_reducible apply List.mem_cons_of_mem)); done)) | (apply RecAt.bel (hb := H.bel); assumption) | assumption)) | ((with_reducible apply st_rec H); rfl; rfl; rfl; (repeat (first | with_reducible apply Upd.head | with_reducible apply Upd.tail)); (first | assumption | (refine Hid.out ?_; assumption)); (first | rfl | assumption | (refine Hid.out ?_; assumption)); clear H; intro wn H) | (with_reducible apply bd_rec0))
      all_goals first | (rw [Exit.noGoto_ret]) | skip
      have hR := (H.rc (b := kR) (r := noRD) (s := .slice none 0 0) (by (repeat (first | with_reducible exact List.mem_cons_self | with_reducible apply List.mem_cons_of_mem)))).1
      exact bodyPost_ret (results_cell_tmp Tryz.results10 _ _ kR (rA noRD (.slice none 0 0)) _ _ rfl rfl hR Tryz.underlying33 rfl (rA_info Hno.out)) rfl ⟨_, rfl, Row.nil _ 4, H.bel⟩
set_option maxHeartbeats 1600000 in
theorem rbown_c (r : RD) (s : Value) (hok : r.ok) (hfew : r.f.length ≤ 1000) (w : World) (hf : Flds w s r.f) : Calls Tryz.prog 91 #[.agg (rA r s)] w fun e w' => ∃ s', e = .returned (.agg (rA r s')) ∧ St w w' [Res.row 82 4 s' r.f.length (fieldsL r.f)] := by
  have Hok := Lib.hid hok; have Hfew := Lib.hid hfew; have Hf := Lib.hid hf
  have Hone : Hid (s.oneCell' = true) := Lib.hid (flds_one hf)
  have HoneN : Hid (Value.oneCell' (.slice none 0 0) = true) := Lib.hid rfl
  clear hok hfew hf
  have H := St.init w
  go_enter Tryz.func91, Tryz.ntmps91
  go_wp2_with (first | go_skip | ((fail_if_success have := kA); (with_reducible apply bx_rec H); rfl; (first | assumption | (refine Hid.out ?_; assumption)); clear H; intro wn kA H) | ((fail_if_success have := kR); (with_reducible apply al_rec H); clear H; intro wn kR H) | ((with_reducible apply ld_F); rfl; rfl; (first | (focus (apply H.rc; (repeat (first | with_reducible exact List.mem_cons_self | with_reducible apply List.mem_cons_of_mem)); done)) | (apply RecAt.bel (hb := H.bel); assumption))) | ((with_reducible apply ld_rec); rfl; rfl; (first | (focus (apply H.rc; (repeat (first | with_reducible exact List.mem_cons_self | with_reducible apply List.mem_cons_of_mem)); done)) | (apply RecAt.bel (hb := H.bel); assumption))) | ((with_reducible apply arm_app (H.nilRow 82 4) (ht := Tryz.underlying31) (hinfo := info_field) (hzs := rfl) (hsz := by decide)); (conv => lhs; whnf); (conv => lhs; whnf); (intro v; exact .head _ _ _); (focus (exact Hf.out.below H.bel; done)); (focus (exact fieldsL_one _; done)); (focus (have := Hfew.out; unfold maxLen; omega; done)); (focus (have := Hfew.out; omega; done)); clear H; intro wn vn H; have T1 : Hid (vn.oneCell' = true) := Lib.hid (by obtain ⟨_, _, _, rfl⟩ := H.rowSlice (v := vn) (by (repeat (first | with_reducible exact List.mem_cons_self | with_reducible apply List.mem_cons_of_mem))); rfl)) | ((with_reducible apply st_F H); rfl; rfl; (conv => lhs; whnf); (repeat (first | with_reducible apply Upd.head | with_reducible apply Upd.tail)); (first | exact ⟨_, _, _, rfl⟩ | (focus (apply H.rowSlice; (repeat (first | with_reducible exact List.mem_cons_self | with_reducible apply List.mem_cons_of_mem)); done))); clear H; intro wn H) | ((with_reducible apply st_rec H); rfl; rfl; rfl; (repeat (first | with_reducible apply Upd.head | with_reducible apply Upd.tail)); (first | assumption | (refine Hid.out ?_; assumption)); (first | rfl | assumption | (refine Hid.out ?_; assumption)); clear H; intro wn H))
  all_goals first | (rw [Exit.noGoto_ret]) | skip
  have hR := (H.rc (b := kR) (r := r) (s := vn) (by (repeat (first | with_reducible exact List.mem_cons_self | with_reducible apply List.mem_cons_of_mem)))).1
  refine bodyPost_ret (results_cell_one Tryz.results91 _ _ kR (rA r vn) _ rfl hR Tryz.underlying33 rfl (rA_info Hok.out)) rfl ⟨vn, rfl, ?_⟩
  have := H.sub (Γ' := [Res.row 82 4 vn (0 + r.f.length) ([] ++ fieldsL r.f)]) (by (repeat (first | with_reducible exact List.Sublist.refl _ | with_reducible refine List.Sublist.cons_cons _ ?_ | refine List.Sublist.cons _ ?_)))
  rw [Nat.zero_add] at this
  exact this
end Go.Proofs.YtolbmemogoojhaaGreat
