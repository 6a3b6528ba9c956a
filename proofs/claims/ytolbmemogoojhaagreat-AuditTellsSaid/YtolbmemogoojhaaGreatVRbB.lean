/- The document's books: what is found, a record of its own. -/
import Derived.Test.YtolbmemogoojhaaGreatVRbA
namespace Go.Proofs.YtolbmemogoojhaaGreat
open Go Go.RowKit Go.Deep
set_option linter.unusedVariables false
set_option linter.unusedSimpArgs false
set_option maxRecDepth 100000
set_option maxHeartbeats 1600000 in
theorem rbown_c (r : RD) (s : Value) (hok : r.ok) (hfew : r.f.length ≤ 1000) (w : World) (hf : Flds w s r.f) : Calls Tryz.prog 91 #[.agg (rA r s)] w fun e w' => ∃ s', e = .returned (.agg (rA r s')) ∧ St w w' [Res.row 82 4 s' r.f.length (fieldsL r.f)] := by
  have Hok := Lib.hid hok; have Hfew := Lib.hid hfew; have Hf := Lib.hid hf
  have Hone : Hid (s.oneCell' = true) := Lib.hid (flds_one hf)
  have HoneN : Hid (Value.oneCell' (.slice none 0 0) = true) := Lib.hid rfl
  clear hok hfew hf
  have H := St.init w
  go_enter Tryz.func91, Tryz.ntmps91
  go_wp2_with (first | go_skip | ((fail_if_success have := kA); (with_reducible apply bx_rec H); rfl; (first | assumption | (refine Hid.out ?_; assumption)); clear H; intro wn kA H) | ((fail_if_success have := kR); (with_reducible apply al_rec H); clear H; intro wn kR H) | ((with_reducible apply ld_F); rfl; rfl; (first | (focus (apply H.rc; (repeat (first | with_reducible exact mH | with_reducible apply mT)); done)) | (apply RecAt.bel (hb := H.bel); assumption))) | ((with_reducible apply ld_rec); rfl; rfl; (first | (focus (apply H.rc; (repeat (first | with_reducible exact mH | with_reducible apply mT)); done)) | (apply RecAt.bel (hb := H.bel); assumption))) | ((with_reducible apply arm_app (H.nilRow 82 4) (ht := Tryz.underlying31) (hinfo := info_field) (hzs := rfl) (hsz := by decide)); (conv => lhs; whnf); (conv => lhs; whnf); (intro v; exact .head _ _ _); (focus (exact Hf.out.below H.bel; done)); (focus (exact fieldsL_one _; done)); (focus (have := Hfew.out; unfold maxLen; omega; done)); (focus (have := Hfew.out; omega; done)); clear H; intro wn vn H; have T1 : Hid (vn.oneCell' = true) := Lib.hid (by obtain ⟨_, _, _, rfl⟩ := H.rowSlice (v := vn) (by (repeat (first | with_reducible exact mH | with_reducible apply mT))); rfl)) | ((with_reducible apply st_F H); rfl; rfl; (conv => lhs; whnf); (repeat (first | with_reducible apply Upd.head | with_reducible apply Upd.tail)); (first | exact ⟨_, _, _, rfl⟩ | (focus (apply H.rowSlice; (repeat (first | with_reducible exact mH | with_reducible apply mT)); done))); clear H; intro wn H) | ((with_reducible apply st_rec H); rfl; rfl; rfl; (repeat (first | with_reducible apply Upd.head | with_reducible apply Upd.tail)); (first | assumption | (refine Hid.out ?_; assumption)); (first | rfl | assumption | (refine Hid.out ?_; assumption)); clear H; intro wn H))
  all_goals first | (rw [Exit.noGoto_ret]) | skip
  have hR := (H.rc (b := kR) (r := r) (s := vn) (by (repeat (first | with_reducible exact mH | with_reducible apply mT)))).1
  refine bodyPost_ret (results_cell_one Tryz.results91 _ _ kR (rA r vn) _ rfl hR Tryz.underlying33 rfl (rA_info Hok.out)) rfl ⟨vn, rfl, ?_⟩
  have := H.sub (Γ' := [Res.row 82 4 vn (0 + r.f.length) ([] ++ fieldsL r.f)]) (by (repeat (first | with_reducible exact List.Sublist.refl _ | with_reducible refine List.Sublist.cons_cons _ ?_ | refine List.Sublist.cons _ ?_)))
  rw [Nat.zero_add] at this
  exact this
end Go.Proofs.YtolbmemogoojhaaGreat
