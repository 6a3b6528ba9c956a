/- Two books joined: where they are not. -/
import Derived.Test.YtolbmemogoojhaaBookF
import Derived.Test.YtolbmemogoojhaaBookJ
import Derived.Test.YtolbmemogoojhaaSlots
namespace Go.Proofs.Ytolbmemogoojhaa
open Go Go.RowKit Go.Deep
set_option linter.unusedVariables false
set_option linter.unusedSimpArgs false
set_option maxRecDepth 100000
theorem bk_zero : (Try.prog.info? 24).map (·.zero) = some (some (.agg #[.slice none 0 0])) := by kernel_rfl
theorem bk_info {v : Value} : (Try.prog.info? 24).map (·.size) = some (#[v] : Array Value).size := by kernel_rfl
theorem bk_built : Try.prog.built 24 [] = some #[.slice none 0 0] := by kernel_rfl
section
variable {ops : Array Oper} {rest : List Oper} {a : Act} {w0 w : World} {Q : Exit → Act → World → Prop} {Γ Γ' : List Res}
variable {dst : Option Tmp} {typ t : TypeId} {x y : Operand} {pos : String} {af : Array Edge} {gd : Option (Nat × Bool)} {b off : Nat} {v v' : Value}
theorem al_bk (H : St w0 w Γ) (h : ∀ w' b, St w0 w' (Res.blk b 24 #[.slice none 0 0] :: Γ) → wpList Try.prog ops Q rest (a.put dst (.pointer (some ⟨b, 0, none⟩))) w') : wpList Try.prog ops Q (⟨dst, .alloc 24, typ, pos, af, none⟩ :: rest) a w := arm_alloc H bk_zero rfl h
theorem ld_bk (hw : Region.wanted (⟨dst, .load 24 x, typ, pos, af, gd⟩ : Oper) (yielded ops a.tmps) = true) (hx : a.eval x = .pointer (some ⟨b, off, none⟩)) (h : Sub w b off #[v]) (k : wpList Try.prog ops Q rest (a.put dst (.agg #[v])) w) : wpList Try.prog ops Q (⟨dst, .load 24 x, typ, pos, af, gd⟩ :: rest) a w :=
  arm_ld hw hx h Try.underlying24 rfl bk_info k
theorem bd_bk0 (h : wpList Try.prog ops Q rest (a.put dst (.agg #[.slice none 0 0])) w) : wpList Try.prog ops Q (⟨dst, .build 24 #[], typ, pos, af, none⟩ :: rest) a w :=
  wpList_build_to rfl 24 #[] rfl dst rfl _ (by simp only [List.map_toArray, List.map_nil]; exact bk_built) h
theorem st_bk (H : St w0 w Γ) (hw : Region.wanted (⟨dst, .store 24 x y, typ, pos, af, gd⟩ : Oper) (yielded ops a.tmps) = true) (hx : a.eval x = .pointer (some ⟨b, 0, none⟩)) (hy : a.eval y = .agg #[v'])
    (u : Upd Γ (Res.blk b t #[v]) (Res.blk b t #[v']) Γ') (h1 : v'.oneCell' = true) (h : ∀ w', St w0 w' Γ' → wpList Try.prog ops Q rest (a.put dst undef) w') : wpList Try.prog ops Q (⟨dst, .store 24 x y, typ, pos, af, gd⟩ :: rest) a w :=
  arm_st H hw hx hy u bk_info (Nat.le_refl _) (by simp [h1]) rfl h
end
theorem Recs.one {w : World} {v : Value} {L : BK} (h : Recs w v L) : v.oneCell' = true := by obtain ⟨a, c, rfl, _⟩ := h.slice; rfl
set_option maxHeartbeats 1600000 in
theorem bkjoin_arg (va vb : Value) (A B : BK) (hc : (bMay A && bMay B) = false) (w : World) (ha : Recs w va A) (hb : Recs w vb B) : Calls Try.prog 23 #[.agg #[va], .agg #[vb]] w fun e w' => e = .returned (.tuple #[.agg #[.slice none 0 0], .int .i64 1]) ∧ Below w.heap.size w w' := by
  obtain ⟨p, hp⟩ : ∃ p, Hid (bMay A = p) := ⟨_, rfl⟩
  obtain ⟨q, hq⟩ : ∃ q, Hid (bMay B = q) := ⟨_, rfl⟩
  rw [hp.out, hq.out] at hc
  have Ha := Lib.hid ha; have Hb := Lib.hid hb; clear ha hb
  have Hone : Hid (Value.oneCell' (.slice none 0 0) = true) := Lib.hid rfl
  have H := St.init w
  have hcase : p = false ∨ p = true ∧ q = false := by cases p <;> cases q <;> simp_all
  clear hc
  rcases hcase with rfl | ⟨rfl, rfl⟩
  all_goals
    go_enter Try.func23, Try.ntmps23
    go_wp2_with (first | go_skip | ((fail_if_success have := kA); (with_reducible apply arm_box H); rfl; clear H; intro wn kA H) | ((fail_if_success have := kB); (with_reducible apply arm_box H); rfl; clear H; intro wn kB H) | ((fail_if_success have := kR); (with_reducible apply al_bk H); clear H; intro wn kR H) | ((with_reducible apply ld_bk); rfl; rfl; (focus (apply H.one; (repeat (first | with_reducible exact List.mem_cons_self | with_reducible apply List.mem_cons_of_mem)); done))) | (with_reducible apply bd_bk0) | ((with_reducible apply st_bk H); rfl; rfl; rfl; (repeat (first | with_reducible apply Upd.head | with_reducible apply Upd.tail)); (first | rfl | assumption | (refine Hid.out ?_; assumption)); clear H; intro wn H) | (go_at_call 22; first | ((with_reducible refine (bkmay_v hp.out _ (Ha.out.below H.bel)).mono ?_); rintro e wn ⟨rfl, hb⟩; replace H := H.call hb; clear hb) | ((with_reducible refine (bkmay_v hq.out _ (Hb.out.below H.bel)).mono ?_); rintro e wn ⟨rfl, hb⟩; replace H := H.call hb; clear hb)))
    all_goals first | (rw [Exit.noGoto_ret]) | skip
    have hR := H.arr (b := kR) (t := 24) (cs := #[.slice none 0 0]) (by (repeat (first | with_reducible exact List.mem_cons_self | with_reducible apply List.mem_cons_of_mem)))
    exact bodyPost_ret (results_cell_tmp Try.results23 _ _ kR #[.slice none 0 0] _ _ rfl rfl hR Try.underlying24 rfl bk_info) rfl ⟨rfl, H.bel⟩
end Go.Proofs.Ytolbmemogoojhaa
