/- What catches what goes wrong. -/
import Derived.Test.YtolbmemogoojhaaGreatKCanE
namespace Go.Proofs.YtolbmemogoojhaaGreat
open Go Go.RowKit Go.Deep
set_option linter.unusedVariables false
set_option linter.unusedSimpArgs false
set_option maxRecDepth 100000
theorem bool_info : (Tryz.prog.info? 4).map (·.size) = some 1 := by kernel_rfl
theorem bool_zero : (Tryz.prog.info? 4).map (·.zero) = some (some (.bool false)) := by kernel_rfl
theorem wrong_zero : (Tryz.prog.info? 105).map (·.zero) = some (some (.agg #[])) := by kernel_rfl
theorem wrong_info : (Tryz.prog.info? 105).map (·.size) = some (#[] : Array Value).size := by kernel_rfl
section
variable {ops : Array Oper} {rest : List Oper} {a : Act} {w0 w : World} {Q : Exit → Act → World → Prop} {Γ Γ' : List Res} {dst : Option Tmp} {typ t : TypeId} {x y : Operand} {pos : String} {af : Array Edge} {gd : Option (Nat × Bool)} {b off : Nat}
theorem st_wrong (H : St w0 w Γ) (hw : Region.wanted (⟨dst, .store 105 x y, typ, pos, af, gd⟩ : Oper) (yielded ops a.tmps) = true) (hx : a.eval x = .pointer (some ⟨b, 0, none⟩)) (hy : a.eval y = .agg #[])
    (u : Upd Γ (Res.blk b t #[]) (Res.blk b t #[]) Γ') (h : ∀ w', St w0 w' Γ' → wpList Tryz.prog ops Q rest (a.put dst undef) w') : wpList Tryz.prog ops Q (⟨dst, .store 105 x y, typ, pos, af, gd⟩ :: rest) a w :=
  arm_st H hw hx hy u wrong_info (Nat.le_refl _) (by simp) rfl h
end
/-- Two results that lie in variables. -/
theorem results_cells {fn : Func} {p q : Tmp} {ty ty2 : TypeId} {P : Program} (h : fn.results = #[.cell p ty, .cell q ty2]) (tmps : Array Value) (w : World) (g g2 : Nat) (x y : Value)
    (hp : tmps.getD p undef = .pointer (some ⟨g, 0, none⟩)) (hy : tmps.getD q undef = .pointer (some ⟨g2, 0, none⟩))
    (h1 : (loadVar ty ⟨g, 0, none⟩).run P w = .ok x w) (h2 : (loadVar ty2 ⟨g2, 0, none⟩).run P w = .ok y w) :
    (results fn tmps).run P w = .ok (.tuple #[x, y]) w := by
  have hp' : tmps[p]?.getD undef = .pointer (some ⟨g, 0, none⟩) := by simpa using hp
  have hy' : tmps[q]?.getD undef = .pointer (some ⟨g2, 0, none⟩) := by simpa using hy
  simp [results, h, hp', hy', asAddr, h1, h2]
theorem ta_wrong (W : World) : (Instr.typeAssert (.iface 105 (.agg #[])) 20 105 true).run Tryz.prog W = .ok (.tuple #[.agg #[], .bool true]) W := by kernel_rfl
set_option maxHeartbeats 6400000 in
theorem catch_wrong {w0 w : World} {Γ : List Res} {kO kI : Nat} {s : Value} {b : Bool} (H : St w0 w (Res.blk kO 24 #[s] :: Res.blk kI 4 #[.bool b] :: Γ)) :
    CallsD Tryz.prog 76 #[.pointer (some ⟨kO, 0, none⟩), .pointer (some ⟨kI, 0, none⟩)] (.panicking [wrongP]) w fun e u' w' =>
      e = .returned (.tuple #[]) ∧ u' = .panicking [{ v := .iface 105 (.agg #[]), recovered := true }] ∧ St w0 w' (Res.blk kO 24 #[.slice none 0 0] :: Res.blk kI 4 #[.bool false] :: Γ) := by
  refine callsD_of_wpS Tryz.func76 rfl fun c₀ cs hu => ?_
  apply wpS_seq
  apply wpS_region
  simp [wpOpsS, go_sem, recoverD, hu, wrongP, Tryz.ntmps76, Exit.thenS]
  refine wpS_of_wp ?_
  have hta := ta_wrong
  go_wp2_with (first | go_skip | ((fail_if_success have := kW); (with_reducible apply arm_alloc H wrong_zero); rfl; clear H; intro wn kW H) | ((with_reducible apply st_wrong H); rfl; rfl; rfl; (repeat (first | with_reducible apply Upd.head | with_reducible apply Upd.tail)); clear H; intro wn H) | (with_reducible apply bd_bk0) | ((with_reducible apply st_bk H); rfl; rfl; rfl; (repeat (first | with_reducible apply Upd.head | with_reducible apply Upd.tail)); (first | rfl | assumption | (refine Hid.out ?_; assumption)); clear H; intro wn H) | ((with_reducible apply st_on bool_info H); rfl; rfl; (conv => lhs; whnf); (repeat (first | with_reducible apply Upd.head | with_reducible apply Upd.tail)); rfl; (first | rfl | assumption | (refine Hid.out ?_; assumption)); clear H; intro wn H))
  exact ⟨rfl, .panicking [{ v := .iface 105 (.agg #[]), recovered := true }], rfl, .tuple #[], by simp [results, Tryz.results76], rfl, rfl, H.sub (by (repeat (first | with_reducible exact List.Sublist.refl _ | with_reducible refine List.Sublist.cons_cons _ ?_ | refine List.Sublist.cons _ ?_)))⟩
theorem catch_idle {kO kI : Nat} {w : World} :
    CallsD Tryz.prog 76 #[.pointer (some ⟨kO, 0, none⟩), .pointer (some ⟨kI, 0, none⟩)] .returning w fun e u' w' => e = .returned (.tuple #[]) ∧ u' = .returning ∧ w' = w := by
  refine callsD_of_wpS Tryz.func76 rfl fun c₀ cs hu => ?_
  apply wpS_seq
  apply wpS_region
  simp [wpOpsS, go_sem, recoverD, hu, Tryz.ntmps76, Exit.thenS]
  refine wpS_of_wp ?_
  go_wp2
  cases c₀
  simp_all [bodyPostS, results, Tryz.results76]
end Go.Proofs.YtolbmemogoojhaaGreat
