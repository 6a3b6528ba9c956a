/- A book with what a record tells. -/
import Derived.Test.YtolbmemogoojhaaBookM
import Derived.Test.YtolbmemogoojhaaSlotsM
namespace Go.Proofs.Ytolbmemogoojhaa
open Go Go.RowKit Go.Deep
set_option linter.unusedVariables false
set_option linter.unusedSimpArgs false
set_option maxRecDepth 100000
section
variable {ops : Array Oper} {rest : List Oper} {a : Act} {w0 w : World} {Q : Exit → Act → World → Prop} {Γ : List Res} {dst : Option Tmp} {typ : TypeId} {x y : Operand} {pos : String} {af : Array Edge} {no N R : Int} {S : ByteArray} {A : Array Value} {r : RD} {p : Option Addr} {n c : Nat}
theorem built_fld3 {no N R : Int} {S : ByteArray} : Try.prog.built 51 [(0, .int .i64 no), (1, .agg #[.int .i64 N, .int .i64 R, .string S])] = some #[.int .i64 no, .int .i64 N, .int .i64 R, .string S] := by kernel_rfl
theorem built_cel3 {N R : Int} {S : ByteArray} : Try.prog.built 46 [(0, .agg #[.int .i64 N, .int .i64 R]), (1, .string S)] = some #[.int .i64 N, .int .i64 R, .string S] := by kernel_rfl
theorem built_bk3 {p : Option Addr} {n c : Nat} : Try.prog.built 24 [(0, .slice p n c)] = some #[.slice p n c] := by kernel_rfl
theorem bd_fld3 (hx : a.eval x = .int .i64 no) (hy : a.eval y = .agg #[.int .i64 N, .int .i64 R, .string S]) (h : wpList Try.prog ops Q rest (a.put dst (.agg #[.int .i64 no, .int .i64 N, .int .i64 R, .string S])) w) :
    wpList Try.prog ops Q (⟨dst, .build 51 #[(0, x), (1, y)], typ, pos, af, none⟩ :: rest) a w :=
  wpList_build_to rfl 51 #[(0, x), (1, y)] rfl dst rfl _ (by simp only [List.map_toArray, List.map_cons, List.map_nil, hx, hy]; exact built_fld3) h
theorem bd_cel3 (hx : a.eval x = .agg #[.int .i64 N, .int .i64 R]) (hy : a.eval y = .string S) (h : wpList Try.prog ops Q rest (a.put dst (.agg #[.int .i64 N, .int .i64 R, .string S])) w) :
    wpList Try.prog ops Q (⟨dst, .build 46 #[(0, x), (1, y)], typ, pos, af, none⟩ :: rest) a w :=
  wpList_build_to rfl 46 #[(0, x), (1, y)] rfl dst rfl _ (by simp only [List.map_toArray, List.map_cons, List.map_nil, hx, hy]; exact built_cel3) h
theorem bd_bk3 (hx : a.eval x = .slice p n c) (h : wpList Try.prog ops Q rest (a.put dst (.agg #[.slice p n c])) w) :
    wpList Try.prog ops Q (⟨dst, .build 24 #[(0, x)], typ, pos, af, none⟩ :: rest) a w :=
  wpList_build_to rfl 24 #[(0, x)] rfl dst rfl _ (by simp only [List.map_toArray, List.map_cons, List.map_nil, hx]; exact built_bk3) h
theorem bd_recF (hx : a.eval x = .agg A) (hy : a.eval y = .slice p n c) (hb : Try.prog.built 38 [(0, .agg A), (2, .slice p n c)] = some (rA r (.slice p n c))) (h : wpList Try.prog ops Q rest (a.put dst (.agg (rA r (.slice p n c)))) w) :
    wpList Try.prog ops Q (⟨dst, .build 38 #[(0, x), (2, y)], typ, pos, af, none⟩ :: rest) a w :=
  wpList_build_to rfl 38 #[(0, x), (2, y)] rfl dst rfl _ (by simp only [List.map_toArray, List.map_cons, List.map_nil, hx, hy]; exact hb) h
theorem bd_recD (hx : a.eval x = .agg A) (hy : a.eval y = .agg #[.int .i64 N, .int .i64 R]) (hb : Try.prog.built 38 [(0, .agg A), (1, .agg #[.int .i64 N, .int .i64 R])] = some (rA r (.slice none 0 0))) (h : wpList Try.prog ops Q rest (a.put dst (.agg (rA r (.slice none 0 0)))) w) :
    wpList Try.prog ops Q (⟨dst, .build 38 #[(0, x), (1, y)], typ, pos, af, none⟩ :: rest) a w :=
  wpList_build_to rfl 38 #[(0, x), (1, y)] rfl dst rfl _ (by simp only [List.map_toArray, List.map_cons, List.map_nil, hx, hy]; exact hb) h
theorem bs_fld3 (H : St w0 w Γ) (hx : a.eval x = .agg #[.int .i64 no, .int .i64 N, .int .i64 R, .string S]) (h : ∀ w' b, St w0 w' (Res.row 51 4 (.slice (some ⟨b, 0, none⟩) 1 1) 1 (fieldsL [(no, N, R, S)]) :: Γ) → wpList Try.prog ops Q rest (a.put dst (.slice (some ⟨b, 0, none⟩) 1 1)) w') : wpList Try.prog ops Q (⟨dst, .buildSlice 36 1 #[(0, x)], typ, pos, af, none⟩ :: rest) a w :=
  arm_bslice1 H hx (cs := fieldsL [(no, N, R, S)]) (by simp [Value.cells, fieldsL]) Try.underlying36 info_field rfl rfl (by decide) (by decide) h
end
def rW (key : IDK) (no : Int) (v : ByteArray) (N R : Int) : RD := ⟨key.1, 0, 0, [(no, N, R, v)]⟩
def rK (key : IDK) (N R : Int) : RD := ⟨key.1, N, R, []⟩
set_option maxHeartbeats 800000 in
theorem tellW (key : IDK) (no : Int) (v : ByteArray) (N R : Int) {x : RD} (hxx : rW key no v N R = x) (k1 k2 k3 : Nat) (w : World) (hk : Sub w k1 0 (encU key.1).toArray) (hn : Sub w k2 0 #[.int .i64 no]) (hv : Sub w k3 0 #[.string v]) :
    Calls Try.prog 61 #[.agg #[.int .i64 N, .int .i64 R], .pointer (some ⟨k1, 0, none⟩), .pointer (some ⟨k2, 0, none⟩), .pointer (some ⟨k3, 0, none⟩)] w fun e w' => ∃ s, e = .returned (.agg (rA x s)) ∧ Flds w' s x.f ∧ Below w.heap.size w w' := by
  have Hk := Lib.hid hk; have Hno := Lib.hid hn; have Hv := Lib.hid hv; clear hk hn hv
  have Hok : Hid x.ok := Lib.hid (by rw [← hxx]; exact key.2)
  have Hbo : Hid (∀ p n c, Try.prog.built 38 [(0, .agg (encU key.1).toArray), (2, .slice p n c)] = some (rA x (.slice p n c))) := Lib.hid fun p n c => by rw [← hxx]; exact built_id_f (encU_arr16 key.2) p n c
  have Hbd : Hid True := Lib.hid trivial
  have Hf : Hid (x.f = [(no, N, R, v)]) := Lib.hid (by rw [← hxx]; rfl)
  have H := St.init w
  clear hxx
  go_enter Try.func61, Try.ntmps61
  go_wp2_with (first | go_skip | ((fail_if_success have := kS); (with_reducible apply arm_box H); rfl; clear H; intro wn kS H) | ((fail_if_success have := kR); (with_reducible apply al_rec H); clear H; intro wn kR H) | ((with_reducible apply ld_idS (k := key)); rfl; rfl; exact Hk.out.keep H.bel) | ((with_reducible refine ld_one (ty := 3) Try.underlying3 rfl ?_ ?_ (Hno.out.keep H.bel) ?_); rfl; rfl) | ((with_reducible refine ld_one (ty := 9) Try.underlying9 rfl ?_ ?_ (Hv.out.keep H.bel) ?_); rfl; rfl) | ((with_reducible apply ld_stp); rfl; rfl; (focus (apply H.arr; (repeat (first | with_reducible exact List.mem_cons_self | with_reducible apply List.mem_cons_of_mem)); done))) | ((with_reducible apply bs_fld3 H); rfl; clear H; intro wn b H) | ((with_reducible apply bd_recF); rfl; rfl; exact Hbo.out _ _ _) | ((with_reducible apply bd_recD); rfl; rfl; exact Hbd.out) | ((with_reducible apply st_rec H); rfl; rfl; rfl; (repeat (first | with_reducible apply Upd.head | with_reducible apply Upd.tail)); (first | assumption | (refine Hid.out ?_; assumption)); (first | rfl | assumption | (refine Hid.out ?_; assumption)); clear H; intro wn H))
  all_goals first | (rw [Exit.noGoto_ret]) | skip
  have hR := (H.rc (b := kR) (r := x) (by (repeat (first | with_reducible exact List.mem_cons_self | with_reducible apply List.mem_cons_of_mem)))).1
  refine bodyPost_ret (results_cell_one Try.results61 _ _ kR (rA x _) _ rfl hR Try.underlying38 rfl (rA_info Hok.out)) rfl ⟨_, rfl, ?_, H.bel⟩
  rw [Hf.out]
  exact (show Row _ 4 _ 1 (fieldsL [(no, N, R, v)]) from H.rowRead (by (repeat (first | with_reducible exact List.mem_cons_self | with_reducible apply List.mem_cons_of_mem))))
set_option maxHeartbeats 800000 in
theorem tellK (key : IDK) (N R : Int) {x : RD} (hxx : rK key N R = x) (k1 : Nat) (w : World) (hk : Sub w k1 0 (encU key.1).toArray) :
    Calls Try.prog 66 #[.agg #[.int .i64 N, .int .i64 R], .pointer (some ⟨k1, 0, none⟩)] w fun e w' => ∃ s, e = .returned (.agg (rA x s)) ∧ Flds w' s x.f ∧ Below w.heap.size w w' := by
  have Hk := Lib.hid hk; clear hk
  have Hok : Hid x.ok := Lib.hid (by rw [← hxx]; exact key.2)
  have Hbd : Hid (Try.prog.built 38 [(0, .agg (encU key.1).toArray), (1, .agg #[.int .i64 N, .int .i64 R])] = some (rA x (.slice none 0 0))) := Lib.hid (by rw [← hxx]; exact built_id_dead (encU_arr16 key.2) N R)
  have Hf : Hid (x.f = []) := Lib.hid (by rw [← hxx]; rfl)
  have Hone0 : Hid (Value.oneCell' (.slice none 0 0) = true) := Lib.hid rfl
  have Hbo : Hid True := Lib.hid trivial
  have Hno : Hid True := Lib.hid trivial
  have Hv : Hid True := Lib.hid trivial
  have H := St.init w
  clear hxx
  go_enter Try.func66, Try.ntmps66
  go_wp2_with (first | go_skip | ((fail_if_success have := kS); (with_reducible apply arm_box H); rfl; clear H; intro wn kS H) | ((fail_if_success have := kR); (with_reducible apply al_rec H); clear H; intro wn kR H) | ((with_reducible apply ld_idS (k := key)); rfl; rfl; exact Hk.out.keep H.bel) | ((with_reducible refine ld_one (ty := 3) Try.underlying3 rfl ?_ ?_ (Hno.out.keep H.bel) ?_); rfl; rfl) | ((with_reducible refine ld_one (ty := 9) Try.underlying9 rfl ?_ ?_ (Hv.out.keep H.bel) ?_); rfl; rfl) | ((with_reducible apply ld_stp); rfl; rfl; (focus (apply H.arr; (repeat (first | with_reducible exact List.mem_cons_self | with_reducible apply List.mem_cons_of_mem)); done))) | ((with_reducible apply bs_fld3 H); rfl; clear H; intro wn b H) | ((with_reducible apply bd_recF); rfl; rfl; exact Hbo.out _ _ _) | ((with_reducible apply bd_recD); rfl; rfl; exact Hbd.out) | ((with_reducible apply st_rec H); rfl; rfl; rfl; (repeat (first | with_reducible apply Upd.head | with_reducible apply Upd.tail)); (first | assumption | (refine Hid.out ?_; assumption)); (first | rfl | assumption | (refine Hid.out ?_; assumption)); clear H; intro wn H))
  all_goals first | (rw [Exit.noGoto_ret]) | skip
  have hR := (H.rc (b := kR) (r := x) (by (repeat (first | with_reducible exact List.mem_cons_self | with_reducible apply List.mem_cons_of_mem)))).1
  refine bodyPost_ret (results_cell_one Try.results66 _ _ kR (rA x _) _ rfl hR Try.underlying38 rfl (rA_info Hok.out)) rfl ⟨_, rfl, ?_, H.bel⟩
  rw [Hf.out]
  exact Flds.nil _
end Go.Proofs.Ytolbmemogoojhaa
