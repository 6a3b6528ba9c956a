/- The book whose bytes they are. -/
import Derived.Test.YtolbmemogoojhaaGreatKCanF
namespace Go.Proofs.YtolbmemogoojhaaGreat
open Go Go.RowKit Go.Deep
set_option linter.unusedVariables false
set_option linter.unusedSimpArgs false
set_option maxRecDepth 100000
/-- What the reading of a book gives. -/
def gEnd (o : Option (BK × List UInt8)) : Option BK := match o with
  | none => none
  | some (L, t) => if t = [] ∧ bMay L = true then some L else none
theorem gBook_eq {bs : List UInt8} {n : Nat} {t : List UInt8} (h : gMany 10 bs = some (n, t)) : gBook bs = gEnd (gList gRec n t) := by
  unfold gBook gEnd gBk
  rw [h]
  rfl
theorem gBook_none {bs : List UInt8} (h : gMany 10 bs = none) : gBook bs = none := by
  unfold gBook gBk
  rw [h]
def GotP (w : World) (L : BK) (e : Ending) (w' : World) : Prop := ∃ v r, e = .returned (.tuple #[.agg #[v], .bool true]) ∧ (∀ W, r.holds W → Recs W v L) ∧ St w w' [r]
def GetP (w : World) (o : Option BK) (e : Ending) (w' : World) : Prop :=
  match o with
  | none => e = .returned (.tuple #[.agg #[.slice none 0 0], .bool false]) ∧ Below w.heap.size w w'
  | some L => GotP w L e w'
def LOk8 (R : Res) (L : RS) : Prop := (∀ p ∈ L, p.1.ok ∧ p.2.oneCell' = true) ∧ ∀ W, R.holds W → ∀ p ∈ L, Flds W p.2 p.1.f
theorem LOk8.nil : LOk8 Res.none [] := ⟨(fun p hp => nomatch hp), fun W _ => (fun p hp => nomatch hp)⟩
theorem LOk8.more {R : Res} {L : RS} {r : RD} {s : Value} (h : LOk8 R L) (hok : r.ok) (hs : s.oneCell' = true) : LOk8 ((Res.row 82 4 s r.f.length (fieldsL r.f)).and R) (L ++ [(r, s)]) := by
  refine ⟨fun p hp => ?_, fun W hW p hp => ?_⟩
  · rcases List.mem_append.1 hp with hp | hp
    · exact h.1 p hp
    · rw [List.mem_singleton.1 hp]; exact ⟨hok, hs⟩
  · rcases List.mem_append.1 hp with hp | hp
    · exact h.2 W hW.2 p hp
    · rw [List.mem_singleton.1 hp]; exact Res.row_reads hW.1
theorem LOk8.recs {R : Res} {L : RS} {v : Value} {W : World} (h : LOk8 R L) (hW : R.holds W) (hr : Row W 19 v L.length (recsL L)) : Recs W v (L.map (·.1)) :=
  ⟨L, rfl, hr, fun p hp => ⟨(h.1 p hp).1, h.2 W hW p hp⟩⟩
section
variable {α : Type}
theorem perm_start (n r a b c : α) : [a, b, c, n, r].Perm [n, r, a, b, c] := (List.perm_append_comm (l₁ := [a, b, c]) (l₂ := [n, r]))
theorem perm_in (a f b c R r : α) : [f, R, a, b, c, r].Perm [a, f, b, c, R, r] :=
  (List.Perm.cons f (List.perm_middle (l₁ := [a, b, c]) (l₂ := [r]) (a := R)).symm).trans (List.Perm.swap a f _)
theorem perm_out (R a b c r : α) : [a, b, c, R, r].Perm [R, a, b, c, r] := List.perm_middle (l₁ := [a, b, c]) (l₂ := [r]) (a := R)
theorem perm_end (a i o R r : α) : [o, i, a, R, r].Perm [a, i, o, R, r] := (List.Perm.swap i o _).trans ((List.Perm.cons i (List.Perm.swap a o _)).trans (List.Perm.swap a i _))
end
theorem ex_ldB {ev : Operand → Value} {dst : Option Tmp} {typ : TypeId} {pos : String} {af : Array Edge} {gd : Option (Nat × Bool)} {x : Operand} {k : Nat} {s : Value} {W : World} (hx : ev x = .pointer (some ⟨k, 0, none⟩)) (h : Sub W k 0 #[s]) : (execOp ev ⟨dst, .load 22 x, typ, pos, af, gd⟩).run Tryz.prog W = .ok (.value s) W := by
  unfold execOp
  have := run_load_one (P := Tryz.prog) W k 0 22 s _ h Tryz.underlying22 rfl
  simp only [hx, Instr.loadAt, Instr.sureAddr, Sem.run_bind, this, Result.andThen_ok, Sem.run_pure]
theorem recs_info : (Tryz.prog.info? 22).map (·.size) = some 1 := by kernel_rfl
/-- What goes wrong does not hang on what is put beside the results. -/
theorem results_put {t : Array Value} {i : Nat} {v : Value} (h2 : i ≠ 2) (h3 : i ≠ 3) (w : World) : (results Tryz.f41 (t.setIfInBounds i v)).run Tryz.prog w = (results Tryz.f41 t).run Tryz.prog w := by
  simp [results, Tryz.results41, h2, h3]
theorem leaves_tmps {fn : Func} {t t' : Array Value} {R : Ending → World → Prop} (h : ∀ w, (results fn t).run Tryz.prog w = (results fn t').run Tryz.prog w) : ∀ (ds : List Deferred) (u : FrameMode) (w : World), Leaves Tryz.prog fn t R ds u w → Leaves Tryz.prog fn t' R ds u w
  | [], .returning, w, ⟨v, h1, h2⟩ => ⟨v, by rw [← h w]; exact h1, h2⟩
  | [], .panicking _, w, h1 => h1
  | [], .run, w, h1 => h1
  | d :: ds, u, w, ⟨h1, fv, cap, f, args, h2, h3, h4⟩ => ⟨h1, fv, cap, f, args, h2, h3, h4.mono fun e u' w' h5 => by
      cases e with
      | returned v => exact leaves_tmps h ds _ _ h5
      | panicked c => exact leaves_tmps h ds _ _ h5
      | outgrown => exact h5⟩
theorem get_hQ {R : Ending → World → Prop} {i : Nat} {v : Value} (h2 : i ≠ 2) (h3 : i ≠ 3) : ∀ c (a : Act) w, bodyPostD Tryz.prog Tryz.f41 R (.panic c) (a.put (some i) v) w → bodyPostD Tryz.prog Tryz.f41 R (.panic c) a w :=
  fun c a w h => leaves_tmps (fun w => results_put h2 h3 w) _ _ _ h
/-- Behind the last deferred call. -/
theorem leaves_none {R : Ending → World → Prop} {tmps : Array Value} {w0 w : World} {Γ : List Res} {kO kI : Nat} {s : Value} {b : Bool} (H : St w0 w (Res.blk kO 24 #[s] :: Res.blk kI 4 #[.bool b] :: Γ))
    (h2 : tmps.getD 2 undef = .pointer (some ⟨kO, 0, none⟩)) (h3 : tmps.getD 3 undef = .pointer (some ⟨kI, 0, none⟩)) (hR : R (.returned (.tuple #[.agg #[s], .bool b])) w) :
    Leaves Tryz.prog Tryz.f41 tmps R [] .returning w := by
  have e1 := (H.blkOf (b := kO) (t := 24) (cs := #[s]) (by (repeat (first | with_reducible exact mH | with_reducible apply mT)))).subA
  have e2 := (H.blkOf (b := kI) (t := 4) (cs := #[.bool b]) (by (repeat (first | with_reducible exact mH | with_reducible apply mT)))).subA
  exact ⟨_, results_cells Tryz.results41 tmps w kO kI (.agg #[s]) (.bool b) h2 h3 (run_load_sub w kO 0 _ _ _ e1 Tryz.underlying24 rfl bk_info) (run_load_one (P := Tryz.prog) w kI 0 _ _ _ e2 Tryz.underlying4 rfl), hR⟩
theorem leave_wrong {w0 w : World} {Γ : List Res} {kO kI : Nat} {s : Value} {b : Bool} {o : Option BK} {tmps : Array Value} (H : St w0 w (Res.blk kO 24 #[s] :: Res.blk kI 4 #[.bool b] :: Γ)) (ho : o = none)
    (h2 : tmps.getD 2 undef = .pointer (some ⟨kO, 0, none⟩)) (h3 : tmps.getD 3 undef = .pointer (some ⟨kI, 0, none⟩)) :
    Leaves Tryz.prog Tryz.f41 tmps (GetP w0 o) [{ target := Target.fn (Fn.func 76) #[.pointer (some ⟨kO, 0, none⟩), .pointer (some ⟨kI, 0, none⟩)], args := #[] }] (.panicking [wrongP]) w := by
  refine leaves_cons (f := 76) (args := #[.pointer (some ⟨kO, 0, none⟩), .pointer (some ⟨kI, 0, none⟩)]) (by simp) (by simp [go_sem]) ?_
  refine (catch_wrong H).mono ?_
  rintro e u' w'' ⟨rfl, rfl, H3⟩
  subst ho
  exact leaves_none H3 h2 h3 ⟨rfl, H3.bel⟩
theorem leave_idle {w0 w : World} {Γ : List Res} {kO kI : Nat} {s : Value} {b : Bool} {R : Ending → World → Prop} {tmps : Array Value} (H : St w0 w (Res.blk kO 24 #[s] :: Res.blk kI 4 #[.bool b] :: Γ)) (hR : R (.returned (.tuple #[.agg #[s], .bool b])) w)
    (h2 : tmps.getD 2 undef = .pointer (some ⟨kO, 0, none⟩)) (h3 : tmps.getD 3 undef = .pointer (some ⟨kI, 0, none⟩)) :
    Leaves Tryz.prog Tryz.f41 tmps R [{ target := Target.fn (Fn.func 76) #[.pointer (some ⟨kO, 0, none⟩), .pointer (some ⟨kI, 0, none⟩)], args := #[] }] .returning w := by
  refine leaves_cons (f := 76) (args := #[.pointer (some ⟨kO, 0, none⟩), .pointer (some ⟨kI, 0, none⟩)]) (by simp) (by simp [go_sem]) ?_
  refine catch_idle.mono ?_
  rintro e u' w'' ⟨rfl, rfl, rfl⟩
  exact leaves_none H h2 h3 hR
set_option maxHeartbeats 25600000 in
theorem cnget_c {w : World} {v : Value} {bs : List UInt8} (hv : Byt w v bs) : Calls Tryz.prog 41 #[v] w (GetP w (gBook bs)) := by
  have hmf : ∀ (fn : Fn) (first cap : Array Value) (w : World), (Instr.makeFunc fn first cap).run Tryz.prog w = .ok (.func fn first cap) w := fun _ _ _ _ => rfl
  obtain ⟨fa, fc, rfl, _⟩ := byt_slice hv
  obtain ⟨nb, hnb⟩ : ∃ n, bs.length = n := ⟨_, rfl⟩
  rw [hnb] at hv ⊢
  have Hv := Lib.hid hv; clear hv hnb
  have H := St.init w
  cases hm : gMany 10 bs with
  | none =>
    rw [gBook_none hm]
    have Hm := Lib.hid hm; clear hm
    go_enter_defers Tryz.func41, Tryz.ntmps41
    go_wp2_with (first | go_skip | ((fail_if_success have := kO); (with_reducible apply al_bk H); clear H; intro wn kO H) | ((fail_if_success have := kI); (with_reducible apply al_one H bool_zero); rfl; clear H; intro wn kI H) | ((fail_if_success have := kr); (with_reducible apply arm_box H); rfl; clear H; intro wn kr H) | (go_at_call 77; (with_reducible refine (many_no z10 ge10 Hm.out H Hv.out).mono ?_); rintro e wn ⟨rfl, H2⟩; replace H := H2; clear H2))
    exact leave_wrong H.swap rfl rfl rfl
  | some p =>
    obtain ⟨n, t1⟩ := p
    rw [gBook_eq hm]
    obtain ⟨o, ho⟩ : ∃ o, gList gRec n t1 = o := ⟨_, rfl⟩
    rw [ho]
    have Hn : Hid (n ≤ 10) := Lib.hid (gMany_get hm).1
    have Hm := Lib.hid hm; have Ho := Lib.hid ho; clear hm ho
    go_enter_defers Tryz.func41, Tryz.ntmps41
    go_wp2_with (first | go_skip | ((fail_if_success have := kO); (with_reducible apply al_bk H); clear H; intro wn kO H) | ((fail_if_success have := kI); (with_reducible apply al_one H bool_zero); rfl; clear H; intro wn kI H) | ((fail_if_success have := kr); (with_reducible apply arm_box H); rfl; clear H; intro wn kr H) | (go_at_call 77; (fail_if_success have := Hd0); (with_reducible refine (many_yes z10 ge10 Hm.out H Hv.out).mono ?_); rintro e wn ⟨vd, rfl, hd, H2⟩; have Hd0 := Lib.hid hd; clear hd; replace H := H2; clear H2))
    go_loopw [11] (fun i wr => ∃ (j : Nat) (L : RS) (t : List UInt8) (vO vd : Value) (R : Res), j ≤ n ∧ i = .int .i64 j ∧ Hid (L.length = j) ∧ Hid (pre (L.map (·.1)) (gList gRec (n - j) t) = o) ∧ Hid (Byt w vd t) ∧ Hid (LOk8 R L) ∧ St w wr [Res.blk kr 108 #[vd], Res.blk kI 4 #[.bool false], Res.blk kO 24 #[vO], R, Res.row 33 19 vO L.length (recsL L)]) (fun i _ => n - (intOf i).toNat)
    case atStart => exact ⟨0, [], t1, .slice none 0 0, vd, Res.none, by omega, rfl, Lib.hid rfl, Lib.hid (by rw [List.map_nil, pre_nil]; exact Ho.out), Hd0, Lib.hid LOk8.nil, (H.nilRow 33 19).addNone.perm (perm_start _ _ _ _ _)⟩
    case round =>
      clear H
      obtain ⟨j, L, t, vO, vd, R, hj, rfl, hLl, I, Hvd, HK, H⟩ := hrel
      have hn10 := Hn.out
      by_cases hlt : j < n
      · obtain ⟨m, hm⟩ : ∃ m, n - j = m + 1 := ⟨n - j - 1, by omega⟩
        have HLn : Hid (L.length ≤ 10) := Lib.hid (by have := hLl.out; omega)
        cases hg : gRec t with
        | none =>
          have ho : Hid (o = none) := Lib.hid (by rw [← I.out, hm, pre_none hg])
          have Hg := Lib.hid hg; clear hg
          go_wp2_with (first | go_skip)
          (try simp only [Act.put, List.setIfInBounds_toArray, List.set_cons_zero, List.set_cons_succ])
          refine wp_till (fun W => Sub W kO 0 #[vO]) 7 (by kernel_rfl) (fun wn hb => ?_)
          replace H := H.call hb; clear hb
          have hS : (fun W => Sub W kO 0 #[vO]) wn := H.one (by (repeat (first | with_reducible exact mH | with_reducible apply mT)))
          refine till_take 0 (.pointer (some ⟨kO, 0, none⟩)) rfl (by kernel_rfl) (fun c a w h => get_hQ (i := 13) (by decide) (by decide) c a w h) rfl (fun W hW => rfl) hS ?_
          (try simp only [List.getElem_toArray, List.getElem_cons_succ, List.getElem_cons_zero, Act.put, List.setIfInBounds_toArray, List.set_cons_zero, List.set_cons_succ])
          refine till_take 1 (vO) rfl (by kernel_rfl) (fun c a w h => get_hQ (i := 14) (by decide) (by decide) c a w h) rfl (fun W hW => ex_ldB rfl hW) hS ?_
          (try simp only [List.getElem_toArray, List.getElem_cons_succ, List.getElem_cons_zero, Act.put, List.setIfInBounds_toArray, List.set_cons_zero, List.set_cons_succ])
          refine till_take 2 (.pointer (some ⟨kr, 0, none⟩)) rfl (by kernel_rfl) (fun c a w h => get_hQ (i := 15) (by decide) (by decide) c a w h) rfl (fun W hW => rfl) hS ?_
          (try simp only [List.getElem_toArray, List.getElem_cons_succ, List.getElem_cons_zero, Act.put, List.setIfInBounds_toArray, List.set_cons_zero, List.set_cons_succ])
          refine till_next 3 rfl (by kernel_rfl) ?_
          clear hS
          (try simp only [List.getElem_toArray, List.getElem_cons_succ, List.getElem_cons_zero, Act.put, List.setIfInBounds_toArray, List.set_cons_zero, List.set_cons_succ])
          go_wp2_with (first | go_skip | (go_at_call 78; (with_reducible refine (record_c H Hvd.out).mono ?_); rw [Hg.out]; rintro e wn ⟨rfl, H2⟩; replace H := H2; clear H2))
          skip
          exact leave_wrong (Γ := [R, Res.row 33 19 vO L.length (recsL L)]) H.swap (by rw [ho.out]; rfl) rfl rfl
        | some p =>
          obtain ⟨r, t'⟩ := p
          have I1 : Hid (pre ((L.map (·.1)) ++ [r]) (gList gRec (n - (j + 1)) t') = o) := Lib.hid (by rw [← I.out, hm, pre_some hg, show n - (j + 1) = m by omega])
          have Hrok : Hid r.ok := Lib.hid (gRec_get _ _ _ hg).1.1
          have Hg := Lib.hid hg; clear hg
          go_wp2_with (first | go_skip)
          (try simp only [Act.put, List.setIfInBounds_toArray, List.set_cons_zero, List.set_cons_succ])
          refine wp_till (fun W => Sub W kO 0 #[vO]) 7 (by kernel_rfl) (fun wn hb => ?_)
          replace H := H.call hb; clear hb
          have hS : (fun W => Sub W kO 0 #[vO]) wn := H.one (by (repeat (first | with_reducible exact mH | with_reducible apply mT)))
          refine till_take 0 (.pointer (some ⟨kO, 0, none⟩)) rfl (by kernel_rfl) (fun c a w h => get_hQ (i := 13) (by decide) (by decide) c a w h) rfl (fun W hW => rfl) hS ?_
          (try simp only [List.getElem_toArray, List.getElem_cons_succ, List.getElem_cons_zero, Act.put, List.setIfInBounds_toArray, List.set_cons_zero, List.set_cons_succ])
          refine till_take 1 (vO) rfl (by kernel_rfl) (fun c a w h => get_hQ (i := 14) (by decide) (by decide) c a w h) rfl (fun W hW => ex_ldB rfl hW) hS ?_
          (try simp only [List.getElem_toArray, List.getElem_cons_succ, List.getElem_cons_zero, Act.put, List.setIfInBounds_toArray, List.set_cons_zero, List.set_cons_succ])
          refine till_take 2 (.pointer (some ⟨kr, 0, none⟩)) rfl (by kernel_rfl) (fun c a w h => get_hQ (i := 15) (by decide) (by decide) c a w h) rfl (fun W hW => rfl) hS ?_
          (try simp only [List.getElem_toArray, List.getElem_cons_succ, List.getElem_cons_zero, Act.put, List.setIfInBounds_toArray, List.set_cons_zero, List.set_cons_succ])
          refine till_next 3 rfl (by kernel_rfl) ?_
          clear hS
          (try simp only [List.getElem_toArray, List.getElem_cons_succ, List.getElem_cons_zero, Act.put, List.setIfInBounds_toArray, List.set_cons_zero, List.set_cons_succ])
          go_wp2_with (first | go_skip | (go_at_call 78; (fail_if_success have := Hd3); (with_reducible refine (record_c H Hvd.out).mono ?_); rw [Hg.out]; rintro e wn ⟨sR, vd3, rfl, hd, h1, H2⟩; have Hd3 := Lib.hid hd; have Hs1 := Lib.hid h1; clear hd h1; replace H := H2; clear H2))
          refine ⟨.inr (H.one (by (repeat (first | with_reducible exact mH | with_reducible apply mT)))), ?_⟩
          have hS : (fun W => Sub W kO 0 #[vO]) _ := (H.one (by (repeat (first | with_reducible exact mH | with_reducible apply mT))))
          refine till_next 4 rfl (by kernel_rfl) ?_
          clear hS
          (try simp only [List.getElem_toArray, List.getElem_cons_succ, List.getElem_cons_zero, Act.put, List.setIfInBounds_toArray, List.set_cons_zero, List.set_cons_succ])
          go_wp2_with (first | go_skip | ((fail_if_success have := kU); (with_reducible apply bs_rec Hrok.out H); rfl; clear H; intro wn kU H))
          refine ⟨.inr (H.one (by (repeat (first | with_reducible exact mH | with_reducible apply mT)))), ?_⟩
          have hS : (fun W => Sub W kO 0 #[vO]) _ := (H.one (by (repeat (first | with_reducible exact mH | with_reducible apply mT))))
          refine till_next 5 rfl (by kernel_rfl) ?_
          clear hS
          (try simp only [List.getElem_toArray, List.getElem_cons_succ, List.getElem_cons_zero, Act.put, List.setIfInBounds_toArray, List.set_cons_zero, List.set_cons_succ])
          go_wp2_with (first | go_skip | ((with_reducible apply arm_app H (ht := Tryz.underlying22) (hinfo := info_rec3) (hzs := size_rec0) (hsz := by decide)); (conv => lhs; whnf); (conv => lhs; whnf); (intro v; (repeat (first | with_reducible apply Upd.head | with_reducible apply Upd.tail))); (focus (apply H.rowRead; (repeat (first | with_reducible exact mH | with_reducible apply mT)); done)); (focus (exact recsL_one (fun p hp => by rw [List.mem_singleton.1 hp]; exact Hs1.out); done)); (focus (have := HLn.out; unfold maxLen; omega; done)); (focus (have := HLn.out; omega; done)); clear H; intro wn vn H; obtain ⟨av, cv, rfl⟩ := H.rowSl (v := vn) (by (repeat (first | with_reducible exact mH | with_reducible apply mT)))))
          refine ⟨.inr (H.one (by (repeat (first | with_reducible exact mH | with_reducible apply mT)))), ?_⟩
          have hS : (fun W => Sub W kO 0 #[vO]) _ := (H.one (by (repeat (first | with_reducible exact mH | with_reducible apply mT))))
          refine till_next 6 rfl (by kernel_rfl) ?_
          clear hS
          (try simp only [List.getElem_toArray, List.getElem_cons_succ, List.getElem_cons_zero, Act.put, List.setIfInBounds_toArray, List.set_cons_zero, List.set_cons_succ])
          go_wp2_with (first | go_skip)
          refine ⟨.inr (H.one (by (repeat (first | with_reducible exact mH | with_reducible apply mT)))), ?_⟩
          have hS : (fun W => Sub W kO 0 #[vO]) _ := (H.one (by (repeat (first | with_reducible exact mH | with_reducible apply mT))))
          refine till_next 7 rfl (by kernel_rfl) ?_
          clear hS
          (try simp only [List.getElem_toArray, List.getElem_cons_succ, List.getElem_cons_zero, Act.put, List.setIfInBounds_toArray, List.set_cons_zero, List.set_cons_succ])
          go_wp2_with (first | go_skip | ((with_reducible apply st_on recs_info H); rfl; rfl; (conv => lhs; whnf); (repeat (first | with_reducible apply Upd.head | with_reducible apply Upd.tail)); rfl; rfl; clear H; intro wn H))
          refine ⟨.inl rfl, ?_⟩
          refine till_done (by kernel_rfl) ?_ _
          go_wp2_with (first | go_skip)
          go_roundw
          case rel => exact ⟨j + 1, L ++ [(r, sR)], t', .slice av (L.length + 1) cv, vd3, (Res.row 82 4 sR r.f.length (fieldsL r.f)).and R, by omega, by go_num, Lib.hid (by rw [List.length_append, hLl.out]; rfl), by rw [List.map_append]; exact I1, Hd3, Lib.hid (HK.out.more Hrok.out Hs1.out), by
            rw [recsL_append, List.length_append]
            have H1 := (H.sub (Γ' := [Res.blk kr 108 #[vd3], Res.row 82 4 sR r.f.length (fieldsL r.f), Res.blk kI 4 #[.bool false], Res.blk kO 24 #[.slice av (L.length + 1) cv], R, Res.row 33 19 (.slice av (L.length + 1) cv) (L.length + 1) (recsL L ++ recsL [(r, sR)])]) (by (repeat (first | with_reducible exact List.Sublist.refl _ | with_reducible refine List.Sublist.cons_cons _ ?_ | refine List.Sublist.cons _ ?_)))).perm (perm_in _ _ _ _ _ _)
            exact H1.merge.perm (perm_out _ _ _ _ _)⟩
          case measure => simp [intOf]; omega
      · have hjn : j = n := by omega
        subst hjn
        have ho : Hid (o = some (L.map (·.1), t)) := Lib.hid (by rw [← I.out, Nat.sub_self, pre_zero])
        obtain ⟨av, an, cv, rfl⟩ := H.rowSlice (v := vO) (by (repeat (first | with_reducible exact mH | with_reducible apply mT)))
        have hrecs : ∀ W Γ', St w W Γ' → R ∈ Γ' → Res.row 33 19 (.slice av an cv) L.length (recsL L) ∈ Γ' → Recs W (.slice av an cv) (L.map (·.1)) := fun W Γ' H' h1 h2 => HK.out.recs (H'.get h1) (H'.rowRead h2)
        have HR := Lib.hid hrecs; clear hrecs
        obtain ⟨da, dc, rfl, _⟩ := byt_slice Hvd.out
        obtain ⟨nt, hnt⟩ : ∃ n, t.length = n := ⟨_, rfl⟩
        rw [hnt] at H
        obtain ⟨q, hq⟩ : ∃ q, bMay (L.map (·.1)) = q := ⟨_, rfl⟩
        have Hq := Lib.hid hq
        by_cases h0 : 0 < nt
        · have hend : Hid (gEnd o = none) := Lib.hid (by rw [ho.out]; unfold gEnd; simp only; rw [if_neg (fun h => by rw [h.1] at hnt; simp at hnt; omega)])
          clear hq hnt
          go_wp2_with (first | go_skip | ((with_reducible apply ld_one (ty := 58) Tryz.underlying58 rfl); rfl; rfl; (focus (apply H.one; (repeat (first | with_reducible exact mH | with_reducible apply mT)); done))) | ((with_reducible apply ld_bk); rfl; rfl; (focus (apply H.one; (repeat (first | with_reducible exact mH | with_reducible apply mT)); done))) | (with_reducible apply bd_bk0) | ((with_reducible apply st_bk H); rfl; rfl; rfl; (repeat (first | with_reducible apply Upd.head | with_reducible apply Upd.tail)); (first | rfl | assumption | (refine Hid.out ?_; assumption)); clear H; intro wn H) | ((with_reducible apply st_on bool_info H); rfl; rfl; (conv => lhs; whnf); (repeat (first | with_reducible apply Upd.head | with_reducible apply Upd.tail)); rfl; (first | rfl | assumption | (refine Hid.out ?_; assumption)); clear H; intro wn H) | (go_at_call 18; (with_reducible refine (bkmay_v Hq.out _ (HR.out _ _ H (by (repeat (first | with_reducible exact mH | with_reducible apply mT))) (by (repeat (first | with_reducible exact mH | with_reducible apply mT))))).mono ?_); rintro e wn ⟨rfl, hb⟩; replace H := H.call hb; clear hb))
          all_goals first | (rw [Exit.noGoto_ret]) | skip
          exact leave_idle (kO := kO) (kI := kI) (H.perm (perm_end _ _ _ _ _)) (by rw [hend.out]; exact ⟨rfl, H.bel⟩) rfl rfl
        · have hn0 : nt = 0 := by omega
          subst hn0
          have ht : t = [] := List.eq_nil_of_length_eq_zero hnt
          cases q with
          | false =>
            have hend : Hid (gEnd o = none) := Lib.hid (by rw [ho.out]; unfold gEnd; simp only; rw [if_neg (fun h => by rw [hq] at h; cases h.2)])
            clear hq hnt h0
            go_wp2_with (first | go_skip | ((with_reducible apply ld_one (ty := 58) Tryz.underlying58 rfl); rfl; rfl; (focus (apply H.one; (repeat (first | with_reducible exact mH | with_reducible apply mT)); done))) | ((with_reducible apply ld_bk); rfl; rfl; (focus (apply H.one; (repeat (first | with_reducible exact mH | with_reducible apply mT)); done))) | (with_reducible apply bd_bk0) | ((with_reducible apply st_bk H); rfl; rfl; rfl; (repeat (first | with_reducible apply Upd.head | with_reducible apply Upd.tail)); (first | rfl | assumption | (refine Hid.out ?_; assumption)); clear H; intro wn H) | ((with_reducible apply st_on bool_info H); rfl; rfl; (conv => lhs; whnf); (repeat (first | with_reducible apply Upd.head | with_reducible apply Upd.tail)); rfl; (first | rfl | assumption | (refine Hid.out ?_; assumption)); clear H; intro wn H) | (go_at_call 18; (with_reducible refine (bkmay_v Hq.out _ (HR.out _ _ H (by (repeat (first | with_reducible exact mH | with_reducible apply mT))) (by (repeat (first | with_reducible exact mH | with_reducible apply mT))))).mono ?_); rintro e wn ⟨rfl, hb⟩; replace H := H.call hb; clear hb))
            all_goals first | (rw [Exit.noGoto_ret]) | skip
            exact leave_idle (kO := kO) (kI := kI) (H.perm (perm_end _ _ _ _ _)) (by rw [hend.out]; exact ⟨rfl, H.bel⟩) rfl rfl
          | true =>
            have hend : Hid (gEnd o = some (L.map (·.1))) := Lib.hid (by rw [ho.out]; unfold gEnd; simp only; rw [if_pos ⟨ht, hq⟩])
            clear hq hnt h0
            go_wp2_with (first | go_skip | ((with_reducible apply ld_one (ty := 58) Tryz.underlying58 rfl); rfl; rfl; (focus (apply H.one; (repeat (first | with_reducible exact mH | with_reducible apply mT)); done))) | ((with_reducible apply ld_bk); rfl; rfl; (focus (apply H.one; (repeat (first | with_reducible exact mH | with_reducible apply mT)); done))) | (with_reducible apply bd_bk0) | ((with_reducible apply st_bk H); rfl; rfl; rfl; (repeat (first | with_reducible apply Upd.head | with_reducible apply Upd.tail)); (first | rfl | assumption | (refine Hid.out ?_; assumption)); clear H; intro wn H) | ((with_reducible apply st_on bool_info H); rfl; rfl; (conv => lhs; whnf); (repeat (first | with_reducible apply Upd.head | with_reducible apply Upd.tail)); rfl; (first | rfl | assumption | (refine Hid.out ?_; assumption)); clear H; intro wn H) | (go_at_call 18; (with_reducible refine (bkmay_v Hq.out _ (HR.out _ _ H (by (repeat (first | with_reducible exact mH | with_reducible apply mT))) (by (repeat (first | with_reducible exact mH | with_reducible apply mT))))).mono ?_); rintro e wn ⟨rfl, hb⟩; replace H := H.call hb; clear hb))
            all_goals first | (rw [Exit.noGoto_ret]) | skip
            exact leave_idle (kO := kO) (kI := kI) (H.perm (perm_end _ _ _ _ _)) (by rw [hend.out]; exact ⟨_, R.and (Res.row 33 19 (.slice av an cv) L.length (recsL L)), rfl, fun W hW => HK.out.recs hW.1 (Res.row_reads hW.2), (H.sub (Γ' := [R, Res.row 33 19 (.slice av an cv) L.length (recsL L)]) (by (repeat (first | with_reducible exact List.Sublist.refl _ | with_reducible refine List.Sublist.cons_cons _ ?_ | refine List.Sublist.cons _ ?_)))).merge⟩) rfl rfl
theorem cnget_n {w : World} {v : Value} {bs : List UInt8} (h : gBook bs = none) (hv : Byt w v bs) : Calls Tryz.prog 41 #[v] w fun e w' => e = .returned (.tuple #[.agg #[.slice none 0 0], .bool false]) ∧ Below w.heap.size w w' := by
  have := cnget_c hv
  rw [h] at this
  exact this
theorem cnget_y {w : World} {v : Value} {bs : List UInt8} {L : BK} (h : gBook bs = some L) (hv : Byt w v bs) : Calls Tryz.prog 41 #[v] w (GotP w L) := by
  have := cnget_c hv
  rw [h] at this
  exact this
end Go.Proofs.YtolbmemogoojhaaGreat
