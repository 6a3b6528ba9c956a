/- A record of its own; a record found. -/
import Derived.Test.YtolbmemogoojhaaBookC
namespace Go.Proofs.Ytolbmemogoojhaa
open Go Go.RowKit Go.Deep
set_option linter.unusedVariables false
set_option linter.unusedSimpArgs false
set_option maxRecDepth 100000
theorem eql_nilF (W : World) (a : Option Addr) (l c : Nat) : (binOp .eql 36 (.slice a l c) (.slice none 0 0)).run Try.prog W = .ok (.bool a.isNone) W := by
  have h : (Op.equal 36 (.slice a l c) (.slice none 0 0)).run Try.prog W = .ok a.isNone W := run_equal_slice_nil W _ _ a l c Try.underlying36
  simp [binOp, h]
section
variable {P : Program} {ops : Array Oper} {rest : List Oper} {a : Act} {w0 w : World} {Q : Exit → Act → World → Prop} {Γ : List Res} {dst : Option Tmp} {ty typ : TypeId} {x : Operand} {pos : String} {af : Array Edge}
theorem run_buildSlice0 (t e : TypeId) (i : TypeInfo) (hu : P.underlying t = some (.slice e)) (hi : P.info? e = some i) (w : World) : (Instr.buildSlice t 0 #[]).run P w = .ok (.slice (some ⟨w.heap.size, 0, none⟩) 0 0) (w.alloc (.cells #[] e)) := by
  simp [Instr.buildSlice, run_underlying hu, sizeOf, typeInfo, hi, Instr.fill, newRow, show Array.range 0 = #[] from rfl]
/-- An empty slice that is not nil. -/
theorem arm_bslice0 (H : St w0 w Γ) {t e : TypeId} {z : Value} {size bytes : Nat} (hu : P.underlying t = some (.slice e)) (hinfo : (P.info? e).map (fun i => (i.zero, i.size, i.bytes)) = some (some z, size, bytes))
    (h : ∀ w' b, St w0 w' (Res.row e size (.slice (some ⟨b, 0, none⟩) 0 0) 0 [] :: Γ) → wpList P ops Q rest (a.put dst (.slice (some ⟨b, 0, none⟩) 0 0)) w') : wpList P ops Q (⟨dst, .buildSlice t 0 #[], typ, pos, af, none⟩ :: rest) a w := by
  obtain ⟨i, hi, hzz⟩ := Option.map_eq_some_iff.1 hinfo
  refine wpList_run rfl _ _ ?_ (h _ _ (H.rowIn (bel_alloc (Below.refl _ _) _) ⟨by simp, .inr ⟨w.heap.size, 0, #[], rfl, Nat.le_refl _, World.alloc_heap_new w _, Nat.le_refl _, by decide, by simp, by simp⟩⟩))
  unfold execOp
  simp only [List.map_toArray, List.map_nil, Sem.run_bind, run_buildSlice0 t e i hu hi w, Result.andThen_ok, Sem.run_pure]
end
section
variable {ops : Array Oper} {rest : List Oper} {a : Act} {w : World} {Q : Exit → Act → World → Prop} {dst : Option Tmp} {ty typ : TypeId} {x : Operand} {pos : String} {af : Array Edge}
theorem bd_rec0 (h : wpList Try.prog ops Q rest (a.put dst (.agg (rA noRD (.slice none 0 0)))) w) : wpList Try.prog ops Q (⟨dst, .build 38 #[], typ, pos, af, none⟩ :: rest) a w :=
  wpList_build_to rfl 38 #[] rfl dst rfl _ (by simp only [List.map_toArray, List.map_nil]; exact noA_built) h
end
theorem results_cell_one {P : Program} {fn : Func} {p : Tmp} {ty : TypeId} (h : fn.results = #[.cell p ty]) (tmps : Array Value) (w : World) (g : Nat) (cs : Array Value) (d : TypeDesc)
    (hp : tmps.getD p undef = .pointer (some ⟨g, 0, none⟩)) (hg : Sub w g 0 cs) (hu : P.underlying ty = some d) (hd : (match d with | .struct _ | .array _ _ => true | _ => false) = true) (hi : (P.info? ty).map (·.size) = some cs.size) :
    (results fn tmps).run P w = .ok (.agg cs) w := by
  have hp' : tmps[p]?.getD undef = .pointer (some ⟨g, 0, none⟩) := by simpa using hp
  simp [results, h, hp', asAddr, run_load_sub w g 0 ty cs d hg hu hd hi]
theorem rowF_one {l : List F4} : ∀ u ∈ fieldsL l, u.oneCell' = true := fieldsL_one l
set_option maxHeartbeats 1600000 in
theorem bkclone_c (v : Value) (l : List F4) (hb : l.length ≤ 1000) (w : World) (hv : Flds w v l) : Calls Try.prog 82 #[v] w fun e w' => ∃ s, e = .returned s ∧ St w w' [Res.row 51 4 s l.length (fieldsL l)] := by
  obtain ⟨hl, a, c, rfl, h1, h2, h3, h4⟩ := id hv
  have heq := eql_nilF
  have Hv := Lib.hid hv
  have hm : l.length ≤ maxLen := hv.len_le
  have Hm := Lib.hid hm; have Hb := Lib.hid hb; clear hb; have HL := Lib.hid h4; clear hv hm hl h1 h2 h4
  have H := St.init w
  cases a with
  | none =>
    have hc0 := h3 rfl
    have hl0 : Hid (l = []) := Lib.hid (by
      cases l with
      | nil => rfl
      | cons f l => obtain ⟨b, off, he, _⟩ := HL.out (by simp [fieldsL]); cases he)
    clear h3 hc0
    go_enter Try.func82, Try.ntmps82
    go_wp2_with (first | go_skip | fail)
    all_goals first | (rw [Exit.noGoto_ret]; go_ret) | go_ret
    all_goals (rw [hl0.out]; exact ⟨_, rfl, H.nilRow _ _⟩)
  | some ad =>
    clear h3
    go_enter Try.func82, Try.ntmps82
    go_wp2_with (first | go_skip | ((with_reducible apply arm_bslice0 H (hu := Try.underlying36) (hinfo := info_field)); clear H; intro wn b H) | ((with_reducible apply arm_app H (ht := Try.underlying36) (hinfo := info_field) (hzs := rfl) (hsz := by decide)); (conv => lhs; whnf); (conv => lhs; whnf); (intro v; (repeat (first | with_reducible apply Upd.head | with_reducible apply Upd.tail))); (focus (exact Hv.out.below H.bel; done)); (focus (exact fieldsL_one _; done)); (focus (rw [Nat.zero_add]; exact Hm.out; done)); (focus (rw [Nat.zero_add]; have := Hb.out; omega; done)); clear H; intro wn vn H))
    all_goals first | (rw [Exit.noGoto_ret]; go_ret) | go_ret
    all_goals (have H := H; simp only [Nat.zero_add, List.nil_append] at H; exact ⟨vn, rfl, H⟩)
set_option maxHeartbeats 1600000 in
theorem own_c (r : RD) (s : Value) (hr : r.ok) (hb : r.f.length ≤ 1000) (w : World) (hv : Flds w s r.f) : Calls Try.prog 50 #[.agg (rA r s)] w fun e w' => ∃ s', e = .returned (.agg (rA r s')) ∧ St w w' [Res.row 51 4 s' r.f.length (fieldsL r.f)] := by
  have Hok := Lib.hid hr; have Hb := Lib.hid hb; have Hv := Lib.hid hv; have Hone : Hid (s.oneCell' = true) := Lib.hid (flds_one hv); clear hr hb hv
  have H := St.init w
  go_enter Try.func50, Try.ntmps50
  go_wp2_with (first | go_skip | ((fail_if_success have := kA); (with_reducible apply bx_rec H); rfl; (first | assumption | (refine Hid.out ?_; assumption)); clear H; intro wn kA H) | ((fail_if_success have := kR); (with_reducible apply al_rec H); clear H; intro wn kR H) | ((with_reducible apply ld_F); rfl; rfl; (first | (focus (apply H.rc; (repeat (first | with_reducible exact List.mem_cons_self | with_reducible apply List.mem_cons_of_mem)); done)) | (apply RecAt.bel (hb := H.bel); assumption))) | ((with_reducible apply ld_rec); rfl; rfl; (first | (focus (apply H.rc; (repeat (first | with_reducible exact List.mem_cons_self | with_reducible apply List.mem_cons_of_mem)); done)) | (apply RecAt.bel (hb := H.bel); assumption))) | (go_at_call 82; (with_reducible refine (bkclone_c _ _ Hb.out _ (Hv.out.below H.bel)).mono ?_); rintro e wn ⟨sj, rfl, hs⟩; replace H := H.comp hs; clear hs; simp only [List.cons_append, List.nil_append] at H; have T1 : Hid (sj.oneCell' = true) := Lib.hid (by obtain ⟨_, _, _, rfl⟩ := H.rowSlice List.mem_cons_self; rfl)) | ((with_reducible apply st_F H); rfl; rfl; (conv => lhs; whnf); (repeat (first | with_reducible apply Upd.head | with_reducible apply Upd.tail)); (first | exact ⟨_, _, _, rfl⟩ | (focus (apply H.rowSlice; (repeat (first | with_reducible exact List.mem_cons_self | with_reducible apply List.mem_cons_of_mem)); done))); clear H; intro wn H) | ((with_reducible apply st_rec H); rfl; rfl; rfl; (repeat (first | with_reducible apply Upd.head | with_reducible apply Upd.tail)); (first | assumption | (refine Hid.out ?_; assumption)); (first | rfl | assumption | (refine Hid.out ?_; assumption)); clear H; intro wn H))
  all_goals first | (rw [Exit.noGoto_ret]) | skip
  have hR := (H.rc (b := kR) (r := r) (s := sj) (by (repeat (first | with_reducible exact List.mem_cons_self | with_reducible apply List.mem_cons_of_mem)))).1
  exact bodyPost_ret (results_cell_one Try.results50 _ _ kR (rA r sj) _ rfl hR Try.underlying38 rfl (rA_info Hok.out)) rfl ⟨sj, rfl, H.sub (by (repeat (first | with_reducible exact List.Sublist.refl _ | with_reducible refine List.Sublist.cons_cons _ ?_ | refine List.Sublist.cons _ ?_)))⟩
theorem bIx_none {L : BK} {i : IDL} : bFind L i = none → ∀ (j : Nat) (r : RD), L[j]? = some r → r.id ≠ i := fun h j r hj => bFind_none.1 h r (List.mem_of_getElem? hj)
def bIx : BK → IDL → Option Nat
  | [], _ => none
  | r :: l, i => if r.id = i then some 0 else (bIx l i).map (· + 1)
theorem bIx_find : ∀ (L : BK) (i : IDL), (bIx L i = none ∧ bFind L i = none) ∨ ∃ (j : Nat) (r : RD), bIx L i = some j ∧ L[j]? = some r ∧ bFind L i = some r
  | [], _ => .inl ⟨rfl, rfl⟩
  | r :: l, i => by
    unfold bIx bFind
    by_cases h : r.id = i
    · rw [if_pos h, if_pos h]; exact .inr ⟨0, r, rfl, rfl, rfl⟩
    · rw [if_neg h, if_neg h]
      rcases bIx_find l i with ⟨h1, h2⟩ | ⟨j, x, h1, h2, h3⟩
      · exact .inl ⟨by rw [h1]; rfl, h2⟩
      · exact .inr ⟨j + 1, x, by rw [h1]; rfl, by simpa using h2, h3⟩
def ixV (o : Option Nat) : Int := match o with | none => -1 | some j => (j : Int)
theorem bIx_step {L : BK} {j : Nat} {r : RD} (hj : L[j]? = some r) (i : IDL) : bIx (L.drop j) i = if r.id = i then some 0 else (bIx (L.drop (j + 1)) i).map (· + 1) := by
  have h1 := List.getElem?_eq_some_iff.1 hj
  rw [List.drop_eq_getElem_cons h1.1, h1.2]; rfl
set_option maxHeartbeats 1600000 in
theorem bkf1_c (r : RD) (s : Value) (hr : r.ok) (k : Nat) (x : List UInt8) (hx : x.length = 16) (w : World) (hk : Sub w k 0 (encU x).toArray) : Calls Try.prog 55 #[.agg (rA r s), .pointer (some ⟨k, 0, none⟩)] w fun e w' => e = .returned (.bool (r.id == x)) ∧ Below w.heap.size w w' := by
  obtain ⟨A, hA⟩ : ∃ A, Hid ((encU x).toArray = A) := ⟨_, rfl⟩
  have HAs : Hid ((Try.prog.info? 33).map (·.size) = some A.size) := Lib.hid (by rw [← hA.out]; exact id_info16 (encU_arr16 hx))
  obtain ⟨q, hq⟩ : ∃ q, Hid ((r.id == x) = q) := ⟨_, rfl⟩
  have heq : ∀ W, (binOp .eql 33 (.agg (idA r)) (.agg A)).run Try.prog W = .ok (.bool q) W := fun W => by rw [← hA.out, ← hq.out]; exact eql_id r.id x hr hx W
  rw [hA.out] at hk
  rw [hq.out]
  have Hk := Lib.hid hk; have Hok := Lib.hid hr; clear hk hr hx
  have H := St.init w
  go_enter Try.func55, Try.ntmps55
  go_wp2_with (first | go_skip | ((with_reducible apply bx_rec H); rfl; (first | assumption | (refine Hid.out ?_; assumption)); clear H; intro wn b H) | ((with_reducible refine arm_ld (ty := 33) ?_ ?_ (Hk.out.keep H.bel) Try.underlying33 rfl HAs.out ?_); rfl; rfl) | ((with_reducible apply ld_id); rfl; rfl; (first | (focus (apply H.rc; (repeat (first | with_reducible exact List.mem_cons_self | with_reducible apply List.mem_cons_of_mem)); done)) | (apply RecAt.bel (hb := H.bel); assumption))))
  all_goals first | (rw [Exit.noGoto_ret]; go_ret) | go_ret
  exact ⟨rfl, H.bel⟩
set_option maxHeartbeats 3200000 in
theorem bkix_c (v : Value) (L : BK) (k : Nat) (x : List UInt8) (hx : x.length = 16) (w : World) (hv : Recs w v L) (hk : Sub w k 0 (encU x).toArray) : Calls Try.prog 54 #[v, .func (.func 55) #[] #[.pointer (some ⟨k, 0, none⟩)]] w fun e w' => e = .returned (.int .i64 (ixV (bIx L x))) ∧ Below w.heap.size w w' := by
  obtain ⟨n, hn⟩ : ∃ n, L.length = n := ⟨_, rfl⟩
  obtain ⟨a, c, rfl, hm1, _⟩ := id hv.slice
  rw [hn] at hv hm1 ⊢
  unfold maxLen at hm1
  have Hv := Lib.hid hv; have Hn := Lib.hid hn; have Hk := Lib.hid hk; have Hx := Lib.hid hx; clear hv hn hk hx
  have H := St.init w
  go_enter Try.func54, Try.ntmps54
  go_wp2_with (first | go_skip | fail)
  go_loopw [8] (fun i wr => ∃ j : Nat, j ≤ n ∧ i = .int .i64 j ∧ Hid (bIx L x = (bIx (L.drop j) x).map (· + j)) ∧ St w wr []) (fun i _ => n - (intOf i).toNat)
  case atStart => exact ⟨0, by omega, rfl, Lib.hid (by cases h : bIx (L.drop 0) x <;> simp at h <;> simp [h]), H⟩
  case round =>
    clear H
    obtain ⟨j, hj, rfl, I, H⟩ := hrel
    by_cases hlt : j < n
    · obtain ⟨r, hr⟩ : ∃ r, L[j]? = some r := ⟨_, List.getElem?_eq_getElem (by rw [Hn.out]; exact hlt)⟩
      obtain ⟨b, off, s, rfl, hbw, G, hf⟩ := Hv.out.at hr
      have hok : Hid r.ok := Lib.hid G.2
      obtain ⟨q, hq⟩ : ∃ q, Hid ((r.id == x) = q) := ⟨_, rfl⟩
      have Hst := Lib.hid (bIx_step hr x)
      clear hf hr hbw
      cases q with
      | true =>
        have Hres : Hid (ixV (bIx L x) = (j : Int)) := Lib.hid (by rw [I.out, Hst.out, if_pos (by simpa using hq.out)]; simp [ixV])
        go_wp2_with (first | go_skip | ((with_reducible apply ld_rec); rfl; rfl; (first | (focus (apply H.rc; (repeat (first | with_reducible exact List.mem_cons_self | with_reducible apply List.mem_cons_of_mem)); done)) | (apply RecAt.bel (hb := H.bel); assumption))) | (go_at_call 55; have hc1 := bkf1_c r s hok.out k x Hx.out _ (Hk.out.keep H.bel); rw [hq.out] at hc1; (with_reducible refine hc1.mono ?_); clear hc1; rintro e wn ⟨rfl, hb⟩; replace H := H.call hb; clear hb))
        all_goals first | (rw [Exit.noGoto_ret]; go_ret) | go_ret
        all_goals exact ⟨by rw [Hres.out]; rfl, H.bel⟩
      | false =>
        have Hnext : Hid (bIx L x = (bIx (L.drop (j + 1)) x).map (· + (j + 1))) := Lib.hid (by
          rw [I.out, Hst.out, if_neg (by simpa using hq.out), Option.map_map]
          congr 1; funext y; simp only [Function.comp_apply]; omega)
        go_wp2_with (first | go_skip | ((with_reducible apply ld_rec); rfl; rfl; (first | (focus (apply H.rc; (repeat (first | with_reducible exact List.mem_cons_self | with_reducible apply List.mem_cons_of_mem)); done)) | (apply RecAt.bel (hb := H.bel); assumption))) | (go_at_call 55; have hc1 := bkf1_c r s hok.out k x Hx.out _ (Hk.out.keep H.bel); rw [hq.out] at hc1; (with_reducible refine hc1.mono ?_); clear hc1; rintro e wn ⟨rfl, hb⟩; replace H := H.call hb; clear hb))
        go_roundw
        case rel => exact ⟨j + 1, by omega, by go_num, Hnext, H.sub (by (repeat (first | with_reducible exact List.Sublist.refl _ | with_reducible refine List.Sublist.cons_cons _ ?_ | refine List.Sublist.cons _ ?_)))⟩
        case measure => simp [intOf]; omega
    · have hjn : j = n := by omega
      subst hjn
      have Hres : Hid (ixV (bIx L x) = -1) := Lib.hid (by rw [I.out, List.drop_of_length_le (by rw [Hn.out]; exact Nat.le_refl _)]; rfl)
      go_wp2_with (first | go_skip | ((with_reducible apply ld_rec); rfl; rfl; (first | (focus (apply H.rc; (repeat (first | with_reducible exact List.mem_cons_self | with_reducible apply List.mem_cons_of_mem)); done)) | (apply RecAt.bel (hb := H.bel); assumption))) | (go_at_call 55; have hc1 := bkf1_c r s hok.out k x Hx.out _ (Hk.out.keep H.bel); rw [hq.out] at hc1; (with_reducible refine hc1.mono ?_); clear hc1; rintro e wn ⟨rfl, hb⟩; replace H := H.call hb; clear hb))
      all_goals first | (rw [Exit.noGoto_ret]; go_ret) | go_ret
      all_goals exact ⟨by rw [Hres.out]; rfl, H.bel⟩
theorem bkix_v {v : Value} {L : BK} {k : Nat} {x : List UInt8} {m : Int} (h : ixV (bIx L x) = m) (hx : x.length = 16) (w : World) (hv : Recs w v L) (hk : Sub w k 0 (encU x).toArray) : Calls Try.prog 54 #[v, .func (.func 55) #[] #[.pointer (some ⟨k, 0, none⟩)]] w fun e w' => e = .returned (.int .i64 m) ∧ Below w.heap.size w w' := by subst h; exact bkix_c v L k x hx w hv hk
/-- What Find hands back. -/
def bFindP (L : BK) (x : IDL) : RD × Bool := match bFind L x with | some r => (r, true) | none => (noRD, false)
set_option maxHeartbeats 3200000 in
theorem bkfind_c (v : Value) (L : BK) (x : List UInt8) (hx : x.length = 16) (hs : ∀ r ∈ L, r.f.length ≤ 1000) (w : World) (hv : Recs w v L) : Calls Try.prog 26 #[.agg #[v], .agg (encU x).toArray] w fun e w' => ∃ s, e = .returned (.tuple #[.agg (rA (bFindP L x).1 s), .bool (bFindP L x).2]) ∧ St w w' [Res.row 51 4 s (bFindP L x).1.f.length (fieldsL (bFindP L x).1.f)] := by
  obtain ⟨A, hA⟩ : ∃ A, Hid ((encU x).toArray = A) := ⟨_, rfl⟩
  obtain ⟨n, hn⟩ : ∃ n, L.length = n := ⟨_, rfl⟩
  obtain ⟨a, c, rfl, hm1, _⟩ := id hv.slice
  rw [hn] at hv hm1 ⊢
  unfold maxLen at hm1
  have Hv := Lib.hid hv; have Hn := Lib.hid hn; have Hx := Lib.hid hx; have Hs := Lib.hid hs; clear hv hn hx hs
  rw [hA.out]
  have H := St.init w
  rcases bIx_find L x with ⟨h1, h2⟩ | ⟨j, r, h1, h2, h3⟩
  · have hm : Hid (ixV (bIx L x) = -1) := Lib.hid (by rw [h1]; rfl)
    have hP : Hid (bFindP L x = (noRD, false)) := Lib.hid (by unfold bFindP; rw [h2])
    clear h1 h2
    rw [hP.out]
    have HoneN : Hid (Value.oneCell' (.slice none 0 0) = true) := Lib.hid rfl
    have Hno : Hid noRD.ok := Lib.hid noRD_ok
    go_enter Try.func26, Try.ntmps26
    go_wp2_with (first | go_skip | ((fail_if_success have := kA); (with_reducible apply arm_box H); rfl; clear H; intro wn kA H) | ((fail_if_success have := kI); (with_reducible apply arm_box H); rfl; clear H; intro wn kI H) | ((fail_if_success have := kR); (with_reducible apply al_rec H); clear H; intro wn kR H) | ((with_reducible apply ld_one (ty := 22) Try.underlying22 rfl); rfl; rfl; (focus (apply H.one; (repeat (first | with_reducible exact List.mem_cons_self | with_reducible apply List.mem_cons_of_mem)); done))) | (go_at_call 54; have hc1 := bkix_v hm.out Hx.out _ (Hv.out.below H.bel) (by rw [hA.out]; exact H.arr (t := 33) (by (repeat (first | with_reducible exact List.mem_cons_self | with_reducible apply List.mem_cons_of_mem)))); (with_reducible refine hc1.mono ?_); clear hc1; rintro e wn ⟨rfl, hb⟩; replace H := H.call hb; clear hb) | (with_reducible apply bd_rec0) | ((with_reducible apply st_rec H); rfl; rfl; rfl; (repeat (first | with_reducible apply Upd.head | with_reducible apply Upd.tail)); (first | assumption | (refine Hid.out ?_; assumption)); (first | rfl | assumption | (refine Hid.out ?_; assumption)); clear H; intro wn H) | ((with_reducible apply ld_rec); rfl; rfl; (first | (focus (apply H.rc; (repeat (first | with_reducible exact List.mem_cons_self | with_reducible apply List.mem_cons_of_mem)); done)) | (apply RecAt.bel (hb := H.bel); assumption))) | (go_at_call 50; (with_reducible refine (own_c r s hok.out Hb.out _ (Hf.out.below H.bel)).mono ?_); rintro e wn ⟨sj, rfl, hs⟩; replace H := H.comp hs; clear hs; simp only [List.cons_append, List.nil_append] at H; have T1 : Hid (sj.oneCell' = true) := Lib.hid (by obtain ⟨_, _, _, rfl⟩ := H.rowSlice List.mem_cons_self; rfl)))
    all_goals first | (rw [Exit.noGoto_ret]) | skip
    have hR := (H.rc (b := kR) (r := noRD) (s := .slice none 0 0) (by (repeat (first | with_reducible exact List.mem_cons_self | with_reducible apply List.mem_cons_of_mem)))).1
    exact bodyPost_ret (results_cell_tmp Try.results26 _ _ kR (rA noRD (.slice none 0 0)) _ _ rfl rfl hR Try.underlying38 rfl (rA_info Hno.out)) rfl ⟨_, rfl, (H.sub (List.nil_sublist _)).nilRow 51 4⟩
  · have hm : Hid (ixV (bIx L x) = (j : Int)) := Lib.hid (by rw [h1]; rfl)
    have hP : Hid (bFindP L x = (r, true)) := Lib.hid (by unfold bFindP; rw [h3])
    have hjn : j < n := by rw [← Hn.out]; exact (List.getElem?_eq_some_iff.1 h2).1
    obtain ⟨b, off, s, rfl, hbw, G, hf⟩ := Hv.out.at h2
    have hok : Hid r.ok := Lib.hid G.2
    have Hf := Lib.hid hf
    have Hb : Hid (r.f.length ≤ 1000) := Lib.hid (Hs.out r (List.mem_of_getElem? h2))
    clear h1 h2 h3 hf hbw
    rw [hP.out]
    go_enter Try.func26, Try.ntmps26
    go_wp2_with (first | go_skip | ((fail_if_success have := kA); (with_reducible apply arm_box H); rfl; clear H; intro wn kA H) | ((fail_if_success have := kI); (with_reducible apply arm_box H); rfl; clear H; intro wn kI H) | ((fail_if_success have := kR); (with_reducible apply al_rec H); clear H; intro wn kR H) | ((with_reducible apply ld_one (ty := 22) Try.underlying22 rfl); rfl; rfl; (focus (apply H.one; (repeat (first | with_reducible exact List.mem_cons_self | with_reducible apply List.mem_cons_of_mem)); done))) | (go_at_call 54; have hc1 := bkix_v hm.out Hx.out _ (Hv.out.below H.bel) (by rw [hA.out]; exact H.arr (t := 33) (by (repeat (first | with_reducible exact List.mem_cons_self | with_reducible apply List.mem_cons_of_mem)))); (with_reducible refine hc1.mono ?_); clear hc1; rintro e wn ⟨rfl, hb⟩; replace H := H.call hb; clear hb) | (with_reducible apply bd_rec0) | ((with_reducible apply st_rec H); rfl; rfl; rfl; (repeat (first | with_reducible apply Upd.head | with_reducible apply Upd.tail)); (first | assumption | (refine Hid.out ?_; assumption)); (first | rfl | assumption | (refine Hid.out ?_; assumption)); clear H; intro wn H) | ((with_reducible apply ld_rec); rfl; rfl; (first | (focus (apply H.rc; (repeat (first | with_reducible exact List.mem_cons_self | with_reducible apply List.mem_cons_of_mem)); done)) | (apply RecAt.bel (hb := H.bel); assumption))) | (go_at_call 50; (with_reducible refine (own_c r s hok.out Hb.out _ (Hf.out.below H.bel)).mono ?_); rintro e wn ⟨sj, rfl, hs⟩; replace H := H.comp hs; clear hs; simp only [List.cons_append, List.nil_append] at H; have T1 : Hid (sj.oneCell' = true) := Lib.hid (by obtain ⟨_, _, _, rfl⟩ := H.rowSlice List.mem_cons_self; rfl)))
    all_goals first | (rw [Exit.noGoto_ret]) | skip
    have hR := (H.rc (b := kR) (r := r) (s := sj) (by (repeat (first | with_reducible exact List.mem_cons_self | with_reducible apply List.mem_cons_of_mem)))).1
    exact bodyPost_ret (results_cell_tmp Try.results26 _ _ kR (rA r sj) _ _ rfl rfl hR Try.underlying38 rfl (rA_info hok.out)) rfl ⟨_, rfl, H.sub (by (repeat (first | with_reducible exact List.Sublist.refl _ | with_reducible refine List.Sublist.cons_cons _ ?_ | refine List.Sublist.cons _ ?_)))⟩
end Go.Proofs.Ytolbmemogoojhaa
