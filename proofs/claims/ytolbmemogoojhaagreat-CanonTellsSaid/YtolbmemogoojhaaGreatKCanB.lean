/- A book as bytes. -/
import Derived.Test.YtolbmemogoojhaaGreatKCanP
namespace Go.Proofs.YtolbmemogoojhaaGreat
open Go Go.RowKit Go.Deep
set_option linter.unusedVariables false
set_option linter.unusedSimpArgs false
set_option maxRecDepth 100000
theorem OwnU.own {base : Nat} {w : World} {e : TypeId} {v : Value} {bs : List UInt8} (h : OwnU base w e v bs) : w.ownsRow base e 1 v bs.length (encU bs) := h
theorem info_u8 : (Tryz.prog.info? 5).map (fun i => (i.zero, i.size, i.bytes)) = some (some (.int .u8 0), 1, 1) := by kernel_rfl
def BPut (w : World) (L : BK) (e : Ending) (w' : World) : Prop := ∃ v, e = .returned (.tuple #[v, .bool (bMay L)]) ∧ St w w' [Res.row 5 1 v (bPutP L).length (encU (bPutP L))]
section
variable {ops : Array Oper} {rest : List Oper} {a : Act} {w0 w : World} {Q : Exit → Act → World → Prop} {Γ Γ' : List Res} {dst : Option Tmp} {typ t : TypeId} {x y : Operand} {pos : String} {af : Array Edge} {gd : Option (Nat × Bool)} {b off : Nat}
theorem bs_u8 {c : UInt8} {v : Value} (H : St w0 w Γ) (hx : a.eval x = v) (hv : v = .int .u8 (c.toNat : Int)) (h : ∀ w' b, St w0 w' (Res.row 5 1 (.slice (some ⟨b, 0, none⟩) 1 1) 1 (encU [c]) :: Γ) → wpList Tryz.prog ops Q rest (a.put dst (.slice (some ⟨b, 0, none⟩) 1 1)) w') : wpList Tryz.prog ops Q (⟨dst, .buildSlice 58 1 #[(0, x)], typ, pos, af, none⟩ :: rest) a w :=
  arm_bslice1 H (hx.trans hv) (cs := encU [c]) rfl Tryz.underlying58 info_u8 rfl rfl (by decide) (by decide) h
end
theorem run_idslice {kR : Nat} (W : World) : (Instr.sliceAt 26 (.pointer (some ⟨kR, 0, none⟩)) none none none).run Tryz.prog W = .ok (.slice (some ⟨kR, 0, none⟩) 16 16) W := by kernel_rfl
theorem id_row {w : World} {k : Nat} {r : RD} {s : Value} (h : RecAt w k 0 r s) : Row w 1 (.slice (some ⟨k, 0, none⟩) 16 16) 16 (encU r.id) := by
  have hl : r.id.length = 16 := h.2
  refine ⟨by rw [encU_length, hl], some ⟨k, 0, none⟩, 16, rfl, Nat.le_refl _, by decide, (fun h => nomatch h), fun _ => ⟨k, 0, rfl, fun j u hj => ?_⟩⟩
  have := h.id j u (by unfold idA; simpa using hj)
  simpa using this
theorem conv_u64 {n : Nat} (h : n ≤ 1000000) (W : World) : (convert 3 101 (.int .i64 (n : Int))).run Tryz.prog W = .ok (.int .u64 (n : Int)) W := by
  have h1 := Tryz.underlying3
  have h2 := Tryz.underlying101
  simp [go_sem, h1, h2]
  rw [IntKind.wrap_u64]
  omega
section
variable {dst : Option Tmp} {typ t : TypeId} {pos : String} {af : Array Edge} {gd : Option (Nat × Bool)} {ev : Operand → Value} {x : Operand}
theorem ex_idslice {k : Nat} (hx : ev x = .pointer (some ⟨k, 0, none⟩)) (W : World) : (execOp ev ⟨dst, .slice 26 x none none none, typ, pos, af, gd⟩).run Tryz.prog W = .ok (.value (.slice (some ⟨k, 0, none⟩) 16 16)) W := by
  unfold execOp
  simp only [hx, Option.map_none, Sem.run_bind, run_idslice, Result.andThen_ok, Sem.run_pure]
theorem ex_ldF {k : Nat} {r : RD} {s : Value} {W : World} (hx : ev x = .pointer (some ⟨k, 18, none⟩)) (h : RecAt W k 0 r s) : (execOp ev ⟨dst, .load 31 x, typ, pos, af, gd⟩).run Tryz.prog W = .ok (.value s) W := by
  unfold execOp
  have := run_load_one (P := Tryz.prog) W k 18 31 s _ (by have := h.F; simpa using this) Tryz.underlying31 rfl
  simp only [hx, Instr.loadAt, Instr.sureAddr, Sem.run_bind, this, Result.andThen_ok, Sem.run_pure]
theorem ex_len {p : Option Addr} {n c : Nat} (hx : ev x = .slice p n c) (W : World) : (execOp ev ⟨dst, .call { callee := .builtin .len, args := #[x], argTypes := #[31] }, typ, pos, af, gd⟩).run Tryz.prog W = .ok (.value (.int .i64 (n : Int))) W := by
  have := Tryz.underlying31
  simp [execOp, go_sem, hx, this]
theorem ex_conv {n : Nat} (hx : ev x = .int .i64 (n : Int)) (h : n ≤ 1000000) (W : World) : (execOp ev ⟨dst, .convert 3 101 x, typ, pos, af, gd⟩).run Tryz.prog W = .ok (.value (.int .u64 (n : Int))) W := by
  unfold execOp
  simp only [hx, Sem.run_bind, conv_u64 h, Result.andThen_ok, Sem.run_pure]
end
set_option maxHeartbeats 12800000 in
theorem cnput_c (va : Value) (L : BK) (w : World) (hv : Recs w va L) : Calls Tryz.prog 39 #[.agg #[va]] w (BPut w L) := by
  obtain ⟨m, hm⟩ : ∃ m, Hid (bMay L = m) := ⟨_, rfl⟩
  have hres : Hid (BPut w L = fun e w' => ∃ v, e = .returned (.tuple #[v, .bool m]) ∧ St w w' [Res.row 5 1 v (bPutP L).length (encU (bPutP L))]) := Lib.hid (by unfold BPut; rw [hm.out])
  rw [hres.out]; clear hres
  obtain ⟨n, hn⟩ : ∃ n, L.length = n := ⟨_, rfl⟩
  obtain ⟨a, c, rfl, hm1, _⟩ := id hv.slice
  rw [hn] at hv hm1 ⊢
  unfold maxLen at hm1
  have Ha := Lib.hid hv; have Hn := Lib.hid hn; clear hv hn
  have H := St.init w
  cases m with
  | false =>
    have hP : Hid (bPutP L = []) := Lib.hid (by unfold bPutP; rw [hm.out]; rfl)
    go_enter Tryz.func39, Tryz.ntmps39
    go_wp2_with (first | go_skip | ((fail_if_success have := kB); (with_reducible apply arm_box H); rfl; clear H; intro wn kB H) | ((with_reducible apply ld_bk); rfl; rfl; (focus (apply H.one; (repeat (first | with_reducible exact mH | with_reducible apply mT)); done))) | (go_at_call 18; first | ((with_reducible refine (bkmay_v hm.out _ (Ha.out.below H.bel)).mono ?_); rintro e wn ⟨rfl, hb⟩; replace H := H.call hb; clear hb)))
    go_ret2
    exact ⟨.slice none 0 0, rfl, by rw [hP.out]; exact (H.sub (List.nil_sublist _)).nilRow _ _⟩
  | true =>
    have hP : Hid (bPutP L = bBytes L) := Lib.hid (by unfold bPutP; rw [hm.out]; rfl)
    have HBL : Hid ((bBytes L).length ≤ 100000 ∧ n ≤ 1000000 ∧ (∀ r ∈ L, r.f.length ≤ 1000000 ∧ ∀ f ∈ r.f, 0 ≤ f.1 ∧ f.1 < 8)) := Lib.hid (by rw [← Hn.out]; exact can_small hm.out Ha.out.ok)
    have Hnb := Lib.hid HBL.out.2.1
    go_enter Tryz.func39, Tryz.ntmps39
    go_wp2_with (first | go_skip | ((fail_if_success have := kB); (with_reducible apply arm_box H); rfl; clear H; intro wn kB H) | ((with_reducible apply ld_bk); rfl; rfl; (focus (apply H.one; (repeat (first | with_reducible exact mH | with_reducible apply mT)); done))) | (go_at_call 18; first | ((with_reducible refine (bkmay_v hm.out _ (Ha.out.below H.bel)).mono ?_); rintro e wn ⟨rfl, hb⟩; replace H := H.call hb; clear hb)) | ((with_reducible apply ld_one (ty := 22) Tryz.underlying22 rfl); rfl; rfl; (focus (apply H.one; (repeat (first | with_reducible exact mH | with_reducible apply mT)); done))) | (go_at_call 70; (fail_if_success have := vo); (with_reducible refine (put_c n (by have := Hnb.out; omega) _).mono ?_); rintro e wn ⟨vo, rfl, hown, hb⟩; replace H := H.rowIn hb hown.own; clear hown hb))
    go_loopw [24, 4] (fun i vx wr => ∃ (j : Nat) (vo : Value) (bs : List UInt8), vo = vx ∧ j ≤ n ∧ i = .int .i64 j ∧ Hid (bBytes L = bs ++ (L.drop j).flatMap rBytes) ∧ St w wr [Res.row 5 1 vo (bs).length (encU (bs))]) (fun i _ _ => n - (intOf i).toNat)
    case atStart => exact ⟨0, vo, putL n, rfl, by omega, rfl, Lib.hid (by unfold bBytes; rw [Hn.out]; rfl), H.sub (by (repeat (first | with_reducible exact List.Sublist.refl _ | with_reducible refine List.Sublist.cons_cons _ ?_ | refine List.Sublist.cons _ ?_)))⟩
    case round =>
      clear H
      obtain ⟨j, vo, bs, hvt, hj, rfl, I, H⟩ := hrel
      subst hvt
      by_cases hlt : j < n
      · obtain ⟨r, hr⟩ : ∃ r, L[j]? = some r := ⟨_, List.getElem?_eq_getElem (by rw [Hn.out]; exact hlt)⟩
        obtain ⟨b, off, s, rfl, hbw, G, hf⟩ := Ha.out.at hr
        obtain ⟨hrl, hrf⟩ := HBL.out.2.2 r (List.mem_of_getElem? hr)
        have I1 : Hid (bBytes L = bs ++ rBytes r ++ (L.drop (j + 1)).flatMap rBytes) := Lib.hid (by rw [I.out, drop_at hr, List.flatMap_cons, List.append_assoc])
        have HLen := Lib.hid (show (bs ++ rBytes r).length ≤ 100000 from by have := HBL.out.1; rw [I1.out, List.length_append] at this; omega)
        have hok : Hid r.ok := Lib.hid G.2
        obtain ⟨nf, hnf⟩ : ∃ nf, r.f.length = nf := ⟨_, rfl⟩
        obtain ⟨_, fa, fc, rfl, hc1, hc2, _⟩ := id hf
        rw [hnf] at hf hc1 G hrl
        unfold maxLen at hc2
        have Hf := Lib.hid hf; have Hnf := Lib.hid hnf; have Hnfb := Lib.hid hrl; have Hrf := Lib.hid hrf
        have Hone2 : Hid (Value.oneCell' (.slice fa nf fc) = true) := Lib.hid rfl
        obtain ⟨st, hst⟩ : ∃ st, stBytes r.N r.R = st := ⟨_, rfl⟩
        have Hst := Lib.hid hst
        have HRB : Hid (rBytes r = r.id ++ (st ++ (putL nf ++ r.f.flatMap fBytes))) := Lib.hid (by unfold rBytes; rw [hst, hnf])
        have hlen := HLen.out
        rw [HRB.out] at hlen
        simp only [List.length_append] at hlen
        have hidl : r.id.length = 16 := G.2
        have HB1 : Hid (bs.length + 16 ≤ 100000) := Lib.hid (by omega)
        have HB2 : Hid (bs.length + 16 + st.length ≤ 100000) := Lib.hid (by omega)
        have HB3 : Hid (bs.length + 16 + st.length + (putL nf).length ≤ 100000) := Lib.hid (by omega)
        have Hidl := Lib.hid hidl
        clear hf hr hbw hnf hrl hrf hst hlen hidl
        go_wp2_with (first | go_skip | ((with_reducible apply ld_rec); rfl; rfl; (first | (focus (apply H.rc; (repeat (first | with_reducible exact mH | with_reducible apply mT)); done)) | (apply RecAt.bel (hb := H.bel); assumption) | assumption)) | ((fail_if_success have := kR); (with_reducible apply al_rec H); clear H; intro wn kR H) | ((with_reducible apply st_rec H); rfl; rfl; rfl; (repeat (first | with_reducible apply Upd.head | with_reducible apply Upd.tail)); (first | assumption | (refine Hid.out ?_; assumption)); (first | rfl | assumption | (refine Hid.out ?_; assumption)); clear H; intro wn H) | ((with_reducible apply ld_dead); rfl; rfl; (first | (focus (apply H.rc; (repeat (first | with_reducible exact mH | with_reducible apply mT)); done)) | (apply RecAt.bel (hb := H.bel); assumption))) | (go_at_call 71; (fail_if_success have := vd); (with_reducible refine (stput_c _ _ _).mono ?_); rintro e wn ⟨vd, rfl, hown, hb⟩; rw [Hst.out] at hown; replace H := H.rowIn hb hown.own; clear hown hb) | ((with_reducible apply ld_F); rfl; rfl; (first | (focus (apply H.rc; (repeat (first | with_reducible exact mH | with_reducible apply mT)); done)) | (apply RecAt.bel (hb := H.bel); assumption))))
        (try simp only [Act.put, List.setIfInBounds_toArray, List.set_cons_zero, List.set_cons_succ])
        refine wp_till (fun W => RecAt W kR 0 r (.slice fa nf fc)) 12 (by kernel_rfl) (fun wn hb => ?_)
        replace H := H.call hb; clear hb
        have hS : (fun W => RecAt W kR 0 r (.slice fa nf fc)) wn := H.rc (by (repeat (first | with_reducible exact mH | with_reducible apply mT)))
        refine till_take 0 (vo) rfl (by kernel_rfl) (fun _ _ _ h => h) rfl (fun W hW => rfl) hS ?_
        (try simp only [List.getElem_toArray, List.getElem_cons_succ, List.getElem_cons_zero, Act.put, List.setIfInBounds_toArray, List.set_cons_zero, List.set_cons_succ])
        refine till_take 1 (.pointer (some ⟨kR, 0, none⟩)) rfl (by kernel_rfl) (fun _ _ _ h => h) rfl (fun W hW => rfl) hS ?_
        (try simp only [List.getElem_toArray, List.getElem_cons_succ, List.getElem_cons_zero, Act.put, List.setIfInBounds_toArray, List.set_cons_zero, List.set_cons_succ])
        refine till_take 2 (.slice (some ⟨kR, 0, none⟩) 16 16) rfl (by kernel_rfl) (fun _ _ _ h => h) rfl (fun W hW => ex_idslice rfl W) hS ?_
        (try simp only [List.getElem_toArray, List.getElem_cons_succ, List.getElem_cons_zero, Act.put, List.setIfInBounds_toArray, List.set_cons_zero, List.set_cons_succ])
        refine till_take 4 (vd) rfl (by kernel_rfl) (fun _ _ _ h => h) rfl (fun W hW => rfl) hS ?_
        (try simp only [List.getElem_toArray, List.getElem_cons_succ, List.getElem_cons_zero, Act.put, List.setIfInBounds_toArray, List.set_cons_zero, List.set_cons_succ])
        refine till_take 6 (.pointer (some ⟨kR, 18, none⟩)) rfl (by kernel_rfl) (fun _ _ _ h => h) rfl (fun W hW => rfl) hS ?_
        (try simp only [List.getElem_toArray, List.getElem_cons_succ, List.getElem_cons_zero, Act.put, List.setIfInBounds_toArray, List.set_cons_zero, List.set_cons_succ])
        refine till_take 7 (.slice fa nf fc) rfl (by kernel_rfl) (fun _ _ _ h => h) rfl (fun W hW => ex_ldF rfl hW) hS ?_
        (try simp only [List.getElem_toArray, List.getElem_cons_succ, List.getElem_cons_zero, Act.put, List.setIfInBounds_toArray, List.set_cons_zero, List.set_cons_succ])
        refine till_take 8 (.int .i64 (nf : Int)) rfl (by kernel_rfl) (fun _ _ _ h => h) rfl (fun W hW => ex_len rfl W) hS ?_
        (try simp only [List.getElem_toArray, List.getElem_cons_succ, List.getElem_cons_zero, Act.put, List.setIfInBounds_toArray, List.set_cons_zero, List.set_cons_succ])
        refine till_take 9 (.int .u64 (nf : Int)) rfl (by kernel_rfl) (fun _ _ _ h => h) rfl (fun W hW => ex_conv rfl Hnfb.out W) hS ?_
        (try simp only [List.getElem_toArray, List.getElem_cons_succ, List.getElem_cons_zero, Act.put, List.setIfInBounds_toArray, List.set_cons_zero, List.set_cons_succ])
        refine till_next 3 rfl (by kernel_rfl) ?_
        clear hS
        (try simp only [List.getElem_toArray, List.getElem_cons_succ, List.getElem_cons_zero, Act.put, List.setIfInBounds_toArray, List.set_cons_zero, List.set_cons_succ])
        go_wp2_with (first | go_skip | ((fail_if_success have := v1); (with_reducible apply arm_app H (ht := Tryz.underlying58) (hinfo := info_u8) (hzs := rfl) (hsz := by decide)); (conv => lhs; whnf); (conv => lhs; whnf); (intro v; (repeat (first | with_reducible apply Upd.head | with_reducible apply Upd.tail))); (focus (exact id_row (H.rc (by (repeat (first | with_reducible exact mH | with_reducible apply mT)))); done)); (focus (exact encU_one _; done)); (focus (have := HB1.out; unfold maxLen; omega; done)); (focus (have := HB1.out; omega; done)); clear H; intro wn v1 H))
        refine ⟨.inr (H.rc (by (repeat (first | with_reducible exact mH | with_reducible apply mT)))), ?_⟩
        have hS : (fun W => RecAt W kR 0 r (.slice fa nf fc)) _ := (H.rc (by (repeat (first | with_reducible exact mH | with_reducible apply mT))))
        refine till_next 5 rfl (by kernel_rfl) ?_
        clear hS
        (try simp only [List.getElem_toArray, List.getElem_cons_succ, List.getElem_cons_zero, Act.put, List.setIfInBounds_toArray, List.set_cons_zero, List.set_cons_succ])
        go_wp2_with (first | go_skip | ((fail_if_success have := v2); (with_reducible apply arm_app H (ht := Tryz.underlying58) (hinfo := info_u8) (hzs := rfl) (hsz := by decide)); (conv => lhs; whnf); (conv => lhs; whnf); (intro v; (repeat (first | with_reducible apply Upd.head | with_reducible apply Upd.tail))); (focus (apply H.rowRead; (repeat (first | with_reducible exact mH | with_reducible apply mT)); done)); (focus (exact encU_one _; done)); (focus (have := HB2.out; unfold maxLen; omega; done)); (focus (have := HB2.out; omega; done)); clear H; intro wn v2 H))
        refine ⟨.inr (H.rc (by (repeat (first | with_reducible exact mH | with_reducible apply mT)))), ?_⟩
        have hS : (fun W => RecAt W kR 0 r (.slice fa nf fc)) _ := (H.rc (by (repeat (first | with_reducible exact mH | with_reducible apply mT))))
        refine till_next 10 rfl (by kernel_rfl) ?_
        clear hS
        (try simp only [List.getElem_toArray, List.getElem_cons_succ, List.getElem_cons_zero, Act.put, List.setIfInBounds_toArray, List.set_cons_zero, List.set_cons_succ])
        go_wp2_with (first | go_skip | (go_at_call 70; (fail_if_success have := vp); (with_reducible refine (put_c nf (by have := Hnfb.out; omega) _).mono ?_); rintro e wn ⟨vp, rfl, hown, hb⟩; replace H := H.rowIn hb hown.own; clear hown hb))
        refine ⟨.inr (H.rc (by (repeat (first | with_reducible exact mH | with_reducible apply mT)))), ?_⟩
        have hS : (fun W => RecAt W kR 0 r (.slice fa nf fc)) _ := (H.rc (by (repeat (first | with_reducible exact mH | with_reducible apply mT))))
        refine till_next 11 rfl (by kernel_rfl) ?_
        clear hS
        (try simp only [List.getElem_toArray, List.getElem_cons_succ, List.getElem_cons_zero, Act.put, List.setIfInBounds_toArray, List.set_cons_zero, List.set_cons_succ])
        go_wp2_with (first | go_skip | ((fail_if_success have := v3); (with_reducible apply arm_app H (ht := Tryz.underlying58) (hinfo := info_u8) (hzs := rfl) (hsz := by decide)); (conv => lhs; whnf); (conv => lhs; whnf); (intro v; (repeat (first | with_reducible apply Upd.head | with_reducible apply Upd.tail))); (focus (apply H.rowRead; (repeat (first | with_reducible exact mH | with_reducible apply mT)); done)); (focus (exact encU_one _; done)); (focus (have := HB3.out; unfold maxLen; omega; done)); (focus (have := HB3.out; omega; done)); clear H; intro wn v3 H))
        refine ⟨.inr (H.rc (by (repeat (first | with_reducible exact mH | with_reducible apply mT)))), ?_⟩
        have hS : (fun W => RecAt W kR 0 r (.slice fa nf fc)) _ := (H.rc (by (repeat (first | with_reducible exact mH | with_reducible apply mT))))
        refine till_next 12 rfl (by kernel_rfl) ?_
        clear hS
        (try simp only [List.getElem_toArray, List.getElem_cons_succ, List.getElem_cons_zero, Act.put, List.setIfInBounds_toArray, List.set_cons_zero, List.set_cons_succ])
        go_wp2_with (first | go_skip)
        refine ⟨.inl rfl, ?_⟩
        refine till_done (by kernel_rfl) ?_ _
        go_wp2_with (first | go_skip | ((with_reducible apply ld_rec); rfl; rfl; (first | (focus (apply H.rc; (repeat (first | with_reducible exact mH | with_reducible apply mT)); done)) | (apply RecAt.bel (hb := H.bel); assumption) | assumption)) | ((fail_if_success have := kR); (with_reducible apply al_rec H); clear H; intro wn kR H) | ((with_reducible apply st_rec H); rfl; rfl; rfl; (repeat (first | with_reducible apply Upd.head | with_reducible apply Upd.tail)); (first | assumption | (refine Hid.out ?_; assumption)); (first | rfl | assumption | (refine Hid.out ?_; assumption)); clear H; intro wn H) | ((with_reducible apply ld_dead); rfl; rfl; (first | (focus (apply H.rc; (repeat (first | with_reducible exact mH | with_reducible apply mT)); done)) | (apply RecAt.bel (hb := H.bel); assumption))) | (go_at_call 71; (fail_if_success have := vd); (with_reducible refine (stput_c _ _ _).mono ?_); rintro e wn ⟨vd, rfl, hown, hb⟩; rw [Hst.out] at hown; replace H := H.rowIn hb hown.own; clear hown hb) | ((with_reducible apply ld_F); rfl; rfl; (first | (focus (apply H.rc; (repeat (first | with_reducible exact mH | with_reducible apply mT)); done)) | (apply RecAt.bel (hb := H.bel); assumption))))
        have HE : Hid (encU bs ++ encU r.id ++ encU st ++ encU (putL nf) = encU (bs ++ (r.id ++ (st ++ putL nf))) ∧ bs.length + 16 + st.length + (putL nf).length = (bs ++ (r.id ++ (st ++ putL nf))).length) := Lib.hid ⟨by simp only [encU_append, List.append_assoc], by simp only [List.length_append, Hidl.out]; omega⟩
        rw [HE.out.1, HE.out.2] at H
        go_loopw [49, 4] (fun i vx wr => ∃ (k : Nat) (vo : Value) (bt : List UInt8), vo = vx ∧ k ≤ nf ∧ i = .int .i64 k ∧ Hid (bBytes L = bt ++ ((r.f.drop k).flatMap fBytes ++ (L.drop (j + 1)).flatMap rBytes)) ∧ St w wr [Res.row 5 1 vo (bt).length (encU (bt))]) (fun i _ _ => nf - (intOf i).toNat)
        case atStart => exact ⟨0, v3, bs ++ (r.id ++ (st ++ putL nf)), rfl, by omega, rfl, Lib.hid (by rw [I1.out, HRB.out]; simp only [List.append_assoc, List.drop_zero]), H.sub (by (repeat (first | with_reducible exact List.Sublist.refl _ | with_reducible refine List.Sublist.cons_cons _ ?_ | refine List.Sublist.cons _ ?_)))⟩
        case round =>
          clear H
          obtain ⟨k, vo, bt, hvt, hk, rfl, I2, H⟩ := hrel
          subst hvt
          by_cases hkl : k < nf
          · obtain ⟨f, hfk⟩ : ∃ f, r.f[k]? = some f := ⟨_, List.getElem?_eq_getElem (by rw [Hnf.out]; exact hkl)⟩
            obtain ⟨b2, off2, rfl, G2⟩ := fldat_of Hf.out hfk
            obtain ⟨no, N, R, S⟩ := f
            obtain ⟨g1, g2⟩ := Hrf.out _ (List.mem_of_getElem? hfk)
            dsimp only at g1 g2
            obtain ⟨m, rfl⟩ : ∃ m : Nat, no = (m : Int) := ⟨no.toNat, by omega⟩
            obtain ⟨c8, hc8⟩ : ∃ c, UInt8.ofNat m = c := ⟨_, rfl⟩
            obtain ⟨cb, hcb⟩ : ∃ c, cBytes N R S = c := ⟨_, rfl⟩
            have I3 : Hid (bBytes L = bt ++ ([c8] ++ cb) ++ ((r.f.drop (k + 1)).flatMap fBytes ++ (L.drop (j + 1)).flatMap rBytes)) := Lib.hid (by rw [I2.out, drop_at hfk, List.flatMap_cons]; unfold fBytes; dsimp only; rw [Int.toNat_natCast, hc8, hcb]; simp only [List.append_assoc, List.cons_append, List.nil_append])
            have hlen := HBL.out.1
            rw [I3.out] at hlen
            simp only [List.length_append, List.length_cons, List.length_nil] at hlen
            have HB4 : Hid (bt.length + 1 ≤ 100000) := Lib.hid (by omega)
            have HB5 : Hid (bt.length + 1 + cb.length ≤ 100000) := Lib.hid (by omega)
            have Hcb := Lib.hid hcb
            have hm8 : m < 8 := by omega
            have Hc8 : Hid (Value.int .u8 (m : Int) = .int .u8 (c8.toNat : Int)) := Lib.hid (by rw [← hc8, UInt8.toNat_ofNat', Nat.mod_eq_of_lt (by omega)])
            clear hfk hlen hcb hc8 g1 g2
            go_wp2_with (first | go_skip | ((with_reducible apply ld_fld); rfl; rfl; (first | (focus (apply H.fld; (repeat (first | with_reducible exact mH | with_reducible apply mT)); done)) | (apply FldAt.bel (hb := H.bel); assumption))) | ((fail_if_success have := kF); (with_reducible apply al_fld H); clear H; intro wn kF H) | ((with_reducible apply st_fld H); rfl; rfl; rfl; (repeat (first | with_reducible apply Upd.head | with_reducible apply Upd.tail)); clear H; intro wn H) | ((with_reducible apply ld_fcel); rfl; rfl; (first | (focus (apply H.fld; (repeat (first | with_reducible exact mH | with_reducible apply mT)); done)) | (apply FldAt.bel (hb := H.bel); assumption))) | ((with_reducible apply ld_fno); rfl; rfl; (first | (focus (apply H.fld; (repeat (first | with_reducible exact mH | with_reducible apply mT)); done)) | (apply FldAt.bel (hb := H.bel); assumption))) | (go_at_call 72; (fail_if_success have := vc); (with_reducible refine (cput_c _ _ _ _).mono ?_); rintro e wn ⟨vc, rfl, hown, hb⟩; rw [Hcb.out] at hown; replace H := H.rowIn hb hown.own; clear hown hb) | ((fail_if_success have := kU); (with_reducible apply bs_u8 (c := c8) H); exact Hc8.out; rfl; clear H; intro wn kU H) | ((fail_if_success have := vn1); (with_reducible apply arm_app H (ht := Tryz.underlying58) (hinfo := info_u8) (hzs := rfl) (hsz := by decide)); (conv => lhs; whnf); (conv => lhs; whnf); (intro v; (repeat (first | with_reducible apply Upd.head | with_reducible apply Upd.tail))); (focus (apply H.rowRead; (repeat (first | with_reducible exact mH | with_reducible apply mT)); done)); (focus (exact encU_one _; done)); (focus (have := HB4.out; unfold maxLen; omega; done)); (focus (have := HB4.out; omega; done)); clear H; intro wn vn1 H) | ((fail_if_success have := vn2); (with_reducible apply arm_app H (ht := Tryz.underlying58) (hinfo := info_u8) (hzs := rfl) (hsz := by decide)); (conv => lhs; whnf); (conv => lhs; whnf); (intro v; (repeat (first | with_reducible apply Upd.head | with_reducible apply Upd.tail))); (focus (apply H.rowRead; (repeat (first | with_reducible exact mH | with_reducible apply mT)); done)); (focus (exact encU_one _; done)); (focus (have := HB5.out; unfold maxLen; omega; done)); (focus (have := HB5.out; omega; done)); clear H; intro wn vn2 H))
            go_roundw
            case rel => exact ⟨k + 1, vn2, bt ++ ([c8] ++ cb), rfl, by omega, by go_num, I3, by
              have HE : encU bt ++ encU [c8] ++ encU cb = encU (bt ++ ([c8] ++ cb)) ∧ bt.length + 1 + cb.length = (bt ++ ([c8] ++ cb)).length := ⟨by simp only [encU_append, List.append_assoc], by simp only [List.length_append, List.length_cons, List.length_nil]; omega⟩
              rw [HE.1, HE.2] at H
              exact H.sub (by (repeat (first | with_reducible exact List.Sublist.refl _ | with_reducible refine List.Sublist.cons_cons _ ?_ | refine List.Sublist.cons _ ?_)))⟩
            case measure => simp [intOf]; omega
          · have hkn : k = nf := by omega
            subst hkn
            have I3 : Hid (bBytes L = bt ++ (L.drop (j + 1)).flatMap rBytes) := Lib.hid (by rw [I2.out, ← Hnf.out, List.drop_length]; rfl)
            go_wp2
            go_roundw
            case rel => exact ⟨j + 1, vo, bt, rfl, by omega, by go_num, I3, H⟩
            case measure => simp [intOf]; omega
      · have hjn : j = n := by omega
        subst hjn
        have I1 : Hid (bBytes L = bs) := Lib.hid (by rw [I.out, ← Hn.out, List.drop_length]; simp)
        go_wp2
        go_ret2
        exact ⟨vo, rfl, by rw [hP.out, I1.out]; exact H⟩
end Go.Proofs.YtolbmemogoojhaaGreat
