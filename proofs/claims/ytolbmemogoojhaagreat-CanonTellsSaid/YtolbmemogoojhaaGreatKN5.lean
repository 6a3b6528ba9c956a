/- A book's last stamp. -/
import Derived.Test.YtolbmemogoojhaaGreatKN4
namespace Go.Proofs.YtolbmemogoojhaaGreat
open Go Go.RowKit Go.Deep
set_option linter.unusedVariables false
set_option linter.unusedSimpArgs false
set_option maxRecDepth 100000
def sMx (p : Int × Int) (N R : Int) : Int × Int := (mxN p.1 p.2 N R, mxR p.1 p.2 N R)
def fLast (p : Int × Int) (l : List F4) : Int × Int := l.foldl (fun p f => sMx p f.2.1 f.2.2.1) p
def rLast (p : Int × Int) (r : RD) : Int × Int := fLast (sMx p r.N r.R) r.f
def bLast (L : BK) : Int × Int := L.foldl rLast (0, 0)
theorem fldat_of {w : World} {a : Option Addr} {n c : Nat} {l : List F4} (h : Flds w (.slice a n c) l) {j : Nat} {f : F4} (hj : l[j]? = some f) : ∃ b off, a = some ⟨b, off, none⟩ ∧ FldAt w b (off + j * 4) f.1 f.2.1 f.2.2.1 f.2.2.2 := by
  obtain ⟨b, off, e, _, h0, h1, h2, h3⟩ := h.at hj
  refine ⟨b, off, e, fun k u hk => ?_⟩
  match k with
  | 0 => simp only [Array.getElem?_eq_some_iff] at hk; obtain ⟨_, rfl⟩ := hk; exact h0
  | 1 => simp only [Array.getElem?_eq_some_iff] at hk; obtain ⟨_, rfl⟩ := hk; exact h1
  | 2 => simp only [Array.getElem?_eq_some_iff] at hk; obtain ⟨_, rfl⟩ := hk; exact h2
  | 3 => simp only [Array.getElem?_eq_some_iff] at hk; obtain ⟨_, rfl⟩ := hk; exact h3
  | k + 4 => simp at hk
theorem drop_at {α : Type} {L : List α} {j : Nat} {r : α} (h : L[j]? = some r) : L.drop j = r :: L.drop (j + 1) := by
  obtain ⟨hl, rfl⟩ := List.getElem?_eq_some_iff.1 h
  exact List.drop_eq_getElem_cons hl
section
variable {ops : Array Oper} {rest : List Oper} {a : Act} {w : World} {Q : Exit → Act → World → Prop} {dst : Option Tmp} {typ : TypeId} {x : Operand} {pos : String} {af : Array Edge} {gd : Option (Nat × Bool)} {b o : Nat} {N R : Int}
theorem ld_stp (hw : Region.wanted (⟨dst, .load 30 x, typ, pos, af, gd⟩ : Oper) (yielded ops a.tmps) = true) (hx : a.eval x = .pointer (some ⟨b, o, none⟩)) (h : Sub w b o #[.int .i64 N, .int .i64 R]) (k : wpList Tryz.prog ops Q rest (a.put dst (.agg #[.int .i64 N, .int .i64 R])) w) : wpList Tryz.prog ops Q (⟨dst, .load 30 x, typ, pos, af, gd⟩ :: rest) a w :=
  arm_ld hw hx h Tryz.underlying30 rfl (stamp_info) k
end
set_option maxHeartbeats 3200000 in
theorem bklast_c (v : Value) (L : BK) (w : World) (hv : Recs w v L) : Calls Tryz.prog 102 #[.agg #[v]] w fun e w' => e = .returned (.agg #[.int .i64 (bLast L).1, .int .i64 (bLast L).2]) ∧ Below w.heap.size w w' := by
  obtain ⟨n, hn⟩ : ∃ n, L.length = n := ⟨_, rfl⟩
  obtain ⟨a, c, rfl, hm1, _⟩ := id hv.slice
  rw [hn] at hv hm1 ⊢
  unfold maxLen at hm1
  have Hv := Lib.hid hv; have Hn := Lib.hid hn; clear hv hn
  have Hone0 : Hid (Value.oneCell' (.slice none 0 0) = true) := Lib.hid rfl
  have H := St.init w
  go_enter Tryz.func102, Tryz.ntmps102
  go_wp2_with (first | go_skip | ((fail_if_success have := kB); (with_reducible apply arm_box H); rfl; clear H; intro wn kB H) | ((fail_if_success have := k2); (with_reducible apply al_stp H); clear H; intro wn k2 H) | ((fail_if_success have := k3); (with_reducible apply al_stp H); clear H; intro wn k3 H) | ((with_reducible apply ld_one (ty := 22) Tryz.underlying22 rfl); rfl; rfl; (focus (apply H.one; (repeat (first | with_reducible exact mH | with_reducible apply mT)); done))) | ((with_reducible apply ld_rec); rfl; rfl; (first | (focus (apply H.rc; (repeat (first | with_reducible exact mH | with_reducible apply mT)); done)) | (apply RecAt.bel (hb := H.bel); assumption) | assumption)) | ((fail_if_success have := k5); (with_reducible apply al_rec H); clear H; intro wn k5 H) | ((with_reducible apply st_rec H); rfl; rfl; rfl; (repeat (first | with_reducible apply Upd.head | with_reducible apply Upd.tail)); (first | assumption | (refine Hid.out ?_; assumption)); (first | rfl | assumption | (refine Hid.out ?_; assumption)); clear H; intro wn H) | ((with_reducible apply ld_dead); rfl; rfl; (first | (focus (apply H.rc; (repeat (first | with_reducible exact mH | with_reducible apply mT)); done)) | (apply RecAt.bel (hb := H.bel); assumption))) | ((with_reducible apply ld_F); rfl; rfl; (first | (focus (apply H.rc; (repeat (first | with_reducible exact mH | with_reducible apply mT)); done)) | (apply RecAt.bel (hb := H.bel); assumption))) | ((with_reducible apply ld_fld); rfl; rfl; (first | (focus (apply H.fld; (repeat (first | with_reducible exact mH | with_reducible apply mT)); done)) | (apply FldAt.bel (hb := H.bel); assumption))) | ((with_reducible apply ld_fstamp); rfl; rfl; (first | (focus (apply H.fld; (repeat (first | with_reducible exact mH | with_reducible apply mT)); done)) | (apply FldAt.bel (hb := H.bel); assumption))) | ((with_reducible apply ld_stp); rfl; rfl; (focus (apply H.arr; (repeat (first | with_reducible exact mH | with_reducible apply mT)); done))) | ((with_reducible apply st_stamp H); rfl; rfl; rfl; (repeat (first | with_reducible apply Upd.head | with_reducible apply Upd.tail)); clear H; intro wn H) | ((fail_if_success have := k7); (with_reducible apply al_fld H); clear H; intro wn k7 H) | ((with_reducible apply st_fld H); rfl; rfl; rfl; (repeat (first | with_reducible apply Upd.head | with_reducible apply Upd.tail)); clear H; intro wn H) | (go_at_call 87; (with_reducible refine (max_v rfl rfl _).mono ?_); rintro e wn ⟨rfl, hb⟩; replace H := H.call hb; clear hb))
  go_loopw [11] (fun i wr => ∃ (j : Nat) (N R : Int), j ≤ n ∧ i = .int .i64 j ∧ Hid (bLast L = (L.drop j).foldl rLast (N, R)) ∧ St w wr [Res.blk k3 30 #[.int .i64 N, .int .i64 R], Res.blk k2 30 #[.int .i64 0, .int .i64 0], Res.blk kB 24 #[.slice a n c]]) (fun i _ => n - (intOf i).toNat)
  case atStart => exact ⟨0, 0, 0, by omega, rfl, Lib.hid rfl, H⟩
  case round =>
    clear H
    obtain ⟨j, N, R, hj, rfl, I, H⟩ := hrel
    by_cases hlt : j < n
    · obtain ⟨r, hr⟩ : ∃ r, L[j]? = some r := ⟨_, List.getElem?_eq_getElem (by rw [Hn.out]; exact hlt)⟩
      obtain ⟨b, off, s, rfl, hbw, G, hf⟩ := Hv.out.at hr
      have Hst := Lib.hid (drop_at hr)
      have hok : Hid r.ok := Lib.hid G.2
      obtain ⟨nf, hnf⟩ : ∃ nf, r.f.length = nf := ⟨_, rfl⟩
      obtain ⟨_, fa, fc, rfl, hc1, hc2, _⟩ := id hf
      rw [hnf] at hf hc1
      unfold maxLen at hc2
      have Hf := Lib.hid hf; have Hnf := Lib.hid hnf
      have Hone : Hid (Value.oneCell' (.slice fa nf fc) = true) := Lib.hid rfl
      rw [hnf] at G
      clear hf hr hbw hnf
      go_wp2_with (first | go_skip | ((fail_if_success have := kB); (with_reducible apply arm_box H); rfl; clear H; intro wn kB H) | ((fail_if_success have := k2); (with_reducible apply al_stp H); clear H; intro wn k2 H) | ((fail_if_success have := k3); (with_reducible apply al_stp H); clear H; intro wn k3 H) | ((with_reducible apply ld_one (ty := 22) Tryz.underlying22 rfl); rfl; rfl; (focus (apply H.one; (repeat (first | with_reducible exact mH | with_reducible apply mT)); done))) | ((with_reducible apply ld_rec); rfl; rfl; (first | (focus (apply H.rc; (repeat (first | with_reducible exact mH | with_reducible apply mT)); done)) | (apply RecAt.bel (hb := H.bel); assumption) | assumption)) | ((fail_if_success have := k5); (with_reducible apply al_rec H); clear H; intro wn k5 H) | ((with_reducible apply st_rec H); rfl; rfl; rfl; (repeat (first | with_reducible apply Upd.head | with_reducible apply Upd.tail)); (first | assumption | (refine Hid.out ?_; assumption)); (first | rfl | assumption | (refine Hid.out ?_; assumption)); clear H; intro wn H) | ((with_reducible apply ld_dead); rfl; rfl; (first | (focus (apply H.rc; (repeat (first | with_reducible exact mH | with_reducible apply mT)); done)) | (apply RecAt.bel (hb := H.bel); assumption))) | ((with_reducible apply ld_F); rfl; rfl; (first | (focus (apply H.rc; (repeat (first | with_reducible exact mH | with_reducible apply mT)); done)) | (apply RecAt.bel (hb := H.bel); assumption))) | ((with_reducible apply ld_fld); rfl; rfl; (first | (focus (apply H.fld; (repeat (first | with_reducible exact mH | with_reducible apply mT)); done)) | (apply FldAt.bel (hb := H.bel); assumption))) | ((with_reducible apply ld_fstamp); rfl; rfl; (first | (focus (apply H.fld; (repeat (first | with_reducible exact mH | with_reducible apply mT)); done)) | (apply FldAt.bel (hb := H.bel); assumption))) | ((with_reducible apply ld_stp); rfl; rfl; (focus (apply H.arr; (repeat (first | with_reducible exact mH | with_reducible apply mT)); done))) | ((with_reducible apply st_stamp H); rfl; rfl; rfl; (repeat (first | with_reducible apply Upd.head | with_reducible apply Upd.tail)); clear H; intro wn H) | ((fail_if_success have := k7); (with_reducible apply al_fld H); clear H; intro wn k7 H) | ((with_reducible apply st_fld H); rfl; rfl; rfl; (repeat (first | with_reducible apply Upd.head | with_reducible apply Upd.tail)); clear H; intro wn H) | (go_at_call 87; (with_reducible refine (max_v rfl rfl _).mono ?_); rintro e wn ⟨rfl, hb⟩; replace H := H.call hb; clear hb))
      go_loopw [22] (fun i wr => ∃ (k : Nat) (N R : Int), k ≤ nf ∧ i = .int .i64 k ∧ Hid (bLast L = (L.drop (j + 1)).foldl rLast (fLast (N, R) (r.f.drop k))) ∧ St w wr [Res.rc k5 r (.slice fa nf fc), Res.blk k3 30 #[.int .i64 N, .int .i64 R], Res.blk k2 30 #[.int .i64 0, .int .i64 0], Res.blk kB 24 #[.slice (some ⟨b, off, none⟩) n c]]) (fun i _ => nf - (intOf i).toNat)
      case atStart => exact ⟨0, _, _, by omega, rfl, Lib.hid (by rw [I.out, Hst.out]; rfl), H⟩
      case round =>
        clear H
        obtain ⟨k, N', R', hk, rfl, I2, H⟩ := hrel
        by_cases hkl : k < nf
        · obtain ⟨f, hfk⟩ : ∃ f, r.f[k]? = some f := ⟨_, List.getElem?_eq_getElem (by rw [Hnf.out]; exact hkl)⟩
          obtain ⟨b2, off2, rfl, G2⟩ := fldat_of Hf.out hfk
          have Hst2 := Lib.hid (drop_at hfk)
          clear hfk
          go_wp2_with (first | go_skip | ((fail_if_success have := kB); (with_reducible apply arm_box H); rfl; clear H; intro wn kB H) | ((fail_if_success have := k2); (with_reducible apply al_stp H); clear H; intro wn k2 H) | ((fail_if_success have := k3); (with_reducible apply al_stp H); clear H; intro wn k3 H) | ((with_reducible apply ld_one (ty := 22) Tryz.underlying22 rfl); rfl; rfl; (focus (apply H.one; (repeat (first | with_reducible exact mH | with_reducible apply mT)); done))) | ((with_reducible apply ld_rec); rfl; rfl; (first | (focus (apply H.rc; (repeat (first | with_reducible exact mH | with_reducible apply mT)); done)) | (apply RecAt.bel (hb := H.bel); assumption) | assumption)) | ((fail_if_success have := k5); (with_reducible apply al_rec H); clear H; intro wn k5 H) | ((with_reducible apply st_rec H); rfl; rfl; rfl; (repeat (first | with_reducible apply Upd.head | with_reducible apply Upd.tail)); (first | assumption | (refine Hid.out ?_; assumption)); (first | rfl | assumption | (refine Hid.out ?_; assumption)); clear H; intro wn H) | ((with_reducible apply ld_dead); rfl; rfl; (first | (focus (apply H.rc; (repeat (first | with_reducible exact mH | with_reducible apply mT)); done)) | (apply RecAt.bel (hb := H.bel); assumption))) | ((with_reducible apply ld_F); rfl; rfl; (first | (focus (apply H.rc; (repeat (first | with_reducible exact mH | with_reducible apply mT)); done)) | (apply RecAt.bel (hb := H.bel); assumption))) | ((with_reducible apply ld_fld); rfl; rfl; (first | (focus (apply H.fld; (repeat (first | with_reducible exact mH | with_reducible apply mT)); done)) | (apply FldAt.bel (hb := H.bel); assumption))) | ((with_reducible apply ld_fstamp); rfl; rfl; (first | (focus (apply H.fld; (repeat (first | with_reducible exact mH | with_reducible apply mT)); done)) | (apply FldAt.bel (hb := H.bel); assumption))) | ((with_reducible apply ld_stp); rfl; rfl; (focus (apply H.arr; (repeat (first | with_reducible exact mH | with_reducible apply mT)); done))) | ((with_reducible apply st_stamp H); rfl; rfl; rfl; (repeat (first | with_reducible apply Upd.head | with_reducible apply Upd.tail)); clear H; intro wn H) | ((fail_if_success have := k7); (with_reducible apply al_fld H); clear H; intro wn k7 H) | ((with_reducible apply st_fld H); rfl; rfl; rfl; (repeat (first | with_reducible apply Upd.head | with_reducible apply Upd.tail)); clear H; intro wn H) | (go_at_call 87; (with_reducible refine (max_v rfl rfl _).mono ?_); rintro e wn ⟨rfl, hb⟩; replace H := H.call hb; clear hb))
          go_roundw
          case rel => exact ⟨k + 1, _, _, by omega, by go_num, Lib.hid (by rw [I2.out, Hst2.out]; rfl), H.sub (by (repeat (first | with_reducible exact List.Sublist.refl _ | with_reducible refine List.Sublist.cons_cons _ ?_ | refine List.Sublist.cons _ ?_)))⟩
          case measure => simp [intOf]; omega
        · have hkn : k = nf := by omega
          subst hkn
          go_wp2_with (first | go_skip | ((fail_if_success have := kB); (with_reducible apply arm_box H); rfl; clear H; intro wn kB H) | ((fail_if_success have := k2); (with_reducible apply al_stp H); clear H; intro wn k2 H) | ((fail_if_success have := k3); (with_reducible apply al_stp H); clear H; intro wn k3 H) | ((with_reducible apply ld_one (ty := 22) Tryz.underlying22 rfl); rfl; rfl; (focus (apply H.one; (repeat (first | with_reducible exact mH | with_reducible apply mT)); done))) | ((with_reducible apply ld_rec); rfl; rfl; (first | (focus (apply H.rc; (repeat (first | with_reducible exact mH | with_reducible apply mT)); done)) | (apply RecAt.bel (hb := H.bel); assumption) | assumption)) | ((fail_if_success have := k5); (with_reducible apply al_rec H); clear H; intro wn k5 H) | ((with_reducible apply st_rec H); rfl; rfl; rfl; (repeat (first | with_reducible apply Upd.head | with_reducible apply Upd.tail)); (first | assumption | (refine Hid.out ?_; assumption)); (first | rfl | assumption | (refine Hid.out ?_; assumption)); clear H; intro wn H) | ((with_reducible apply ld_dead); rfl; rfl; (first | (focus (apply H.rc; (repeat (first | with_reducible exact mH | with_reducible apply mT)); done)) | (apply RecAt.bel (hb := H.bel); assumption))) | ((with_reducible apply ld_F); rfl; rfl; (first | (focus (apply H.rc; (repeat (first | with_reducible exact mH | with_reducible apply mT)); done)) | (apply RecAt.bel (hb := H.bel); assumption))) | ((with_reducible apply ld_fld); rfl; rfl; (first | (focus (apply H.fld; (repeat (first | with_reducible exact mH | with_reducible apply mT)); done)) | (apply FldAt.bel (hb := H.bel); assumption))) | ((with_reducible apply ld_fstamp); rfl; rfl; (first | (focus (apply H.fld; (repeat (first | with_reducible exact mH | with_reducible apply mT)); done)) | (apply FldAt.bel (hb := H.bel); assumption))) | ((with_reducible apply ld_stp); rfl; rfl; (focus (apply H.arr; (repeat (first | with_reducible exact mH | with_reducible apply mT)); done))) | ((with_reducible apply st_stamp H); rfl; rfl; rfl; (repeat (first | with_reducible apply Upd.head | with_reducible apply Upd.tail)); clear H; intro wn H) | ((fail_if_success have := k7); (with_reducible apply al_fld H); clear H; intro wn k7 H) | ((with_reducible apply st_fld H); rfl; rfl; rfl; (repeat (first | with_reducible apply Upd.head | with_reducible apply Upd.tail)); clear H; intro wn H) | (go_at_call 87; (with_reducible refine (max_v rfl rfl _).mono ?_); rintro e wn ⟨rfl, hb⟩; replace H := H.call hb; clear hb))
          go_roundw
          case rel => exact ⟨j + 1, N', R', by omega, by go_num, Lib.hid (by rw [I2.out, ← Hnf.out, List.drop_length]; rfl), H.sub (by (repeat (first | with_reducible exact List.Sublist.refl _ | with_reducible refine List.Sublist.cons_cons _ ?_ | refine List.Sublist.cons _ ?_)))⟩
          case measure => simp [intOf]; omega
    · have hjn : j = n := by omega
      subst hjn
      have Hres : Hid (bLast L = (N, R)) := Lib.hid (by rw [I.out, ← Hn.out, List.drop_length]; rfl)
      go_wp2_with (first | go_skip | ((fail_if_success have := kB); (with_reducible apply arm_box H); rfl; clear H; intro wn kB H) | ((fail_if_success have := k2); (with_reducible apply al_stp H); clear H; intro wn k2 H) | ((fail_if_success have := k3); (with_reducible apply al_stp H); clear H; intro wn k3 H) | ((with_reducible apply ld_one (ty := 22) Tryz.underlying22 rfl); rfl; rfl; (focus (apply H.one; (repeat (first | with_reducible exact mH | with_reducible apply mT)); done))) | ((with_reducible apply ld_rec); rfl; rfl; (first | (focus (apply H.rc; (repeat (first | with_reducible exact mH | with_reducible apply mT)); done)) | (apply RecAt.bel (hb := H.bel); assumption) | assumption)) | ((fail_if_success have := k5); (with_reducible apply al_rec H); clear H; intro wn k5 H) | ((with_reducible apply st_rec H); rfl; rfl; rfl; (repeat (first | with_reducible apply Upd.head | with_reducible apply Upd.tail)); (first | assumption | (refine Hid.out ?_; assumption)); (first | rfl | assumption | (refine Hid.out ?_; assumption)); clear H; intro wn H) | ((with_reducible apply ld_dead); rfl; rfl; (first | (focus (apply H.rc; (repeat (first | with_reducible exact mH | with_reducible apply mT)); done)) | (apply RecAt.bel (hb := H.bel); assumption))) | ((with_reducible apply ld_F); rfl; rfl; (first | (focus (apply H.rc; (repeat (first | with_reducible exact mH | with_reducible apply mT)); done)) | (apply RecAt.bel (hb := H.bel); assumption))) | ((with_reducible apply ld_fld); rfl; rfl; (first | (focus (apply H.fld; (repeat (first | with_reducible exact mH | with_reducible apply mT)); done)) | (apply FldAt.bel (hb := H.bel); assumption))) | ((with_reducible apply ld_fstamp); rfl; rfl; (first | (focus (apply H.fld; (repeat (first | with_reducible exact mH | with_reducible apply mT)); done)) | (apply FldAt.bel (hb := H.bel); assumption))) | ((with_reducible apply ld_stp); rfl; rfl; (focus (apply H.arr; (repeat (first | with_reducible exact mH | with_reducible apply mT)); done))) | ((with_reducible apply st_stamp H); rfl; rfl; rfl; (repeat (first | with_reducible apply Upd.head | with_reducible apply Upd.tail)); clear H; intro wn H) | ((fail_if_success have := k7); (with_reducible apply al_fld H); clear H; intro wn k7 H) | ((with_reducible apply st_fld H); rfl; rfl; rfl; (repeat (first | with_reducible apply Upd.head | with_reducible apply Upd.tail)); clear H; intro wn H) | (go_at_call 87; (with_reducible refine (max_v rfl rfl _).mono ?_); rintro e wn ⟨rfl, hb⟩; replace H := H.call hb; clear hb))
      all_goals first | (rw [Exit.noGoto_ret]) | skip
      have hR := H.arr (b := k2) (t := 30) (cs := #[.int .i64 N, .int .i64 R]) (by (repeat (first | with_reducible exact mH | with_reducible apply mT)))
      exact bodyPost_ret (results_cell_one Tryz.results102 _ _ k2 #[.int .i64 N, .int .i64 R] _ rfl hR Tryz.underlying30 rfl stamp_info) rfl ⟨by rw [Hres.out], H.bel⟩
theorem bklast_v {v : Value} {L : BK} {N R : Int} (h : bLast L = (N, R)) (w : World) (hv : Recs w v L) : Calls Tryz.prog 102 #[.agg #[v]] w fun e w' => e = .returned (.agg #[.int .i64 N, .int .i64 R]) ∧ Below w.heap.size w w' :=
  (bklast_c v L w hv).mono fun e w' ⟨h1, h2⟩ => ⟨by rw [h1, h], h2⟩
end Go.Proofs.YtolbmemogoojhaaGreat
/- A book with what a record tells. -/
namespace Go.Proofs.YtolbmemogoojhaaGreat
open Go Go.RowKit Go.Deep
set_option linter.unusedVariables false
set_option linter.unusedSimpArgs false
set_option maxRecDepth 100000
section
variable {ops : Array Oper} {rest : List Oper} {a : Act} {w0 w : World} {Q : Exit → Act → World → Prop} {Γ : List Res} {dst : Option Tmp} {typ : TypeId} {x y : Operand} {pos : String} {af : Array Edge} {no N R : Int} {S : ByteArray} {A : Array Value} {r : RD} {p : Option Addr} {n c : Nat}
theorem bd_recF (hx : a.eval x = .agg A) (hy : a.eval y = .slice p n c) (hb : Tryz.prog.built 33 [(0, .agg A), (2, .slice p n c)] = some (rA r (.slice p n c))) (h : wpList Tryz.prog ops Q rest (a.put dst (.agg (rA r (.slice p n c)))) w) :
    wpList Tryz.prog ops Q (⟨dst, .build 33 #[(0, x), (2, y)], typ, pos, af, none⟩ :: rest) a w :=
  wpList_build_to rfl 33 #[(0, x), (2, y)] rfl dst rfl _ (by simp only [List.map_toArray, List.map_cons, List.map_nil, hx, hy]; exact hb) h
theorem bd_recD (hx : a.eval x = .agg A) (hy : a.eval y = .agg #[.int .i64 N, .int .i64 R]) (hb : Tryz.prog.built 33 [(0, .agg A), (1, .agg #[.int .i64 N, .int .i64 R])] = some (rA r (.slice none 0 0))) (h : wpList Tryz.prog ops Q rest (a.put dst (.agg (rA r (.slice none 0 0)))) w) :
    wpList Tryz.prog ops Q (⟨dst, .build 33 #[(0, x), (1, y)], typ, pos, af, none⟩ :: rest) a w :=
  wpList_build_to rfl 33 #[(0, x), (1, y)] rfl dst rfl _ (by simp only [List.map_toArray, List.map_cons, List.map_nil, hx, hy]; exact hb) h
theorem bs_fld3 (H : St w0 w Γ) (hx : a.eval x = .agg #[.int .i64 no, .int .i64 N, .int .i64 R, .string S]) (h : ∀ w' b, St w0 w' (Res.row 82 4 (.slice (some ⟨b, 0, none⟩) 1 1) 1 (fieldsL [(no, N, R, S)]) :: Γ) → wpList Tryz.prog ops Q rest (a.put dst (.slice (some ⟨b, 0, none⟩) 1 1)) w') : wpList Tryz.prog ops Q (⟨dst, .buildSlice 31 1 #[(0, x)], typ, pos, af, none⟩ :: rest) a w :=
  arm_bslice1 H hx (cs := fieldsL [(no, N, R, S)]) (by simp [Value.cells, fieldsL]) Tryz.underlying31 info_field rfl rfl (by decide) (by decide) h
end
def rW (key : IDK) (no : Int) (v : ByteArray) (N R : Int) : RD := ⟨key.1, 0, 0, [(no, N, R, v)]⟩
set_option maxHeartbeats 800000 in
theorem tellW (key : IDK) (no : Int) (v : ByteArray) (N R : Int) {x : RD} (hxx : rW key no v N R = x) (k1 k2 k3 : Nat) (w : World) (hk : Sub w k1 0 (encU key.1).toArray) (hn : Sub w k2 0 #[.int .i64 no]) (hv : Sub w k3 0 #[.string v]) :
    Calls Tryz.prog 61 #[.agg #[.int .i64 N, .int .i64 R], .pointer (some ⟨k1, 0, none⟩), .pointer (some ⟨k2, 0, none⟩), .pointer (some ⟨k3, 0, none⟩)] w fun e w' => ∃ s, e = .returned (.agg (rA x s)) ∧ Flds w' s x.f ∧ Below w.heap.size w w' := by
  have Hk := Lib.hid hk; have Hno := Lib.hid hn; have Hv := Lib.hid hv; clear hk hn hv
  have Hok : Hid x.ok := Lib.hid (by rw [← hxx]; exact key.2)
  have Hbo : Hid (∀ p n c, Tryz.prog.built 33 [(0, .agg (encU key.1).toArray), (2, .slice p n c)] = some (rA x (.slice p n c))) := Lib.hid fun p n c => by rw [← hxx]; exact built_id_f (encU_arr16 key.2) p n c
  have Hbd : Hid True := Lib.hid trivial
  have Hf : Hid (x.f = [(no, N, R, v)]) := Lib.hid (by rw [← hxx]; rfl)
  have H := St.init w
  clear hxx
  go_enter Tryz.func61, Tryz.ntmps61
  go_wp2_with (first | go_skip | ((fail_if_success have := kS); (with_reducible apply arm_box H); rfl; clear H; intro wn kS H) | ((fail_if_success have := kR); (with_reducible apply al_rec H); clear H; intro wn kR H) | ((with_reducible apply ld_idS (k := key)); rfl; rfl; exact Hk.out.keep H.bel) | ((with_reducible refine ld_one (ty := 3) Tryz.underlying3 rfl ?_ ?_ (Hno.out.keep H.bel) ?_); rfl; rfl) | ((with_reducible refine ld_one (ty := 9) Tryz.underlying9 rfl ?_ ?_ (Hv.out.keep H.bel) ?_); rfl; rfl) | ((with_reducible apply ld_stp); rfl; rfl; (focus (apply H.arr; (repeat (first | with_reducible exact mH | with_reducible apply mT)); done))) | ((with_reducible apply bs_fld3 H); rfl; clear H; intro wn b H) | ((with_reducible apply bd_recF); rfl; rfl; exact Hbo.out _ _ _) | ((with_reducible apply bd_recD); rfl; rfl; exact Hbd.out) | ((with_reducible apply st_rec H); rfl; rfl; rfl; (repeat (first | with_reducible apply Upd.head | with_reducible apply Upd.tail)); (first | assumption | (refine Hid.out ?_; assumption)); (first | rfl | assumption | (refine Hid.out ?_; assumption)); clear H; intro wn H))
  all_goals first | (rw [Exit.noGoto_ret]) | skip
  have hR := (H.rc (b := kR) (r := x) (by (repeat (first | with_reducible exact mH | with_reducible apply mT)))).1
  refine bodyPost_ret (results_cell_one Tryz.results61 _ _ kR (rA x _) _ rfl hR Tryz.underlying33 rfl (rA_info Hok.out)) rfl ⟨_, rfl, ?_, H.bel⟩
  rw [Hf.out]
  exact (show Row _ 4 _ 1 (fieldsL [(no, N, R, v)]) from H.rowRead (by (repeat (first | with_reducible exact mH | with_reducible apply mT))))
end Go.Proofs.YtolbmemogoojhaaGreat
/- A book with what a record tells, by a replica. -/
namespace Go.Proofs.YtolbmemogoojhaaGreat
open Go Go.RowKit Go.Deep
set_option linter.unusedVariables false
set_option linter.unusedSimpArgs false
set_option maxRecDepth 100000
def MadeR (W0 : World) (f : Value → Value) (J : BK) (W : World) (v : Value) : Prop := ∃ (s : Value) (r : Res), v = f s ∧ (∀ W, r.holds W → Recs W s J) ∧ r.holds W ∧ ∀ b, r.foot b → W0.heap.size ≤ b
theorem MadeR.keep {W0 : World} {f : Value → Value} {J : BK} (w w' : World) (v : Value) (hb : Below w.heap.size w w') (h : MadeR W0 f J w v) : MadeR W0 f J w' v := by
  obtain ⟨s, r, e, h0, h1, h2⟩ := h
  exact ⟨s, r, e, h0, Res.keep h1 hb, h2⟩
def MadeF (x : RD) (W : World) (v : Value) : Prop := ∃ s, v = .agg (rA x s) ∧ Flds W s x.f
theorem MadeF.keep {x : RD} (w w' : World) (v : Value) (hb : Below w.heap.size w w') (h : MadeF x w v) : MadeF x w' v := by
  obtain ⟨s, e, h1⟩ := h
  exact ⟨s, e, h1.below hb⟩
def MadeB (x : RD) (W : World) (v : Value) : Prop := ∃ s, v = .agg #[s] ∧ Recs W s [x]
theorem MadeB.keep {x : RD} (w w' : World) (v : Value) (hb : Below w.heap.size w w') (h : MadeB x w v) : MadeB x w' v := by
  obtain ⟨s, e, h1⟩ := h
  exact ⟨s, e, h1.below hb⟩
set_option maxHeartbeats 1600000 in
theorem withW {va : Value} {L : BK} {rep N0 R0 N R c d : Int} {J : BK} {x : RD} (hl : bLast L = (N0, R0)) (hn : stNext N0 R0 rep = (N, R, c)) (hd : (if c = 0 then bCan L [x] else c) = d) (hJ : (if c = 0 then bJ L [x] else []) = J) (w : World) (hv : Recs w va L) {key : IDK} {no : Int} {v : ByteArray} (hxx : rW key no v N R = x) {k1 k2 k3 : Nat} (hk : Sub w k1 0 (encU key.1).toArray) (hno : Sub w k2 0 #[.int .i64 no]) (hvv : Sub w k3 0 #[.string v]) :
    Calls Tryz.prog 60 #[.agg #[va], .int .i64 rep, .func (.func 61) #[] #[.pointer (some ⟨k1, 0, none⟩), .pointer (some ⟨k2, 0, none⟩), .pointer (some ⟨k3, 0, none⟩)]] w (JoinP w d J) := by
  have ok : x.ok := by rw [← hxx]; exact key.2
  have Tell : Hid (∀ W, Below w.heap.size w W → Calls Tryz.prog 61 #[.agg #[.int .i64 N, .int .i64 R], .pointer (some ⟨k1, 0, none⟩), .pointer (some ⟨k2, 0, none⟩), .pointer (some ⟨k3, 0, none⟩)] W fun e w' => ∃ s, e = .returned (.agg (rA x s)) ∧ Flds w' s x.f ∧ Below W.heap.size W w') := Lib.hid fun W hb => tellW key no v N R hxx k1 k2 k3 W (hk.keep hb) (hno.keep hb) (hvv.keep hb)
  have Hv := Lib.hid hv; have Hl := Lib.hid hl; have Hn := Lib.hid hn
  have Hone : Hid (Value.oneCell' (.slice none 0 0) = true) := Lib.hid rfl
  have H := St.init w
  by_cases h0 : c = 0
  · subst h0
    have Hd : Hid (bCan L [x] = d) := Lib.hid (by rw [← hd, if_pos rfl])
    have HJ : Hid (bJ L [x] = J) := Lib.hid (by rw [← hJ, if_pos rfl])
    clear hv hl hn hd hJ hxx hk hno hvv
    go_enter Tryz.func60, Tryz.ntmps60
    go_wp2_with (first | go_skip | ((fail_if_success have := kB); (with_reducible apply arm_box H); rfl; clear H; intro wn kB H) | ((fail_if_success have := kR); (with_reducible apply al_bk H); clear H; intro wn kR H) | ((with_reducible apply ld_bk); rfl; rfl; (focus (apply H.one; (repeat (first | with_reducible exact mH | with_reducible apply mT)); done))) | (go_at_call 102; (with_reducible refine (bklast_v Hl.out _ (Hv.out.below H.bel)).mono ?_); rintro e wn ⟨rfl, hb⟩; replace H := H.call hb; clear hb) | (go_at_call 101; (with_reducible refine (next_m _ _ _ _ _ _ Hn.out _).mono ?_); rintro e wn ⟨rfl, hb⟩; replace H := H.call hb; clear hb) | ((fail_if_success have := k8); (with_reducible apply al_stp H); clear H; intro wn k8 H) | ((with_reducible apply st_stamp H); rfl; rfl; rfl; (repeat (first | with_reducible apply Upd.head | with_reducible apply Upd.tail)); clear H; intro wn H) | (with_reducible apply bd_bk0) | ((with_reducible apply st_bk H); rfl; rfl; rfl; (repeat (first | with_reducible apply Upd.head | with_reducible apply Upd.tail)); (first | rfl | assumption | (refine Hid.out ?_; assumption)); clear H; intro wn H))
    (try simp only [Act.put, List.setIfInBounds_toArray, List.set_cons_zero, List.set_cons_succ])
    refine wp_slotsM [⟨some 21, [], fun _ v => v = .agg #[va]⟩, ⟨some 22, [], fun _ v => v = .func (.func 61) #[] #[.pointer (some ⟨k1, 0, none⟩), .pointer (some ⟨k2, 0, none⟩), .pointer (some ⟨k3, 0, none⟩)]⟩, ⟨some 23, [], fun _ v => v = .agg #[.int .i64 N, .int .i64 R]⟩, ⟨some 24, [(1, 22), (2, 23)], MadeF x⟩, ⟨some 25, [(3, 24)], fun W v => Recs W v [x]⟩, ⟨some 26, [(4, 25)], MadeB x⟩, ⟨some 27, [(0, 21), (5, 26)], MadeR wn (fun s => .tuple #[.agg #[s], .int .i64 d]) J⟩, ⟨some 28, [(6, 27)], MadeR wn (fun s => .agg #[s]) J⟩, ⟨some 29, [(6, 27)], fun _ v => v = .int .i64 d⟩] [21, 22, 23, 24, 25, 26, 27, 28, 29] (false :: false :: false :: false :: false :: false :: false :: false :: false :: false :: false :: false :: false :: false :: false :: false :: false :: false :: false :: false :: false :: true :: true :: true :: true :: true :: true :: true :: true :: true :: []) [(some 21, []), (some 22, []), (some 23, []), (some 24, [(1, 22), (2, 23)]), (some 25, [(3, 24)]), (some 26, [(4, 25)]), (some 27, [(0, 21), (5, 26)]), (some 28, [(6, 27)]), (some 29, [(6, 27)])] rfl (by kernel_rfl) (by kernel_rfl) (by rfl) (by rfl) ?_ ?_ ?_
    · exact stable_cons (fun _ _ _ _ h => h) (stable_cons (fun _ _ _ _ h => h) (stable_cons (fun _ _ _ _ h => h) (stable_cons MadeF.keep (stable_cons (fun _ _ _ hb h => Recs.below h hb) (stable_cons MadeB.keep (stable_cons MadeR.keep (stable_cons MadeR.keep (stable_cons (fun _ _ _ _ h => h) (stable_nil)))))))))
    · refine hops_cons ?_ (hops_cons ?_ (hops_cons ?_ (hops_cons ?_ (hops_cons ?_ (hops_cons ?_ (hops_cons ?_ (hops_cons ?_ (hops_cons ?_ (trivial)))))))))
      · unfold HopM; intro u wn hb hk; have H0 := H; replace H := H.call hb
        simp only [fillM]
        go_wp2_with (first | go_skip | ((with_reducible apply ld_bk); rfl; rfl; (focus (apply H.one; (repeat (first | with_reducible exact mH | with_reducible apply mT)); done))) | ((with_reducible apply ld_stp); rfl; rfl; (focus (apply H.arr; (repeat (first | with_reducible exact mH | with_reducible apply mT)); done))))
        exact ⟨rfl, Below.refl _ _, .agg #[va], rfl, rfl⟩
      · unfold HopM; intro u wn hb hk; have H0 := H; replace H := H.call hb
        simp only [fillM]
        go_wp2_with (first | go_skip | ((with_reducible apply ld_bk); rfl; rfl; (focus (apply H.one; (repeat (first | with_reducible exact mH | with_reducible apply mT)); done))) | ((with_reducible apply ld_stp); rfl; rfl; (focus (apply H.arr; (repeat (first | with_reducible exact mH | with_reducible apply mT)); done))))
        exact ⟨rfl, Below.refl _ _, .func (.func 61) #[] #[.pointer (some ⟨k1, 0, none⟩), .pointer (some ⟨k2, 0, none⟩), .pointer (some ⟨k3, 0, none⟩)], rfl, rfl⟩
      · unfold HopM; intro u wn hb hk; have H0 := H; replace H := H.call hb
        simp only [fillM]
        go_wp2_with (first | go_skip | ((with_reducible apply ld_bk); rfl; rfl; (focus (apply H.one; (repeat (first | with_reducible exact mH | with_reducible apply mT)); done))) | ((with_reducible apply ld_stp); rfl; rfl; (focus (apply H.arr; (repeat (first | with_reducible exact mH | with_reducible apply mT)); done))))
        exact ⟨rfl, Below.refl _ _, .agg #[.int .i64 N, .int .i64 R], rfl, rfl⟩
      · unfold HopM; intro u wn hb hk; have H0 := H; replace H := H.call hb
        obtain ⟨hq1, hq2, -⟩ := hk
        replace hq1 := hq1 _ rfl; dsimp only at hq1
        replace hq2 := hq2 _ rfl; dsimp only at hq2
        simp only [fillM, hq1, hq2]
        clear hq1 hq2
        go_wp2_with (first | go_skip | (go_at_call 61; (with_reducible refine (Tell.out _ H.bel).mono ?_); rintro e wm ⟨sj, rfl, hf, hbb⟩))
        exact ⟨rfl, hbb, _, rfl, sj, rfl, hf⟩
      · unfold HopM; intro u wn hb hk; have H0 := H; replace H := H.call hb
        obtain ⟨hq3, -⟩ := hk
        replace hq3 := hq3 _ rfl; dsimp only at hq3; obtain ⟨sj, hq3, hf3⟩ := hq3
        simp only [fillM, hq3]
        clear hq3
        go_wp2_with (first | go_skip | ((with_reducible apply bs_rec ok (St.init _)); rfl; intro wm b hs))
        exact ⟨rfl, hs.bel, _, rfl, [(x, sj)], rfl, Res.row_reads (hs.get mH), fun p hp => by rw [List.mem_singleton.1 hp]; exact ⟨ok, hf3.below hs.bel⟩⟩
      · unfold HopM; intro u wn hb hk; have H0 := H; replace H := H.call hb
        obtain ⟨hq4, -⟩ := hk
        replace hq4 := hq4 _ rfl; dsimp only at hq4; have hrc := hq4; obtain ⟨a5, c5, hq4, -, -⟩ := Recs.slice hq4; rw [hq4] at hrc
        simp only [fillM, hq4]
        clear hq4
        go_wp2_with (first | go_skip)
        exact ⟨rfl, Below.refl _ _, _, rfl, _, rfl, hrc⟩
      · unfold HopM; intro u wn hb hk; have H0 := H; replace H := H.call hb
        obtain ⟨hq0, hq5, -⟩ := hk
        replace hq0 := hq0 _ rfl; dsimp only at hq0
        replace hq5 := hq5 _ rfl; dsimp only at hq5; obtain ⟨sb, hq5, hrb⟩ := hq5
        simp only [fillM, hq0, hq5]
        clear hq0 hq5
        go_wp2_with (first | go_skip | (go_at_call 11; (with_reducible refine (bkjoin_c Hd.out HJ.out _ (Hv.out.below H.bel) hrb).mono ?_); rintro e wm ⟨vj, rj, rfl, hrj, hs⟩))
        exact ⟨rfl, hs.bel, _, rfl, vj, rj, rfl, hrj, hs.get mH, fun b hf => Nat.le_trans hb.size (hs.base _ mH b hf)⟩
      · unfold HopM; intro u wn hb hk; have H0 := H; replace H := H.call hb
        obtain ⟨hq6, -⟩ := hk
        replace hq6 := hq6 _ rfl; dsimp only at hq6; obtain ⟨vj, rj, hq6, g1, g2, g3⟩ := hq6; dsimp only at hq6
        simp only [fillM, hq6]
        clear hq6
        go_wp2_with (first | go_skip)
        exact ⟨rfl, Below.refl _ _, _, rfl, vj, rj, rfl, g1, g2, g3⟩
      · unfold HopM; intro u wn hb hk; have H0 := H; replace H := H.call hb
        obtain ⟨hq6, -⟩ := hk
        replace hq6 := hq6 _ rfl; dsimp only at hq6; obtain ⟨vj, rj, hq6, g1, g2, g3⟩ := hq6; dsimp only at hq6
        simp only [fillM, hq6]
        clear hq6
        go_wp2_with (first | go_skip | ((with_reducible apply ld_bk); rfl; rfl; (focus (apply H.one; (repeat (first | with_reducible exact mH | with_reducible apply mT)); done))) | ((with_reducible apply ld_stp); rfl; rfl; (focus (apply H.arr; (repeat (first | with_reducible exact mH | with_reducible apply mT)); done))))
        exact ⟨rfl, Below.refl _ _, .int .i64 d, rfl, rfl⟩
    intro u wn hb hk; have H0 := H; replace H := H.call hb
    obtain ⟨hq0, hq1, hq2, hq3, hq4, hq5, hq6, hq7, hq8, -⟩ := hk
    replace hq0 := hq0 _ rfl; dsimp only at hq0
    replace hq1 := hq1 _ rfl; dsimp only at hq1
    replace hq2 := hq2 _ rfl; dsimp only at hq2
    replace hq3 := hq3 _ rfl; dsimp only at hq3; obtain ⟨sj, hq3, hf3⟩ := hq3
    replace hq4 := hq4 _ rfl; dsimp only at hq4; have hrc := hq4; obtain ⟨a5, c5, hq4, -, -⟩ := Recs.slice hq4; rw [hq4] at hrc
    replace hq5 := hq5 _ rfl; dsimp only at hq5; obtain ⟨sb, hq5, hrb⟩ := hq5
    replace hq6 := hq6 _ rfl; dsimp only at hq6; obtain ⟨vj, rj, hq6, g1, g2, g3⟩ := hq6; dsimp only at hq6
    replace hq7 := hq7 _ rfl; dsimp only at hq7; obtain ⟨vj, rj, hq7, g1, g2, g3⟩ := hq7; dsimp only at hq7; have T1 : Hid (vj.oneCell' = true) := Lib.hid (g1 _ g2).one; have HJ2 := Lib.hid g1; replace H := H0.new hb g2 g3; clear g1 g2 g3
    replace hq8 := hq8 _ rfl; dsimp only at hq8
    simp only [fillM, List.length_cons, List.length_nil, Nat.reduceAdd, List.drop_succ_cons, List.drop_zero, hq0, hq1, hq2, hq3, hq4, hq5, hq6, hq7, hq8]
    clear hb H0 hq0 hq1 hq2 hq3 hq4 hq5 hq6 hq7 hq8
    go_wp2_with (first | go_skip | ((fail_if_success have := kB); (with_reducible apply arm_box H); rfl; clear H; intro wn kB H) | ((fail_if_success have := kR); (with_reducible apply al_bk H); clear H; intro wn kR H) | ((with_reducible apply ld_bk); rfl; rfl; (focus (apply H.one; (repeat (first | with_reducible exact mH | with_reducible apply mT)); done))) | (go_at_call 102; (with_reducible refine (bklast_v Hl.out _ (Hv.out.below H.bel)).mono ?_); rintro e wn ⟨rfl, hb⟩; replace H := H.call hb; clear hb) | (go_at_call 101; (with_reducible refine (next_m _ _ _ _ _ _ Hn.out _).mono ?_); rintro e wn ⟨rfl, hb⟩; replace H := H.call hb; clear hb) | ((fail_if_success have := k8); (with_reducible apply al_stp H); clear H; intro wn k8 H) | ((with_reducible apply st_stamp H); rfl; rfl; rfl; (repeat (first | with_reducible apply Upd.head | with_reducible apply Upd.tail)); clear H; intro wn H) | (with_reducible apply bd_bk0) | ((with_reducible apply st_bk H); rfl; rfl; rfl; (repeat (first | with_reducible apply Upd.head | with_reducible apply Upd.tail)); (first | rfl | assumption | (refine Hid.out ?_; assumption)); clear H; intro wn H))
    all_goals first | (rw [Exit.noGoto_ret]) | skip
    have hR := H.arr (b := kR) (t := 24) (cs := #[vj]) (by (repeat (first | with_reducible exact mH | with_reducible apply mT)))
    exact bodyPost_ret (results_cell_tmp Tryz.results60 _ _ kR #[vj] _ _ rfl rfl hR Tryz.underlying24 rfl bk_info) rfl ⟨vj, rj, rfl, HJ2.out, H.sub (by (repeat (first | with_reducible exact List.Sublist.refl _ | with_reducible refine List.Sublist.cons_cons _ ?_ | refine List.Sublist.cons _ ?_)))⟩
  · have hdd : d = c := by rw [← hd, if_neg h0]
    have hJJ : J = [] := by rw [← hJ, if_neg h0]
    subst hdd hJJ
    clear hv hl hn hd hJ hxx hk hno hvv
    go_enter Tryz.func60, Tryz.ntmps60
    go_wp2_with (first | go_skip | ((fail_if_success have := kB); (with_reducible apply arm_box H); rfl; clear H; intro wn kB H) | ((fail_if_success have := kR); (with_reducible apply al_bk H); clear H; intro wn kR H) | ((with_reducible apply ld_bk); rfl; rfl; (focus (apply H.one; (repeat (first | with_reducible exact mH | with_reducible apply mT)); done))) | (go_at_call 102; (with_reducible refine (bklast_v Hl.out _ (Hv.out.below H.bel)).mono ?_); rintro e wn ⟨rfl, hb⟩; replace H := H.call hb; clear hb) | (go_at_call 101; (with_reducible refine (next_m _ _ _ _ _ _ Hn.out _).mono ?_); rintro e wn ⟨rfl, hb⟩; replace H := H.call hb; clear hb) | ((fail_if_success have := k8); (with_reducible apply al_stp H); clear H; intro wn k8 H) | ((with_reducible apply st_stamp H); rfl; rfl; rfl; (repeat (first | with_reducible apply Upd.head | with_reducible apply Upd.tail)); clear H; intro wn H) | (with_reducible apply bd_bk0) | ((with_reducible apply st_bk H); rfl; rfl; rfl; (repeat (first | with_reducible apply Upd.head | with_reducible apply Upd.tail)); (first | rfl | assumption | (refine Hid.out ?_; assumption)); clear H; intro wn H))
    all_goals first | (rw [Exit.noGoto_ret]) | skip
    have hR := H.arr (b := kR) (t := 24) (cs := #[.slice none 0 0]) (by (repeat (first | with_reducible exact mH | with_reducible apply mT)))
    exact bodyPost_ret (results_cell_tmp Tryz.results60 _ _ kR #[.slice none 0 0] _ _ rfl rfl hR Tryz.underlying24 rfl bk_info) rfl ⟨.slice none 0 0, Res.none, rfl, fun W _ => Recs.nil W, H.addNone.sub (by (repeat (first | with_reducible exact List.Sublist.refl _ | with_reducible refine List.Sublist.cons_cons _ ?_ | refine List.Sublist.cons _ ?_)))⟩
end Go.Proofs.YtolbmemogoojhaaGreat
/- A value more; a record dead. -/
namespace Go.Proofs.YtolbmemogoojhaaGreat
open Go Go.RowKit Go.Deep
set_option linter.unusedVariables false
set_option linter.unusedSimpArgs false
set_option maxRecDepth 100000
def bWithP (L : BK) (rep : Int) (x : Int → Int → RD) : Int × BK :=
  let n := stNext (bLast L).1 (bLast L).2 rep
  (if n.2.2 = 0 then bCan L [x n.1 n.2.1] else n.2.2, if n.2.2 = 0 then bJ L [x n.1 n.2.1] else [])
def bWrite (L : BK) (key : IDK) (no rep : Int) (v : ByteArray) : Int × BK := if bMay L = true ∧ 0 ≤ no ∧ no < 8 ∧ v.size ≤ 200 then bWithP L rep (rW key no v) else (1, [])
set_option maxHeartbeats 3200000 in
theorem bkwrite_c {va : Value} {L : BK} {key : IDK} {no rep : Int} {v : ByteArray} {d : Int} {J : BK} (h : bWrite L key no rep v = (d, J)) (w : World) (hv : Recs w va L) :
    Calls Tryz.prog 22 #[.agg #[va], .agg (encU key.1).toArray, .int .i64 no, .int .i64 rep, .string v] w (JoinP w d J) := by
  obtain ⟨m, hm⟩ : ∃ m, Hid (bMay L = m) := ⟨_, rfl⟩
  have Hv := Lib.hid hv; clear hv
  have Hone : Hid (Value.oneCell' (.slice none 0 0) = true) := Lib.hid rfl
  have H := St.init w
  by_cases hc : m = true ∧ 0 ≤ no ∧ no < 8 ∧ v.size ≤ 200
  · unfold bWrite at h
    rw [hm.out, if_pos hc] at h
    obtain ⟨rfl, h0, h8, h200⟩ := hc
    obtain ⟨⟨N0, R0⟩, hl⟩ : ∃ p, bLast L = p := ⟨_, rfl⟩
    obtain ⟨⟨N, R, c⟩, hn⟩ : ∃ p, stNext N0 R0 rep = p := ⟨_, rfl⟩
    unfold bWithP at h
    rw [hl] at h
    dsimp only at h
    rw [hn] at h
    obtain ⟨x, hx⟩ : ∃ x, rW key no v N R = x := ⟨_, rfl⟩
    dsimp only at h
    rw [hx] at h
    have Hd := Lib.hid (congrArg Prod.fst h); have HJ := Lib.hid (congrArg Prod.snd h)
    dsimp only at Hd HJ
    have Hl := Lib.hid hl; have Hn := Lib.hid hn; have Hx := Lib.hid hx
    have h1 : decide (no < 0) = false := decide_eq_false (by omega)
    have h2 : decide (8 ≤ no) = false := decide_eq_false (by omega)
    have h3 : decide ((200 : Int) < (v.size : Int)) = false := decide_eq_false (by omega)
    clear h hl hn hx h0 h8 h200
    go_enter Tryz.func22, Tryz.ntmps22
    go_wp2_with (first | go_skip | ((fail_if_success have := kB); (with_reducible apply arm_box H); rfl; clear H; intro wn kB H) | ((fail_if_success have := kI); (with_reducible apply arm_box H); rfl; clear H; intro wn kI H) | ((fail_if_success have := kN); (with_reducible apply arm_box1 H); (conv => lhs; whnf); rfl; clear H; intro wn kN H) | ((fail_if_success have := kV); (with_reducible apply arm_box1 H); (conv => lhs; whnf); rfl; clear H; intro wn kV H) | ((fail_if_success have := kR); (with_reducible apply al_bk H); clear H; intro wn kR H) | ((with_reducible apply ld_bk); rfl; rfl; (focus (apply H.one; (repeat (first | with_reducible exact mH | with_reducible apply mT)); done))) | ((with_reducible apply ld_one (ty := 3) Tryz.underlying3 rfl); rfl; rfl; (focus (apply H.one; (repeat (first | with_reducible exact mH | with_reducible apply mT)); done))) | ((with_reducible apply ld_one (ty := 9) Tryz.underlying9 rfl); rfl; rfl; (focus (apply H.one; (repeat (first | with_reducible exact mH | with_reducible apply mT)); done))) | (with_reducible apply bd_bk0) | ((with_reducible apply st_bk H); rfl; rfl; rfl; (repeat (first | with_reducible apply Upd.head | with_reducible apply Upd.tail)); (first | rfl | assumption | (refine Hid.out ?_; assumption)); clear H; intro wn H) | (go_at_call 18; (with_reducible refine (bkmay_v hm.out _ (Hv.out.below H.bel)).mono ?_); rintro e wn ⟨rfl, hb⟩; replace H := H.call hb; clear hb) | (go_at_call 60; (with_reducible refine (withW Hl.out Hn.out Hd.out HJ.out _ (Hv.out.below H.bel) Hx.out (H.arr (b := kI) (t := 26) (by (repeat (first | with_reducible exact mH | with_reducible apply mT)))) (H.one (b := kN) (t := 3) (by (repeat (first | with_reducible exact mH | with_reducible apply mT)))) (H.one (b := kV) (t := 9) (by (repeat (first | with_reducible exact mH | with_reducible apply mT))))).mono ?_); rintro e wn ⟨vj, rj, rfl, hrj, hs⟩; replace H := H.comp hs; clear hs; simp only [List.cons_append, List.nil_append] at H; have T1 : Hid (vj.oneCell' = true) := Lib.hid (hrj _ (H.get (r := rj) (by (repeat (first | with_reducible exact mH | with_reducible apply mT))))).one; have HJ2 := Lib.hid hrj; clear hrj))
    all_goals first | (rw [Exit.noGoto_ret]) | skip
    have hR := H.arr (b := kR) (t := 24) (cs := #[vj]) (by (repeat (first | with_reducible exact mH | with_reducible apply mT)))
    exact bodyPost_ret (results_cell_tmp Tryz.results22 _ _ kR #[vj] _ _ rfl rfl hR Tryz.underlying24 rfl bk_info) rfl ⟨vj, rj, rfl, HJ2.out, H.sub (by (repeat (first | with_reducible exact List.Sublist.refl _ | with_reducible refine List.Sublist.cons_cons _ ?_ | refine List.Sublist.cons _ ?_)))⟩
  · unfold bWrite at h
    rw [hm.out, if_neg hc] at h
    cases h
    have hcase : m = false ∨ (m = true ∧ no < 0) ∨ (m = true ∧ ¬ no < 0 ∧ 8 ≤ no) ∨ (m = true ∧ ¬ no < 0 ∧ ¬ 8 ≤ no ∧ (200 : Int) < (v.size : Int)) := by
      cases m with
      | false => exact .inl rfl
      | true =>
        by_cases h1 : no < 0
        · exact .inr (.inl ⟨rfl, h1⟩)
        · by_cases h2 : 8 ≤ no
          · exact .inr (.inr (.inl ⟨rfl, h1, h2⟩))
          · exact .inr (.inr (.inr ⟨rfl, h1, h2, by
              have : ¬ v.size ≤ 200 := fun h => hc ⟨rfl, by omega, by omega, h⟩
              omega⟩))
    clear hc
    replace hcase : m = false ∨ (m = true ∧ decide (no < 0) = true) ∨ (m = true ∧ decide (no < 0) = false ∧ decide (8 ≤ no) = true) ∨ (m = true ∧ decide (no < 0) = false ∧ decide (8 ≤ no) = false ∧ decide ((200 : Int) < (v.size : Int)) = true) := by simpa using hcase
    rcases hcase with rfl | ⟨rfl, h1⟩ | ⟨rfl, h1, h2⟩ | ⟨rfl, h1, h2, h3⟩
    all_goals
      go_enter Tryz.func22, Tryz.ntmps22
      go_wp2_with (first | go_skip | ((fail_if_success have := kB); (with_reducible apply arm_box H); rfl; clear H; intro wn kB H) | ((fail_if_success have := kI); (with_reducible apply arm_box H); rfl; clear H; intro wn kI H) | ((fail_if_success have := kN); (with_reducible apply arm_box1 H); (conv => lhs; whnf); rfl; clear H; intro wn kN H) | ((fail_if_success have := kV); (with_reducible apply arm_box1 H); (conv => lhs; whnf); rfl; clear H; intro wn kV H) | ((fail_if_success have := kR); (with_reducible apply al_bk H); clear H; intro wn kR H) | ((with_reducible apply ld_bk); rfl; rfl; (focus (apply H.one; (repeat (first | with_reducible exact mH | with_reducible apply mT)); done))) | ((with_reducible apply ld_one (ty := 3) Tryz.underlying3 rfl); rfl; rfl; (focus (apply H.one; (repeat (first | with_reducible exact mH | with_reducible apply mT)); done))) | ((with_reducible apply ld_one (ty := 9) Tryz.underlying9 rfl); rfl; rfl; (focus (apply H.one; (repeat (first | with_reducible exact mH | with_reducible apply mT)); done))) | (with_reducible apply bd_bk0) | ((with_reducible apply st_bk H); rfl; rfl; rfl; (repeat (first | with_reducible apply Upd.head | with_reducible apply Upd.tail)); (first | rfl | assumption | (refine Hid.out ?_; assumption)); clear H; intro wn H) | (go_at_call 18; (with_reducible refine (bkmay_v hm.out _ (Hv.out.below H.bel)).mono ?_); rintro e wn ⟨rfl, hb⟩; replace H := H.call hb; clear hb) | (go_at_call 60; (with_reducible refine (withW Hl.out Hn.out Hd.out HJ.out _ (Hv.out.below H.bel) Hx.out (H.arr (b := kI) (t := 26) (by (repeat (first | with_reducible exact mH | with_reducible apply mT)))) (H.one (b := kN) (t := 3) (by (repeat (first | with_reducible exact mH | with_reducible apply mT)))) (H.one (b := kV) (t := 9) (by (repeat (first | with_reducible exact mH | with_reducible apply mT))))).mono ?_); rintro e wn ⟨vj, rj, rfl, hrj, hs⟩; replace H := H.comp hs; clear hs; simp only [List.cons_append, List.nil_append] at H; have T1 : Hid (vj.oneCell' = true) := Lib.hid (hrj _ (H.get (r := rj) (by (repeat (first | with_reducible exact mH | with_reducible apply mT))))).one; have HJ2 := Lib.hid hrj; clear hrj))
      all_goals first | (rw [Exit.noGoto_ret]) | skip
      have hR := H.arr (b := kR) (t := 24) (cs := #[.slice none 0 0]) (by (repeat (first | with_reducible exact mH | with_reducible apply mT)))
      exact bodyPost_ret (results_cell_tmp Tryz.results22 _ _ kR #[.slice none 0 0] _ _ rfl rfl hR Tryz.underlying24 rfl bk_info) rfl ⟨.slice none 0 0, Res.none, rfl, fun W _ => Recs.nil W, H.addNone.sub (by (repeat (first | with_reducible exact List.Sublist.refl _ | with_reducible refine List.Sublist.cons_cons _ ?_ | refine List.Sublist.cons _ ?_)))⟩
end Go.Proofs.YtolbmemogoojhaaGreat
