/- The walk of AuditJoin. -/
import Derived.Test.YtolbmemogoojhaaAudH
namespace Go.Proofs.Ytolbmemogoojhaa
open Go Go.RowKit Go.Deep
set_option linter.unusedVariables false
set_option linter.unusedSimpArgs false
set_option maxRecDepth 100000
theorem encZ_one (l : List Int) : ∀ u ∈ encZ l, u.oneCell' = true := fun u hu => by
  obtain ⟨s, _, rfl⟩ := List.mem_map.1 hu; rfl
theorem encZ_app (l m : List Int) : encZ (l ++ m) = encZ l ++ encZ m := by simp [encZ]
section
variable {a : Act} {b o : Nat} {dst : Option Tmp} {ty typ : TypeId} {x : Operand} {pos : String} {af : Array Edge} {gd : Option (Nat × Bool)} {C : World → Prop} {K : Act → Prop} {v : Value} {d : TypeDesc}
theorem qd_oneS (hu : Try.prog.underlying ty = some d) (hd : (match (generalizing := false) d with | .struct _ | .array _ _ => true | _ => false) = false) (hx : a.eval x = .pointer (some ⟨b, o, none⟩)) (h : ∀ w', C w' → Sub w' b o #[v]) (k : K (a.put dst v)) : (⟨dst, .load ty x, typ, pos, af, gd⟩ : Oper).quiet Try.prog a C K :=
  quiet_load_one (P := Try.prog) (C := C) (K := K) ty x rfl dst rfl b o hx v d h hu (by cases d <;> first | rfl | (exact absurd hd (by simp))) k
end
theorem ajoin_n {v zv : Value} {LL : List BK} {of : List Int} {dd : Int} {JJ : BK} {n : Nat} (h : auJ LL [] of = (dd, JJ)) (w : World) (hv : Bks w v LL) (hz : Row w 1 zv n (encZ of)) : Calls Try.prog 39 #[v, zv] w (JoinP w dd JJ) := by
  have e : n = of.length := by have := hz.1; rw [encZ_length] at this; omega
  subst e
  exact ajoin_c h w hv hz
def dn : Nat → Int
  | 0 => -1
  | k + 1 => (k : Int)
theorem dn_eq (k : Nat) : dn k = (k : Int) - 1 := by cases k <;> simp [dn] <;> omega
def trn (of : List Int) (k : Nat) : List Int := (of.drop k).reverse.flatMap fun i => [i, i]
theorem trn_step {of : List Int} {k : Nat} {z : Int} (h : of[k]? = some z) : trn of k = trn of (k + 1) ++ [z, z] := by
  unfold trn
  rw [drop_at h]
  simp
theorem trn_len (of : List Int) (k : Nat) : (trn of k).length ≤ 2 * of.length := by
  unfold trn
  have : ∀ l : List Int, (l.flatMap fun i => [i, i]).length = 2 * l.length := by
    intro l
    induction l with
    | nil => rfl
    | cons x l ih => rw [List.flatMap_cons, List.length_append, ih]; simp only [List.length_cons, List.length_nil]; omega
  rw [this, List.length_reverse, List.length_drop]; omega
theorem trn_zero (of : List Int) : trn of 0 = turned of := by unfold trn turned; simp
set_option maxHeartbeats 12800000 in
theorem auditJoin_walk (va : Value) (A : List BK) (vz : Value) (of : List Int) (h64 : ∀ n ∈ of, I64 n) (w : World) (ha : Bks w va A) (hz : Row w 1 vz of.length (encZ of)) : Calls Try.prog 13 #[va, vz] w fun e w' => e = .returned (.bool true) ∧ Below w.heap.size w w' := by
  obtain ⟨n, hn⟩ : ∃ n, A.length = n := ⟨_, rfl⟩
  obtain ⟨a, c, rfl, hm1, _⟩ := id ha.slice
  rw [hn] at ha hm1 ⊢
  unfold maxLen at hm1
  obtain ⟨nz, hnz⟩ : ∃ n, of.length = n := ⟨_, rfl⟩
  rw [hnz] at hz
  obtain ⟨_, az, cz, rfl, hm2, hm3, _⟩ := id hz
  unfold maxLen at hm3
  clear h64
  have Ha := Lib.hid ha; have Hn := Lib.hid hn; have Hz := Lib.hid hz; have Hnz := Lib.hid hnz; clear ha hn hz hnz
  obtain ⟨p, hfa⟩ : ∃ p, Hid (bksFew A = p) := ⟨_, rfl⟩
  have Hone0 : Hid (Value.oneCell' (.slice none 0 0) = true) := Lib.hid rfl
  have H := St.init w
  obtain ⟨s, hs⟩ : ∃ s, decide ((20 : Int) < (nz : Int)) = s := ⟨_, rfl⟩
  have hcase : (p = false ∨ (p = true ∧ s = true)) ∨ (p = true ∧ s = false) := by cases p <;> cases s <;> simp
  rcases hcase with (rfl | ⟨rfl, rfl⟩) | ⟨rfl, rfl⟩
  iterate 2
    · go_enter Try.func13, Try.ntmps13
      go_wp2_with (first | go_skip | ((fail_if_success have := kX); (with_reducible apply al_bk H); clear H; intro wn kX H) | ((fail_if_success have := kY); (with_reducible apply al_bk H); clear H; intro wn kY H) | ((with_reducible apply ld_bk); rfl; rfl; (focus (apply H.one; (repeat (first | with_reducible exact List.mem_cons_self | with_reducible apply List.mem_cons_of_mem)); done))) | ((with_reducible apply st_bk H); rfl; rfl; rfl; (repeat (first | with_reducible apply Upd.head | with_reducible apply Upd.tail)); (first | rfl | assumption | (refine Hid.out ?_; assumption)); clear H; intro wn H) | (go_at_call 34; (with_reducible refine (awake22_c _).mono ?_); rintro e wn ⟨rfl, hb⟩; replace H := H.call hb; clear hb) | (go_at_call 35; (with_reducible refine (books_v hfa.out _ (Ha.out.below H.bel)).mono ?_); rintro e wn ⟨rfl, hb⟩; replace H := H.call hb; clear hb) | (go_at_call 39; (fail_if_success have := Tx); (with_reducible refine (ajoin_n HA.out _ (Ha.out.below H.bel) (Hz.out.below H.bel)).mono ?_); rintro e wn ⟨vx, rx, rfl, hrj, hs⟩; replace H := H.comp hs; clear hs; simp only [List.cons_append, List.nil_append] at H; have Tx : Hid (vx.oneCell' = true) := Lib.hid (hrj _ (H.get (r := rx) (by (repeat (first | with_reducible exact List.mem_cons_self | with_reducible apply List.mem_cons_of_mem))))).one; have Jx := Lib.hid hrj; clear hrj))
      all_goals first | (rw [Exit.noGoto_ret]; go_ret) | go_ret
      all_goals exact ⟨rfl, H.bel⟩
  · obtain ⟨⟨d, X⟩, hA⟩ : ∃ x, auJ A [] of = x := ⟨_, rfl⟩
    by_cases h0 : d = 0
    · subst h0
      have h20 : nz ≤ 20 := by have := of_decide_eq_false hs; omega
      obtain ⟨_, _, hall, _⟩ := auJ_ok (J := []) rfl hA
      have Hall := Lib.hid hall
      have HY := Lib.hid (auJ_same (l' := turned of) hA (turned_mem of))
      have HA := Lib.hid hA
      have SM : Hid (bSame X X = true) := Lib.hid ((bSame_iff _ _).2 rfl)
      have hw0 : wrap64 ((nz : Int) - 1) = dn nz := by rw [dn_eq]; unfold wrap64; omega
      clear hA hall
      go_enter Try.func13, Try.ntmps13
      go_wp2_with (first | go_skip | ((fail_if_success have := kX); (with_reducible apply al_bk H); clear H; intro wn kX H) | ((fail_if_success have := kY); (with_reducible apply al_bk H); clear H; intro wn kY H) | ((with_reducible apply ld_bk); rfl; rfl; (focus (apply H.one; (repeat (first | with_reducible exact List.mem_cons_self | with_reducible apply List.mem_cons_of_mem)); done))) | ((with_reducible apply st_bk H); rfl; rfl; rfl; (repeat (first | with_reducible apply Upd.head | with_reducible apply Upd.tail)); (first | rfl | assumption | (refine Hid.out ?_; assumption)); clear H; intro wn H) | (go_at_call 34; (with_reducible refine (awake22_c _).mono ?_); rintro e wn ⟨rfl, hb⟩; replace H := H.call hb; clear hb) | (go_at_call 35; (with_reducible refine (books_v hfa.out _ (Ha.out.below H.bel)).mono ?_); rintro e wn ⟨rfl, hb⟩; replace H := H.call hb; clear hb) | (go_at_call 39; (fail_if_success have := Tx); (with_reducible refine (ajoin_n HA.out _ (Ha.out.below H.bel) (Hz.out.below H.bel)).mono ?_); rintro e wn ⟨vx, rx, rfl, hrj, hs⟩; replace H := H.comp hs; clear hs; simp only [List.cons_append, List.nil_append] at H; have Tx : Hid (vx.oneCell' = true) := Lib.hid (hrj _ (H.get (r := rx) (by (repeat (first | with_reducible exact List.mem_cons_self | with_reducible apply List.mem_cons_of_mem))))).one; have Jx := Lib.hid hrj; clear hrj))
      clear hw0
      go_loopw [10, 9] (fun i v wr => ∃ (k : Nat) (tl : List Int) (vt : Value), vt = v ∧ k ≤ nz ∧ i = .int .i64 (dn k) ∧ Hid (tl = trn of k) ∧ St w wr [Res.row 3 1 vt tl.length (encZ tl), Res.blk kX 24 #[vx], rx]) (fun i _ _ => (intOf i + 1).toNat)
      case atStart => exact ⟨nz, [], .slice none 0 0, rfl, by omega, congrArg (Value.int .i64) (dn_eq nz).symm, Lib.hid (by unfold trn; rw [← Hnz.out, List.drop_length]; rfl), H.nilRow _ _⟩
      case round =>
        clear H
        obtain ⟨k, tl, vt, hvt, hk, hi, HTN, H⟩ := hrel
        subst hvt
        cases k with
        | zero =>
          obtain rfl : _ = Value.int .i64 (-1) := hi
          have e : tl = turned of := by rw [HTN.out]; exact trn_zero of
          subst e
          go_wp2_with (first | go_skip | ((fail_if_success have := kY); (with_reducible apply al_bk H); clear H; intro wn kY H) | ((with_reducible apply ld_bk); rfl; rfl; (focus (apply H.one; (repeat (first | with_reducible exact List.mem_cons_self | with_reducible apply List.mem_cons_of_mem)); done))) | ((with_reducible apply st_bk H); rfl; rfl; rfl; (repeat (first | with_reducible apply Upd.head | with_reducible apply Upd.tail)); (first | rfl | assumption | (refine Hid.out ?_; assumption)); clear H; intro wn H) | (go_at_call 39; (fail_if_success have := Ty); (with_reducible refine (ajoin_c HY.out _ (Ha.out.below H.bel) (H.rowRead (e := 3) (by (repeat (first | with_reducible exact List.mem_cons_self | with_reducible apply List.mem_cons_of_mem))))).mono ?_); rintro e wn ⟨vy, ry, rfl, hrj, hs⟩; replace H := H.comp hs; clear hs; simp only [List.cons_append, List.nil_append] at H; have Ty : Hid (vy.oneCell' = true) := Lib.hid (hrj _ (H.get (r := ry) (by (repeat (first | with_reducible exact List.mem_cons_self | with_reducible apply List.mem_cons_of_mem))))).one; have Jy := Lib.hid hrj; clear hrj) | (go_at_call 24; first | ((with_reducible refine (bksame_v SM.out _ (Jx.out _ (H.get (r := rx) (by (repeat (first | with_reducible exact List.mem_cons_self | with_reducible apply List.mem_cons_of_mem))))) (Jy.out _ (H.get (r := ry) (by (repeat (first | with_reducible exact List.mem_cons_self | with_reducible apply List.mem_cons_of_mem)))))).mono ?_); rintro e wn ⟨rfl, hb⟩; replace H := H.call hb; clear hb)))
          go_loopw [13] (fun i wr => ∃ (j : Nat), j ≤ nz ∧ i = .int .i64 j ∧ St w wr [Res.blk kY 24 #[vy], ry, Res.blk kX 24 #[vx], rx]) (fun i _ => nz - (intOf i).toNat)
          case atStart => exact ⟨0, by omega, rfl, H.sub (by (repeat (first | with_reducible exact List.Sublist.refl _ | with_reducible refine List.Sublist.cons_cons _ ?_ | refine List.Sublist.cons _ ?_)))⟩
          case round =>
            clear H
            obtain ⟨j, hj, rfl, H⟩ := hrel
            by_cases hlt : j < nz
            · obtain ⟨i, hi⟩ : ∃ i, of[j]? = some i := ⟨_, List.getElem?_eq_getElem (by rw [Hnz.out]; exact hlt)⟩
              obtain ⟨hr, hq⟩ := Hall.out i (List.mem_of_getElem? hi)
              rw [Hn.out] at hr
              obtain ⟨bz, offz, c', he, hS⟩ := row1_at Hz.out (encZ_get hi)
              injection he with e1 e2 e3
              subst e1 e3
              have HI := Lib.hid hS
              obtain ⟨i, rfl⟩ : ∃ k : Nat, i = (k : Int) := ⟨i.toNat, by omega⟩
              have hin : i < n := by omega
              obtain ⟨L, hL⟩ : ∃ L, A[i]? = some L := ⟨_, List.getElem?_eq_getElem (by rw [Hn.out]; exact hin)⟩
              rw [bAt_get hL] at hq
              have LQ := Lib.hid hq
              obtain ⟨b, off, s, rfl, hs, hR⟩ := Ha.out.at hL
              have HS := Lib.hid hs; have HR := Lib.hid hR
              clear hs hR hL hr hi hS hq e2
              go_wp2_with (first | go_skip | ((fail_if_success have := kY); (with_reducible apply al_bk H); clear H; intro wn kY H) | ((with_reducible apply ld_bk); rfl; rfl; (focus (apply H.one; (repeat (first | with_reducible exact List.mem_cons_self | with_reducible apply List.mem_cons_of_mem)); done))) | ((with_reducible apply st_bk H); rfl; rfl; rfl; (repeat (first | with_reducible apply Upd.head | with_reducible apply Upd.tail)); (first | rfl | assumption | (refine Hid.out ?_; assumption)); clear H; intro wn H) | (go_at_call 39; (fail_if_success have := Ty); (with_reducible refine (ajoin_c HY.out _ (Ha.out.below H.bel) (H.rowRead (e := 3) (by (repeat (first | with_reducible exact List.mem_cons_self | with_reducible apply List.mem_cons_of_mem))))).mono ?_); rintro e wn ⟨vy, ry, rfl, hrj, hs⟩; replace H := H.comp hs; clear hs; simp only [List.cons_append, List.nil_append] at H; have Ty : Hid (vy.oneCell' = true) := Lib.hid (hrj _ (H.get (r := ry) (by (repeat (first | with_reducible exact List.mem_cons_self | with_reducible apply List.mem_cons_of_mem))))).one; have Jy := Lib.hid hrj; clear hrj) | (go_at_call 24; first | ((with_reducible refine (bksame_v SM.out _ (Jx.out _ (H.get (r := rx) (by (repeat (first | with_reducible exact List.mem_cons_self | with_reducible apply List.mem_cons_of_mem))))) (Jy.out _ (H.get (r := ry) (by (repeat (first | with_reducible exact List.mem_cons_self | with_reducible apply List.mem_cons_of_mem)))))).mono ?_); rintro e wn ⟨rfl, hb⟩; replace H := H.call hb; clear hb)))
              (try simp only [Act.put, List.setIfInBounds_toArray, List.set_cons_zero, List.set_cons_succ])
              refine wp_quiet_all (C := fun w' => ∃ x : After _, w' = x.w) (by kernel_rfl) (by kernel_rfl) (since_drew _) ?_
              repeat (first | go_big_quiet_skip | (go_big_quiet_want; (with_reducible apply qd_bk); rfl; (rintro _ ⟨x, rfl⟩; have H := H.call x.h; (focus (apply H.one; (repeat (first | with_reducible exact List.mem_cons_self | with_reducible apply List.mem_cons_of_mem)); done))); (go_simp; go_big_quiet_on)) | (go_big_quiet_want; (with_reducible apply qd_bk); rfl; (rintro _ ⟨x, rfl⟩; exact HS.out.keep (H.call x.h).bel); (go_simp; go_big_quiet_on)) | (go_big_quiet_want; (with_reducible apply qd_oneS (ty := 3) Try.underlying3 rfl); rfl; (rintro _ ⟨x, rfl⟩; exact HI.out.keep (H.call x.h).bel); (go_simp; go_big_quiet_on)) | (go_big_quiet_step ((first | (go_at_call 25; with_reducible exact after_call _ (bkleq_v LQ.out _ (HR.out.below (H.call (After.h _)).bel) (Jx.out _ ((H.call (After.h _)).get (r := rx) (by (repeat (first | with_reducible exact List.mem_cons_self | with_reducible apply List.mem_cons_of_mem)))))))))))
              refine wpQuiet_nil ?_
              rintro _ ⟨zq, rfl⟩; replace H := H.call zq.h
              go_wp2
              go_roundw
              case rel => exact ⟨j + 1, by omega, by go_num, H.sub (by (repeat (first | with_reducible exact List.Sublist.refl _ | with_reducible refine List.Sublist.cons_cons _ ?_ | refine List.Sublist.cons _ ?_)))⟩
              case measure => simp [intOf]; omega
            · have hjn : j = nz := by omega
              subst hjn
              go_wp2_with (first | go_skip | ((fail_if_success have := kY); (with_reducible apply al_bk H); clear H; intro wn kY H) | ((with_reducible apply ld_bk); rfl; rfl; (focus (apply H.one; (repeat (first | with_reducible exact List.mem_cons_self | with_reducible apply List.mem_cons_of_mem)); done))) | ((with_reducible apply st_bk H); rfl; rfl; rfl; (repeat (first | with_reducible apply Upd.head | with_reducible apply Upd.tail)); (first | rfl | assumption | (refine Hid.out ?_; assumption)); clear H; intro wn H) | (go_at_call 39; (fail_if_success have := Ty); (with_reducible refine (ajoin_c HY.out _ (Ha.out.below H.bel) (H.rowRead (e := 3) (by (repeat (first | with_reducible exact List.mem_cons_self | with_reducible apply List.mem_cons_of_mem))))).mono ?_); rintro e wn ⟨vy, ry, rfl, hrj, hs⟩; replace H := H.comp hs; clear hs; simp only [List.cons_append, List.nil_append] at H; have Ty : Hid (vy.oneCell' = true) := Lib.hid (hrj _ (H.get (r := ry) (by (repeat (first | with_reducible exact List.mem_cons_self | with_reducible apply List.mem_cons_of_mem))))).one; have Jy := Lib.hid hrj; clear hrj) | (go_at_call 24; first | ((with_reducible refine (bksame_v SM.out _ (Jx.out _ (H.get (r := rx) (by (repeat (first | with_reducible exact List.mem_cons_self | with_reducible apply List.mem_cons_of_mem))))) (Jy.out _ (H.get (r := ry) (by (repeat (first | with_reducible exact List.mem_cons_self | with_reducible apply List.mem_cons_of_mem)))))).mono ?_); rintro e wn ⟨rfl, hb⟩; replace H := H.call hb; clear hb)))
              all_goals first | (rw [Exit.noGoto_ret]; go_ret) | go_ret
              all_goals exact ⟨rfl, H.bel⟩
        | succ k =>
          obtain rfl : _ = Value.int .i64 (k : Int) := hi
          obtain ⟨z, hz⟩ : ∃ z, of[k]? = some z := ⟨_, List.getElem?_eq_getElem (by rw [Hnz.out]; omega)⟩
          obtain ⟨bz, offz, c', he, hS⟩ := row1_at Hz.out (encZ_get hz)
          injection he with e1 e2 e3
          subst e1 e3
          have HI := Lib.hid hS
          have HTN2 : Hid (tl ++ [z, z] = trn of k) := Lib.hid (by rw [trn_step hz, HTN.out])
          have HTL : Hid (tl.length ≤ 40) := Lib.hid (by have := trn_len of (k + 1); rw [← HTN.out, Hnz.out] at this; omega)
          have hw1 : wrap64 ((k : Int) - 1) = dn k := by rw [dn_eq]; unfold wrap64; omega
          have Hw1 := Lib.hid hw1
          have hkn : k < nz := by omega
          clear hz hS e2 hw1
          go_wp2_with (first | go_skip | ((fail_if_success have := kY); (with_reducible apply al_bk H); clear H; intro wn kY H) | ((with_reducible apply ld_bk); rfl; rfl; (focus (apply H.one; (repeat (first | with_reducible exact List.mem_cons_self | with_reducible apply List.mem_cons_of_mem)); done))) | ((with_reducible apply st_bk H); rfl; rfl; rfl; (repeat (first | with_reducible apply Upd.head | with_reducible apply Upd.tail)); (first | rfl | assumption | (refine Hid.out ?_; assumption)); clear H; intro wn H) | (go_at_call 39; (fail_if_success have := Ty); (with_reducible refine (ajoin_c HY.out _ (Ha.out.below H.bel) (H.rowRead (e := 3) (by (repeat (first | with_reducible exact List.mem_cons_self | with_reducible apply List.mem_cons_of_mem))))).mono ?_); rintro e wn ⟨vy, ry, rfl, hrj, hs⟩; replace H := H.comp hs; clear hs; simp only [List.cons_append, List.nil_append] at H; have Ty : Hid (vy.oneCell' = true) := Lib.hid (hrj _ (H.get (r := ry) (by (repeat (first | with_reducible exact List.mem_cons_self | with_reducible apply List.mem_cons_of_mem))))).one; have Jy := Lib.hid hrj; clear hrj) | (go_at_call 24; first | ((with_reducible refine (bksame_v SM.out _ (Jx.out _ (H.get (r := rx) (by (repeat (first | with_reducible exact List.mem_cons_self | with_reducible apply List.mem_cons_of_mem))))) (Jy.out _ (H.get (r := ry) (by (repeat (first | with_reducible exact List.mem_cons_self | with_reducible apply List.mem_cons_of_mem)))))).mono ?_); rintro e wn ⟨rfl, hb⟩; replace H := H.call hb; clear hb)))
          (try simp only [Act.put, List.setIfInBounds_toArray, List.set_cons_zero, List.set_cons_succ])
          refine wp_slotsMQ [⟨some 48, [], fun _ v => v = vt⟩, ⟨some 49, [], fun _ v => v = .slice (some ⟨bz, offz, none⟩) nz cz⟩, ⟨some 50, [], fun _ v => v = .int .i64 (k : Int)⟩, ⟨some 51, [(1, 49), (2, 50)], fun _ v => v = .pointer (some ⟨bz, offz + k, none⟩)⟩, ⟨some 52, [(3, 51)], fun _ v => v = .int .i64 z⟩, ⟨some 53, [], fun _ v => v = .slice (some ⟨bz, offz, none⟩) nz cz⟩, ⟨some 54, [], fun _ v => v = .int .i64 (k : Int)⟩, ⟨some 55, [(5, 53), (6, 54)], fun _ v => v = .pointer (some ⟨bz, offz + k, none⟩)⟩, ⟨some 56, [(7, 55)], fun _ v => v = .int .i64 z⟩] [48, 49, 50, 51, 52, 53, 54, 55, 56] (false :: false :: false :: false :: false :: false :: false :: false :: false :: false :: false :: false :: false :: false :: false :: false :: false :: false :: false :: false :: false :: false :: false :: false :: false :: false :: false :: false :: false :: false :: false :: false :: false :: false :: false :: false :: false :: false :: false :: false :: false :: false :: false :: false :: false :: false :: false :: false :: true :: true :: true :: true :: true :: true :: true :: true :: true :: []) [(some 48, []), (some 49, []), (some 50, []), (some 51, [(1, 49), (2, 50)]), (some 52, [(3, 51)]), (some 53, []), (some 54, []), (some 55, [(5, 53), (6, 54)]), (some 56, [(7, 55)])] 0 rfl (by kernel_rfl) (by kernel_rfl) (by rfl) (by rfl) ?_ (by rfl) (by rfl) ?_ ?_ ?_
          · exact stable_cons (fun _ _ _ _ h => h) (stable_cons (fun _ _ _ _ h => h) (stable_cons (fun _ _ _ _ h => h) (stable_cons (fun _ _ _ _ h => h) (stable_cons (fun _ _ _ _ h => h) (stable_cons (fun _ _ _ _ h => h) (stable_cons (fun _ _ _ _ h => h) (stable_cons (fun _ _ _ _ h => h) (stable_cons (fun _ _ _ _ h => h) (stable_nil)))))))))
          · refine hops_cons ?_ (hops_cons ?_ (hops_cons ?_ (hops_cons ?_ (hops_cons ?_ (hops_cons ?_ (hops_cons ?_ (hops_cons ?_ (hops_cons ?_ (trivial)))))))))
            · unfold HopM; intro u wn hb hk; have H0 := H; replace H := H.call hb
              simp only [fillM]
              go_wp2_with (first | go_skip | ((with_reducible refine ld_one (ty := 3) Try.underlying3 rfl ?_ ?_ (HI.out.keep H.bel) ?_); rfl; rfl))
              exact ⟨rfl, Below.refl _ _, vt, rfl, rfl⟩
            · unfold HopM; intro u wn hb hk; have H0 := H; replace H := H.call hb
              simp only [fillM]
              go_wp2_with (first | go_skip | ((with_reducible refine ld_one (ty := 3) Try.underlying3 rfl ?_ ?_ (HI.out.keep H.bel) ?_); rfl; rfl))
              exact ⟨rfl, Below.refl _ _, .slice (some ⟨bz, offz, none⟩) nz cz, rfl, rfl⟩
            · unfold HopM; intro u wn hb hk; have H0 := H; replace H := H.call hb
              simp only [fillM]
              go_wp2_with (first | go_skip | ((with_reducible refine ld_one (ty := 3) Try.underlying3 rfl ?_ ?_ (HI.out.keep H.bel) ?_); rfl; rfl))
              exact ⟨rfl, Below.refl _ _, .int .i64 (k : Int), rfl, rfl⟩
            · unfold HopM; intro u wn hb hk; have H0 := H; replace H := H.call hb
              obtain ⟨hq1, hq2, -⟩ := hk
              replace hq1 := hq1 _ rfl; dsimp only at hq1
              replace hq2 := hq2 _ rfl; dsimp only at hq2
              simp only [fillM, hq1, hq2]
              clear hq1 hq2
              go_wp2_with (first | go_skip | ((with_reducible refine ld_one (ty := 3) Try.underlying3 rfl ?_ ?_ (HI.out.keep H.bel) ?_); rfl; rfl))
              exact ⟨rfl, Below.refl _ _, .pointer (some ⟨bz, offz + k, none⟩), rfl, rfl⟩
            · unfold HopM; intro u wn hb hk; have H0 := H; replace H := H.call hb
              obtain ⟨hq3, -⟩ := hk
              replace hq3 := hq3 _ rfl; dsimp only at hq3
              simp only [fillM, hq3]
              clear hq3
              go_wp2_with (first | go_skip | ((with_reducible refine ld_one (ty := 3) Try.underlying3 rfl ?_ ?_ (HI.out.keep H.bel) ?_); rfl; rfl))
              exact ⟨rfl, Below.refl _ _, .int .i64 z, rfl, rfl⟩
            · unfold HopM; intro u wn hb hk; have H0 := H; replace H := H.call hb
              simp only [fillM]
              go_wp2_with (first | go_skip | ((with_reducible refine ld_one (ty := 3) Try.underlying3 rfl ?_ ?_ (HI.out.keep H.bel) ?_); rfl; rfl))
              exact ⟨rfl, Below.refl _ _, .slice (some ⟨bz, offz, none⟩) nz cz, rfl, rfl⟩
            · unfold HopM; intro u wn hb hk; have H0 := H; replace H := H.call hb
              simp only [fillM]
              go_wp2_with (first | go_skip | ((with_reducible refine ld_one (ty := 3) Try.underlying3 rfl ?_ ?_ (HI.out.keep H.bel) ?_); rfl; rfl))
              exact ⟨rfl, Below.refl _ _, .int .i64 (k : Int), rfl, rfl⟩
            · unfold HopM; intro u wn hb hk; have H0 := H; replace H := H.call hb
              obtain ⟨hq5, hq6, -⟩ := hk
              replace hq5 := hq5 _ rfl; dsimp only at hq5
              replace hq6 := hq6 _ rfl; dsimp only at hq6
              simp only [fillM, hq5, hq6]
              clear hq5 hq6
              go_wp2_with (first | go_skip | ((with_reducible refine ld_one (ty := 3) Try.underlying3 rfl ?_ ?_ (HI.out.keep H.bel) ?_); rfl; rfl))
              exact ⟨rfl, Below.refl _ _, .pointer (some ⟨bz, offz + k, none⟩), rfl, rfl⟩
            · unfold HopM; intro u wn hb hk; have H0 := H; replace H := H.call hb
              obtain ⟨hq7, -⟩ := hk
              replace hq7 := hq7 _ rfl; dsimp only at hq7
              simp only [fillM, hq7]
              clear hq7
              go_wp2_with (first | go_skip | ((with_reducible refine ld_one (ty := 3) Try.underlying3 rfl ?_ ?_ (HI.out.keep H.bel) ?_); rfl; rfl))
              exact ⟨rfl, Below.refl _ _, .int .i64 z, rfl, rfl⟩
          · intro u wn hb hk
            simp only [fillM]
            exact ⟨vt, .inl ⟨rfl, fun W => rfl⟩, rfl⟩
          intro u wn hb hk; have H0 := H; replace H := H.call hb
          obtain ⟨hq0, hq1, hq2, hq3, hq4, hq5, hq6, hq7, hq8, -⟩ := hk
          replace hq0 := hq0 _ rfl; dsimp only at hq0
          replace hq1 := hq1 _ rfl; dsimp only at hq1
          replace hq2 := hq2 _ rfl; dsimp only at hq2
          replace hq3 := hq3 _ rfl; dsimp only at hq3
          replace hq4 := hq4 _ rfl; dsimp only at hq4
          replace hq5 := hq5 _ rfl; dsimp only at hq5
          replace hq6 := hq6 _ rfl; dsimp only at hq6
          replace hq7 := hq7 _ rfl; dsimp only at hq7
          replace hq8 := hq8 _ rfl; dsimp only at hq8
          simp only [fillM, List.length_cons, List.length_nil, Nat.reduceAdd, List.drop_succ_cons, List.drop_zero, hq0, hq1, hq2, hq3, hq4, hq5, hq6, hq7, hq8]
          clear hb H0 hq0 hq1 hq2 hq3 hq4 hq5 hq6 hq7 hq8
          have hw1 := Hw1.out
          go_wp2_with (first | go_skip | ((with_reducible apply bs_in2 H); rfl; rfl; clear H; intro wn b2 H) | ((with_reducible apply arm_app H (ht := Try.underlying65) (hinfo := info_int3) (hzs := rfl) (hsz := by decide)); (conv => lhs; whnf); (conv => lhs; whnf); (intro v; (repeat (first | with_reducible apply Upd.head | with_reducible apply Upd.tail))); (focus (apply H.rowRead; (repeat (first | with_reducible exact List.mem_cons_self | with_reducible apply List.mem_cons_of_mem)); done)); (focus (exact encZ_one _; done)); (focus (have := HTL.out; unfold maxLen; simp only [List.length_cons, List.length_nil]; omega; done)); (focus (have := HTL.out; simp only [List.length_cons, List.length_nil]; omega; done)); clear H; intro wn vn H))
          go_roundw
          case rel => exact ⟨k, tl ++ [z, z], vn, rfl, by omega, congrArg (Value.int .i64) (dn_eq k).symm, HTN2, by rw [encZ_app, List.length_append]; exact H.sub (by (repeat (first | with_reducible exact List.Sublist.refl _ | with_reducible refine List.Sublist.cons_cons _ ?_ | refine List.Sublist.cons _ ?_)))⟩
          case measure => simp only [intOf]; omega
    · have hX := auJ_err hA h0
      subst hX
      have HA := Lib.hid hA
      clear hA
      go_enter Try.func13, Try.ntmps13
      go_wp2_with (first | go_skip | ((fail_if_success have := kX); (with_reducible apply al_bk H); clear H; intro wn kX H) | ((fail_if_success have := kY); (with_reducible apply al_bk H); clear H; intro wn kY H) | ((with_reducible apply ld_bk); rfl; rfl; (focus (apply H.one; (repeat (first | with_reducible exact List.mem_cons_self | with_reducible apply List.mem_cons_of_mem)); done))) | ((with_reducible apply st_bk H); rfl; rfl; rfl; (repeat (first | with_reducible apply Upd.head | with_reducible apply Upd.tail)); (first | rfl | assumption | (refine Hid.out ?_; assumption)); clear H; intro wn H) | (go_at_call 34; (with_reducible refine (awake22_c _).mono ?_); rintro e wn ⟨rfl, hb⟩; replace H := H.call hb; clear hb) | (go_at_call 35; (with_reducible refine (books_v hfa.out _ (Ha.out.below H.bel)).mono ?_); rintro e wn ⟨rfl, hb⟩; replace H := H.call hb; clear hb) | (go_at_call 39; (fail_if_success have := Tx); (with_reducible refine (ajoin_n HA.out _ (Ha.out.below H.bel) (Hz.out.below H.bel)).mono ?_); rintro e wn ⟨vx, rx, rfl, hrj, hs⟩; replace H := H.comp hs; clear hs; simp only [List.cons_append, List.nil_append] at H; have hsl := (hrj _ (H.get (r := rx) (by (repeat (first | with_reducible exact List.mem_cons_self | with_reducible apply List.mem_cons_of_mem))))).slice; simp only [List.length_nil] at hsl; obtain ⟨px, cx, rfl, -, -⟩ := hsl; have Tx : Hid ((Value.slice px 0 cx).oneCell' = true) := Lib.hid (hrj _ (H.get (r := rx) (by (repeat (first | with_reducible exact List.mem_cons_self | with_reducible apply List.mem_cons_of_mem))))).one; have Jx := Lib.hid hrj; clear hrj) | ((with_reducible apply ld_one (ty := 22) Try.underlying22 rfl); rfl; rfl; (focus (apply H.one; (repeat (first | with_reducible exact List.mem_cons_self | with_reducible apply List.mem_cons_of_mem)); done))))
      all_goals first | (rw [Exit.noGoto_ret]; go_ret) | go_ret
      all_goals exact ⟨rfl, H.bel⟩
end Go.Proofs.Ytolbmemogoojhaa
