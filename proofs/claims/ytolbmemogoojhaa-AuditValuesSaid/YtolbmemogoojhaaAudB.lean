/- Rows of books; all values of books. -/
import Derived.Test.YtolbmemogoojhaaAudA
namespace Go.Proofs.Ytolbmemogoojhaa
open Go Go.RowKit Go.Deep
set_option linter.unusedVariables false
set_option linter.unusedSimpArgs false
set_option maxRecDepth 100000
/-- A slice reads as these books. -/
def Bks (w : World) (v : Value) (LL : List BK) : Prop := ∃ l : List (BK × Value), l.map (·.1) = LL ∧ Row w 1 v l.length (l.map (·.2)) ∧ ∀ p ∈ l, Recs w p.2 p.1
theorem Bks.below {w w' : World} {v : Value} {LL : List BK} (h : Bks w v LL) (hb : Below w.heap.size w w') : Bks w' v LL := by
  obtain ⟨l, e, h1, h2⟩ := h
  exact ⟨l, e, Row.below h1 hb, fun p hp => (h2 p hp).below hb⟩
theorem Bks.slice {w : World} {v : Value} {LL : List BK} (h : Bks w v LL) : ∃ a c, v = .slice a LL.length c ∧ LL.length ≤ maxLen ∧ (a = none → c = 0) := by
  obtain ⟨l, rfl, ⟨_, a, c, rfl, h1, h2, h3, _⟩, _⟩ := h
  exact ⟨a, c, by simp, by simp; omega, h3⟩
theorem Bks.at {w : World} {a : Option Addr} {n c : Nat} {LL : List BK} (h : Bks w (.slice a n c) LL) {j : Nat} {L : BK} (hj : LL[j]? = some L) :
    ∃ b off s, a = some ⟨b, off, none⟩ ∧ Sub w b (off + j) #[s] ∧ Recs w s L := by
  obtain ⟨l, rfl, hrow, h2⟩ := h
  rw [List.getElem?_map, Option.map_eq_some_iff] at hj
  obtain ⟨p, hp, rfl⟩ := hj
  obtain ⟨b, off, c', he, hs⟩ := row1_at hrow (u := p.2) (j := j) (by rw [List.getElem?_map, hp]; rfl)
  injection he with e1 e2 e3
  exact ⟨b, off, p.2, e1, hs, h2 p (List.mem_of_getElem? hp)⟩
theorem flat_drop {α : Type} {f : α → List ByteArray} {l : List α} {j : Nat} {x : α} (h : l[j]? = some x) : (l.drop j).flatMap f = f x ++ (l.drop (j + 1)).flatMap f := by
  rw [drop_at h, List.flatMap_cons]
theorem map_drop {α : Type} {f : α → ByteArray} {l : List α} {j : Nat} {x : α} (h : l[j]? = some x) : (l.drop j).map f = f x :: (l.drop (j + 1)).map f := by
  rw [drop_at h, List.map_cons]
theorem oput_1 {w0 w : World} {Γ : List Res} {o kM : Nat} {v sl : Value} {l : List ByteArray} {s : ByteArray} (H : St w0 w (Res.row 9 1 sl [s].length (strL [s]) :: Res.row 9 1 v l.length (strL l) :: Res.blk o 109 #[.map (some kM), v] :: Res.map kM encS (keysL l) :: Γ)) (hl : l.length + [s].length ≤ 100000) :
    Calls Try.prog 68 #[.pointer (some ⟨o, 0, none⟩), sl] w fun e w' => e = .returned (.tuple #[]) ∧ ∃ v', St w0 w' (Res.row 9 1 v' (onceP l s).length (strL (onceP l s)) :: Res.blk o 109 #[.map (some kM), v'] :: Res.map kM encS (keysL (onceP l s)) :: Γ) :=
  (oput_c H hl).mono fun e w' ⟨he, v', h⟩ => ⟨he, v', h.sub (List.Sublist.cons _ (List.Sublist.refl _))⟩
theorem onceP_le (l : List ByteArray) (s : ByteArray) : (onceP l s).length ≤ l.length + 1 := (onceP_len l s).2.1
set_option maxHeartbeats 6400000 in
theorem values_c (v : Value) (LL : List BK) (w : World) (hv : Bks w v LL) (hb : (LL.flatMap valsB).length ≤ 90000) : Calls Try.prog 36 #[v] w fun e w' => ∃ v', e = .returned v' ∧ St w w' [Res.row 9 1 v' (auValues LL).length (strL (auValues LL))] := by
  obtain ⟨n, hn⟩ : ∃ n, LL.length = n := ⟨_, rfl⟩
  obtain ⟨a, c, rfl, hm1, _⟩ := id hv.slice
  rw [hn] at hv hm1 ⊢
  unfold maxLen at hm1
  have Hv := Lib.hid hv; have Hn := Lib.hid hn; have HB := Lib.hid hb; clear hv hn hb
  have H := St.init w
  go_enter Try.func36, Try.ntmps36
  go_wp2_with (first | go_skip | ((fail_if_success have := kM); (with_reducible apply arm_makeMap H (κ := ByteArray) encS); clear H; intro wn kM H) | ((fail_if_success have := kO); (with_reducible apply arm_box H); rfl; clear H; intro wn kO H))
  go_loopw [15] (fun i wr => ∃ (j : Nat) (v' : Value) (l' : List ByteArray), j ≤ n ∧ i = .int .i64 j ∧ Hid (auValues LL = onces l' ((LL.drop j).flatMap valsB)) ∧ Hid (l'.length + ((LL.drop j).flatMap valsB).length ≤ 90000) ∧ St w wr [Res.row 9 1 v' (l').length (strL l'), Res.blk kO 109 #[.map (some kM), v'], Res.map kM encS (keysL l')]) (fun i _ => n - (intOf i).toNat)
  case atStart => exact ⟨0, .slice none 0 0, [], by omega, rfl, Lib.hid rfl, Lib.hid (by simpa using HB.out), H.nilRow _ _⟩
  case round =>
    clear H
    obtain ⟨j, v1, l1, hj, rfl, I1, B1, H⟩ := hrel
    by_cases hlt : j < n
    · obtain ⟨L, hL⟩ : ∃ L, LL[j]? = some L := ⟨_, List.getElem?_eq_getElem (by rw [Hn.out]; exact hlt)⟩
      obtain ⟨b, off, s, rfl, hs, hR⟩ := Hv.out.at hL
      have HS := Lib.hid hs
      obtain ⟨X, hX⟩ : ∃ X, (LL.drop (j + 1)).flatMap valsB = X := ⟨_, rfl⟩
      have HX := Lib.hid hX
      have J1 : Hid (auValues LL = onces l1 (valsB L ++ X)) := Lib.hid (by rw [I1.out, flat_drop hL, hX])
      have C1 : Hid (l1.length + (valsB L ++ X).length ≤ 90000) := Lib.hid (by have := B1.out; rw [flat_drop hL, hX] at this; exact this)
      obtain ⟨n2, hn2⟩ : ∃ n, L.length = n := ⟨_, rfl⟩
      obtain ⟨a2, c2, rfl, hm2, _⟩ := id hR.slice
      rw [hn2] at hR hm2 HS hs
      unfold maxLen at hm2
      have Hone : Hid (Value.oneCell' (.slice a2 n2 c2) = true) := Lib.hid rfl
      have HR := Lib.hid hR; have Hn2 := Lib.hid hn2
      clear hs hR hL hX hn2
      go_wp2_with (first | go_skip | ((with_reducible refine ld_bk ?_ ?_ (HS.out.keep H.bel) ?_); rfl; rfl) | ((fail_if_success have := kB); (with_reducible apply al_bk H); clear H; intro wn kB H) | ((with_reducible apply st_bk H); rfl; rfl; rfl; (repeat (first | with_reducible apply Upd.head | with_reducible apply Upd.tail)); (first | rfl | assumption | (refine Hid.out ?_; assumption)); clear H; intro wn H) | ((with_reducible apply ld_one (ty := 22) Try.underlying22 rfl); rfl; rfl; (focus (apply H.one; (repeat (first | with_reducible exact List.mem_cons_self | with_reducible apply List.mem_cons_of_mem)); done))))
      go_loopw [22] (fun i wr => ∃ (j : Nat) (v' : Value) (l' : List ByteArray), j ≤ n2 ∧ i = .int .i64 j ∧ Hid (auValues LL = onces l' ((L.drop j).flatMap valsR ++ X)) ∧ Hid (l'.length + ((L.drop j).flatMap valsR ++ X).length ≤ 90000) ∧ St w wr [Res.row 9 1 v' (l').length (strL l'), Res.blk kO 109 #[.map (some kM), v'], Res.map kM encS (keysL l')]) (fun i _ => n2 - (intOf i).toNat)
      case atStart => exact ⟨0, v1, l1, by omega, rfl, J1, C1, H.sub (by (repeat (first | with_reducible exact List.Sublist.refl _ | with_reducible refine List.Sublist.cons_cons _ ?_ | refine List.Sublist.cons _ ?_)))⟩
      case round =>
        clear H
        obtain ⟨k, v2, l2, hk, rfl, I2, B2, H⟩ := hrel
        by_cases hkl : k < n2
        · obtain ⟨r, hr⟩ : ∃ r, L[k]? = some r := ⟨_, List.getElem?_eq_getElem (by rw [Hn2.out]; exact hkl)⟩
          obtain ⟨b2, off2, s, rfl, hbw, G, hf⟩ := HR.out.at hr
          obtain ⟨Y, hY⟩ : ∃ Y, (L.drop (k + 1)).flatMap valsR ++ X = Y := ⟨_, rfl⟩
          have HY := Lib.hid hY
          have J2 : Hid (auValues LL = onces l2 (valsR r ++ Y)) := Lib.hid (by rw [I2.out, flat_drop hr, List.append_assoc, hY])
          have C2 : Hid (l2.length + (valsR r ++ Y).length ≤ 90000) := Lib.hid (by have := B2.out; rw [flat_drop hr, List.append_assoc, hY] at this; exact this)
          have hok : Hid r.ok := Lib.hid G.2
          obtain ⟨nf, hnf⟩ : ∃ nf, r.f.length = nf := ⟨_, rfl⟩
          obtain ⟨_, fa, fc, rfl, hc1, hc2, _⟩ := id hf
          rw [hnf] at hf hc1 G
          unfold maxLen at hc2
          have Hf := Lib.hid hf; have Hnf := Lib.hid hnf
          have Hone2 : Hid (Value.oneCell' (.slice fa nf fc) = true) := Lib.hid rfl
          clear hf hr hbw hnf hY
          go_wp2_with (first | go_skip | ((with_reducible apply ld_rec); rfl; rfl; (first | (focus (apply H.rc; (repeat (first | with_reducible exact List.mem_cons_self | with_reducible apply List.mem_cons_of_mem)); done)) | (apply RecAt.bel (hb := H.bel); assumption) | assumption)) | ((fail_if_success have := kR); (with_reducible apply al_rec H); clear H; intro wn kR H) | ((with_reducible apply st_rec H); rfl; rfl; rfl; (repeat (first | with_reducible apply Upd.head | with_reducible apply Upd.tail)); (first | assumption | (refine Hid.out ?_; assumption)); (first | rfl | assumption | (refine Hid.out ?_; assumption)); clear H; intro wn H) | ((with_reducible apply ld_F); rfl; rfl; (first | (focus (apply H.rc; (repeat (first | with_reducible exact List.mem_cons_self | with_reducible apply List.mem_cons_of_mem)); done)) | (apply RecAt.bel (hb := H.bel); assumption))))
          go_loopw [29] (fun i wr => ∃ (j : Nat) (v' : Value) (l' : List ByteArray), j ≤ nf ∧ i = .int .i64 j ∧ Hid (auValues LL = onces l' ((r.f.drop j).map (fun f => f.2.2.2) ++ Y)) ∧ Hid (l'.length + ((r.f.drop j).map (fun f => f.2.2.2) ++ Y).length ≤ 90000) ∧ St w wr [Res.row 9 1 v' (l').length (strL l'), Res.blk kO 109 #[.map (some kM), v'], Res.map kM encS (keysL l')]) (fun i _ => nf - (intOf i).toNat)
          case atStart => exact ⟨0, v2, l2, by omega, rfl, J2, C2, H.sub (by (repeat (first | with_reducible exact List.Sublist.refl _ | with_reducible refine List.Sublist.cons_cons _ ?_ | refine List.Sublist.cons _ ?_)))⟩
          case round =>
            clear H
            obtain ⟨m, v3, l3, hm, rfl, I3, B3, H⟩ := hrel
            by_cases hml : m < nf
            · obtain ⟨f, hfk⟩ : ∃ f, r.f[m]? = some f := ⟨_, List.getElem?_eq_getElem (by rw [Hnf.out]; exact hml)⟩
              obtain ⟨b3, off3, rfl, G2⟩ := fldat_of Hf.out hfk
              have J3 : Hid (auValues LL = onces (onceP l3 f.2.2.2) ((r.f.drop (m + 1)).map (fun f => f.2.2.2) ++ Y)) := Lib.hid (by rw [I3.out, map_drop hfk]; rfl)
              have C3 : Hid ((onceP l3 f.2.2.2).length + ((r.f.drop (m + 1)).map (fun f => f.2.2.2) ++ Y).length ≤ 90000) := Lib.hid (by
                have h1 := B3.out; have h2 := onceP_le l3 f.2.2.2
                rw [map_drop hfk] at h1
                simp only [List.cons_append, List.length_cons] at h1; omega)
              have HL : Hid (l3.length + [f.2.2.2].length ≤ 100000) := Lib.hid (by have := B3.out; simp only [List.length_cons, List.length_nil]; omega)
              clear hfk
              go_wp2_with (first | go_skip | ((with_reducible apply ld_fld); rfl; rfl; (first | (focus (apply H.fld; (repeat (first | with_reducible exact List.mem_cons_self | with_reducible apply List.mem_cons_of_mem)); done)) | (apply FldAt.bel (hb := H.bel); assumption))) | ((fail_if_success have := kF); (with_reducible apply al_fld H); clear H; intro wn kF H) | ((with_reducible apply st_fld H); rfl; rfl; rfl; (repeat (first | with_reducible apply Upd.head | with_reducible apply Upd.tail)); clear H; intro wn H) | ((with_reducible apply ld_fstr2); rfl; rfl; (first | (focus (apply H.fld; (repeat (first | with_reducible exact List.mem_cons_self | with_reducible apply List.mem_cons_of_mem)); done)) | (apply FldAt.bel (hb := H.bel); assumption))) | ((fail_if_success have := kS); (with_reducible apply bs_str H); rfl; clear H; intro wn kS H) | (go_at_call 68; have H2 := H.sub (Γ' := [Res.row 9 1 (.slice (some ⟨kS, 0, none⟩) 1 1) [f.2.2.2].length (strL [f.2.2.2]), Res.row 9 1 v3 (l3).length (strL l3), Res.blk kO 109 #[.map (some kM), v3], Res.map kM encS (keysL l3)]) (by (repeat (first | with_reducible exact List.Sublist.refl _ | with_reducible refine List.Sublist.cons_cons _ ?_ | refine List.Sublist.cons _ ?_))); (with_reducible refine (oput_1 H2 HL.out).mono ?_); clear H2 H; rintro e wn ⟨rfl, v2, H⟩))
              go_roundw
              case rel => exact ⟨m + 1, v2, onceP l3 f.2.2.2, by omega, by go_num, J3, C3, H⟩
              case measure => simp [intOf]; omega
            · have hmn : m = nf := by omega
              subst hmn
              have J3 : Hid (auValues LL = onces l3 ((L.drop (k + 1)).flatMap valsR ++ X)) := Lib.hid (by rw [I3.out, ← Hnf.out, List.drop_length, HY.out]; rfl)
              have C3 : Hid (l3.length + ((L.drop (k + 1)).flatMap valsR ++ X).length ≤ 90000) := Lib.hid (by have := B3.out; rw [← Hnf.out, List.drop_length] at this; rw [HY.out]; exact this)
              go_wp2
              go_roundw
              case rel => exact ⟨k + 1, v3, l3, by omega, by go_num, J3, C3, H⟩
              case measure => simp [intOf]; omega
        · have hkn : k = n2 := by omega
          subst hkn
          have J2 : Hid (auValues LL = onces l2 ((LL.drop (j + 1)).flatMap valsB)) := Lib.hid (by rw [I2.out, ← Hn2.out, List.drop_length, HX.out]; rfl)
          have C2 : Hid (l2.length + ((LL.drop (j + 1)).flatMap valsB).length ≤ 90000) := Lib.hid (by have := B2.out; rw [← Hn2.out, List.drop_length] at this; rw [HX.out]; exact this)
          go_wp2
          go_roundw
          case rel => exact ⟨j + 1, v2, l2, by omega, by go_num, J2, C2, H⟩
          case measure => simp [intOf]; omega
    · have hjn : j = n := by omega
      subst hjn
      have J1 : Hid (auValues LL = l1) := Lib.hid (by rw [I1.out, ← Hn.out, List.drop_length]; rfl)
      go_wp2_with (first | go_skip | ((with_reducible refine ld_one (ty := 60) Try.underlying60 rfl ?_ ?_ (H.two1 (by (repeat (first | with_reducible exact List.mem_cons_self | with_reducible apply List.mem_cons_of_mem)))) ?_); rfl; rfl))
      all_goals first | (rw [Exit.noGoto_ret]; go_ret) | go_ret
      all_goals exact ⟨v1, rfl, by rw [J1.out]; exact H.sub (by (repeat (first | with_reducible exact List.Sublist.refl _ | with_reducible refine List.Sublist.cons_cons _ ?_ | refine List.Sublist.cons _ ?_)))⟩
end Go.Proofs.Ytolbmemogoojhaa
