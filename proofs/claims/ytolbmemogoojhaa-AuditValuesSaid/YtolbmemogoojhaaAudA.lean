/- Texts, each once: what is kept of them. -/
import Derived.Test.YtolbmemogoojhaaAudP
namespace Go.Proofs.Ytolbmemogoojhaa
open Go Go.RowKit Go.Deep
set_option linter.unusedVariables false
set_option linter.unusedSimpArgs false
set_option maxRecDepth 100000
def strL (l : List ByteArray) : List Value := l.map .string
def keysL (l : List ByteArray) : List (ByteArray × Value) := l.map fun s => (s, .bool true)
abbrev encS (s : ByteArray) : Value := .string s
theorem strL_length (l : List ByteArray) : (strL l).length = l.length := by simp [strL]
theorem strL_app (l : List ByteArray) (s : ByteArray) : strL (l ++ [s]) = strL l ++ strL [s] := by simp [strL]
theorem strL_get {l : List ByteArray} {j : Nat} {s : ByteArray} (h : l[j]? = some s) : (strL l)[j]? = some (.string s) := by simp [strL, h]
theorem strL_one (l : List ByteArray) : ∀ u ∈ strL l, u.oneCell' = true := fun u hu => by
  obtain ⟨s, _, rfl⟩ := List.mem_map.1 hu; rfl
theorem gIx_out : ∀ {l : List ByteArray} {s : ByteArray}, s ∉ l → gIx (keysL l) s = none
  | [], _, _ => rfl
  | x :: l, s, h => by
    have h1 : x ≠ s := fun e => h (e ▸ List.mem_cons_self)
    show (if x = s then _ else _) = none
    rw [if_neg h1]
    have := gIx_out (l := l) (s := s) fun k => h (List.mem_cons_of_mem _ k)
    unfold keysL at this
    rw [this]; rfl
theorem gIx_in : ∀ {l : List ByteArray} {s : ByteArray}, s ∈ l → ∃ j, gIx (keysL l) s = some (j, .bool true)
  | x :: l, s, h => by
    show ∃ j, (if x = s then _ else _) = _
    by_cases e : x = s
    · rw [if_pos e]; exact ⟨0, rfl⟩
    · rw [if_neg e]
      obtain ⟨j, hj⟩ := gIx_in (l := l) (s := s) (by rcases List.mem_cons.1 h with k | k; exact absurd k.symm e; exact k)
      unfold keysL at hj
      rw [hj]; exact ⟨j + 1, rfl⟩
theorem keys_put {l : List ByteArray} {s : ByteArray} (h : s ∉ l) : gPut (keysL l) s (.bool true) = keysL (l ++ [s]) := by
  rw [gPut_none _ (gIx_out h)]; simp [keysL]
theorem keyStr : KeyOk Try.prog 9 encS := str_key (by kernel_rfl)
theorem zero_boolW (w : World) : (zeroValue 4).run Try.prog w = .ok (.bool false) w := by kernel_rfl
theorem info_strR : (Try.prog.info? 9).map (fun i => (i.zero, i.size, i.bytes)) = some (some (.string ⟨#[]⟩), 1, 16) := by kernel_rfl
theorem info_strs : (Try.prog.info? 60).map (·.size) = some 1 := by kernel_rfl
theorem row1_at {w : World} {v : Value} {n : Nat} {cs : List Value} {u : Value} {j : Nat} (h : Row w 1 v n cs) (hj : cs[j]? = some u) : ∃ b off c, v = .slice (some ⟨b, off, none⟩) n c ∧ Sub w b (off + j) #[u] := by
  obtain ⟨hl, a, c, rfl, h1, h2, h3, h4⟩ := h
  have hlt := (List.getElem?_eq_some_iff.1 hj).1
  obtain ⟨b, off, rfl, hc⟩ := h4 (by omega)
  refine ⟨b, off, c, rfl, fun k x hk => ?_⟩
  match k with
  | 0 =>
    simp only [List.getElem?_toArray, List.getElem?_cons_zero, Option.some.injEq] at hk
    subst hk
    exact hc j u hj
  | k + 1 => simp at hk
section
variable {ops : Array Oper} {rest : List Oper} {a : Act} {w0 w : World} {Q : Exit → Act → World → Prop} {Γ Γ' : List Res} {dst : Option Tmp} {ty typ t : TypeId} {x y : Operand} {pos : String} {af : Array Edge} {gd : Option (Nat × Bool)} {b : Nat} {u v v' : Value} {S : ByteArray}
theorem St.two0 (H : St w0 w Γ) (hm : Res.blk b t #[u, v] ∈ Γ) : Sub w b 0 #[u] := fun j x hj => by
  match j with
  | 0 => simp only [List.getElem?_toArray, List.getElem?_cons_zero, Option.some.injEq] at hj; subst hj; exact (H.blkOf hm).cell 0
  | j + 1 => simp at hj
theorem St.two1 (H : St w0 w Γ) (hm : Res.blk b t #[u, v] ∈ Γ) : Sub w b 1 #[v] := fun j x hj => by
  match j with
  | 0 => simp only [List.getElem?_toArray, List.getElem?_cons_zero, Option.some.injEq] at hj; subst hj; exact (H.blkOf hm).cell 1
  | j + 1 => simp at hj
theorem bs_str (H : St w0 w Γ) (hx : a.eval x = .string S) (h : ∀ w' b, St w0 w' (Res.row 9 1 (.slice (some ⟨b, 0, none⟩) 1 1) [S].length (strL [S]) :: Γ) → wpList Try.prog ops Q rest (a.put dst (.slice (some ⟨b, 0, none⟩) 1 1)) w') : wpList Try.prog ops Q (⟨dst, .buildSlice 60 1 #[(0, x)], typ, pos, af, none⟩ :: rest) a w :=
  arm_bslice1 H hx (cs := strL [S]) rfl Try.underlying60 info_strR rfl rfl (by decide) (by decide) h
theorem st_two1 (H : St w0 w Γ) (hw : Region.wanted (⟨dst, .store 60 x y, typ, pos, af, gd⟩ : Oper) (yielded ops a.tmps) = true) (hx : a.eval x = .pointer (some ⟨b, 1, none⟩)) (hy : a.eval y = v') (q : Upd Γ (Res.blk b t #[u, v]) (Res.blk b t #[u, v']) Γ') (hs : ∃ a n c, v' = .slice a n c)
    (h : ∀ w', St w0 w' Γ' → wpList Try.prog ops Q rest (a.put dst undef) w') : wpList Try.prog ops Q (⟨dst, .store 60 x y, typ, pos, af, gd⟩ :: rest) a w := by
  obtain ⟨_, _, _, rfl⟩ := hs
  exact arm_st1 H hw hx hy q info_strs (by show 1 < 2; omega) rfl rfl rfl h
end
set_option maxHeartbeats 3200000 in
theorem oput_c {w0 w : World} {Γ : List Res} {o kM : Nat} {v sl : Value} {l ss : List ByteArray} (H : St w0 w (Res.row 9 1 sl ss.length (strL ss) :: Res.row 9 1 v l.length (strL l) :: Res.blk o 109 #[.map (some kM), v] :: Res.map kM encS (keysL l) :: Γ)) (hl : l.length + ss.length ≤ 100000) :
    Calls Try.prog 68 #[.pointer (some ⟨o, 0, none⟩), sl] w fun e w' => e = .returned (.tuple #[]) ∧ ∃ v', St w0 w' (Res.row 9 1 sl ss.length (strL ss) :: Res.row 9 1 v' (onces l ss).length (strL (onces l ss)) :: Res.blk o 109 #[.map (some kM), v'] :: Res.map kM encS (keysL (onces l ss)) :: Γ) := by
  obtain ⟨n, hn⟩ : ∃ n, ss.length = n := ⟨_, rfl⟩
  rw [hn] at H hl ⊢
  obtain ⟨az, cz, rfl⟩ := H.rowSl List.mem_cons_self
  have Hn := Lib.hid hn; clear hn
  go_enter Try.func68, Try.ntmps68
  go_wp2
  go_loopw [8] (fun i wr => ∃ (j : Nat) (v' : Value) (l' : List ByteArray), j ≤ n ∧ i = .int .i64 j ∧ Hid (onces l ss = onces l' (ss.drop j)) ∧ Hid (l'.length + (n - j) ≤ 100000) ∧ St w0 wr (Res.row 9 1 (.slice az n cz) n (strL ss) :: Res.row 9 1 v' l'.length (strL l') :: Res.blk o 109 #[.map (some kM), v'] :: Res.map kM encS (keysL l') :: Γ)) (fun i _ => n - (intOf i).toNat)
  case atStart => exact ⟨0, v, l, by omega, rfl, Lib.hid rfl, Lib.hid (by omega), H⟩
  case round =>
    clear H
    obtain ⟨j, v', l', hj, rfl, I, L, H⟩ := hrel
    by_cases hlt : j < n
    · obtain ⟨s, hs⟩ : ∃ s, ss[j]? = some s := ⟨_, List.getElem?_eq_getElem (by rw [Hn.out]; exact hlt)⟩
      obtain ⟨b, off, c, he, Hs⟩ := row1_at (H.rowRead List.mem_cons_self) (strL_get hs)
      injection he with e1 e2 e3
      subst e1 e3
      have Hst := Lib.hid (drop_at hs)
      have HS := Lib.hid Hs
      clear Hs hs e2
      by_cases hm : s ∈ l'
      · obtain ⟨q, hq⟩ := gIx_in hm
        have E1 := Lib.hid hq
        have I2 : Hid (onces l ss = onces l' (ss.drop (j + 1))) := Lib.hid (by rw [I.out, Hst.out]; show onces (onceP l' s) _ = _; unfold onceP; rw [if_pos hm])
        clear hm hq
        go_wp2_with (first | go_skip | ((with_reducible refine ld_one (ty := 9) Try.underlying9 rfl ?_ ?_ HS.out ?_); rfl; rfl) | ((with_reducible refine ld_one (ty := 107) Try.underlying107 rfl ?_ ?_ (H.two0 (by (repeat (first | with_reducible exact List.mem_cons_self | with_reducible apply List.mem_cons_of_mem)))) ?_); rfl; rfl) | ((with_reducible apply arm_lookup1 H (k := s) (enc := encS) (ok := keyStr) (ht := Try.underlying107) (hz := zero_boolW)); rfl; rfl; (repeat (first | with_reducible exact List.mem_cons_self | with_reducible apply List.mem_cons_of_mem)); rw [E1.out]; dsimp only))
        go_roundw
        case rel => exact ⟨j + 1, v', l', by omega, by go_num, I2, Lib.hid (by have := L.out; omega), H⟩
        case measure => simp [intOf]; omega
      · have E1 := Lib.hid (gIx_out hm)
        have E2 := Lib.hid (keys_put hm)
        have I2 : Hid (onces l ss = onces (l' ++ [s]) (ss.drop (j + 1))) := Lib.hid (by rw [I.out, Hst.out]; show onces (onceP l' s) _ = _; unfold onceP; rw [if_neg hm])
        have hlen : l'.length + 1 ≤ 100000 := by have := L.out; omega
        have HL := Lib.hid hlen
        clear hm hlen
        go_wp2_with (first | go_skip | ((with_reducible refine ld_one (ty := 9) Try.underlying9 rfl ?_ ?_ HS.out ?_); rfl; rfl) | ((with_reducible refine ld_one (ty := 107) Try.underlying107 rfl ?_ ?_ (H.two0 (by (repeat (first | with_reducible exact List.mem_cons_self | with_reducible apply List.mem_cons_of_mem)))) ?_); rfl; rfl) | ((with_reducible apply arm_lookup1 H (k := s) (enc := encS) (ok := keyStr) (ht := Try.underlying107) (hz := zero_boolW)); rfl; rfl; (repeat (first | with_reducible exact List.mem_cons_self | with_reducible apply List.mem_cons_of_mem)); rw [E1.out]; dsimp only) | ((with_reducible apply arm_mapset H (k := s) (v := .bool true) (enc := encS) (ok := keyStr) (ht := Try.underlying107)); rfl; rfl; rfl; (repeat (first | with_reducible apply Upd.head | with_reducible apply Upd.tail)); rw [E2.out]; clear H; intro wn H) | ((with_reducible refine ld_one (ty := 60) Try.underlying60 rfl ?_ ?_ (H.two1 (by (repeat (first | with_reducible exact List.mem_cons_self | with_reducible apply List.mem_cons_of_mem)))) ?_); rfl; rfl) | ((with_reducible apply bs_str H); rfl; clear H; intro wn b H) | ((with_reducible apply arm_app H (ht := Try.underlying60) (hinfo := info_strR) (hzs := rfl) (hsz := by decide)); (conv => lhs; whnf); (conv => lhs; whnf); (intro v; (repeat (first | with_reducible apply Upd.head | with_reducible apply Upd.tail))); (focus (apply H.rowRead; (repeat (first | with_reducible exact List.mem_cons_self | with_reducible apply List.mem_cons_of_mem)); done)); (focus (exact strL_one _; done)); (focus (have := HL.out; unfold maxLen; simp only [List.length_cons, List.length_nil]; omega; done)); (focus (have := HL.out; simp only [List.length_cons, List.length_nil]; omega; done)); clear H; intro wn vn H) | ((with_reducible apply st_two1 H); rfl; rfl; (conv => lhs; whnf); (repeat (first | with_reducible apply Upd.head | with_reducible apply Upd.tail)); (focus (apply H.rowSlice; (repeat (first | with_reducible exact List.mem_cons_self | with_reducible apply List.mem_cons_of_mem)); done)); clear H; intro wn H))
        go_roundw
        case rel => exact ⟨j + 1, vn, l' ++ [s], by omega, by go_num, I2, Lib.hid (by have := L.out; simp only [List.length_append, List.length_cons, List.length_nil]; omega), by rw [strL_app, List.length_append]; exact H.sub (by (repeat (first | with_reducible exact List.Sublist.refl _ | with_reducible refine List.Sublist.cons_cons _ ?_ | refine List.Sublist.cons _ ?_)))⟩
        case measure => simp [intOf]; omega
    · have hjn : j = n := by omega
      subst hjn
      have I2 : Hid (onces l ss = l') := Lib.hid (by rw [I.out, ← Hn.out, List.drop_length]; rfl)
      go_wp2
      refine bodyPost_end (results_none Try.results68 _ _ _) rfl ?_
      exact ⟨rfl, v', by rw [I2.out]; exact H⟩
end Go.Proofs.Ytolbmemogoojhaa
