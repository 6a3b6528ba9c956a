/- What is looked through: the plain law. No program. -/
import Derived.Test.YtolbmemogoojhaaN6
namespace Go.Proofs.Ytolbmemogoojhaa
open Go Go.RowKit Go.Deep
set_option linter.unusedVariables false
set_option linter.unusedSimpArgs false
set_option maxRecDepth 100000
instance memDec (s : ByteArray) (l : List ByteArray) : Decidable (s ∈ l) := decidable_of_iff (l.any (fun x => decide (x = s)) = true) (by
  rw [List.any_eq_true]
  exact ⟨fun ⟨x, h1, h2⟩ => of_decide_eq_true h2 ▸ h1, fun h => ⟨s, h, decide_eq_true rfl⟩⟩)
/-- Texts, each once. -/
def onceP (l : List ByteArray) (s : ByteArray) : List ByteArray := if s ∈ l then l else l ++ [s]
def onces (l ss : List ByteArray) : List ByteArray := ss.foldl onceP l
theorem onceP_mem (l : List ByteArray) (s x : ByteArray) : x ∈ onceP l s ↔ x ∈ l ∨ x = s := by
  unfold onceP
  split
  · rename_i h
    exact ⟨.inl, fun k => k.elim id fun e => e ▸ h⟩
  · simp
theorem onceP_nodup {l : List ByteArray} (h : l.Nodup) (s : ByteArray) : (onceP l s).Nodup := by
  unfold onceP
  split
  · exact h
  · rename_i k
    rw [List.nodup_append]
    exact ⟨h, by simp, fun a ha b hb e => by rw [List.mem_singleton.1 hb] at e; exact k (e ▸ ha)⟩
theorem onceP_len (l : List ByteArray) (s : ByteArray) : l.length ≤ (onceP l s).length ∧ (onceP l s).length ≤ l.length + 1 ∧ 0 < (onceP l s).length := by
  unfold onceP
  split
  · rename_i h
    exact ⟨Nat.le_refl _, Nat.le_succ _, List.length_pos_of_mem h⟩
  · simp
theorem onces_mem : ∀ (ss l : List ByteArray) (x : ByteArray), x ∈ onces l ss ↔ x ∈ l ∨ x ∈ ss
  | [], l, x => by simp [onces]
  | s :: ss, l, x => by
    show x ∈ onces (onceP l s) ss ↔ _
    rw [onces_mem ss, onceP_mem, List.mem_cons, or_assoc]
theorem onces_nodup : ∀ (ss : List ByteArray) {l : List ByteArray}, l.Nodup → (onces l ss).Nodup
  | [], l, h => h
  | s :: ss, l, h => onces_nodup ss (onceP_nodup h s)
theorem onces_len : ∀ (ss l : List ByteArray), (onces l ss).length ≤ l.length + ss.length
  | [], l => Nat.le_refl _
  | s :: ss, l => by
    have := onces_len ss (onceP l s)
    have := (onceP_len l s).2.1
    show (onces (onceP l s) ss).length ≤ _
    simp only [List.length_cons]; omega
theorem onces_app (l a b : List ByteArray) : onces l (a ++ b) = onces (onces l a) b := by unfold onces; rw [List.foldl_append]
def valsR (r : RD) : List ByteArray := r.f.map fun f => f.2.2.2
def valsB (L : BK) : List ByteArray := L.flatMap valsR
def auValues (LL : List BK) : List ByteArray := onces [] (LL.flatMap valsB)
theorem auValues_nodup (LL : List BK) : (auValues LL).Nodup := onces_nodup _ List.nodup_nil
theorem auValues_mem {LL : List BK} {L : BK} {r : RD} {f : F4} (h1 : L ∈ LL) (h2 : r ∈ L) (h3 : f ∈ r.f) : f.2.2.2 ∈ auValues LL :=
  (onces_mem _ _ _).2 (.inr (List.mem_flatMap.2 ⟨L, h1, List.mem_flatMap.2 ⟨r, h2, List.mem_map.2 ⟨f, h3, rfl⟩⟩⟩))
/-- A text's parts of eight bytes. -/
def cuts (s : ByteArray) : List ByteArray := (List.range (s.size - 7)).map fun i => s.extract i (i + 8)
def auParts (l : List ByteArray) : List ByteArray := onces [] (l.flatMap cuts)
theorem cuts_len (s : ByteArray) : (cuts s).length = s.size - 7 := by unfold cuts; simp
theorem cuts_size {s x : ByteArray} (h : x ∈ cuts s) : x.size = 8 := by
  unfold cuts at h
  obtain ⟨i, hi, rfl⟩ := List.mem_map.1 h
  have := List.mem_range.1 hi
  rw [ByteArray.size_extract]; omega
def mostL : List ByteArray → Nat
  | [] => 0
  | s :: l => (s.size - 7) + mostL l
theorem most_len : ∀ l : List ByteArray, (l.flatMap cuts).length = mostL l
  | [] => rfl
  | s :: l => by rw [List.flatMap_cons, List.length_append, cuts_len, most_len l]; rfl
theorem auParts_law (l : List ByteArray) : (∀ x ∈ auParts l, x.size = 8) ∧ (auParts l).Nodup ∧ (auParts l).length ≤ mostL l ∧ ((mostL l = 0) ↔ (auParts l).length = 0) := by
  have hle : (auParts l).length ≤ mostL l := by
    have := onces_len (l.flatMap cuts) []
    rw [most_len] at this
    simpa [auParts] using this
  refine ⟨fun x hx => ?_, onces_nodup _ List.nodup_nil, hle, fun h => by omega, fun h => ?_⟩
  · rcases (onces_mem _ _ _).1 hx with h | h
    · cases h
    · obtain ⟨s, _, hs⟩ := List.mem_flatMap.1 h
      exact cuts_size hs
  · rw [← most_len]
    cases hc : l.flatMap cuts with
    | nil => rfl
    | cons x t =>
      have : x ∈ auParts l := (onces_mem _ _ _).2 (.inr (by rw [hc]; exact List.mem_cons_self))
      rw [List.length_eq_zero_iff] at h
      rw [h] at this; cases this
theorem nodup_ne {l : List ByteArray} (h : l.Nodup) {i j : Nat} {x y : ByteArray} (hi : l[i]? = some x) (hj : l[j]? = some y) (hij : i ≠ j) : x ≠ y := by
  rintro rfl
  exact hij ((List.getElem?_inj (List.getElem?_eq_some_iff.1 hi).1 h).1 (hi.trans hj.symm))

/-! Books together. -/
def bAt (LL : List BK) (i : Int) : BK := LL.getD i.toNat []
def auJ (LL : List BK) : BK → List Int → Int × BK
  | J, [] => (0, J)
  | J, i :: l => if 0 ≤ i ∧ i < (LL.length : Int) then (if bCan J (bAt LL i) = 0 then auJ LL (bJ J (bAt LL i)) l else (bCan J (bAt LL i), [])) else (6, [])
theorem asc_len : ∀ {A X : BK}, Asc A → Asc X → (∀ r ∈ A, ∃ y ∈ X, y.id = r.id) → A.length ≤ X.length
  | [], _, _, _, _ => Nat.zero_le _
  | a :: A, [], _, _, h => by obtain ⟨y, hy, _⟩ := h a List.mem_cons_self; cases hy
  | a :: A, x :: X, ha, hx, h => by
    by_cases e : a.id = x.id
    · have := asc_len (A := A) (X := X) ha.2 hx.2 fun r hr => by
        obtain ⟨y, hy, e2⟩ := h r (List.mem_cons_of_mem _ hr)
        rcases List.mem_cons.1 hy with rfl | hy
        · exact absurd (e.trans e2) (idl_ne (ha.1 r hr))
        · exact ⟨y, hy, e2⟩
      simp only [List.length_cons]; omega
    · have hlt : x.id < a.id := by
        obtain ⟨y, hy, e2⟩ := h a List.mem_cons_self
        rcases List.mem_cons.1 hy with rfl | hy
        · exact absurd e2.symm e
        · rw [← e2]; exact hx.1 y hy
      have := asc_len (A := a :: A) (X := X) ha hx.2 fun r hr => by
        obtain ⟨y, hy, e2⟩ := h r hr
        rcases List.mem_cons.1 hy with rfl | hy
        · rcases List.mem_cons.1 hr with rfl | hr
          · exact absurd e2.symm e
          · have := ha.1 r hr
            rw [← e2] at this
            exact absurd hlt (idl_asymm this)
        · exact ⟨y, hy, e2⟩
      simp only [List.length_cons] at this ⊢; omega
theorem bLeq_len {A X : BK} (h : bLeq A X = true) : A.length ≤ X.length := by
  obtain ⟨h1, h2, h3⟩ := bLeq_iff.1 h
  have g1 := (bMay_iff.1 h1).1
  have g2 := (bMay_iff.1 h2).1
  refine asc_len g1.1 g2.1 fun r hr => ?_
  have := bBoth_find g1 g2 r.id
  rw [h3, bFind_of g1.1 hr] at this
  cases hx : bFind X r.id with
  | none => rw [hx] at this; cases this
  | some y => exact ⟨y, (bFind_mem hx).1, (bFind_mem hx).2⟩
theorem bLeq_lub {A B Y : BK} (h : bLeq A Y = true) (k : bLeq B Y = true) : bCan A B = 0 ∧ bLeq (bJ A B) Y = true := by
  obtain ⟨h1, h2, h3⟩ := bLeq_iff.1 h
  obtain ⟨k1, k2, k3⟩ := bLeq_iff.1 k
  have g1 := (bMay_iff.1 h1).1
  have g2 := (bMay_iff.1 k1).1
  have g3 := (bMay_iff.1 h2).1
  have e : bBoth (bBoth A B) Y = Y := by rw [bBoth_assoc g1 g2 g3, k3, h3]
  have hlen : (bBoth A B).length ≤ Y.length := by
    refine asc_len (bBoth_good g1 g2).1 g3.1 fun r hr => ?_
    have := bBoth_find (bBoth_good g1 g2) g3 r.id
    rw [e, bFind_of (bBoth_good g1 g2).1 hr] at this
    cases hx : bFind Y r.id with
    | none => rw [hx] at this; cases this
    | some y => exact ⟨y, (bFind_mem hx).1, (bFind_mem hx).2⟩
  have hc : bCan A B = 0 := bCan_ok.2 ⟨h1, k1, Nat.le_trans hlen (bMay_iff.1 h2).2⟩
  refine ⟨hc, ?_⟩
  rw [bBoth_eq hc]
  exact bLeq_iff.2 ⟨bBoth_may hc, h2, e⟩
theorem auJ_ok {LL : List BK} : ∀ {l : List Int} {J X : BK}, bMay J = true → auJ LL J l = (0, X) →
    bMay X = true ∧ bLeq J X = true ∧ (∀ i ∈ l, (0 ≤ i ∧ i < (LL.length : Int)) ∧ bLeq (bAt LL i) X = true) ∧ (∀ Y, bLeq J Y = true → (∀ i ∈ l, bLeq (bAt LL i) Y = true) → bLeq X Y = true)
  | [], J, X, hJ, h => by
    cases h
    exact ⟨hJ, by rw [bLeq_self]; exact hJ, fun i hi => (List.not_mem_nil hi).elim, fun Y hY _ => hY⟩
  | i :: l, J, X, hJ, h => by
    unfold auJ at h
    split at h
    · rename_i hr
      split at h
      · rename_i hc
        obtain ⟨h1, h2, h3, h4⟩ := auJ_ok (bJ_may hc) h
        have e := bBoth_eq hc
        refine ⟨h1, bLeq_trans (by rw [e]; exact bLeq_both1 hc) h2, fun k hk => ?_, fun Y hY hall => h4 Y (bLeq_lub hY (hall i List.mem_cons_self)).2 fun k hk => hall k (List.mem_cons_of_mem _ hk)⟩
        rcases List.mem_cons.1 hk with rfl | hk
        · exact ⟨hr, bLeq_trans (by rw [e]; exact bLeq_both2 hc) h2⟩
        · exact h3 k hk
      · rename_i hc
        exact absurd (congrArg Prod.fst h) hc
    · cases h
theorem auJ_do {LL : List BK} {X : BK} : ∀ {l : List Int} {J : BK}, bLeq J X = true → (∀ i ∈ l, (0 ≤ i ∧ i < (LL.length : Int)) ∧ bLeq (bAt LL i) X = true) → ∃ Z, auJ LL J l = (0, Z)
  | [], J, _, _ => ⟨J, rfl⟩
  | i :: l, J, hJ, h => by
    obtain ⟨h1, h2⟩ := h i List.mem_cons_self
    obtain ⟨k1, k2⟩ := bLeq_lub hJ h2
    unfold auJ
    rw [if_pos h1, if_pos k1]
    exact auJ_do k2 fun k hk => h k (List.mem_cons_of_mem _ hk)
theorem auJ_same {LL : List BK} {l l' : List Int} {X : BK} (h : auJ LL [] l = (0, X)) (hs : ∀ i, i ∈ l ↔ i ∈ l') : auJ LL [] l' = (0, X) := by
  obtain ⟨h1, h2, h3, h4⟩ := auJ_ok (J := []) rfl h
  obtain ⟨Z, hZ⟩ := auJ_do (l := l') h2 fun i hi => h3 i ((hs i).2 hi)
  obtain ⟨k1, k2, k3, k4⟩ := auJ_ok (J := []) rfl hZ
  rw [hZ, bLeq_anti (k4 X h2 fun i hi => (h3 i ((hs i).2 hi)).2) (h4 Z k2 fun i hi => (k3 i ((hs i).1 hi)).2)]
theorem auJ_err {LL : List BK} : ∀ {l : List Int} {J : BK} {d : Int} {X : BK}, auJ LL J l = (d, X) → d ≠ 0 → X = []
  | [], J, d, X, h, hd => by cases h; exact absurd rfl hd
  | i :: l, J, d, X, h, hd => by
    unfold auJ at h
    split at h
    · split at h
      · exact auJ_err h hd
      · exact (congrArg Prod.snd h).symm
    · exact (congrArg Prod.snd h).symm
def turned : List Int → List Int := fun of => of.reverse.flatMap fun i => [i, i]
theorem turned_mem (l : List Int) (i : Int) : i ∈ l ↔ i ∈ turned l := by unfold turned; simp
theorem bCan_nil {B : BK} : bCan [] B = if bMay B = true then 0 else 1 := by
  cases h : bMay B
  · unfold bCan; rw [h]; rfl
  · rw [if_pos rfl]
    refine bCan_ok.2 ⟨rfl, h, ?_⟩
    obtain ⟨h1, h2⟩ := bMay_iff.1 h
    unfold bBoth
    show (bPuts [] B).length ≤ 10
    rw [bPuts_nil h1]; exact h2
theorem bJ_nil {B : BK} (h : bMay B = true) : bJ [] B = B := by
  rw [bBoth_eq (by rw [bCan_nil, if_pos h])]
  exact bPuts_nil (bMay_iff.1 h).1
theorem auJ_one {LL : List BK} {i : Int} : auJ LL [] [i] = if 0 ≤ i ∧ i < (LL.length : Int) then (if bMay (bAt LL i) = true then (0, bAt LL i) else (1, [])) else (6, []) := by
  unfold auJ
  split
  · rw [bCan_nil]
    cases h : bMay (bAt LL i)
    · rfl
    · simp only [if_true]
      rw [bJ_nil h]; rfl
  · rfl
end Go.Proofs.Ytolbmemogoojhaa
/- Texts, each once: what is kept of them. -/
namespace Go.Proofs.Ytolbmemogoojhaa
open Go Go.RowKit Go.Deep
set_option linter.unusedVariables false
set_option linter.unusedSimpArgs false
set_option maxRecDepth 100000
def strL (l : List ByteArray) : List Value := l.map .string
def keysL (l : List ByteArray) : List (ByteArray × Value) := l.map fun s => (s, .bool true)
abbrev encS (s : ByteArray) : Value := .string s
theorem strL_length (l : List ByteArray) : (strL l).length = l.length := by simp [strL]
theorem strL_app (l : List ByteArray) (s : ByteArray) : strL (l ++ [s]) = strL l ++ strL [s] := by simp [strL]
theorem strL_get {l : List ByteArray} {j : Nat} {s : ByteArray} (h : l[j]? = some s) : (strL l)[j]? = some (.string s) := by simp [strL, h]
theorem strL_one (l : List ByteArray) : ∀ u ∈ strL l, u.oneCell' = true := fun u hu => by
  obtain ⟨s, _, rfl⟩ := List.mem_map.1 hu; rfl
theorem gIx_out : ∀ {l : List ByteArray} {s : ByteArray}, s ∉ l → gIx (keysL l) s = none
  | [], _, _ => rfl
  | x :: l, s, h => by
    have h1 : x ≠ s := fun e => h (e ▸ List.mem_cons_self)
    show (if x = s then _ else _) = none
    rw [if_neg h1]
    have := gIx_out (l := l) (s := s) fun k => h (List.mem_cons_of_mem _ k)
    unfold keysL at this
    rw [this]; rfl
theorem gIx_in : ∀ {l : List ByteArray} {s : ByteArray}, s ∈ l → ∃ j, gIx (keysL l) s = some (j, .bool true)
  | x :: l, s, h => by
    show ∃ j, (if x = s then _ else _) = _
    by_cases e : x = s
    · rw [if_pos e]; exact ⟨0, rfl⟩
    · rw [if_neg e]
      obtain ⟨j, hj⟩ := gIx_in (l := l) (s := s) (by rcases List.mem_cons.1 h with k | k; exact absurd k.symm e; exact k)
      unfold keysL at hj
      rw [hj]; exact ⟨j + 1, rfl⟩
theorem keys_put {l : List ByteArray} {s : ByteArray} (h : s ∉ l) : gPut (keysL l) s (.bool true) = keysL (l ++ [s]) := by
  rw [gPut_none _ (gIx_out h)]; simp [keysL]
theorem keyStr : KeyOk Try.prog 9 encS := str_key (by kernel_rfl)
theorem zero_boolW (w : World) : (zeroValue 4).run Try.prog w = .ok (.bool false) w := by kernel_rfl
theorem info_strR : (Try.prog.info? 9).map (fun i => (i.zero, i.size, i.bytes)) = some (some (.string ⟨#[]⟩), 1, 16) := by kernel_rfl
theorem info_strs : (Try.prog.info? 60).map (·.size) = some 1 := by kernel_rfl
theorem row1_at {w : World} {v : Value} {n : Nat} {cs : List Value} {u : Value} {j : Nat} (h : Row w 1 v n cs) (hj : cs[j]? = some u) : ∃ b off c, v = .slice (some ⟨b, off, none⟩) n c ∧ Sub w b (off + j) #[u] := by
  obtain ⟨hl, a, c, rfl, h1, h2, h3, h4⟩ := h
  have hlt := (List.getElem?_eq_some_iff.1 hj).1
  obtain ⟨b, off, rfl, hc⟩ := h4 (by omega)
  refine ⟨b, off, c, rfl, fun k x hk => ?_⟩
  match k with
  | 0 =>
    simp only [List.getElem?_toArray, List.getElem?_cons_zero, Option.some.injEq] at hk
    subst hk
    exact hc j u hj
  | k + 1 => simp at hk
section
variable {ops : Array Oper} {rest : List Oper} {a : Act} {w0 w : World} {Q : Exit → Act → World → Prop} {Γ Γ' : List Res} {dst : Option Tmp} {ty typ t : TypeId} {x y : Operand} {pos : String} {af : Array Edge} {gd : Option (Nat × Bool)} {b : Nat} {u v v' : Value} {S : ByteArray}
theorem St.two0 (H : St w0 w Γ) (hm : Res.blk b t #[u, v] ∈ Γ) : Sub w b 0 #[u] := fun j x hj => by
  match j with
  | 0 => simp only [List.getElem?_toArray, List.getElem?_cons_zero, Option.some.injEq] at hj; subst hj; exact (H.blkOf hm).cell 0
  | j + 1 => simp at hj
theorem St.two1 (H : St w0 w Γ) (hm : Res.blk b t #[u, v] ∈ Γ) : Sub w b 1 #[v] := fun j x hj => by
  match j with
  | 0 => simp only [List.getElem?_toArray, List.getElem?_cons_zero, Option.some.injEq] at hj; subst hj; exact (H.blkOf hm).cell 1
  | j + 1 => simp at hj
theorem bs_str (H : St w0 w Γ) (hx : a.eval x = .string S) (h : ∀ w' b, St w0 w' (Res.row 9 1 (.slice (some ⟨b, 0, none⟩) 1 1) [S].length (strL [S]) :: Γ) → wpList Try.prog ops Q rest (a.put dst (.slice (some ⟨b, 0, none⟩) 1 1)) w') : wpList Try.prog ops Q (⟨dst, .buildSlice 60 1 #[(0, x)], typ, pos, af, none⟩ :: rest) a w :=
  arm_bslice1 H hx (cs := strL [S]) rfl Try.underlying60 info_strR rfl rfl (by decide) (by decide) h
theorem st_two1 (H : St w0 w Γ) (hw : Region.wanted (⟨dst, .store 60 x y, typ, pos, af, gd⟩ : Oper) (yielded ops a.tmps) = true) (hx : a.eval x = .pointer (some ⟨b, 1, none⟩)) (hy : a.eval y = v') (q : Upd Γ (Res.blk b t #[u, v]) (Res.blk b t #[u, v']) Γ') (hs : ∃ a n c, v' = .slice a n c)
    (h : ∀ w', St w0 w' Γ' → wpList Try.prog ops Q rest (a.put dst undef) w') : wpList Try.prog ops Q (⟨dst, .store 60 x y, typ, pos, af, gd⟩ :: rest) a w := by
  obtain ⟨_, _, _, rfl⟩ := hs
  exact arm_st1 H hw hx hy q info_strs (by show 1 < 2; omega) rfl rfl rfl h
end
set_option maxHeartbeats 3200000 in
theorem oput_c {w0 w : World} {Γ : List Res} {o kM : Nat} {v sl : Value} {l ss : List ByteArray} (H : St w0 w (Res.row 9 1 sl ss.length (strL ss) :: Res.row 9 1 v l.length (strL l) :: Res.blk o 109 #[.map (some kM), v] :: Res.map kM encS (keysL l) :: Γ)) (hl : l.length + ss.length ≤ 100000) :
    Calls Try.prog 68 #[.pointer (some ⟨o, 0, none⟩), sl] w fun e w' => e = .returned (.tuple #[]) ∧ ∃ v', St w0 w' (Res.row 9 1 sl ss.length (strL ss) :: Res.row 9 1 v' (onces l ss).length (strL (onces l ss)) :: Res.blk o 109 #[.map (some kM), v'] :: Res.map kM encS (keysL (onces l ss)) :: Γ) := by
  obtain ⟨n, hn⟩ : ∃ n, ss.length = n := ⟨_, rfl⟩
  rw [hn] at H hl ⊢
  obtain ⟨az, cz, rfl⟩ := H.rowSl List.mem_cons_self
  have Hn := Lib.hid hn; clear hn
  go_enter Try.func68, Try.ntmps68
  go_wp2
  go_loopw [8] (fun i wr => ∃ (j : Nat) (v' : Value) (l' : List ByteArray), j ≤ n ∧ i = .int .i64 j ∧ Hid (onces l ss = onces l' (ss.drop j)) ∧ Hid (l'.length + (n - j) ≤ 100000) ∧ St w0 wr (Res.row 9 1 (.slice az n cz) n (strL ss) :: Res.row 9 1 v' l'.length (strL l') :: Res.blk o 109 #[.map (some kM), v'] :: Res.map kM encS (keysL l') :: Γ)) (fun i _ => n - (intOf i).toNat)
  case atStart => exact ⟨0, v, l, by omega, rfl, Lib.hid rfl, Lib.hid (by omega), H⟩
  case round =>
    clear H
    obtain ⟨j, v', l', hj, rfl, I, L, H⟩ := hrel
    by_cases hlt : j < n
    · obtain ⟨s, hs⟩ : ∃ s, ss[j]? = some s := ⟨_, List.getElem?_eq_getElem (by rw [Hn.out]; exact hlt)⟩
      obtain ⟨b, off, c, he, Hs⟩ := row1_at (H.rowRead List.mem_cons_self) (strL_get hs)
      injection he with e1 e2 e3
      subst e1 e3
      have Hst := Lib.hid (drop_at hs)
      have HS := Lib.hid Hs
      clear Hs hs e2
      by_cases hm : s ∈ l'
      · obtain ⟨q, hq⟩ := gIx_in hm
        have E1 := Lib.hid hq
        have I2 : Hid (onces l ss = onces l' (ss.drop (j + 1))) := Lib.hid (by rw [I.out, Hst.out]; show onces (onceP l' s) _ = _; unfold onceP; rw [if_pos hm])
        clear hm hq
        go_wp2_with (first | go_skip | ((with_reducible refine ld_one (ty := 9) Try.underlying9 rfl ?_ ?_ HS.out ?_); rfl; rfl) | ((with_reducible refine ld_one (ty := 107) Try.underlying107 rfl ?_ ?_ (H.two0 (by (repeat (first | with_reducible exact List.mem_cons_self | with_reducible apply List.mem_cons_of_mem)))) ?_); rfl; rfl) | ((with_reducible apply arm_lookup1 H (k := s) (enc := encS) (ok := keyStr) (ht := Try.underlying107) (hz := zero_boolW)); rfl; rfl; (repeat (first | with_reducible exact List.mem_cons_self | with_reducible apply List.mem_cons_of_mem)); rw [E1.out]; dsimp only))
        go_roundw
        case rel => exact ⟨j + 1, v', l', by omega, by go_num, I2, Lib.hid (by have := L.out; omega), H⟩
        case measure => simp [intOf]; omega
      · have E1 := Lib.hid (gIx_out hm)
        have E2 := Lib.hid (keys_put hm)
        have I2 : Hid (onces l ss = onces (l' ++ [s]) (ss.drop (j + 1))) := Lib.hid (by rw [I.out, Hst.out]; show onces (onceP l' s) _ = _; unfold onceP; rw [if_neg hm])
        have hlen : l'.length + 1 ≤ 100000 := by have := L.out; omega
        have HL := Lib.hid hlen
        clear hm hlen
        go_wp2_with (first | go_skip | ((with_reducible refine ld_one (ty := 9) Try.underlying9 rfl ?_ ?_ HS.out ?_); rfl; rfl) | ((with_reducible refine ld_one (ty := 107) Try.underlying107 rfl ?_ ?_ (H.two0 (by (repeat (first | with_reducible exact List.mem_cons_self | with_reducible apply List.mem_cons_of_mem)))) ?_); rfl; rfl) | ((with_reducible apply arm_lookup1 H (k := s) (enc := encS) (ok := keyStr) (ht := Try.underlying107) (hz := zero_boolW)); rfl; rfl; (repeat (first | with_reducible exact List.mem_cons_self | with_reducible apply List.mem_cons_of_mem)); rw [E1.out]; dsimp only) | ((with_reducible apply arm_mapset H (k := s) (v := .bool true) (enc := encS) (ok := keyStr) (ht := Try.underlying107)); rfl; rfl; rfl; (repeat (first | with_reducible apply Upd.head | with_reducible apply Upd.tail)); rw [E2.out]; clear H; intro wn H) | ((with_reducible refine ld_one (ty := 60) Try.underlying60 rfl ?_ ?_ (H.two1 (by (repeat (first | with_reducible exact List.mem_cons_self | with_reducible apply List.mem_cons_of_mem)))) ?_); rfl; rfl) | ((with_reducible apply bs_str H); rfl; clear H; intro wn b H) | ((with_reducible apply arm_app H (ht := Try.underlying60) (hinfo := info_strR) (hzs := rfl) (hsz := by decide)); (conv => lhs; whnf); (conv => lhs; whnf); (intro v; (repeat (first | with_reducible apply Upd.head | with_reducible apply Upd.tail))); (focus (apply H.rowRead; (repeat (first | with_reducible exact List.mem_cons_self | with_reducible apply List.mem_cons_of_mem)); done)); (focus (exact strL_one _; done)); (focus (have := HL.out; unfold maxLen; simp only [List.length_cons, List.length_nil]; omega; done)); (focus (have := HL.out; simp only [List.length_cons, List.length_nil]; omega; done)); clear H; intro wn vn H) | ((with_reducible apply st_two1 H); rfl; rfl; (conv => lhs; whnf); (repeat (first | with_reducible apply Upd.head | with_reducible apply Upd.tail)); (focus (apply H.rowSlice; (repeat (first | with_reducible exact List.mem_cons_self | with_reducible apply List.mem_cons_of_mem)); done)); clear H; intro wn H))
        go_roundw
        case rel => exact ⟨j + 1, vn, l' ++ [s], by omega, by go_num, I2, Lib.hid (by have := L.out; simp only [List.length_append, List.length_cons, List.length_nil]; omega), by rw [strL_app, List.length_append]; exact H.sub (by (repeat (first | with_reducible exact List.Sublist.refl _ | with_reducible refine List.Sublist.cons_cons _ ?_ | refine List.Sublist.cons _ ?_)))⟩
        case measure => simp [intOf]; omega
    · have hjn : j = n := by omega
      subst hjn
      have I2 : Hid (onces l ss = l') := Lib.hid (by rw [I.out, ← Hn.out, List.drop_length]; rfl)
      go_wp2
      refine bodyPost_end (results_none Try.results68 _ _ _) rfl ?_
      exact ⟨rfl, v', by rw [I2.out]; exact H⟩
end Go.Proofs.Ytolbmemogoojhaa
/- Rows of books; all values of books. -/
namespace Go.Proofs.Ytolbmemogoojhaa
open Go Go.RowKit Go.Deep
set_option linter.unusedVariables false
set_option linter.unusedSimpArgs false
set_option maxRecDepth 100000
/-- A slice reads as these books. -/
def Bks (w : World) (v : Value) (LL : List BK) : Prop := ∃ l : List (BK × Value), l.map (·.1) = LL ∧ Row w 1 v l.length (l.map (·.2)) ∧ ∀ p ∈ l, Recs w p.2 p.1
theorem Bks.below {w w' : World} {v : Value} {LL : List BK} (h : Bks w v LL) (hb : Below w.heap.size w w') : Bks w' v LL := by
  obtain ⟨l, e, h1, h2⟩ := h
  exact ⟨l, e, Row.below h1 hb, fun p hp => (h2 p hp).below hb⟩
theorem Bks.slice {w : World} {v : Value} {LL : List BK} (h : Bks w v LL) : ∃ a c, v = .slice a LL.length c ∧ LL.length ≤ maxLen ∧ (a = none → c = 0) := by
  obtain ⟨l, rfl, ⟨_, a, c, rfl, h1, h2, h3, _⟩, _⟩ := h
  exact ⟨a, c, by simp, by simp; omega, h3⟩
theorem Bks.at {w : World} {a : Option Addr} {n c : Nat} {LL : List BK} (h : Bks w (.slice a n c) LL) {j : Nat} {L : BK} (hj : LL[j]? = some L) :
    ∃ b off s, a = some ⟨b, off, none⟩ ∧ Sub w b (off + j) #[s] ∧ Recs w s L := by
  obtain ⟨l, rfl, hrow, h2⟩ := h
  rw [List.getElem?_map, Option.map_eq_some_iff] at hj
  obtain ⟨p, hp, rfl⟩ := hj
  obtain ⟨b, off, c', he, hs⟩ := row1_at hrow (u := p.2) (j := j) (by rw [List.getElem?_map, hp]; rfl)
  injection he with e1 e2 e3
  exact ⟨b, off, p.2, e1, hs, h2 p (List.mem_of_getElem? hp)⟩
theorem flat_drop {α : Type} {f : α → List ByteArray} {l : List α} {j : Nat} {x : α} (h : l[j]? = some x) : (l.drop j).flatMap f = f x ++ (l.drop (j + 1)).flatMap f := by
  rw [drop_at h, List.flatMap_cons]
theorem map_drop {α : Type} {f : α → ByteArray} {l : List α} {j : Nat} {x : α} (h : l[j]? = some x) : (l.drop j).map f = f x :: (l.drop (j + 1)).map f := by
  rw [drop_at h, List.map_cons]
theorem oput_1 {w0 w : World} {Γ : List Res} {o kM : Nat} {v sl : Value} {l : List ByteArray} {s : ByteArray} (H : St w0 w (Res.row 9 1 sl [s].length (strL [s]) :: Res.row 9 1 v l.length (strL l) :: Res.blk o 109 #[.map (some kM), v] :: Res.map kM encS (keysL l) :: Γ)) (hl : l.length + [s].length ≤ 100000) :
    Calls Try.prog 68 #[.pointer (some ⟨o, 0, none⟩), sl] w fun e w' => e = .returned (.tuple #[]) ∧ ∃ v', St w0 w' (Res.row 9 1 v' (onceP l s).length (strL (onceP l s)) :: Res.blk o 109 #[.map (some kM), v'] :: Res.map kM encS (keysL (onceP l s)) :: Γ) :=
  (oput_c H hl).mono fun e w' ⟨he, v', h⟩ => ⟨he, v', h.sub (List.Sublist.cons _ (List.Sublist.refl _))⟩
theorem onceP_le (l : List ByteArray) (s : ByteArray) : (onceP l s).length ≤ l.length + 1 := (onceP_len l s).2.1
set_option maxHeartbeats 6400000 in
theorem values_c (v : Value) (LL : List BK) (w : World) (hv : Bks w v LL) (hb : (LL.flatMap valsB).length ≤ 90000) : Calls Try.prog 36 #[v] w fun e w' => ∃ v', e = .returned v' ∧ St w w' [Res.row 9 1 v' (auValues LL).length (strL (auValues LL))] := by
  obtain ⟨n, hn⟩ : ∃ n, LL.length = n := ⟨_, rfl⟩
  obtain ⟨a, c, rfl, hm1, _⟩ := id hv.slice
  rw [hn] at hv hm1 ⊢
  unfold maxLen at hm1
  have Hv := Lib.hid hv; have Hn := Lib.hid hn; have HB := Lib.hid hb; clear hv hn hb
  have H := St.init w
  go_enter Try.func36, Try.ntmps36
  go_wp2_with (first | go_skip | ((fail_if_success have := kM); (with_reducible apply arm_makeMap H (κ := ByteArray) encS); clear H; intro wn kM H) | ((fail_if_success have := kO); (with_reducible apply arm_box H); rfl; clear H; intro wn kO H))
  go_loopw [15] (fun i wr => ∃ (j : Nat) (v' : Value) (l' : List ByteArray), j ≤ n ∧ i = .int .i64 j ∧ Hid (auValues LL = onces l' ((LL.drop j).flatMap valsB)) ∧ Hid (l'.length + ((LL.drop j).flatMap valsB).length ≤ 90000) ∧ St w wr [Res.row 9 1 v' (l').length (strL l'), Res.blk kO 109 #[.map (some kM), v'], Res.map kM encS (keysL l')]) (fun i _ => n - (intOf i).toNat)
  case atStart => exact ⟨0, .slice none 0 0, [], by omega, rfl, Lib.hid rfl, Lib.hid (by simpa using HB.out), H.nilRow _ _⟩
  case round =>
    clear H
    obtain ⟨j, v1, l1, hj, rfl, I1, B1, H⟩ := hrel
    by_cases hlt : j < n
    · obtain ⟨L, hL⟩ : ∃ L, LL[j]? = some L := ⟨_, List.getElem?_eq_getElem (by rw [Hn.out]; exact hlt)⟩
      obtain ⟨b, off, s, rfl, hs, hR⟩ := Hv.out.at hL
      have HS := Lib.hid hs
      obtain ⟨X, hX⟩ : ∃ X, (LL.drop (j + 1)).flatMap valsB = X := ⟨_, rfl⟩
      have HX := Lib.hid hX
      have J1 : Hid (auValues LL = onces l1 (valsB L ++ X)) := Lib.hid (by rw [I1.out, flat_drop hL, hX])
      have C1 : Hid (l1.length + (valsB L ++ X).length ≤ 90000) := Lib.hid (by have := B1.out; rw [flat_drop hL, hX] at this; exact this)
      obtain ⟨n2, hn2⟩ : ∃ n, L.length = n := ⟨_, rfl⟩
      obtain ⟨a2, c2, rfl, hm2, _⟩ := id hR.slice
      rw [hn2] at hR hm2 HS hs
      unfold maxLen at hm2
      have Hone : Hid (Value.oneCell' (.slice a2 n2 c2) = true) := Lib.hid rfl
      have HR := Lib.hid hR; have Hn2 := Lib.hid hn2
      clear hs hR hL hX hn2
      go_wp2_with (first | go_skip | ((with_reducible refine ld_bk ?_ ?_ (HS.out.keep H.bel) ?_); rfl; rfl) | ((fail_if_success have := kB); (with_reducible apply al_bk H); clear H; intro wn kB H) | ((with_reducible apply st_bk H); rfl; rfl; rfl; (repeat (first | with_reducible apply Upd.head | with_reducible apply Upd.tail)); (first | rfl | assumption | (refine Hid.out ?_; assumption)); clear H; intro wn H) | ((with_reducible apply ld_one (ty := 22) Try.underlying22 rfl); rfl; rfl; (focus (apply H.one; (repeat (first | with_reducible exact List.mem_cons_self | with_reducible apply List.mem_cons_of_mem)); done))))
      go_loopw [22] (fun i wr => ∃ (j : Nat) (v' : Value) (l' : List ByteArray), j ≤ n2 ∧ i = .int .i64 j ∧ Hid (auValues LL = onces l' ((L.drop j).flatMap valsR ++ X)) ∧ Hid (l'.length + ((L.drop j).flatMap valsR ++ X).length ≤ 90000) ∧ St w wr [Res.row 9 1 v' (l').length (strL l'), Res.blk kO 109 #[.map (some kM), v'], Res.map kM encS (keysL l')]) (fun i _ => n2 - (intOf i).toNat)
      case atStart => exact ⟨0, v1, l1, by omega, rfl, J1, C1, H.sub (by (repeat (first | with_reducible exact List.Sublist.refl _ | with_reducible refine List.Sublist.cons_cons _ ?_ | refine List.Sublist.cons _ ?_)))⟩
      case round =>
        clear H
        obtain ⟨k, v2, l2, hk, rfl, I2, B2, H⟩ := hrel
        by_cases hkl : k < n2
        · obtain ⟨r, hr⟩ : ∃ r, L[k]? = some r := ⟨_, List.getElem?_eq_getElem (by rw [Hn2.out]; exact hkl)⟩
          obtain ⟨b2, off2, s, rfl, hbw, G, hf⟩ := HR.out.at hr
          obtain ⟨Y, hY⟩ : ∃ Y, (L.drop (k + 1)).flatMap valsR ++ X = Y := ⟨_, rfl⟩
          have HY := Lib.hid hY
          have J2 : Hid (auValues LL = onces l2 (valsR r ++ Y)) := Lib.hid (by rw [I2.out, flat_drop hr, List.append_assoc, hY])
          have C2 : Hid (l2.length + (valsR r ++ Y).length ≤ 90000) := Lib.hid (by have := B2.out; rw [flat_drop hr, List.append_assoc, hY] at this; exact this)
          have hok : Hid r.ok := Lib.hid G.2
          obtain ⟨nf, hnf⟩ : ∃ nf, r.f.length = nf := ⟨_, rfl⟩
          obtain ⟨_, fa, fc, rfl, hc1, hc2, _⟩ := id hf
          rw [hnf] at hf hc1 G
          unfold maxLen at hc2
          have Hf := Lib.hid hf; have Hnf := Lib.hid hnf
          have Hone2 : Hid (Value.oneCell' (.slice fa nf fc) = true) := Lib.hid rfl
          clear hf hr hbw hnf hY
          go_wp2_with (first | go_skip | ((with_reducible apply ld_rec); rfl; rfl; (first | (focus (apply H.rc; (repeat (first | with_reducible exact List.mem_cons_self | with_reducible apply List.mem_cons_of_mem)); done)) | (apply RecAt.bel (hb := H.bel); assumption) | assumption)) | ((fail_if_success have := kR); (with_reducible apply al_rec H); clear H; intro wn kR H) | ((with_reducible apply st_rec H); rfl; rfl; rfl; (repeat (first | with_reducible apply Upd.head | with_reducible apply Upd.tail)); (first | assumption | (refine Hid.out ?_; assumption)); (first | rfl | assumption | (refine Hid.out ?_; assumption)); clear H; intro wn H) | ((with_reducible apply ld_F); rfl; rfl; (first | (focus (apply H.rc; (repeat (first | with_reducible exact List.mem_cons_self | with_reducible apply List.mem_cons_of_mem)); done)) | (apply RecAt.bel (hb := H.bel); assumption))))
          go_loopw [29] (fun i wr => ∃ (j : Nat) (v' : Value) (l' : List ByteArray), j ≤ nf ∧ i = .int .i64 j ∧ Hid (auValues LL = onces l' ((r.f.drop j).map (fun f => f.2.2.2) ++ Y)) ∧ Hid (l'.length + ((r.f.drop j).map (fun f => f.2.2.2) ++ Y).length ≤ 90000) ∧ St w wr [Res.row 9 1 v' (l').length (strL l'), Res.blk kO 109 #[.map (some kM), v'], Res.map kM encS (keysL l')]) (fun i _ => nf - (intOf i).toNat)
          case atStart => exact ⟨0, v2, l2, by omega, rfl, J2, C2, H.sub (by (repeat (first | with_reducible exact List.Sublist.refl _ | with_reducible refine List.Sublist.cons_cons _ ?_ | refine List.Sublist.cons _ ?_)))⟩
          case round =>
            clear H
            obtain ⟨m, v3, l3, hm, rfl, I3, B3, H⟩ := hrel
            by_cases hml : m < nf
            · obtain ⟨f, hfk⟩ : ∃ f, r.f[m]? = some f := ⟨_, List.getElem?_eq_getElem (by rw [Hnf.out]; exact hml)⟩
              obtain ⟨b3, off3, rfl, G2⟩ := fldat_of Hf.out hfk
              have J3 : Hid (auValues LL = onces (onceP l3 f.2.2.2) ((r.f.drop (m + 1)).map (fun f => f.2.2.2) ++ Y)) := Lib.hid (by rw [I3.out, map_drop hfk]; rfl)
              have C3 : Hid ((onceP l3 f.2.2.2).length + ((r.f.drop (m + 1)).map (fun f => f.2.2.2) ++ Y).length ≤ 90000) := Lib.hid (by
                have h1 := B3.out; have h2 := onceP_le l3 f.2.2.2
                rw [map_drop hfk] at h1
                simp only [List.cons_append, List.length_cons] at h1; omega)
              have HL : Hid (l3.length + [f.2.2.2].length ≤ 100000) := Lib.hid (by have := B3.out; simp only [List.length_cons, List.length_nil]; omega)
              clear hfk
              go_wp2_with (first | go_skip | ((with_reducible apply ld_fld); rfl; rfl; (first | (focus (apply H.fld; (repeat (first | with_reducible exact List.mem_cons_self | with_reducible apply List.mem_cons_of_mem)); done)) | (apply FldAt.bel (hb := H.bel); assumption))) | ((fail_if_success have := kF); (with_reducible apply al_fld H); clear H; intro wn kF H) | ((with_reducible apply st_fld H); rfl; rfl; rfl; (repeat (first | with_reducible apply Upd.head | with_reducible apply Upd.tail)); clear H; intro wn H) | ((with_reducible apply ld_fstr2); rfl; rfl; (first | (focus (apply H.fld; (repeat (first | with_reducible exact List.mem_cons_self | with_reducible apply List.mem_cons_of_mem)); done)) | (apply FldAt.bel (hb := H.bel); assumption))) | ((fail_if_success have := kS); (with_reducible apply bs_str H); rfl; clear H; intro wn kS H) | (go_at_call 68; have H2 := H.sub (Γ' := [Res.row 9 1 (.slice (some ⟨kS, 0, none⟩) 1 1) [f.2.2.2].length (strL [f.2.2.2]), Res.row 9 1 v3 (l3).length (strL l3), Res.blk kO 109 #[.map (some kM), v3], Res.map kM encS (keysL l3)]) (by (repeat (first | with_reducible exact List.Sublist.refl _ | with_reducible refine List.Sublist.cons_cons _ ?_ | refine List.Sublist.cons _ ?_))); (with_reducible refine (oput_1 H2 HL.out).mono ?_); clear H2 H; rintro e wn ⟨rfl, v2, H⟩))
              go_roundw
              case rel => exact ⟨m + 1, v2, onceP l3 f.2.2.2, by omega, by go_num, J3, C3, H⟩
              case measure => simp [intOf]; omega
            · have hmn : m = nf := by omega
              subst hmn
              have J3 : Hid (auValues LL = onces l3 ((L.drop (k + 1)).flatMap valsR ++ X)) := Lib.hid (by rw [I3.out, ← Hnf.out, List.drop_length, HY.out]; rfl)
              have C3 : Hid (l3.length + ((L.drop (k + 1)).flatMap valsR ++ X).length ≤ 90000) := Lib.hid (by have := B3.out; rw [← Hnf.out, List.drop_length] at this; rw [HY.out]; exact this)
              go_wp2
              go_roundw
              case rel => exact ⟨k + 1, v3, l3, by omega, by go_num, J3, C3, H⟩
              case measure => simp [intOf]; omega
        · have hkn : k = n2 := by omega
          subst hkn
          have J2 : Hid (auValues LL = onces l2 ((LL.drop (j + 1)).flatMap valsB)) := Lib.hid (by rw [I2.out, ← Hn2.out, List.drop_length, HX.out]; rfl)
          have C2 : Hid (l2.length + ((LL.drop (j + 1)).flatMap valsB).length ≤ 90000) := Lib.hid (by have := B2.out; rw [← Hn2.out, List.drop_length] at this; rw [HX.out]; exact this)
          go_wp2
          go_roundw
          case rel => exact ⟨j + 1, v2, l2, by omega, by go_num, J2, C2, H⟩
          case measure => simp [intOf]; omega
    · have hjn : j = n := by omega
      subst hjn
      have J1 : Hid (auValues LL = l1) := Lib.hid (by rw [I1.out, ← Hn.out, List.drop_length]; rfl)
      go_wp2_with (first | go_skip | ((with_reducible refine ld_one (ty := 60) Try.underlying60 rfl ?_ ?_ (H.two1 (by (repeat (first | with_reducible exact List.mem_cons_self | with_reducible apply List.mem_cons_of_mem)))) ?_); rfl; rfl))
      all_goals first | (rw [Exit.noGoto_ret]; go_ret) | go_ret
      all_goals exact ⟨v1, rfl, by rw [J1.out]; exact H.sub (by (repeat (first | with_reducible exact List.Sublist.refl _ | with_reducible refine List.Sublist.cons_cons _ ?_ | refine List.Sublist.cons _ ?_)))⟩
end Go.Proofs.Ytolbmemogoojhaa
/- All parts of texts, of eight bytes. -/
namespace Go.Proofs.Ytolbmemogoojhaa
open Go Go.RowKit Go.Deep
set_option linter.unusedVariables false
set_option linter.unusedSimpArgs false
set_option maxRecDepth 100000
section
variable {ops : Array Oper} {rest : List Oper} {a : Act} {w : World} {Q : Exit → Act → World → Prop} {dst : Option Tmp} {typ t : TypeId} {x y z : Operand} {pos : String} {af : Array Edge} {v l h u : Value} {k : Int}
theorem ar_sh (hs : ∀ W, (Instr.slice 9 v none (some (.int .i64 k)) none).run Try.prog W = .ok u W) (hx : a.eval x = v) (q : wpList Try.prog ops Q rest (a.put dst u) w) :
    wpList Try.prog ops Q (⟨dst, .slice 9 x none (some (.const (.int .i64 k))) none, typ, pos, af, none⟩ :: rest) a w := by
  refine wpList_run rfl u w ?_ q
  have hu : Try.prog.underlying 9 = some .string := by kernel_rfl
  have hc : a.eval (.const (.int .i64 k)) = .int .i64 k := rfl
  unfold execOp
  simp only [hx, hc, Option.map_some, Option.map_none, Sem.run_bind, run_sliceAt_string _ _ _ _ _ _ hu, hs, Result.andThen_ok, Sem.run_pure]
theorem ar_sl (hs : ∀ W, (Instr.slice 9 v (some (.int .i64 k)) none none).run Try.prog W = .ok u W) (hx : a.eval x = v) (q : wpList Try.prog ops Q rest (a.put dst u) w) :
    wpList Try.prog ops Q (⟨dst, .slice 9 x (some (.const (.int .i64 k))) none none, typ, pos, af, none⟩ :: rest) a w := by
  refine wpList_run rfl u w ?_ q
  have hu : Try.prog.underlying 9 = some .string := by kernel_rfl
  have hc : a.eval (.const (.int .i64 k)) = .int .i64 k := rfl
  unfold execOp
  simp only [hx, hc, Option.map_some, Option.map_none, Sem.run_bind, run_sliceAt_string _ _ _ _ _ _ hu, hs, Result.andThen_ok, Sem.run_pure]
end
def strSz : Value → Nat
  | .string y => y.size
  | _ => 0
theorem cuts_at {s : ByteArray} {m : Nat} (h : m < s.size - 7) : (cuts s)[m]? = some (s.extract m (m + 8)) := by
  unfold cuts
  rw [List.getElem?_map, List.getElem?_range h]; rfl
theorem str_h {y p : ByteArray} (h : 8 ≤ y.size) (e : y.extract 0 8 = p) (W : World) : (Instr.slice 9 (.string y) none (some (.int .i64 8)) none).run Try.prog W = .ok (.string p) W := by
  rw [run_slice_string_h W 9 y (by kernel_rfl) .i64 8 (by omega) (by omega), ← e]; rfl
theorem str_l {y p : ByteArray} (h : 1 ≤ y.size) (e : y.extract 1 y.size = p) (W : World) : (Instr.slice 9 (.string y) (some (.int .i64 1)) none none).run Try.prog W = .ok (.string p) W := by
  rw [run_slice_string_l W 9 y (by kernel_rfl) .i64 1 (by omega) (by omega), ← e]; rfl
set_option maxHeartbeats 6400000 in
theorem parts_c (v : Value) (LL : List ByteArray) (w : World) (hv : Row w 1 v LL.length (strL LL)) (hb : mostL LL ≤ 90000) : Calls Try.prog 38 #[v] w fun e w' => ∃ v', e = .returned v' ∧ St w w' [Res.row 9 1 v' (auParts LL).length (strL (auParts LL))] := by
  obtain ⟨n, hn⟩ : ∃ n, LL.length = n := ⟨_, rfl⟩
  rw [hn] at hv
  obtain ⟨_, a, c, rfl, hm1, hm2, _⟩ := id hv
  unfold maxLen at hm2
  have Hv := Lib.hid hv; have Hn := Lib.hid hn; have HB := Lib.hid hb; clear hv hn hb
  have H := St.init w
  go_enter Try.func38, Try.ntmps38
  go_wp2_with (first | go_skip | ((fail_if_success have := kM); (with_reducible apply arm_makeMap H (κ := ByteArray) encS); clear H; intro wn kM H) | ((fail_if_success have := kO); (with_reducible apply arm_box H); rfl; clear H; intro wn kO H))
  go_loopw [11] (fun i wr => ∃ (j : Nat) (v' : Value) (l' : List ByteArray), j ≤ n ∧ i = .int .i64 j ∧ Hid (auParts LL = onces l' ((LL.drop j).flatMap cuts)) ∧ Hid (l'.length + ((LL.drop j).flatMap cuts).length ≤ 90000) ∧ St w wr [Res.row 9 1 v' (l').length (strL l'), Res.blk kO 109 #[.map (some kM), v'], Res.map kM encS (keysL l')]) (fun i _ => n - (intOf i).toNat)
  case atStart => exact ⟨0, .slice none 0 0, [], by omega, rfl, Lib.hid rfl, Lib.hid (by have := HB.out; rw [← most_len] at this; simpa using this), H.nilRow _ _⟩
  case round =>
    clear H
    obtain ⟨j, v1, l1, hj, rfl, I1, B1, H⟩ := hrel
    by_cases hlt : j < n
    · obtain ⟨s, hs⟩ : ∃ s, LL[j]? = some s := ⟨_, List.getElem?_eq_getElem (by rw [Hn.out]; exact hlt)⟩
      obtain ⟨b, off, c', he, hS⟩ := row1_at Hv.out (strL_get hs)
      injection he with e1 e2 e3
      subst e1 e3
      have HS := Lib.hid hS
      obtain ⟨X, hX⟩ : ∃ X, (LL.drop (j + 1)).flatMap cuts = X := ⟨_, rfl⟩
      have HX := Lib.hid hX
      have J1 : Hid (auParts LL = onces l1 (cuts s ++ X)) := Lib.hid (by rw [I1.out, flat_drop hs, hX])
      have C1 : Hid (l1.length + (cuts s ++ X).length ≤ 90000) := Lib.hid (by have := B1.out; rw [flat_drop hs, hX] at this; exact this)
      obtain ⟨q, hq⟩ : ∃ q, s.size = q := ⟨_, rfl⟩
      have HQ := Lib.hid hq
      clear hs hX hS e2 hq
      go_wp2_with (first | go_skip | ((with_reducible refine ld_one (ty := 9) Try.underlying9 rfl ?_ ?_ (HS.out.keep H.bel) ?_); rfl; rfl))
      go_loopw [5] (fun i wr => ∃ (m z : Nat) (y : ByteArray) (v' : Value) (l' : List ByteArray), m + z = q ∧ i = .string y ∧ y.size = z ∧ Hid (y = s.extract m q) ∧ Hid (auParts LL = onces l' ((cuts s).drop m ++ X)) ∧ Hid (l'.length + ((cuts s).drop m ++ X).length ≤ 90000) ∧ St w wr [Res.row 9 1 v' (l').length (strL l'), Res.blk kO 109 #[.map (some kM), v'], Res.map kM encS (keysL l')]) (fun i _ => strSz i)
      case atStart => exact ⟨0, q, s, v1, l1, by omega, rfl, HQ.out, Lib.hid (by rw [← HQ.out, ByteArray.extract_zero_size]), J1, C1, H.sub (by (repeat (first | with_reducible exact List.Sublist.refl _ | with_reducible refine List.Sublist.cons_cons _ ?_ | refine List.Sublist.cons _ ?_)))⟩
      case round =>
        clear H
        obtain ⟨m, z, y, v3, l3, hmz, rfl, hz, hy, I3, B3, H⟩ := hrel
        by_cases hml : 8 ≤ z
        · have hat := cuts_at (s := s) (m := m) (by rw [HQ.out]; omega)
          obtain ⟨p, hp⟩ : ∃ p, s.extract m (m + 8) = p := ⟨_, rfl⟩
          rw [hp] at hat
          have J3 : Hid (auParts LL = onces (onceP l3 p) ((cuts s).drop (m + 1) ++ X)) := Lib.hid (by rw [I3.out, drop_at hat]; rfl)
          have C3 : Hid ((onceP l3 p).length + ((cuts s).drop (m + 1) ++ X).length ≤ 90000) := Lib.hid (by
            have h1 := B3.out; have h2 := onceP_le l3 p
            rw [drop_at hat] at h1
            simp only [List.cons_append, List.length_cons] at h1; omega)
          have HL : Hid (l3.length + [p].length ≤ 100000) := Lib.hid (by have := B3.out; simp only [List.length_cons, List.length_nil]; omega)
          obtain ⟨y2, hy2⟩ : ∃ y2, s.extract (m + 1) q = y2 := ⟨_, rfl⟩
          have Hc1 := Lib.hid (str_h (y := y) (p := p) (by omega) (by rw [hy.out, ← hp, ByteArray.extract_extract]; congr 1; omega))
          have Hc2 := Lib.hid (str_l (y := y) (p := y2) (by omega) (by rw [hz, hy.out, ← hy2, ByteArray.extract_extract]; congr 1; omega))
          have Hz2 : Hid (y2.size = z - 1) := Lib.hid (by rw [← hy2, ByteArray.size_extract, HQ.out]; omega)
          have Hy2 := Lib.hid hy2
          have h8 : decide ((8 : Int) ≤ (z : Int)) = true := decide_eq_true (by omega)
          clear hat hp hy2
          go_wp2_with (first | go_skip | ((with_reducible apply ar_sh); exact Hc1.out; rfl) | ((with_reducible apply ar_sl); exact Hc2.out; rfl) | ((fail_if_success have := kS); (with_reducible apply bs_str H); rfl; clear H; intro wn kS H) | (go_at_call 68; have H2 := H.sub (Γ' := [Res.row 9 1 (.slice (some ⟨kS, 0, none⟩) 1 1) [p].length (strL [p]), Res.row 9 1 v3 (l3).length (strL l3), Res.blk kO 109 #[.map (some kM), v3], Res.map kM encS (keysL l3)]) (by (repeat (first | with_reducible exact List.Sublist.refl _ | with_reducible refine List.Sublist.cons_cons _ ?_ | refine List.Sublist.cons _ ?_))); (with_reducible refine (oput_1 H2 HL.out).mono ?_); clear H2 H; rintro e wn ⟨rfl, v2, H⟩))
          go_roundw
          case rel => exact ⟨m + 1, z - 1, y2, v2, onceP l3 p, by omega, rfl, Hz2.out, Lib.hid Hy2.out.symm, J3, C3, H⟩
          case measure => show strSz (.string y2) < strSz (.string y); show y2.size < y.size; rw [Hz2.out, hz]; omega
        · have h8 : decide ((8 : Int) ≤ (z : Int)) = false := decide_eq_false (by omega)
          have hnil : (cuts s).drop m = [] := List.drop_of_length_le (by rw [cuts_len, HQ.out]; omega)
          have J3 : Hid (auParts LL = onces l3 ((LL.drop (j + 1)).flatMap cuts)) := Lib.hid (by rw [I3.out, hnil, HX.out]; rfl)
          have C3 : Hid (l3.length + ((LL.drop (j + 1)).flatMap cuts).length ≤ 90000) := Lib.hid (by have := B3.out; rw [hnil] at this; rw [HX.out]; exact this)
          clear hnil
          go_wp2
          go_roundw
          case rel => exact ⟨j + 1, v3, l3, by omega, by go_num, J3, C3, H⟩
          case measure => simp [intOf]; omega
    · have hjn : j = n := by omega
      subst hjn
      have J1 : Hid (auParts LL = l1) := Lib.hid (by rw [I1.out, ← Hn.out, List.drop_length]; rfl)
      go_wp2_with (first | go_skip | ((with_reducible refine ld_one (ty := 60) Try.underlying60 rfl ?_ ?_ (H.two1 (by (repeat (first | with_reducible exact List.mem_cons_self | with_reducible apply List.mem_cons_of_mem)))) ?_); rfl; rfl))
      all_goals first | (rw [Exit.noGoto_ret]; go_ret) | go_ret
      all_goals exact ⟨v1, rfl, by rw [J1.out]; exact H.sub (by (repeat (first | with_reducible exact List.Sublist.refl _ | with_reducible refine List.Sublist.cons_cons _ ?_ | refine List.Sublist.cons _ ?_)))⟩
end Go.Proofs.Ytolbmemogoojhaa
