/- Two that are alike. -/
import Derived.Test.YtolbmemogoojhaaGreatVAlkA
namespace Go.Proofs.YtolbmemogoojhaaGreat
open Go Go.RowKit Go.Deep
set_option linter.unusedVariables false
set_option linter.unusedSimpArgs false
set_option maxRecDepth 100000
theorem zero_strs (w : World) : (zeroValue 47).run Tryz.prog w = .ok (.slice none 0 0) w := by kernel_rfl
theorem of_k {s : ByteArray} {k : DgK} (hl : s.size ≤ 80000) (hk : dgK s = k) (w : World) : Calls Tryz.prog 65 #[.string s] w fun e w' => e = .returned (encD k) ∧ Below w.heap.size w w' := by
  subst hk
  unfold encD dgK
  dsimp only
  exact of_v hl rfl w
theorem encU_arr32 {a : List UInt8} (h : a.length = 32) : (encU a).toArray.size = 32 := by simp [encU_length, h]
theorem dg_size : (Tryz.prog.info? 64).map (·.size) = some 32 := by kernel_rfl
theorem dg_inf {l : List UInt8} (h : l.length = 32) : (Tryz.prog.info? 64).map (·.size) = some (encU l).toArray.size := by rw [encU_arr32 h]; exact dg_size
abbrev zdg : List UInt8 := List.replicate 32 0
theorem dg_zero : (Tryz.prog.info? 64).map (·.zero) = some (some (.agg (encU zdg).toArray)) := by kernel_rfl
section
variable {ops : Array Oper} {rest : List Oper} {a : Act} {w0 w : World} {Q : Exit → Act → World → Prop} {Γ Γ' : List Res} {dst : Option Tmp} {typ t : TypeId} {x y : Operand} {pos : String} {af : Array Edge} {gd : Option (Nat × Bool)} {b off : Nat}
theorem ld_dgS {k : DgK} (hw : Region.wanted (⟨dst, .load 64 x, typ, pos, af, gd⟩ : Oper) (yielded ops a.tmps) = true) (hx : a.eval x = .pointer (some ⟨b, off, none⟩)) (h : Sub w b off (encU k.1).toArray) (q : wpList Tryz.prog ops Q rest (a.put dst (encD k)) w) : wpList Tryz.prog ops Q (⟨dst, .load 64 x, typ, pos, af, gd⟩ :: rest) a w :=
  arm_ld hw hx h Tryz.underlying64 rfl (dg_inf k.2) q
theorem al_dg (H : St w0 w Γ) (h : ∀ w' b, St w0 w' (Res.blk b 64 (encU zdg).toArray :: Γ) → wpList Tryz.prog ops Q rest (a.put dst (.pointer (some ⟨b, 0, none⟩))) w') : wpList Tryz.prog ops Q (⟨dst, .alloc 64, typ, pos, af, none⟩ :: rest) a w := arm_alloc H dg_zero rfl h
theorem st_dgb {k : DgK} {z : List UInt8} (hz : z.length = 32) (H : St w0 w Γ) (hw : Region.wanted (⟨dst, .store 64 x y, typ, pos, af, gd⟩ : Oper) (yielded ops a.tmps) = true) (hx : a.eval x = .pointer (some ⟨b, 0, none⟩)) (hy : a.eval y = encD k)
    (u : Upd Γ (Res.blk b t (encU z).toArray) (Res.blk b t (encU k.1).toArray) Γ') (h : ∀ w', St w0 w' Γ' → wpList Tryz.prog ops Q rest (a.put dst undef) w') : wpList Tryz.prog ops Q (⟨dst, .store 64 x y, typ, pos, af, gd⟩ :: rest) a w := by
  have e1 := encU_arr32 k.2
  have e2 := encU_arr32 hz
  refine arm_st H hw hx hy u (dg_inf k.2) (by rw [e1, e2]; decide) (Array.all_eq_true_iff_forall_mem.2 fun v hv => encU_one _ v (by simpa using hv)) ?_ h
  rw [List.take_zero, List.nil_append, Nat.zero_add, List.drop_of_length_le (by rw [e1, Array.length_toList, e2]; exact Nat.le_refl _), List.append_nil]
theorem arm_entryNn {P : Program} {ty : TypeId} {κ : Type} [DecidableEq κ] {enc : κ → Value} {m : List (κ × Value)} {K E : TypeId} {n : Nat} (H : St w0 w Γ) (hn : m.length = n) (hx : a.eval x = .map (some b)) {k : κ} (hk : a.eval y = enc k) (hg : gIx m k = none) (ok : KeyOk P K enc) (ht : P.underlying ty = some (.map K E)) {zv : Value} (hz : ∀ w, (zeroValue E).run P w = .ok zv w)
    (u : Upd Γ (Res.mapB b enc m) (Res.mapB b enc (m ++ [(k, zv)])) Γ')
    (h : ∀ w', St w0 w' Γ' → wpList P ops Q rest (a.put dst (.tuple #[zv, .int .i64 (n : Int)])) w') : wpList P ops Q (⟨dst, .mapEntry ty x y, typ, pos, af, none⟩ :: rest) a w := by
  subst hn
  exact arm_entryN H hx hk hg ok ht hz u h
end
abbrev AE := DgK × Value × ByteArray × Nat
def rowE (e : AE) : Res := Res.row 9 1 e.2.1 e.2.2.2 (strL (List.replicate e.2.2.2 e.2.2.1))
def kvE (e : AE) : DgK × Value := (e.1, e.2.1)
theorem mem_take_s {l : List ByteArray} {j : Nat} {x : ByteArray} (h : x ∈ l.take j) : x ∈ l.take (j + 1) := by
  rw [List.take_add_one]; exact List.mem_append_left _ h
/-- The first two that are not the same and have the same digest: what the chapter's search finds. -/
def alkHit (s t : ByteArray) : Bool := decide (t ≠ s) && decide (dgK t = dgK s)
def alkGo : List ByteArray → List ByteArray → Option (ByteArray × ByteArray)
  | _, [] => none
  | seen, s :: r => match seen.find? (alkHit s) with
    | some t => some (t, s)
    | none => alkGo (seen ++ [s]) r
def alkP (l : List ByteArray) : Option (ByteArray × ByteArray) := alkGo [] l
def alkV : Option (ByteArray × ByteArray) → Value
  | some p => .tuple #[.string p.1, .string p.2, .bool true]
  | none => .tuple #[.string ⟨#[]⟩, .string ⟨#[]⟩, .bool false]
theorem alk_step {l : List ByteArray} {j : Nat} {s : ByteArray} (hs : l[j]? = some s) (hn : (l.take j).find? (alkHit s) = none) : alkGo (l.take j) (l.drop j) = alkGo (l.take (j + 1)) (l.drop (j + 1)) := by
  rw [drop_at hs, alkGo, hn, List.take_add_one, hs]; rfl
theorem alk_hit {l : List ByteArray} {j : Nat} {s t : ByteArray} (hs : l[j]? = some s) (hn : (l.take j).find? (alkHit s) = some t) : alkGo (l.take j) (l.drop j) = some (t, s) := by
  rw [drop_at hs, alkGo, hn]
theorem alk_end {l seen : List ByteArray} : alkGo seen (l.drop l.length) = none := by
  rw [List.drop_length, alkGo]
structure EInv (l : List ByteArray) (j : Nat) (E : List AE) : Prop where
  each : ∀ e ∈ E, dgK e.2.2.1 = e.1 ∧ 0 < e.2.2.2 ∧ e.2.2.2 ≤ j ∧ e.2.2.1 ∈ l.take j
  uniq : ∀ (i i' : Nat) (e e' : AE), E[i]? = some e → E[i']? = some e' → e.1 = e'.1 → i = i'
  cover : ∀ s ∈ l.take j, ∃ e ∈ E, e.2.2.1 = s
theorem EInv.init (l : List ByteArray) : EInv l 0 [] := ⟨fun _ h => (List.not_mem_nil h).elim, fun _ _ _ _ h => by simp at h, fun _ h => by simp at h⟩
theorem EInv.more {l : List ByteArray} {j : Nat} {E : List AE} (h : EInv l j E) {s : ByteArray} {k : DgK} (hs : l[j]? = some s) (hk : dgK s = k) {i : Nat} {v : Value} {c : Nat} (hE : E[i]? = some (k, v, s, c)) (v' : Value) : EInv l (j + 1) (E.set i (k, v', s, c + 1)) := by
  have hi := (List.getElem?_eq_some_iff.1 hE).1
  have hm := h.each _ (List.mem_of_getElem? hE)
  have key : ∀ (i' : Nat) (e' : AE), (E.set i (k, v', s, c + 1))[i']? = some e' → ∃ e0, E[i']? = some e0 ∧ e0.1 = e'.1 := fun i' e' he' => by
    rw [List.getElem?_set] at he'
    by_cases hii : i = i'
    · subst hii
      rw [if_pos rfl, if_pos hi] at he'
      cases he'
      exact ⟨_, hE, rfl⟩
    · rw [if_neg hii] at he'; exact ⟨e', he', rfl⟩
  refine ⟨fun e he => ?_, fun i1 i2 e e' h1 h2 h3 => ?_, fun x hx => ?_⟩
  · rcases List.mem_or_eq_of_mem_set he with he | rfl
    · obtain ⟨a, b, c, d⟩ := h.each e he; exact ⟨a, b, by omega, mem_take_s d⟩
    · exact ⟨hk, by show 0 < c + 1; omega, by have := hm.2.2.1; show c + 1 ≤ j + 1; dsimp only at this; omega, mem_take_s hm.2.2.2⟩
  · obtain ⟨e0, a1, a2⟩ := key _ _ h1
    obtain ⟨e1, b1, b2⟩ := key _ _ h2
    exact h.uniq i1 i2 e0 e1 a1 b1 (a2.trans (h3.trans b2.symm))
  · rw [List.take_add_one, hs] at hx
    simp only [Option.toList_some, List.mem_append, List.mem_singleton] at hx
    rcases hx with hx | rfl
    · obtain ⟨e, he, hes⟩ := h.cover x hx
      obtain ⟨i', hi'⟩ := List.getElem?_of_mem he
      by_cases hii : i = i'
      · subst hii
        rw [hE] at hi'; cases hi'
        exact ⟨_, List.mem_set hi _, hes⟩
      · exact ⟨e, List.mem_of_getElem? (i := i') (by rw [List.getElem?_set, if_neg hii]; exact hi'), hes⟩
    · exact ⟨_, List.mem_set hi _, rfl⟩
theorem EInv.new {l : List ByteArray} {j : Nat} {E : List AE} (h : EInv l j E) {s : ByteArray} {k : DgK} (hs : l[j]? = some s) (hk : dgK s = k) (hn : gIx (E.map kvE) k = none) (v' : Value) : EInv l (j + 1) (E ++ [(k, v', s, 1)]) := by
  have hno : ∀ e ∈ E, e.1 ≠ k := fun e he => gIx_no hn (kvE e) (List.mem_map_of_mem he)
  refine ⟨fun e he => ?_, fun i1 i2 e e' h1 h2 h3 => ?_, fun x hx => ?_⟩
  · rcases List.mem_append.1 he with he | he
    · obtain ⟨a, b, c, d⟩ := h.each e he; exact ⟨a, b, by omega, mem_take_s d⟩
    · rw [List.mem_singleton.1 he]
      exact ⟨hk, by show 0 < 1; omega, by show 1 ≤ j + 1; omega, by rw [List.take_add_one, hs]; exact List.mem_append_right _ mH⟩
  · have key : ∀ (i : Nat) (e : AE), (E ++ [(k, v', s, 1)])[i]? = some e → (i < E.length ∧ E[i]? = some e) ∨ (i = E.length ∧ e.1 = k) := fun i e he => by
      rcases Nat.lt_or_ge i E.length with hl | hl
      · exact .inl ⟨hl, by rw [List.getElem?_append_left hl] at he; exact he⟩
      · rw [List.getElem?_append_right hl] at he
        have hlt := (List.getElem?_eq_some_iff.1 he).1
        simp only [List.length_cons, List.length_nil] at hlt
        have h0 : i - E.length = 0 := by omega
        rw [h0] at he
        cases he
        exact .inr ⟨by omega, rfl⟩
    rcases key _ _ h1 with ⟨_, a⟩ | ⟨a, a2⟩ <;> rcases key _ _ h2 with ⟨_, b⟩ | ⟨b, b2⟩
    · exact h.uniq _ _ _ _ a b h3
    · exact absurd (h3.trans b2) (hno _ (List.mem_of_getElem? a))
    · exact absurd (h3.symm.trans a2) (hno _ (List.mem_of_getElem? b))
    · omega
  · rw [List.take_add_one, hs] at hx
    simp only [Option.toList_some, List.mem_append, List.mem_singleton] at hx
    rcases hx with hx | rfl
    · obtain ⟨e, he, hes⟩ := h.cover x hx
      exact ⟨e, List.mem_append_left _ he, hes⟩
    · exact ⟨_, List.mem_append_right _ mH, rfl⟩
theorem EInv.fin {l : List ByteArray} {E : List AE} (h : EInv l l.length E) : ∀ s ∈ l, ∀ t ∈ l, dgK s = dgK t → s = t := fun s hs t ht hst => by
  obtain ⟨e, he, rfl⟩ := h.cover s (by rw [List.take_length]; exact hs)
  obtain ⟨e', he', rfl⟩ := h.cover t (by rw [List.take_length]; exact ht)
  obtain ⟨i, hi⟩ := List.getElem?_of_mem he
  obtain ⟨i', hi'⟩ := List.getElem?_of_mem he'
  have := h.uniq i i' e e' hi hi' (by rw [← (h.each e he).1, ← (h.each e' he').1, hst])
  subst this
  rw [hi] at hi'; cases hi'; rfl
theorem EInv.at {l : List ByteArray} {j : Nat} {E : List AE} (h : EInv l j E) {x : ByteArray} (hx : x ∈ l.take j) {i : Nat} {k : DgK} {v : Value} {t : ByteArray} {c : Nat} (hE : E[i]? = some (k, v, t, c)) (hd : dgK x = k) : x = t := by
  obtain ⟨e, he, rfl⟩ := h.cover x hx
  obtain ⟨i', hi'⟩ := List.getElem?_of_mem he
  have := h.uniq i' i e _ hi' hE (by rw [← (h.each e he).1]; exact hd)
  subst this
  rw [hi'] at hE; cases hE; rfl
theorem EInv.miss {l : List ByteArray} {j : Nat} {E : List AE} (h : EInv l j E) {s : ByteArray} {k : DgK} (hk : dgK s = k) (hn : gIx (E.map kvE) k = none) : (l.take j).find? (alkHit s) = none := by
  rw [List.find?_eq_none]
  intro x hx
  obtain ⟨e, he, rfl⟩ := h.cover x hx
  have h2 : e.1 ≠ k := gIx_no hn (kvE e) (List.mem_map_of_mem he)
  have h1 := (h.each e he).1
  unfold alkHit
  rw [h1, hk, decide_eq_false h2]; simp
theorem EInv.same {l : List ByteArray} {j : Nat} {E : List AE} (h : EInv l j E) {s : ByteArray} {k : DgK} (hk : dgK s = k) {i : Nat} {v : Value} {c : Nat} (hE : E[i]? = some (k, v, s, c)) : (l.take j).find? (alkHit s) = none := by
  rw [List.find?_eq_none]
  intro x hx hb
  unfold alkHit at hb
  rw [Bool.and_eq_true, decide_eq_true_eq, decide_eq_true_eq] at hb
  exact hb.1 (h.at hx hE (hb.2.trans hk))
theorem EInv.hit {l : List ByteArray} {j : Nat} {E : List AE} (h : EInv l j E) {s t : ByteArray} {k : DgK} (hk : dgK s = k) {i : Nat} {v : Value} {c : Nat} (hE : E[i]? = some (k, v, t, c)) (hts : t ≠ s) : (l.take j).find? (alkHit s) = some t := by
  have hm := h.each _ (List.mem_of_getElem? hE)
  cases hf : (l.take j).find? (alkHit s) with
  | none =>
    refine absurd ?_ (List.find?_eq_none.1 hf t hm.2.2.2)
    unfold alkHit
    rw [Bool.and_eq_true, decide_eq_true_eq, decide_eq_true_eq]
    exact ⟨hts, hm.1.trans hk.symm⟩
  | some x =>
    have hb := List.find?_some hf
    unfold alkHit at hb
    rw [Bool.and_eq_true, decide_eq_true_eq, decide_eq_true_eq] at hb
    rw [h.at (List.mem_of_find?_eq_some hf) hE (hb.2.trans hk)]
theorem rowE_more (k : DgK) (v : Value) (s : ByteArray) (c : Nat) : rowE (k, v, s, c + 1) = Res.row 9 1 v (c + [s].length) (strL (List.replicate c s) ++ strL [s]) := by
  unfold rowE
  dsimp only
  rw [List.replicate_succ', strL_app]; rfl
theorem set_last {m : List (DgK × Value)} {n : Nat} (hn : m.length = n) (k : DgK) (u v : Value) : (m ++ [(k, u)]).set n (k, v) = m ++ [(k, v)] ∧ (m ++ [(k, u)])[n]? = some (k, u) := by
  subst hn
  constructor
  · rw [List.set_append_right _ _ (Nat.le_refl _), Nat.sub_self]; rfl
  · rw [List.getElem?_append_right (Nat.le_refl _), Nat.sub_self]; rfl
def AlikeP (l : List ByteArray) (e : Ending) : Prop := (∃ t s, e = .returned (.tuple #[.string t, .string s, .bool true]) ∧ t ∈ l ∧ s ∈ l ∧ t ≠ s ∧ dgK t = dgK s) ∨ (e = .returned (.tuple #[.string ⟨#[]⟩, .string ⟨#[]⟩, .bool false]) ∧ ∀ s ∈ l, ∀ t ∈ l, dgK s = dgK t → s = t)
set_option maxHeartbeats 6400000 in
theorem alike_q (v : Value) (l : List ByteArray) {n : Nat} (w : World) (hv : Row w 1 v n (strL l)) (hsz : ∀ s ∈ l, s.size ≤ 80000) (h40 : l.length ≤ 40) : Calls Tryz.prog 29 #[v] w fun e w' => (AlikeP l e ∧ e = .returned (alkV (alkP l))) ∧ Below w.heap.size w w' := by
  have hn : l.length = n := by have := hv.1; rw [strL_length] at this; omega
  obtain ⟨_, a, c, rfl, hm1, hm2, _⟩ := id hv
  unfold maxLen at hm2
  rw [hn] at h40
  have Hv := Lib.hid hv; have Hn := Lib.hid hn; have HZ := Lib.hid hsz; clear hv hn hsz
  have H := St.init w
  go_enter Tryz.func29, Tryz.ntmps29
  go_wp2_with (first | go_skip | ((fail_if_success have := kM); (with_reducible apply arm_makeMapB H (κ := DgK) encD); clear H; intro wn kM H))
  go_loopw [14] (fun i wr => ∃ (j : Nat) (E : List AE), j ≤ n ∧ i = .int .i64 j ∧ Hid (EInv l j E) ∧ Hid (alkP l = alkGo (l.take j) (l.drop j)) ∧ St w wr (Res.mapB kM encD (E.map kvE) :: E.map rowE)) (fun i _ => n - (intOf i).toNat)
  case atStart => exact ⟨0, [], by omega, rfl, Lib.hid (EInv.init l), Lib.hid rfl, H⟩
  case round =>
    clear H
    obtain ⟨j, E, hj, rfl, I, IA, H⟩ := hrel
    by_cases hlt : j < n
    · obtain ⟨s, hs⟩ : ∃ s, l[j]? = some s := ⟨_, List.getElem?_eq_getElem (by rw [Hn.out]; exact hlt)⟩
      obtain ⟨b, off, c', he, hS⟩ := row1_at Hv.out (strL_get hs)
      injection he with e1 e2 e3
      subst e1 e3
      have HS := Lib.hid hS; have Hs := Lib.hid hs
      have Hsz := Lib.hid (HZ.out s (List.mem_of_getElem? hs))
      obtain ⟨k, hk⟩ : ∃ k, dgK s = k := ⟨_, rfl⟩
      have Hk := Lib.hid hk
      clear hS hs e2 hk
      cases hg : gIx (E.map kvE) k with
      | none =>
        have E1 := Lib.hid hg
        obtain ⟨ne, hne⟩ : ∃ n, (E.map kvE).length = n := ⟨_, rfl⟩
        have Hne := Lib.hid hne
        have Hst := Lib.hid (set_last hne k (.slice none 0 0))
        have HC : Hid (0 + 1 ≤ 100) := Lib.hid (by omega)
        clear hg hne
        go_wp2_with (first | go_skip | ((with_reducible refine ld_one (ty := 9) Tryz.underlying9 rfl ?_ ?_ (HS.out.keep H.bel) ?_); rfl; rfl) | (go_at_call 65; (with_reducible refine (of_k Hsz.out Hk.out _).mono ?_); rintro e wn ⟨rfl, hb⟩; replace H := H.call hb; clear hb) | ((fail_if_success have := kD); (with_reducible apply al_dg H); clear H; intro wn kD H) | ((with_reducible apply st_dgb (k := k) (List.length_replicate ..) H); rfl; rfl; rfl; (repeat (first | with_reducible apply Upd.head | with_reducible apply Upd.tail)); clear H; intro wn H) | ((with_reducible apply ld_dgS (k := k)); rfl; rfl; (focus (apply H.arr (t := 64); (repeat (first | with_reducible exact mH | with_reducible apply mT)); done))) | ((with_reducible apply arm_lookupB H (k := k) (enc := encD) (ok := keyDg) (ht := Tryz.underlying90) (hz := zero_strs)); rfl; rfl; (repeat (first | with_reducible exact mH | with_reducible apply mT)); rw [E1.out]; dsimp only))
        go_loopw [24] (fun i wr => i = .int .i64 0 ∧ St w wr (Res.blk kD 64 (encU k.1).toArray :: Res.mapB kM encD (E.map kvE) :: E.map rowE)) (fun i _ => 0)
        case atStart => exact ⟨rfl, H⟩
        case round =>
          clear H
          obtain ⟨rfl, H⟩ := hrel
          go_wp2_with (first | go_skip | ((with_reducible apply ld_dgS (k := k)); rfl; rfl; (focus (apply H.arr (t := 64); (repeat (first | with_reducible exact mH | with_reducible apply mT)); done))) | ((with_reducible apply bs_str H); rfl; clear H; intro wn b H) | ((with_reducible apply arm_entryNn H Hne.out (k := k) (enc := encD) (ok := keyDg) (ht := Tryz.underlying90) (hz := zero_strs)); rfl; rfl; exact E1.out; (repeat (first | with_reducible apply Upd.head | with_reducible apply Upd.tail)); clear H; intro wn H) | ((with_reducible apply arm_app (H.nilRow 9 1) (ht := Tryz.underlying47) (hinfo := info_strR) (hzs := rfl) (hsz := by decide)); (conv => lhs; whnf); (conv => lhs; whnf); (intro v; exact .head _ _ _); (focus (apply (H.nilRow 9 1).rowRead; (repeat (first | with_reducible exact mH | with_reducible apply mT)); done)); (focus (exact strL_one _; done)); (focus (have := HC.out; unfold maxLen; simp only [List.length_cons, List.length_nil]; omega; done)); (focus (have := HC.out; simp only [List.length_cons, List.length_nil]; omega; done)); clear H; intro wn vn H) | ((with_reducible apply arm_entryStore H (κ := DgK) (enc := encD)); rfl; rfl; (conv => lhs; whnf); exact (Hst.out vn).2; (repeat (first | with_reducible apply Upd.head | with_reducible apply Upd.tail)); clear H; intro wn H))
          go_roundw
          case rel =>
            refine ⟨j + 1, E ++ [(k, vn, s, 1)], by omega, by go_num, Lib.hid (I.out.new Hs.out Hk.out E1.out vn), Lib.hid (IA.out.trans (alk_step Hs.out (I.out.miss Hk.out E1.out))), ?_⟩
            rw [(Hst.out vn).1] at H
            rw [List.map_append, List.map_append]
            exact (H.sub (Γ' := Res.row 9 1 vn (0 + [s].length) ([] ++ strL [s]) :: Res.mapB kM encD (E.map kvE ++ [(k, vn)]) :: E.map rowE) (.cons_cons _ (.cons _ (.cons _ (.refl _))))).perm ((List.Perm.swap _ _ _).trans (List.Perm.cons _ (List.perm_append_singleton _ _).symm)).symm
          case measure => simp [intOf]; omega
      | some q =>
        obtain ⟨i0, u⟩ := q
        have hq := gIx_get hg
        rw [List.getElem?_map, Option.map_eq_some_iff] at hq
        obtain ⟨⟨k', u', t, c⟩, hE, he⟩ := hq
        unfold kvE at he
        simp only [Prod.mk.injEq] at he
        obtain ⟨rfl, rfl⟩ := he
        have hrow : (E.map rowE)[i0]? = some (Res.row 9 1 u' c (strL (List.replicate c t))) := by rw [List.getElem?_map, hE]; rfl
        have hmem := List.mem_of_getElem? hrow
        obtain ⟨i1, i2, i3, i4⟩ := I.out.each _ (List.mem_of_getElem? hE)
        dsimp only at i1 i2 i3 i4
        obtain ⟨bu, ou, cu, eu, _⟩ := row1_at (j := 0) (u := .string t) (H.rowRead (mT _ hmem)) (strL_get (by rw [List.getElem?_replicate, if_pos i2]))
        subst eu
        have E1 := Lib.hid hg; have Hm := Lib.hid hmem; have Hget := Lib.hid hrow; have HE := Lib.hid hE
        have HkE : Hid ((E.map kvE)[i0]? = some (k', .slice (some ⟨bu, ou, none⟩) c cu)) := Lib.hid (gIx_get hg)
        have Hdg := Lib.hid i1; have Htm := Lib.hid (List.mem_of_mem_take i4)
        have HC : Hid (c + 1 ≤ 100) := Lib.hid (by omega)
        clear hg hrow hmem hE i1 i4
        by_cases hts : t = s
        · subst hts
          have hnn : (t.toList == t.toList) = true := beq_self_eq_true _
          go_wp2_with (first | go_skip | ((with_reducible refine ld_one (ty := 9) Tryz.underlying9 rfl ?_ ?_ (HS.out.keep H.bel) ?_); rfl; rfl) | (go_at_call 65; (with_reducible refine (of_k Hsz.out Hk.out _).mono ?_); rintro e wn ⟨rfl, hb⟩; replace H := H.call hb; clear hb) | ((fail_if_success have := kD); (with_reducible apply al_dg H); clear H; intro wn kD H) | ((with_reducible apply st_dgb (k := k') (List.length_replicate ..) H); rfl; rfl; rfl; (repeat (first | with_reducible apply Upd.head | with_reducible apply Upd.tail)); clear H; intro wn H) | ((with_reducible apply ld_dgS (k := k')); rfl; rfl; (focus (apply H.arr (t := 64); (repeat (first | with_reducible exact mH | with_reducible apply mT)); done))) | ((with_reducible apply arm_lookupB H (k := k') (enc := encD) (ok := keyDg) (ht := Tryz.underlying90) (hz := zero_strs)); rfl; rfl; (repeat (first | with_reducible exact mH | with_reducible apply mT)); rw [E1.out]; dsimp only))
          go_loopw [24] (fun i wr => ∃ m, m ≤ c ∧ i = .int .i64 m ∧ St w wr (Res.blk kD 64 (encU k'.1).toArray :: Res.mapB kM encD (E.map kvE) :: E.map rowE)) (fun i _ => c - (intOf i).toNat)
          case atStart => exact ⟨0, by omega, rfl, H⟩
          case round =>
            clear H
            obtain ⟨m, hm, rfl, H⟩ := hrel
            by_cases hml : m < c
            · have Ht : Hid ((strL (List.replicate c t))[m]? = some (.string t)) := Lib.hid (strL_get (by rw [List.getElem?_replicate, if_pos hml]))
              go_wp2_with (first | go_skip | ((with_reducible refine ld_one (ty := 9) Tryz.underlying9 rfl ?_ ?_ (H.rowAt (e := 9) (n := c) (c := cu) (m := c) (cs := strL (List.replicate c t)) (j := m) (u := .string t) (by (repeat (first | exact Hm.out | with_reducible apply mT))) Ht.out) ?_); rfl; rfl))
              go_roundw
              case rel => exact ⟨m + 1, by omega, by go_num, H⟩
              case measure => simp [intOf]; omega
            · have hmc : m = c := by omega
              subst hmc
              go_wp2_with (first | go_skip | ((with_reducible apply ld_dgS (k := k')); rfl; rfl; (focus (apply H.arr (t := 64); (repeat (first | with_reducible exact mH | with_reducible apply mT)); done))) | ((with_reducible apply bs_str H); rfl; clear H; intro wn b H) | ((with_reducible apply arm_entryS keyDg Tryz.underlying90 H (k := k')); rfl; rfl; (repeat (first | with_reducible exact mH | with_reducible apply mT)); exact E1.out; clear H; intro wn H) | ((with_reducible apply arm_app H (ht := Tryz.underlying47) (hinfo := info_strR) (hzs := rfl) (hsz := by decide)); (conv => lhs; whnf); (conv => lhs; whnf); (intro v; exact .tail _ (.tail _ (.tail _ (Upd.at _ Hget.out)))); (focus (apply H.rowRead; (repeat (first | with_reducible exact mH | with_reducible apply mT)); done)); (focus (exact strL_one _; done)); (focus (have := HC.out; unfold maxLen; simp only [List.length_cons, List.length_nil]; omega; done)); (focus (have := HC.out; simp only [List.length_cons, List.length_nil]; omega; done)); clear H; intro wn vn H) | ((with_reducible apply arm_entryStore H (κ := DgK) (enc := encD)); rfl; rfl; (conv => lhs; whnf); exact HkE.out; (repeat (first | with_reducible apply Upd.head | with_reducible apply Upd.tail)); clear H; intro wn H))
              go_roundw
              case rel =>
                refine ⟨j + 1, E.set i0 (k', vn, t, m + 1), by omega, by go_num, Lib.hid (I.out.more Hs.out Hk.out HE.out vn), Lib.hid (IA.out.trans (alk_step Hs.out (I.out.same Hk.out HE.out))), ?_⟩
                rw [List.map_set, List.map_set, rowE_more]
                exact H.sub (.cons _ (.cons _ (.refl _)))
              case measure => simp [intOf]; omega
        · have hnn : (t.toList == s.toList) = false := by rw [str_beq]; exact decide_eq_false hts
          have Hts := Lib.hid hts
          clear hts
          go_wp2_with (first | go_skip | ((with_reducible refine ld_one (ty := 9) Tryz.underlying9 rfl ?_ ?_ (HS.out.keep H.bel) ?_); rfl; rfl) | (go_at_call 65; (with_reducible refine (of_k Hsz.out Hk.out _).mono ?_); rintro e wn ⟨rfl, hb⟩; replace H := H.call hb; clear hb) | ((fail_if_success have := kD); (with_reducible apply al_dg H); clear H; intro wn kD H) | ((with_reducible apply st_dgb (k := k') (List.length_replicate ..) H); rfl; rfl; rfl; (repeat (first | with_reducible apply Upd.head | with_reducible apply Upd.tail)); clear H; intro wn H) | ((with_reducible apply ld_dgS (k := k')); rfl; rfl; (focus (apply H.arr (t := 64); (repeat (first | with_reducible exact mH | with_reducible apply mT)); done))) | ((with_reducible apply arm_lookupB H (k := k') (enc := encD) (ok := keyDg) (ht := Tryz.underlying90) (hz := zero_strs)); rfl; rfl; (repeat (first | with_reducible exact mH | with_reducible apply mT)); rw [E1.out]; dsimp only))
          go_loopw [24] (fun i wr => i = .int .i64 0 ∧ St w wr (Res.blk kD 64 (encU k'.1).toArray :: Res.mapB kM encD (E.map kvE) :: E.map rowE)) (fun i _ => 0)
          case atStart => exact ⟨rfl, H⟩
          case round =>
            clear H
            obtain ⟨rfl, H⟩ := hrel
            have Ht : Hid ((strL (List.replicate c t))[0]? = some (.string t)) := Lib.hid (strL_get (by rw [List.getElem?_replicate, if_pos i2]))
            go_wp2_with (first | go_skip | ((with_reducible refine ld_one (ty := 9) Tryz.underlying9 rfl ?_ ?_ (H.rowAt (e := 9) (n := c) (c := cu) (m := c) (cs := strL (List.replicate c t)) (j := 0) (u := .string t) (by (repeat (first | exact Hm.out | with_reducible apply mT))) Ht.out) ?_); rfl; rfl))
            all_goals first | (rw [Exit.noGoto_ret]) | skip
            refine bodyPost_ret (results_tmp3 Tryz.results29 _ _ _) rfl ?_
            exact ⟨⟨.inl ⟨t, s, rfl, Htm.out, List.mem_of_getElem? Hs.out, Hts.out, Hdg.out.trans Hk.out.symm⟩, by rw [IA.out, alk_hit Hs.out (I.out.hit Hk.out HE.out Hts.out)]; rfl⟩, H.bel⟩
    · have hjn : j = n := by omega
      subst hjn
      have hfin := I.out
      rw [← Hn.out] at hfin
      have Hfin := Lib.hid hfin.fin
      clear hfin
      go_wp2
      all_goals first | (rw [Exit.noGoto_ret]) | skip
      refine bodyPost_ret (results_tmp3 Tryz.results29 _ _ _) rfl ?_
      exact ⟨⟨.inr ⟨rfl, Hfin.out⟩, by rw [IA.out, ← Hn.out, alk_end]; rfl⟩, H.bel⟩
end Go.Proofs.YtolbmemogoojhaaGreat
