/- wire.Text and wire.Read. -/
import Derived.Test.YtgckgbonhbabpaaApp
import Derived.Lib.AppendStr
namespace Go.Proofs.Ytgckgbonhbabpaa
open Go Go.RowKit Go.Deep
set_option linter.unusedVariables false
set_option linter.unusedSimpArgs false
set_option maxRecDepth 100000

theorem wpList_app_str {P : Program} {w w0 : World} {ops : Array Oper} {rest : List Oper} {o : Oper} {a : Act} {Q : Exit → Act → World → Prop} (hgd : o.guard = none) (s x : Operand) (t u : TypeId)
    (ho : o.op = .call { callee := .builtin .append, args := #[s, x], argTypes := #[t, u] }) (dst : Option Tmp) (hdst : o.dst = dst)
    (e : TypeId) (ht : P.underlying t = some (.slice e)) (hu : P.underlying u = some .string) (hinfo : (P.info? e).map (fun i => (i.zero, i.size, i.bytes)) = some (some (.int .u8 0), 1, 1))
    (v : Value) (bs0 : List UInt8) (hs : a.eval s = v) (hown : OwnU w0.heap.size w e v bs0) (str : ByteArray) (hx : a.eval x = .string str)
    (hl : bs0.length + str.size ≤ 100000) (hb : Below w0.heap.size w0 w)
    (h : ∀ v' w', OwnU w0.heap.size w' e v' (bs0 ++ str.data.toList) → Below w0.heap.size w0 w' → wpList P ops Q rest (a.put dst v') w') : wpList P ops Q (o :: rest) a w := by
  subst hdst
  obtain ⟨i, hi, hzz⟩ := Option.map_eq_some_iff.1 hinfo
  simp only [Prod.mk.injEq] at hzz
  obtain ⟨hz, hsi, hby⟩ := hzz
  refine Lib.wpList_append_own_string w hgd s x t u ho w0.heap.size e i ht hu hi hz hsi hby v bs0.length (encU bs0) hs hown str hx (by unfold maxLen; omega) (by omega) hb.size fun v' w' h1 h2 _ => h v' w' ?_ (bel_grown (base := 0) hb hown h2)
  unfold OwnU
  rw [List.length_append, encU_append]
  exact h1

def textL (s : ByteArray) : List UInt8 := putL s.size ++ s.data.toList
set_option maxHeartbeats 800000 in
theorem text_c (s : ByteArray) (hs : s.size ≤ 90000) (w : World) : Calls Try.prog 47 #[.string s] w (MadeU 5 (textL s) w) := by
  obtain ⟨n, hn⟩ : ∃ n, n = s.size := ⟨_, rfl⟩
  have hlen : ∀ W, (Builtin.len_ #[9] 3 #[.string s]).run Try.prog W = .ok (.int .i64 (n : Int)) W := fun W => by
    rw [run_len_string W 9 3 s (by kernel_rfl), hn]; rfl
  have hpl := (putL_le n (by omega)).2
  have Hn := Lib.hid hn; clear hn
  have hn9 : n ≤ 90000 := by rw [Hn.out]; exact hs
  go_enter Try.func47, Try.ntmps47
  go_wp2_with (first | (go_at_call 75; refine (put_c n (by omega) _).mono ?_; rintro e w1 ⟨v1, rfl, own1, b1⟩) | (at_builtin; refine wpList_app_str (w0 := w) rfl _ _ 26 9 rfl _ rfl 5 (by kernel_rfl) (by kernel_rfl) (by kernel_rfl) _ _ rfl own1 s rfl (by rw [← Hn.out]; omega) b1 ?_; intro v2 w2 own2 b2))
  go_ret
  exact ⟨_, rfl, by rw [textL, ← Hn.out]; exact own2, b2⟩

/-- What Read reads: the text, how many bytes. -/
def readR (bs : List UInt8) (M : Nat) : Option (ByteArray × Nat) :=
  match getR bs with
  | some (n, u) => if n ≤ min M (bs.length - u) then some (bstr ((bs.drop u).take n), u + n) else none
  | none => none
def ReadIs (r : Option (ByteArray × Nat)) : Value := .tuple #[.string (r.elim .empty (·.1)), .int .i64 ((r.elim 0 (·.2) : Nat) : Int), .bool r.isSome]
theorem read_none {r : Option (ByteArray × Nat)} (h : r = none) : Ending.returned (.tuple #[.string .empty, .int .i64 0, .bool false]) = .returned (ReadIs r) := by subst h; rfl
theorem read_some {r : Option (ByteArray × Nat)} {s : ByteArray} {u : Nat} {a : Int} (h : r = some (s, u)) (ha : a = u) : Ending.returned (.tuple #[.string s, .int .i64 a, .bool true]) = .returned (ReadIs r) := by subst h ha; rfl
/-- A piece of a slice. -/
theorem byt_cut {w : World} {b off c : Nat} {bs : List UInt8} (h : Byt w (.slice (some ⟨b, off, none⟩) bs.length c) bs) (k m : Nat) (hk : k + m ≤ bs.length) : Byt w (.slice (some ⟨b, off + k, none⟩) m (c - k)) ((bs.drop k).take m) := by
  obtain ⟨a', c', he, h1, h2, _, h4⟩ := Byt.open_ h
  injection he with e1 e2 e3
  subst e1; subst e3
  refine byt_of _ _ _ _ _ _ (by simp; omega) (by omega) (by omega) fun j hj => ?_
  obtain ⟨b', off', he2, hc⟩ := h4 (by omega)
  injection he2 with he2
  injection he2 with e4 e5
  subst e4; subst e5
  rw [Nat.add_assoc, hc (k + j) (by omega)]
  congr 3
  simp [List.getD_eq_getElem?_getD, List.getElem?_take, List.getElem?_drop, hj]
set_option maxHeartbeats 1600000 in
theorem read_c (v : Value) (bs : List UInt8) (M : Nat) (hM : M ≤ 100000) (w : World) (hv : Byt w v bs) : Calls Try.prog 51 #[v, .int .i64 (M : Int)] w fun e w' => e = .returned (ReadIs (readR bs M)) ∧ Below w.heap.size w w' := by
  obtain ⟨a, c, rfl, hc, hm, hn0, hcell⟩ := hv.open_
  unfold maxLen at hm
  cases hg : getR bs with
  | none =>
    have Hr : Hid (readR bs M = none) := by unfold readR; rw [hg]; exact Lib.hid rfl
    have Hget := Lib.hid (get_no_c _ bs w hv hg); clear hv hg hcell hn0
    go_enter Try.func51, Try.ntmps51
    go_wp2_with (go_at_call 77; refine Hget.out.mono ?_; rintro e w' ⟨rfl, rfl⟩)
    all_goals first | (rw [Exit.noGoto_ret]; go_ret3) | go_ret3
    all_goals exact ⟨read_none Hr.out, by (repeat (first | exact Below.refl _ _ | assumption | refine bel_alloc ?_ _ | refine bel_after _ ?_ | refine bel_drewN ?_ _ | refine bel_drew ?_ | refine bel_set ?_ (by first | omega | (simp only [World.size_alloc, World.size_drew, World.size_setCell]; omega) | (simp; omega)) _))⟩
  | some q =>
    obtain ⟨n, u⟩ := q
    obtain ⟨hn, hu0, hu1, hu2, _⟩ := getR_some hg
    obtain ⟨b, off, rfl, hcc⟩ := hcell (by omega)
    have Hget := Lib.hid (get_yes_c _ bs n u w hv hg)
    have Hv := Lib.hid hv
    clear hv hcell hcc hn0
    obtain ⟨L, hL⟩ : ∃ L, L = bs.length := ⟨_, rfl⟩
    rw [← hL] at Hget hu1 hc ⊢
    have HL := Lib.hid hL; clear hL
    have Hg := Lib.hid hg; clear hg
    by_cases hk : n ≤ min M (L - u)
    · obtain ⟨str, hstr⟩ : ∃ str, str = bstr ((bs.drop u).take n) := ⟨_, rfl⟩
      have Hr : Hid (readR bs M = some (str, u + n)) := by unfold readR; rw [Hg.out]; simp only; rw [if_pos (by rw [← HL.out]; exact hk), hstr]; exact Lib.hid rfl
      have hby := byt_cut (w := w) (b := b) (off := off) (c := c) (bs := bs) Hv.out u n (by rw [← HL.out]; omega)
      by_cases hcu : c = u
      · subst hcu
        have hn0 : n = 0 := by omega
        have hLu : L = c := by omega
        subst hn0
        subst hLu
        have hcv : (convert 26 9 (.slice (some ⟨b, off, none⟩) 0 0)).run Try.prog w = .ok (.string str) w := by
          have hb0 : Byt w (.slice (some ⟨b, off, none⟩) 0 0) [] := ⟨by simp [encU], some ⟨b, off, none⟩, 0, rfl, by simp, by unfold maxLen; omega, (fun h => by cases h), fun h => by simp [encU] at h⟩
          have := conv_bytes (P := Try.prog) 26 9 5 (by kernel_rfl) (by kernel_rfl) (by kernel_rfl) hb0
          rw [hstr, List.take_zero]; exact this
        clear hby hstr
        go_enter Try.func51, Try.ntmps51
        go_wp2_with (go_at_call 77; refine Hget.out.mono ?_; rintro e w' ⟨rfl, rfl⟩)
        all_goals first | (rw [Exit.noGoto_ret]; go_ret3) | go_ret3
        all_goals exact ⟨read_some Hr.out (by first | rfl | omega | simp), by (repeat (first | exact Below.refl _ _ | assumption | refine bel_alloc ?_ _ | refine bel_after _ ?_ | refine bel_drewN ?_ _ | refine bel_drew ?_ | refine bel_set ?_ (by first | omega | (simp only [World.size_alloc, World.size_drew, World.size_setCell]; omega) | (simp; omega)) _))⟩
      · have hcv : (convert 26 9 (.slice (some ⟨b, off + u, none⟩) n (c - u))).run Try.prog w = .ok (.string str) w := by
          rw [hstr]; exact conv_bytes _ _ 5 (by kernel_rfl) (by kernel_rfl) (by kernel_rfl) hby
        clear hby hstr
        go_enter Try.func51, Try.ntmps51
        go_wp2_with (go_at_call 77; refine Hget.out.mono ?_; rintro e w' ⟨rfl, rfl⟩)
        all_goals first | (rw [Exit.noGoto_ret]; go_ret3) | go_ret3
        all_goals exact ⟨read_some Hr.out (by first | rfl | omega | simp), by (repeat (first | exact Below.refl _ _ | assumption | refine bel_alloc ?_ _ | refine bel_after _ ?_ | refine bel_drewN ?_ _ | refine bel_drew ?_ | refine bel_set ?_ (by first | omega | (simp only [World.size_alloc, World.size_drew, World.size_setCell]; omega) | (simp; omega)) _))⟩
    · have Hr : Hid (readR bs M = none) := by unfold readR; rw [Hg.out]; simp only; rw [if_neg (by rw [← HL.out]; exact hk)]; exact Lib.hid rfl
      go_enter Try.func51, Try.ntmps51
      go_wp2_with (go_at_call 77; refine Hget.out.mono ?_; rintro e w' ⟨rfl, rfl⟩)
      all_goals first | (rw [Exit.noGoto_ret]; go_ret3) | go_ret3
      all_goals exact ⟨read_none Hr.out, by (repeat (first | exact Below.refl _ _ | assumption | refine bel_alloc ?_ _ | refine bel_after _ ?_ | refine bel_drewN ?_ _ | refine bel_drew ?_ | refine bel_set ?_ (by first | omega | (simp only [World.size_alloc, World.size_drew, World.size_setCell]; omega) | (simp; omega)) _))⟩
end Go.Proofs.Ytgckgbonhbabpaa
