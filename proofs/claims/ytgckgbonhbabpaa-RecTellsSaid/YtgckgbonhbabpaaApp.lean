/- Bytes appended to a row of the call's own; slices of bytes cut. -/
import Derived.Test.YtgckgbonhbabpaaStampB
import Derived.Test.YtgckgbonhbabpaaArr
import Derived.Laws.Cover3
namespace Go.Proofs.Ytgckgbonhbabpaa
open Go Go.RowKit Go.Deep
set_option linter.unusedVariables false
set_option linter.unusedSimpArgs false

theorem wpList_app_bytes {P : Program} {w : World} {ops : Array Oper} {rest : List Oper} {o : Oper} {a : Act} {Q : Exit → Act → World → Prop} (hgd : o.guard = none) (s x : Operand) (t : TypeId)
    (ho : o.op = .call { callee := .builtin .append, args := #[s, x], argTypes := #[t, t] })
    (base : Nat) (e : TypeId) (ht : P.underlying t = some (.slice e)) (hinfo : (P.info? e).map (fun i => (i.zero, i.size, i.bytes)) = some (some (.int .u8 0), 1, 1))
    (v : Value) (bs0 : List UInt8) (hs : a.eval s = v) (hown : OwnU base w e v bs0) (xv : Value) (bs : List UInt8) (hxv : a.eval x = xv) (hx : Byt w xv bs)
    (hl : bs0.length + bs.length ≤ 100000) (hbase : base ≤ w.heap.size)
    (h : ∀ v' w', OwnU base w' e v' (bs0 ++ bs) → w.grownBy w' v.ownBlock → wpList P ops Q rest (a.put o.dst v') w') : wpList P ops Q (o :: rest) a w :=
  wpList_append_row hgd s x t ho base e (.int .u8 0) 1 1 ht hinfo (by rfl) (by omega) v bs0.length (encU bs0) hs hown xv bs.length (encU bs) hxv hx (encU_one bs) (Nat.le_trans hl (by decide)) (by omega) hbase
    fun v' w' h1 h2 => h v' w' (by unfold OwnU; rw [List.length_append, encU_append]; exact h1) h2

/-- An append with the frame said by Below. -/
theorem wpList_app {P : Program} {w w0 : World} {ops : Array Oper} {rest : List Oper} {o : Oper} {a : Act} {Q : Exit → Act → World → Prop} (hgd : o.guard = none) (s x : Operand) (t : TypeId)
    (ho : o.op = .call { callee := .builtin .append, args := #[s, x], argTypes := #[t, t] }) (dst : Option Tmp) (hdst : o.dst = dst)
    (e : TypeId) (ht : P.underlying t = some (.slice e)) (hinfo : (P.info? e).map (fun i => (i.zero, i.size, i.bytes)) = some (some (.int .u8 0), 1, 1))
    (v : Value) (bs0 : List UInt8) (hs : a.eval s = v) (hown : OwnU w0.heap.size w e v bs0) (xv : Value) (bs : List UInt8) (hxv : a.eval x = xv) (hx : Byt w xv bs)
    (hl : bs0.length + bs.length ≤ 100000) (hb : Below w0.heap.size w0 w)
    (h : ∀ v' w', OwnU w0.heap.size w' e v' (bs0 ++ bs) → Below w0.heap.size w0 w' → wpList P ops Q rest (a.put dst v') w') : wpList P ops Q (o :: rest) a w := by
  subst hdst
  exact wpList_app_bytes hgd s x t ho w0.heap.size e ht hinfo v bs0 hs hown xv bs hxv hx hl hb.size fun v' w' h1 h2 => h v' w' h1 (bel_grown (base := 0) hb hown h2)

theorem len_of {w : World} {v : Value} {x : List UInt8} (h : Byt w v x) (W : World) : Sem.run Try.prog (Builtin.len_ #[26] 3 #[v]) W = .ok (.int .i64 (x.length : Int)) W := by
  obtain ⟨a, c, rfl, _⟩ := h.open_
  have := Try.underlying26
  simp [go_sem, this]
def lenV : Value → Nat
  | .slice _ n _ => n
  | _ => 0
theorem lenV_of {w : World} {v : Value} {x : List UInt8} (h : Byt w v x) : lenV v = x.length := by obtain ⟨a, c, rfl, _⟩ := h.open_; rfl
theorem byt_lit (w : World) (e : TypeId) (bs : List UInt8) (hl : bs.length ≤ maxLen) (h0 : 0 < bs.length) : Byt (w.alloc (.cells (encU bs).toArray e)) (.slice (some ⟨w.heap.size, 0, none⟩) bs.length bs.length) bs := by
  refine ⟨by simp [encU_length], _, _, rfl, Nat.le_refl _, hl, (fun h => by cases h), fun _ => ⟨_, 0, rfl, fun j u hj => ?_⟩⟩
  rw [Nat.zero_add, (Blk.new w e _).cell]; simpa using hj
theorem byt_one (w : World) (e : TypeId) (c : UInt8) (n : Int) (hn : (c.toNat : Int) = n) : Byt (w.alloc (.cells #[.int .u8 n] e)) (.slice (some ⟨w.heap.size, 0, none⟩) 1 1) [c] := by
  subst hn; exact byt_lit w e [c] (by simp [maxLen]) (by simp)
theorem OwnU.below {base : Nat} {w w' : World} {e : TypeId} {v : Value} {bs : List UInt8} (h : OwnU base w e v bs) (hb : Below w.heap.size w w') : OwnU base w' e v bs := own_below h hb
theorem OwnU.lower {base base' : Nat} {w : World} {e : TypeId} {v : Value} {bs : List UInt8} (h : OwnU base w e v bs) (hb : base' ≤ base) : OwnU base' w e v bs := own_lower h hb
theorem ownU_nil (base : Nat) (w : World) (e : TypeId) : OwnU base w e (.slice none 0 0) [] := World.ownsRow_nil _ _ _ _
/-- Where the bytes of an own row lie. -/
theorem OwnU.open_ {base : Nat} {w : World} {e : TypeId} {v : Value} {bs : List UInt8} (h : OwnU base w e v bs) (h0 : 0 < bs.length) :
    ∃ g c, v = .slice (some ⟨g, 0, none⟩) bs.length c ∧ base ≤ g ∧ g < w.heap.size ∧ bs.length ≤ c ∧ c ≤ maxLen ∧ ∀ j, j < bs.length → w.cell? ⟨g, j, none⟩ = some (.int .u8 ((bs.getD j 0).toNat : Int)) := by
  have hb := h.byt
  obtain ⟨hl, ⟨rfl, hn0⟩ | ⟨g, cap, cur, rfl, hb0, hg, h1, h2, h3, h4⟩⟩ := id h
  · omega
  · obtain ⟨a, c, he, k1, k2, _, k4⟩ := hb.open_
    injection he with e1 e2 e3
    subst e1; subst e3
    obtain ⟨b, off, he2, hc⟩ := k4 h0
    injection he2 with he2
    injection he2 with e4 e5
    subst e4; subst e5
    exact ⟨g, _, rfl, hb0, (Array.getElem?_eq_some_iff.1 hg).1, h1, h2, fun j hj => by have := hc j hj; rwa [Nat.zero_add] at this⟩
/-- Bytes said cell by cell. -/
theorem byt_of (w : World) (b off n c : Nat) (bs : List UInt8) (hn : bs.length = n) (hc : n ≤ c) (hm : c ≤ maxLen) (h : ∀ j, j < n → w.cell? ⟨b, off + j, none⟩ = some (.int .u8 ((bs.getD j 0).toNat : Int))) : Byt w (.slice (some ⟨b, off, none⟩) n c) bs := by
  subst hn
  refine ⟨by simp [encU_length], _, _, rfl, hc, hm, (fun h => by cases h), fun _ => ⟨b, off, rfl, fun j u hj => ?_⟩⟩
  rw [encU_get] at hj
  obtain ⟨x, hx, rfl⟩ := Option.map_eq_some_iff.1 hj
  have hlt := (List.getElem?_eq_some_iff.1 hx).1
  rw [h j hlt, List.getD_eq_getElem?_getD, hx]; rfl

theorem eql_nil (W : World) (a : Option Addr) (l c : Nat) : (binOp .eql 26 (.slice a l c) (.slice none 0 0)).run Try.prog W = .ok (.bool a.isNone) W := by
  have h : (Op.equal 26 (.slice a l c) (.slice none 0 0)).run Try.prog W = .ok a.isNone W := run_equal_slice_nil W _ _ a l c Try.underlying26
  simp [binOp, h]
set_option maxRecDepth 100000 in
set_option maxHeartbeats 800000 in
theorem clone_c (v : Value) (bs : List UInt8) (hl : bs.length ≤ 90000) (w : World) (hv : Byt w v bs) : Calls Try.prog 82 #[v] w (MadeU 5 bs w) := by
  obtain ⟨a, c, rfl, _, hm, hn, hcell⟩ := hv.open_
  have hq := eql_nil
  cases a with
  | none =>
    have hc := hn rfl
    have hb : bs = [] := List.eq_nil_of_length_eq_zero (by omega)
    subst hb; subst hc
    clear hcell
    go_enter Try.func82, Try.ntmps82
    go_wp2
    go_ret
    exact ⟨_, rfl, ownU_nil _ _ _, Below.refl _ _⟩
  | some ad =>
    have Hv := Lib.hid hv
    clear hcell hn hv hm
    go_enter Try.func82, Try.ntmps82
    go_wp2_with (at_builtin; refine wpList_app (w0 := w) rfl _ _ 26 rfl _ rfl 5 (by kernel_rfl) (by kernel_rfl) _ [] rfl (World.ownsRow_lit (base := w.heap.size) (size := 1) _ _ 0 (Nat.le_refl _) (by decide) rfl) _ bs rfl (Hv.out.alloc _) (by simp; omega) (by first | exact bel_alloc (Below.refl _ _) _) ?_; intro v1 w1 own1 b1)
    go_ret
    exact ⟨_, rfl, own1, b1⟩
end Go.Proofs.Ytgckgbonhbabpaa
