/- Bytes appended to a row of the call's own. -/
import Derived.Test.YtbcgjagpdnbaiaaStampMore
namespace Go.Proofs.Ytbcgjagpdnbaiaa
open Go Go.RowKit Go.Deep
set_option linter.unusedVariables false
set_option linter.unusedSimpArgs false

theorem wpList_app_bytes {P : Program} {w : World} {ops : Array Oper} {rest : List Oper} {o : Oper} {a : Act} {Q : Exit → Act → World → Prop} (hgd : o.guard = none) (s x : Operand) (t : TypeId)
    (ho : o.op = .call { callee := .builtin .append, args := #[s, x], argTypes := #[t, t] })
    (base : Nat) (e : TypeId) (ht : P.underlying t = some (.slice e)) (hinfo : (P.info? e).map (fun i => (i.zero, i.size, i.bytes)) = some (some (.int .u8 0), 1, 1))
    (v : Value) (bs0 : List UInt8) (hs : a.eval s = v) (hown : OwnU base w e v bs0) (xv : Value) (bs : List UInt8) (hxv : a.eval x = xv) (hx : Byt w xv bs)
    (hl : bs0.length + bs.length ≤ 100000) (hbase : base ≤ w.heap.size)
    (h : ∀ v' w', OwnU base w' e v' (bs0 ++ bs) → w.grownBy w' v.ownBlock → wpList P ops Q rest (a.put o.dst v') w') : wpList P ops Q (o :: rest) a w :=
  wpList_append_row hgd s x t ho base e (.int .u8 0) 1 1 ht hinfo (by rfl) (by omega) v bs0.length (encU bs0) hs hown xv bs.length (encU bs) hxv hx (encU_one bs) (Nat.le_trans hl (by decide)) (by omega) hbase
    fun v' w' h1 h2 => h v' w' (by unfold OwnU; rw [List.length_append, encU_append]; exact h1) h2

theorem len_of {w : World} {v : Value} {x : List UInt8} (h : Byt w v x) (W : World) : Sem.run Try.prog (Builtin.len_ #[24] 3 #[v]) W = .ok (.int .i64 (x.length : Int)) W := by
  obtain ⟨a, c, rfl, _⟩ := h.open_
  have := Try.underlying24
  simp [go_sem, this]
theorem st_back1 {N R : Int} (h : stMay N R = true) (x : List UInt8) : stGet (stBytes N R ++ x) = (N, R, (stBytes N R).length, true) := by
  have hb := stMay_le h
  have e : stBytes N R = putL (8 * N + R).toNat := by unfold stBytes; rw [if_pos h]
  rw [e]
  have h1 : ((8 * N + R).toNat : Int) / 8 = N := by omega
  have h2 : ((8 * N + R).toNat : Int) % 8 = R := by omega
  have := stGet_yes (getR_put (8 * N + R).toNat x (by omega)) (by rw [h1, h2]; exact h)
  rw [h1, h2] at this
  exact this
theorem st_back2 (x : List UInt8) : stGet x = (0, 0, 0, false) ∨ ∃ s1 s2 u, stGet x = (s1, s2, u, true) ∧ stMay s1 s2 = true ∧ 0 < u ∧ u ≤ x.length ∧ stBytes s1 s2 = x.take u := by
  cases hg : getR x with
  | none => exact .inl (stGet_none hg)
  | some r =>
    obtain ⟨n, u⟩ := r
    obtain ⟨h1, h2, h3, _, h5⟩ := getR_some hg
    cases hm : stMay ((n : Int) / 8) ((n : Int) % 8) with
    | false => exact .inl (stGet_no hg hm)
    | true =>
      refine .inr ⟨_, _, u, stGet_yes hg hm, hm, h2, h3, ?_⟩
      unfold stBytes; rw [if_pos hm, show (8 * ((n : Int) / 8) + (n : Int) % 8).toNat = n by omega]; exact h5
theorem stBytes_le {N R : Int} (h : stMay N R = true) : (stBytes N R).length ≤ 10 := by
  have hb := stMay_le h
  have e : stBytes N R = putL (8 * N + R).toNat := by unfold stBytes; rw [if_pos h]
  rw [e]; exact (putL_le _ (by omega)).2
end Go.Proofs.Ytbcgjagpdnbaiaa
