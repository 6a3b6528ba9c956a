/- The digest of a text; digests compared. -/
import Derived.Test.YtgckgbonhbabpaaShaD
import Derived.Stop.BytesEq
import Derived.Lib.Bytealg
import Derived.Lib.BytesEntry
import Derived.Laws.Externs
namespace Go.Proofs.Ytgckgbonhbabpaa
open Go Go.RowKit Go.Deep
set_option linter.unusedVariables false
set_option linter.unusedSimpArgs false
set_option maxRecDepth 100000

/-- A text's bytes, made a slice. -/
theorem wpList_conv {P : Program} {w : World} {ops : Array Oper} {rest : List Oper} {o : Oper} {a : Act} {Q : Exit → Act → World → Prop} (hgd : o.guard = none) (src dst e : TypeId) (x : Operand) (ho : o.op = .convert src dst x) (tm : Option Tmp) (hdst : o.dst = tm)
    (s : ByteArray) (hx : a.eval x = .string s) (hs : P.underlying src = some .string) (hd : P.underlying dst = some (.slice e)) (he : P.underlying e = some (.int .u8)) (hl : s.size ≤ maxLen)
    (h : ∀ v w', Byt w' v s.data.toList → Below w.heap.size w w' → wpList P ops Q rest (a.put tm v) w') : wpList P ops Q (o :: rest) a w := by
  subst hdst
  refine wpList_plain hgd fun K hK => ?_
  unfold Oper.wp execOp
  simp only [ho, hx, Sem.run_bind, Lib.run_convert_string_bytes w src dst e s hs hd he, Result.andThen_ok]
  refine hK _ _ (h _ _ ?_ ⟨rfl, rfl, rfl, by rw [Lib.bytesWorld_size]; omega, fun k hk => Lib.bytesWorld_at_old w e s k hk⟩)
  refine byt_of _ _ 0 _ _ _ rfl (grownCap_ge _ _ _ _) (grownCap_le_maxLen _ _ _ _ hl) fun j hj => ?_
  rw [Nat.zero_add]
  exact Lib.bytesWorld_cell w e s j hj

set_option maxHeartbeats 1600000 in
theorem of_c (s : ByteArray) (hl : s.size ≤ 80000) (w : World) : Calls Try.prog 30 #[.string s] w fun e w' => e = .returned (.agg (encU (dig s.data.toList)).toArray) ∧ Below w.heap.size w w' := by
  obtain ⟨O, hO⟩ : ∃ O, O = (encU (dig s.data.toList)).toArray := ⟨_, rfl⟩
  have hOs : O.size = 32 := by rw [hO]; simp [encU_length, dig, outs_length]
  have hO1 : O.all (·.oneCell') = true := by rw [hO]; simp [encU, Value.oneCell']
  have hsl : s.data.toList.length = s.size := by simp
  rw [← hO]
  have HO := Lib.hid hO; clear hO
  go_enter Try.func30, Try.ntmps30
  go_wp2_with (first | (refine wpList_alloc_blk rfl 39 rfl _ rfl (.agg zero32) zero32 zero32_info rfl ?_; intro w1 k1 b1 s1) | (refine wpList_conv rfl 9 26 5 _ rfl _ rfl s rfl (by kernel_rfl) (by kernel_rfl) (by kernel_rfl) (by unfold maxLen; omega) ?_; intro v w2 hv b2; have Hv := Lib.hid hv; clear hv) | (go_at_call 67; refine (sum_c _ s.data.toList (by omega) _ Hv.out).mono ?_; rw [← HO.out]; rintro e w3 ⟨rfl, b3⟩) | (refine wpList_store_blk rfl 39 _ _ rfl _ O rfl rfl _ _ ((k1.below b2 (by omega)).below b3 (by have := b2.size; omega)) (by rw [hOs]; exact size32_info) (by rw [hOs]; rfl) hO1 ?_; intro w13 k13 b13 s13))
  have h2 := b2.size
  have h3 := b3.size
  exact bodyPost_ret (results_cell_row Try.results30 _ _ w.heap.size _ O _ _ rfl k13 Try.underlying39 rfl (by rw [hOs]; exact size32_info)) rfl ⟨rfl, b1.trans ((b2.mono (by omega)).trans ((b3.mono (by omega)).trans (b13.below (Nat.le_refl _) (by omega))))⟩

theorem run_bytesOf {P : Program} {w : World} {v : Value} {bs : List UInt8} (h : Byt w v bs) : (Extern.Bytes.bytesOf v).run P w = .ok (bstr bs) w := by
  obtain ⟨a, c, rfl, h1, h2, h3, h4⟩ := h.open_
  cases a with
  | none =>
    have hc := h3 rfl
    have hb : bs = [] := List.eq_nil_of_length_eq_zero (by omega)
    subst hb
    rfl
  | some ad =>
    have hl := Lib.run_loadBytesX (P := P) w (bs.map fun b => (b.toNat : Int)) ad .empty (fun j x hj => by
      have hjl : j < bs.length := by have := (List.getElem?_eq_some_iff.1 hj).1; simpa using this
      obtain ⟨b, off, he, hc⟩ := h4 (by omega)
      cases he
      rw [Addr.add_lit, hc j hjl]
      rw [List.getElem?_map, List.getElem?_eq_getElem hjl] at hj
      simp only [Option.map_some, Option.some.injEq] at hj
      rw [← hj, List.getD_eq_getElem?_getD, List.getElem?_eq_getElem hjl]; rfl)
    rw [List.length_map] at hl
    show (Extern.Bytes.loadBytes ad bs.length .empty).run P w = _
    rw [hl]
    congr 1
    apply ByteArray.ext
    show (#[] : Array UInt8) ++ (Lib.bytesOf (bs.map fun b => (b.toNat : Int))).toArray = (bstr bs).data
    have e : ((fun n : Int => UInt8.ofNat n.toNat) ∘ fun b : UInt8 => (b.toNat : Int)) = id := by funext b; simp
    simp [Lib.bytesOf, bstr, e]
theorem run_compare {P : Program} {w : World} {va vb : Value} {a b : List UInt8} (ha : Byt w va a) (hb : Byt w vb b) : (Extern.BytealgCompare.compare #[va, vb]).run P w = .ok (.int .i64 (Lib.compareBytes a b)) w := by
  change Sem.run P (do pure (goInt (Extern.BytealgCompare.cmp (← Extern.Bytes.bytesOf va) (← Extern.Bytes.bytesOf vb)))) w = _
  simp only [Sem.run_bind, Sem.run_pure, run_bytesOf ha, run_bytesOf hb, Result.andThen]
  rw [Lib.cmp_eq]
  rfl

set_option maxHeartbeats 800000 in
theorem bcompare_c (va vb : Value) (a b : List UInt8) (w : World) (ha : Byt w va a) (hb : Byt w vb b) : Calls Try.prog 68 #[va, vb] w fun e w' => e = .returned (.int .i64 (Lib.compareBytes a b)) ∧ w = w' := by
  have hx : ∀ ex, ex = Extern.BytealgCompare.compare → (ex #[va, vb]).run Try.prog w = .ok (.int .i64 (Lib.compareBytes a b)) w := fun ex h => by rw [h]; exact run_compare ha hb
  have hcall : (callFunc 86 #[va, vb]).run Try.prog w = .ok (.value (.int .i64 (Lib.compareBytes a b))) w := by
    rw [run_callFunc_extern Try.func86 (by kernel_rfl) (by kernel_rfl) (by kernel_rfl) (e := Extern.BytealgCompare.compare) (by kernel_rfl), run_compare ha hb]
    rfl
  go_enter Try.func68, Try.ntmps68
  go_wp2
  go_ret
  exact ⟨rfl, rfl⟩

/-- Is one digest less than another one? -/
def dgLess (a b : List UInt8) : Bool := decide (Lib.compareBytes a b < 0)

theorem neq_dig (W : World) (a b : List UInt8) (ha : a.length = 32) (hb : b.length = 32) : (binOp .neq 39 (.agg (encU a).toArray) (.agg (encU b).toArray)).run Try.prog W = .ok (.bool (!(a == b))) W := by
  rw [run_neq_struct]
  have := run_equalIn_bytes (P := Try.prog) W 9998 39 5 32 (by kernel_rfl) (by kernel_rfl) (fun w => by simp [sizeOf, typeInfo]; kernel_rfl) a b ha hb
  have e : ∀ l : List UInt8, encU l = l.map Extern.Stop.cell := fun l => rfl
  rw [e, e, this]
  rfl
theorem cmpB_self : ∀ a : List UInt8, Lib.compareBytes a a = 0
  | [] => rfl
  | x :: a => by
    rw [Lib.compareBytes, if_neg (UInt8.lt_irrefl x), if_neg (UInt8.lt_irrefl x)]; exact cmpB_self a

set_option maxHeartbeats 1600000 in
theorem dless_c (a b : List UInt8) (ha : a.length = 32) (hb : b.length = 32) (w : World) : Calls Try.prog 31 #[.agg (encU a).toArray, .agg (encU b).toArray] w fun e w' => e = .returned (.bool (dgLess a b)) ∧ Below w.heap.size w w' := by
  obtain ⟨A, hA⟩ : ∃ A, A = (encU a).toArray := ⟨_, rfl⟩
  obtain ⟨B, hB⟩ : ∃ B, B = (encU b).toArray := ⟨_, rfl⟩
  have hAs : A.size = 32 := by rw [hA]; simp [encU_length, ha]
  have hBs : B.size = 32 := by rw [hB]; simp [encU_length, hb]
  have hq := fun W => neq_dig W a b ha hb
  rw [← hA, ← hB] at hq ⊢
  have HA := Lib.hid hA; have HB := Lib.hid hB; clear hA hB
  have hFA := @after_frozen
  cases hab : (a == b)
  · rw [hab] at hq
    have Hab := Lib.hid hab; clear hab
    go_enter Try.func31, Try.ntmps31
    go_wp2_with (first | ((fail_if_success have := k1); refine wpList_box_blk rfl 39 _ rfl _ rfl A rfl ?_; intro w1 k1 b1 s1) | (refine wpList_box_blk rfl 39 _ rfl _ rfl B rfl ?_; intro w2 k2 b2 s2))
    rw [s1] at k2
    have hb2 : Below w.heap.size w w2 := b1.trans (b2.mono (by omega))
    have k1' := k1.below b2 (by omega)
    have hcmp : ∀ x : After w2, Calls Try.prog 68 #[.slice (some ⟨w.heap.size, 0, none⟩) 32 32, .slice (some ⟨w.heap.size + 1, 0, none⟩) 32 32] x.w fun e w' => e = .returned (.int .i64 (Lib.compareBytes a b)) ∧ x.w = w' := fun x =>
      bcompare_c _ _ a b x.w (byt_of _ _ _ _ _ _ ha (by omega) (by decide) fun j hj => by rw [Nat.zero_add, (k1'.after x).cell, HA.out]; simp [encU, List.getElem?_eq_getElem (show j < a.length by omega), List.getD_eq_getElem?_getD])
        (byt_of _ _ _ _ _ _ hb (by omega) (by decide) fun j hj => by rw [Nat.zero_add, (k2.after x).cell, HB.out]; simp [encU, List.getElem?_eq_getElem (show j < b.length by omega), List.getD_eq_getElem?_getD])
    have Hcmp := Lib.hid hcmp; clear hcmp
    refine wp_quiet_all (C := fun w' => ∃ x : After _, w' = x.w) (by kernel_rfl) (by kernel_rfl) (since_drew _) ?_
    repeat (first | (go_big_quiet_want; (refine quiet_load_blk 39 _ rfl _ rfl w.heap.size rfl 39 A _ ?_ Try.underlying39 rfl (by rw [hAs]; exact size32_info) ?_; rotate_left; (go_simp; go_big_quiet_on); rotate_left; (rintro _ ⟨x, rfl⟩; exact k1'.after x))) | (go_big_quiet_want; (refine quiet_load_blk 39 _ rfl _ rfl (w.heap.size + 1) rfl 39 B _ ?_ Try.underlying39 rfl (by rw [hBs]; exact size32_info) ?_; rotate_left; (go_simp; go_big_quiet_on); rotate_left; (rintro _ ⟨x, rfl⟩; exact k2.after x))) | go_big_quiet_step ((go_at_call 68; exact after_call_same _ (Hcmp.out _))))
    refine wpQuiet_nil ?_
    rintro _ ⟨x1, rfl⟩
    go_wp2
    go_ret
    exact ⟨rfl, hb2.trans (x1.h.mono (by omega))⟩
  · rw [hab] at hq
    have Hab := Lib.hid hab; clear hab
    go_enter Try.func31, Try.ntmps31
    go_wp2_with (first | ((fail_if_success have := k1); refine wpList_box_blk rfl 39 _ rfl _ rfl A rfl ?_; intro w1 k1 b1 s1) | (refine wpList_box_blk rfl 39 _ rfl _ rfl B rfl ?_; intro w2 k2 b2 s2))
    rw [s1] at k2
    have hb2 : Below w.heap.size w w2 := b1.trans (b2.mono (by omega))
    have k1' := k1.below b2 (by omega)
    have hcmp : ∀ x : After w2, Calls Try.prog 68 #[.slice (some ⟨w.heap.size, 0, none⟩) 32 32, .slice (some ⟨w.heap.size + 1, 0, none⟩) 32 32] x.w fun e w' => e = .returned (.int .i64 (Lib.compareBytes a b)) ∧ x.w = w' := fun x =>
      bcompare_c _ _ a b x.w (byt_of _ _ _ _ _ _ ha (by omega) (by decide) fun j hj => by rw [Nat.zero_add, (k1'.after x).cell, HA.out]; simp [encU, List.getElem?_eq_getElem (show j < a.length by omega), List.getD_eq_getElem?_getD])
        (byt_of _ _ _ _ _ _ hb (by omega) (by decide) fun j hj => by rw [Nat.zero_add, (k2.after x).cell, HB.out]; simp [encU, List.getElem?_eq_getElem (show j < b.length by omega), List.getD_eq_getElem?_getD])
    have Hcmp := Lib.hid hcmp; clear hcmp
    refine wp_quiet_all (C := fun w' => ∃ x : After _, w' = x.w) (by kernel_rfl) (by kernel_rfl) (since_drew _) ?_
    repeat (first | (go_big_quiet_want; (refine quiet_load_blk 39 _ rfl _ rfl w.heap.size rfl 39 A _ ?_ Try.underlying39 rfl (by rw [hAs]; exact size32_info) ?_; rotate_left; (go_simp; go_big_quiet_on); rotate_left; (rintro _ ⟨x, rfl⟩; exact k1'.after x))) | (go_big_quiet_want; (refine quiet_load_blk 39 _ rfl _ rfl (w.heap.size + 1) rfl 39 B _ ?_ Try.underlying39 rfl (by rw [hBs]; exact size32_info) ?_; rotate_left; (go_simp; go_big_quiet_on); rotate_left; (rintro _ ⟨x, rfl⟩; exact k2.after x))) | go_big_quiet_step ((go_at_call 68; exact after_call_same _ (Hcmp.out _))))
    refine wpQuiet_nil ?_
    rintro _ ⟨x1, rfl⟩
    go_wp2
    go_ret
    exact ⟨by rw [show dgLess a b = false by unfold dgLess; rw [eq_of_beq Hab.out, cmpB_self]; rfl]; rfl, hb2.trans (x1.h.mono (by omega))⟩
end Go.Proofs.Ytgckgbonhbabpaa
