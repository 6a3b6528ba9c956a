/- The document's texts: one among others, two lists the same. -/
import Derived.Test.YtolbmemogoojhaaGreatVAlkB
namespace Go.Proofs.YtolbmemogoojhaaGreat
open Go Go.RowKit Go.Deep
set_option linter.unusedVariables false
set_option linter.unusedSimpArgs false
set_option maxRecDepth 100000
theorem has_cons {s x : ByteArray} {l : List ByteArray} : decide (s ∈ x :: l) = (decide (x = s) || decide (s ∈ l)) := by
  rw [Bool.eq_iff_iff]
  simp only [List.mem_cons, decide_eq_true_eq, Bool.or_eq_true]
  exact ⟨fun h => h.imp Eq.symm id, fun h => h.imp Eq.symm id⟩
set_option maxHeartbeats 3200000 in
theorem rhas_c (v : Value) (l : List ByteArray) (s : ByteArray) {n : Nat} (w : World) (hv : Row w 1 v n (strL l)) : Calls Tryz.prog 68 #[v, .string s] w fun e w' => e = .returned (.bool (decide (s ∈ l))) ∧ Below w.heap.size w w' := by
  have hn : l.length = n := by have := hv.1; rw [strL_length] at this; omega
  obtain ⟨_, a, c, rfl, hm1, hm2, _⟩ := id hv
  unfold maxLen at hm2
  have Hv := Lib.hid hv; have Hn := Lib.hid hn; clear hv hn
  have H := St.init w
  go_enter Tryz.func68, Tryz.ntmps68
  go_wp2
  go_loopw [5] (fun i wr => ∃ (j : Nat), j ≤ n ∧ i = .int .i64 j ∧ Hid (decide (s ∈ l) = decide (s ∈ l.drop j)) ∧ St w wr []) (fun i _ => n - (intOf i).toNat)
  case atStart => exact ⟨0, by omega, rfl, Lib.hid rfl, H⟩
  case round =>
    clear H
    obtain ⟨j, hj, rfl, I, H⟩ := hrel
    by_cases hlt : j < n
    · obtain ⟨x, hx⟩ : ∃ x, l[j]? = some x := ⟨_, List.getElem?_eq_getElem (by rw [Hn.out]; exact hlt)⟩
      obtain ⟨b, off, c', he, hS⟩ := row1_at Hv.out (strL_get hx)
      injection he with e1 e2 e3
      subst e1 e3
      have HS := Lib.hid hS
      have I2 : Hid (decide (s ∈ l) = (decide (x = s) || decide (s ∈ l.drop (j + 1)))) := Lib.hid (by rw [I.out, drop_at hx, has_cons])
      obtain ⟨q, hq⟩ : ∃ q, decide (x = s) = q := ⟨_, rfl⟩
      have hq2 : (x.toList == s.toList) = q := by rw [str_beq]; exact hq
      have HQ := Lib.hid hq
      clear hS hx e2 hq
      cases q with
      | true =>
        go_wp2_with (first | go_skip | ((with_reducible refine ld_one (ty := 9) Tryz.underlying9 rfl ?_ ?_ (HS.out.keep H.bel) ?_); rfl; rfl))
        all_goals first | (rw [Exit.noGoto_ret]; go_ret) | go_ret
        all_goals exact ⟨by rw [I2.out, HQ.out]; rfl, H.bel⟩
      | false =>
        go_wp2_with (first | go_skip | ((with_reducible refine ld_one (ty := 9) Tryz.underlying9 rfl ?_ ?_ (HS.out.keep H.bel) ?_); rfl; rfl))
        go_roundw
        case rel => exact ⟨j + 1, by omega, by go_num, Lib.hid (by rw [I2.out, HQ.out]; rfl), H⟩
        case measure => simp [intOf]; omega
    · have hjn : j = n := by omega
      subst hjn
      go_wp2
      all_goals first | (rw [Exit.noGoto_ret]; go_ret) | go_ret
      all_goals exact ⟨by rw [I.out, ← Hn.out, List.drop_length]; rfl, H.bel⟩
theorem rhas_v {v : Value} {l : List ByteArray} {s : ByteArray} {n : Nat} {q : Bool} (h : decide (s ∈ l) = q) (w : World) (hv : Row w 1 v n (strL l)) : Calls Tryz.prog 68 #[v, .string s] w fun e w' => e = .returned (.bool q) ∧ Below w.heap.size w w' := by subst h; exact rhas_c v l s w hv
set_option maxHeartbeats 3200000 in
theorem rtsame_c {va vb : Value} {l : List ByteArray} {n : Nat} (w : World) (ha : Row w 1 va n (strL l)) (hb : Row w 1 vb n (strL l)) : Calls Tryz.prog 33 #[va, vb] w fun e w' => e = .returned (.bool true) ∧ Below w.heap.size w w' := by
  have hn : l.length = n := by have := ha.1; rw [strL_length] at this; omega
  obtain ⟨_, a, c, rfl, hm1, hm2, _⟩ := id ha
  obtain ⟨_, a', c', rfl, hm1', _, _⟩ := id hb
  unfold maxLen at hm2
  have Ha := Lib.hid ha; have Hb := Lib.hid hb; have Hn := Lib.hid hn; clear ha hb hn
  have H := St.init w
  go_enter Tryz.func33, Tryz.ntmps33
  go_wp2
  go_loopw [5] (fun i wr => ∃ (j : Nat), j ≤ n ∧ i = .int .i64 j ∧ St w wr []) (fun i _ => n - (intOf i).toNat)
  case atStart => exact ⟨0, by omega, rfl, H⟩
  case round =>
    clear H
    obtain ⟨j, hj, rfl, H⟩ := hrel
    by_cases hlt : j < n
    · obtain ⟨x, hx⟩ : ∃ x, l[j]? = some x := ⟨_, List.getElem?_eq_getElem (by rw [Hn.out]; exact hlt)⟩
      obtain ⟨b, off, c2, he, hS⟩ := row1_at Ha.out (strL_get hx)
      injection he with e1 e2 e3
      subst e1 e3
      obtain ⟨b', off', c2, he, hS'⟩ := row1_at Hb.out (strL_get hx)
      injection he with e1 e2' e3
      subst e1 e3
      have HS := Lib.hid hS; have HS2 := Lib.hid hS'
      have hbb : (x.toList == x.toList) = true := beq_self_eq_true _
      clear hS hS' hx e2 e2'
      go_wp2
      (try simp only [Act.put, List.setIfInBounds_toArray, List.set_cons_zero, List.set_cons_succ])
      refine wp_quiet_all (C := fun w' => ∃ x : After _, w' = x.w) (by kernel_rfl) (by kernel_rfl) (since_drew _) ?_
      repeat (first | go_big_quiet_skip | (go_big_quiet_want; (with_reducible apply qd_oneS (ty := 9) Tryz.underlying9 rfl); rfl; (rintro _ ⟨x, rfl⟩; exact HS.out.keep (H.call x.h).bel); (go_simp; go_big_quiet_on)) | (go_big_quiet_want; (with_reducible apply qd_oneS (ty := 9) Tryz.underlying9 rfl); rfl; (rintro _ ⟨x, rfl⟩; exact HS2.out.keep (H.call x.h).bel); (go_simp; go_big_quiet_on)) | (go_big_quiet_step (fail)))
      refine wpQuiet_nil ?_
      rintro _ ⟨zq, rfl⟩; replace H := H.call zq.h
      go_wp2
      go_roundw
      case rel => exact ⟨j + 1, by omega, by go_num, H⟩
      case measure => simp [intOf]; omega
    · have hjn : j = n := by omega
      subst hjn
      go_wp2
      all_goals first | (rw [Exit.noGoto_ret]; go_ret) | go_ret
      all_goals exact ⟨rfl, H.bel⟩
end Go.Proofs.YtolbmemogoojhaaGreat
