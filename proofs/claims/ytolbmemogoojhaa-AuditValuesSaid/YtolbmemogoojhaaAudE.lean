/- At most 8 books; at most 40 texts. -/
import Derived.Test.YtolbmemogoojhaaAudD
namespace Go.Proofs.Ytolbmemogoojhaa
open Go Go.RowKit Go.Deep
set_option linter.unusedVariables false
set_option linter.unusedSimpArgs false
set_option maxRecDepth 100000
def bksFewL : List BK → Bool
  | [] => true
  | L :: l => bFew L && bksFewL l
def bksFew (LL : List BK) : Bool := decide (LL.length ≤ 8) && bksFewL LL
def txFewL : List ByteArray → Bool
  | [] => true
  | s :: l => decide (s.size ≤ 300) && txFewL l
def txFew (l : List ByteArray) : Bool := decide (l.length ≤ 40) && txFewL l
theorem bFew_vals {L : BK} (h : bFew L = true) : (valsB L).length ≤ 168 := by
  unfold bFew at h
  rw [Bool.and_eq_true, decide_eq_true_eq] at h
  have key : ∀ l : BK, bFewL l = true → (l.flatMap valsR).length ≤ 12 * l.length := by
    intro l
    induction l with
    | nil => intro _; simp
    | cons r l ih =>
      intro hl
      rw [bFewL, Bool.and_eq_true] at hl
      have h1 := hl.1
      unfold rFew at h1
      rw [Bool.and_eq_true, decide_eq_true_eq] at h1
      have h2 := ih hl.2
      have h3 : (valsR r).length = r.f.length := by unfold valsR; simp
      rw [List.flatMap_cons, List.length_append, List.length_cons, h3]; omega
  have := key L h.2
  unfold valsB; omega
theorem bksFew_mem : ∀ {LL : List BK}, bksFewL LL = true → ∀ L ∈ LL, bFew L = true
  | L :: l, h, x, hx => by
    rw [bksFewL, Bool.and_eq_true] at h
    rcases List.mem_cons.1 hx with rfl | hx
    · exact h.1
    · exact bksFew_mem h.2 x hx
theorem bksFew_vals {LL : List BK} (h : bksFew LL = true) : (LL.flatMap valsB).length ≤ 90000 := by
  unfold bksFew at h
  rw [Bool.and_eq_true, decide_eq_true_eq] at h
  have key : ∀ l : List BK, bksFewL l = true → (l.flatMap valsB).length ≤ 168 * l.length := by
    intro l
    induction l with
    | nil => intro _; simp
    | cons r l ih =>
      intro hl
      rw [bksFewL, Bool.and_eq_true] at hl
      have h1 := bFew_vals hl.1
      have h2 := ih hl.2
      rw [List.flatMap_cons, List.length_append, List.length_cons]; omega
  have := key LL h.2
  omega
theorem txFew_most {l : List ByteArray} (h : txFew l = true) : mostL l ≤ 12000 := by
  unfold txFew at h
  rw [Bool.and_eq_true, decide_eq_true_eq] at h
  have key : ∀ l : List ByteArray, txFewL l = true → mostL l ≤ 300 * l.length := by
    intro l
    induction l with
    | nil => intro _; simp [mostL]
    | cons s l ih =>
      intro hl
      rw [txFewL, Bool.and_eq_true, decide_eq_true_eq] at hl
      have h2 := ih hl.2
      rw [mostL, List.length_cons]; omega
  have := key l h.2
  omega
theorem txFew_size : ∀ {l : List ByteArray}, txFewL l = true → ∀ s ∈ l, s.size ≤ 300
  | s :: l, h, x, hx => by
    rw [txFewL, Bool.and_eq_true, decide_eq_true_eq] at h
    rcases List.mem_cons.1 hx with rfl | hx
    · exact h.1
    · exact txFew_size h.2 x hx
set_option maxHeartbeats 1600000 in
theorem books_c (v : Value) (LL : List BK) (w : World) (hv : Bks w v LL) : Calls Try.prog 35 #[v] w fun e w' => e = .returned (.bool (bksFew LL)) ∧ Below w.heap.size w w' := by
  obtain ⟨n, hn⟩ : ∃ n, LL.length = n := ⟨_, rfl⟩
  obtain ⟨a, c, rfl, hm1, _⟩ := id hv.slice
  rw [hn] at hv hm1 ⊢
  unfold maxLen at hm1
  have Hv := Lib.hid hv; have Hn := Lib.hid hn; clear hv hn
  have H := St.init w
  by_cases h8 : 8 < n
  · have Hres : Hid (bksFew LL = false) := Lib.hid (by unfold bksFew; rw [Hn.out, decide_eq_false (by omega)]; rfl)
    go_enter Try.func35, Try.ntmps35
    go_wp2
    all_goals first | (rw [Exit.noGoto_ret]; go_ret) | go_ret
    all_goals exact ⟨by rw [Hres.out]; rfl, H.bel⟩
  go_enter Try.func35, Try.ntmps35
  go_wp2
  go_loopw [3] (fun i wr => ∃ (j : Nat), j ≤ n ∧ i = .int .i64 j ∧ Hid (bksFewL LL = bksFewL (LL.drop j)) ∧ St w wr []) (fun i _ => n - (intOf i).toNat)
  case atStart => exact ⟨0, by omega, rfl, Lib.hid rfl, H⟩
  case round =>
    clear H
    obtain ⟨j, hj, rfl, I, H⟩ := hrel
    by_cases hlt : j < n
    · obtain ⟨L, hL⟩ : ∃ L, LL[j]? = some L := ⟨_, List.getElem?_eq_getElem (by rw [Hn.out]; exact hlt)⟩
      obtain ⟨b, off, s, rfl, hs, hR⟩ := Hv.out.at hL
      have HS := Lib.hid hs; have HR := Lib.hid hR
      have Hst := Lib.hid (drop_at hL)
      obtain ⟨q, hq⟩ : ∃ q, Hid (bFew L = q) := ⟨_, rfl⟩
      clear hs hR hL
      cases q with
      | true =>
        go_wp2_with (first | go_skip | ((with_reducible refine ld_bk ?_ ?_ (HS.out.keep H.bel) ?_); rfl; rfl) | (go_at_call 21; (with_reducible refine (few7_v hq.out _ (HR.out.below H.bel)).mono ?_); rintro e wn ⟨rfl, hb⟩; replace H := H.call hb; clear hb))
        go_roundw
        case rel => exact ⟨j + 1, by omega, by go_num, Lib.hid (by rw [I.out, Hst.out, bksFewL, hq.out]; rfl), H⟩
        case measure => simp [intOf]; omega
      | false =>
        have Hres : Hid (bksFew LL = false) := Lib.hid (by unfold bksFew; rw [I.out, Hst.out, bksFewL, hq.out]; simp)
        go_wp2_with (first | go_skip | ((with_reducible refine ld_bk ?_ ?_ (HS.out.keep H.bel) ?_); rfl; rfl) | (go_at_call 21; (with_reducible refine (few7_v hq.out _ (HR.out.below H.bel)).mono ?_); rintro e wn ⟨rfl, hb⟩; replace H := H.call hb; clear hb))
        all_goals first | (rw [Exit.noGoto_ret]; go_ret) | go_ret
        all_goals exact ⟨by rw [Hres.out]; rfl, H.bel⟩
    · have hjn : j = n := by omega
      subst hjn
      have Hres : Hid (bksFew LL = true) := Lib.hid (by unfold bksFew; rw [I.out, ← Hn.out, List.drop_length, Hn.out, decide_eq_true (by omega)]; rfl)
      go_wp2
      all_goals first | (rw [Exit.noGoto_ret]; go_ret) | go_ret
      all_goals exact ⟨by rw [Hres.out]; rfl, H.bel⟩
theorem books_v {v : Value} {LL : List BK} {q : Bool} (h : bksFew LL = q) (w : World) (hv : Bks w v LL) : Calls Try.prog 35 #[v] w fun e w' => e = .returned (.bool q) ∧ Below w.heap.size w w' := by subst h; exact books_c v LL w hv
set_option maxHeartbeats 1600000 in
theorem texts_c (v : Value) (LL : List ByteArray) (w : World) (hv : Row w 1 v LL.length (strL LL)) : Calls Try.prog 37 #[v] w fun e w' => e = .returned (.bool (txFew LL)) ∧ Below w.heap.size w w' := by
  obtain ⟨n, hn⟩ : ∃ n, LL.length = n := ⟨_, rfl⟩
  rw [hn] at hv
  obtain ⟨_, a, c, rfl, hm1, hm2, _⟩ := id hv
  unfold maxLen at hm2
  have Hv := Lib.hid hv; have Hn := Lib.hid hn; clear hv hn
  have H := St.init w
  by_cases h8 : 40 < n
  · have Hres : Hid (txFew LL = false) := Lib.hid (by unfold txFew; rw [Hn.out, decide_eq_false (by omega)]; rfl)
    go_enter Try.func37, Try.ntmps37
    go_wp2
    all_goals first | (rw [Exit.noGoto_ret]; go_ret) | go_ret
    all_goals exact ⟨by rw [Hres.out]; rfl, H.bel⟩
  go_enter Try.func37, Try.ntmps37
  go_wp2
  go_loopw [3] (fun i wr => ∃ (j : Nat), j ≤ n ∧ i = .int .i64 j ∧ Hid (txFewL LL = txFewL (LL.drop j)) ∧ St w wr []) (fun i _ => n - (intOf i).toNat)
  case atStart => exact ⟨0, by omega, rfl, Lib.hid rfl, H⟩
  case round =>
    clear H
    obtain ⟨j, hj, rfl, I, H⟩ := hrel
    by_cases hlt : j < n
    · obtain ⟨s, hs⟩ : ∃ s, LL[j]? = some s := ⟨_, List.getElem?_eq_getElem (by rw [Hn.out]; exact hlt)⟩
      obtain ⟨b, off, c', he, hS⟩ := row1_at Hv.out (strL_get hs)
      injection he with e1 e2 e3
      subst e1 e3
      have HS := Lib.hid hS
      have Hst := Lib.hid (drop_at hs)
      obtain ⟨z, hz⟩ : ∃ z, s.size = z := ⟨_, rfl⟩
      have Hz := Lib.hid hz
      clear hs hS e2
      by_cases h3 : z ≤ 300
      · have hc : decide ((300 : Int) < (z : Int)) = false := decide_eq_false (by omega)
        go_wp2_with (first | go_skip | ((with_reducible refine ld_one (ty := 9) Try.underlying9 rfl ?_ ?_ (HS.out.keep H.bel) ?_); rfl; rfl))
        go_roundw
        case rel => exact ⟨j + 1, by omega, by go_num, Lib.hid (by rw [I.out, Hst.out, txFewL, Hz.out, decide_eq_true h3]; rfl), H⟩
        case measure => simp [intOf]; omega
      · have hc : decide ((300 : Int) < (z : Int)) = true := decide_eq_true (by omega)
        have Hres : Hid (txFew LL = false) := Lib.hid (by unfold txFew; rw [I.out, Hst.out, txFewL, Hz.out, decide_eq_false h3]; simp)
        go_wp2_with (first | go_skip | ((with_reducible refine ld_one (ty := 9) Try.underlying9 rfl ?_ ?_ (HS.out.keep H.bel) ?_); rfl; rfl))
        all_goals first | (rw [Exit.noGoto_ret]; go_ret) | go_ret
        all_goals exact ⟨by rw [Hres.out]; rfl, H.bel⟩
    · have hjn : j = n := by omega
      subst hjn
      have Hres : Hid (txFew LL = true) := Lib.hid (by unfold txFew; rw [I.out, ← Hn.out, List.drop_length, Hn.out, decide_eq_true (by omega)]; rfl)
      go_wp2
      all_goals first | (rw [Exit.noGoto_ret]; go_ret) | go_ret
      all_goals exact ⟨by rw [Hres.out]; rfl, H.bel⟩
theorem texts_v {v : Value} {LL : List ByteArray} {q : Bool} (h : txFew LL = q) (w : World) (hv : Row w 1 v LL.length (strL LL)) : Calls Try.prog 37 #[v] w fun e w' => e = .returned (.bool q) ∧ Below w.heap.size w w' := by subst h; exact texts_c v LL w hv
end Go.Proofs.Ytolbmemogoojhaa
