/- An argument that reads as data, opened: stamps, numbers, bytes. -/
import Derived.Test.YtgckgbonhbabpaaRow
import Derived.Test.YtgckgbonhbabpaaProg
import Derived.WalkKit
import Derived.ProofKit
import Derived.OpenShut
import Derived.ShutString
import Derived.ChangeOld
import Derived.Below
import Derived.SizedLaws
namespace Go.Proofs.Ytgckgbonhbabpaa
set_option maxRecDepth 100000
open Go Go.RowKit Go.ChangeShapes Go.WideShapes Go.ChangeAt
set_option linter.unusedVariables false
set_option linter.unusedSimpArgs false

section
variable {H : Type} {enc : TypeId × Value → H} {P : Program} {w : World} {base : Nat} {spare : Nat → Bool} {held : Bool}

theorem mapM_all {α β : Type} {f : α → Option β} : ∀ {l : List α} {ys : List β}, l.mapM f = some ys → ∀ a ∈ l, ∃ y, f a = some y
  | [], _, _, a, ha => by cases ha
  | b :: l, ys, h, a, ha => by
    rw [List.mapM_cons] at h
    cases hb : f b with
    | none => rw [hb] at h; cases h
    | some y =>
      rw [hb] at h
      cases hl : l.mapM f with
      | none => rw [hl] at h; cases h
      | some zs =>
        rcases List.mem_cons.1 ha with rfl | ha
        · exact ⟨y, hb⟩
        · exact mapM_all hl a ha

/-- Some reading of so many cells at a type. -/
def Rd (enc : TypeId × Value → H) (P : Program) (w : World) (base : Nat) (spare : Nat → Bool) (held : Bool) (t : TypeId) (cs : List Value) : Prop := ∃ n x, DataW.trod enc P w base spare held n t cs = some x

theorem Rd.struct {t : TypeId} {fs : Array Field} {cs : List Value} (hs : P.underlying t = some (.struct fs)) (h : Rd enc P w base spare held t cs) :
    cs.length = P.cellsOf t ∧ ∀ f ∈ fs.toList, Rd enc P w base spare held f.type ((cs.drop f.offset).take (P.cellsOf f.type)) := by
  obtain ⟨n, x, h⟩ := h
  cases n with
  | zero => simp [DataW.trod] at h
  | succ n =>
    unfold DataW.trod at h
    simp only [hs] at h
    split at h
    · rename_i hl
      refine ⟨hl, fun f hf => ?_⟩
      obtain ⟨ys, hy, _⟩ := Option.map_eq_some_iff.1 h
      obtain ⟨y, hy⟩ := mapM_all hy f hf
      exact ⟨n, y, hy⟩
    · cases h
theorem Rd.array {t e : TypeId} {m : Nat} {cs : List Value} (hs : P.underlying t = some (.array m e)) (h : Rd enc P w base spare held t cs) :
    cs.length = P.cellsOf t ∧ ∀ i, i < m → Rd enc P w base spare held e ((cs.drop (i * P.cellsOf e)).take (P.cellsOf e)) := by
  obtain ⟨n, x, h⟩ := h
  cases n with
  | zero => simp [DataW.trod] at h
  | succ n =>
    unfold DataW.trod at h
    simp only [hs] at h
    split at h
    · rename_i hl
      refine ⟨hl, fun i hi => ?_⟩
      obtain ⟨ys, hy, _⟩ := Option.map_eq_some_iff.1 h
      obtain ⟨y, hy⟩ := mapM_all hy i (List.mem_range.2 hi)
      exact ⟨n, y, hy⟩
    · cases h
theorem Rd.int {t : TypeId} {k : IntKind} {cs : List Value} (ht : P.underlying t = some (.int k)) (h : Rd enc P w base spare held t cs) : ∃ n, cs = [.int k n] ∧ (Lit.int k n).wf = true := by
  obtain ⟨m, x, h⟩ := h
  obtain ⟨n, h1, _, h2⟩ := DataW.trod_int ht h
  exact ⟨n, h1, h2⟩
theorem Rd.str {t : TypeId} {cs : List Value} (ht : P.underlying t = some .string) (h : Rd enc P w base spare held t cs) : ∃ s : ByteArray, cs = [.string s] ∧ s.size ≤ maxLen := by
  obtain ⟨m, x, h⟩ := h
  obtain ⟨s, h1, _, h2⟩ := DataW.trod_string ht h
  exact ⟨s, h1, h2⟩
/-- A slice: its value, and what each element reads. -/
theorem Rd.slice {t e : TypeId} {cs : List Value} (hs : P.underlying t = some (.slice e)) (h : Rd enc P w base spare held t cs) :
    cs = [.slice none 0 0] ∨ ∃ a len cap, cs = [.slice (some a) len cap] ∧ len ≤ cap ∧ cap ≤ maxLen ∧ ∀ i, i < len → ∃ es, w.cells? base (a.add (i * P.cellsOf e)) (P.cellsOf e) = some es ∧ Rd enc P w base spare held e es := by
  obtain ⟨m, x, h⟩ := h
  rcases DataW.trod_slice hs h with ⟨h0, _⟩ | ⟨a, len, cap, elems, rest, n, _, rfl, _, hb, hl, hm, hlen, hel, _, _⟩
  · exact .inl h0
  · refine .inr ⟨a, len, cap, rfl, hl, hm, fun i hi => ?_⟩
    have h1 := hel i hi
    rw [List.getElem?_eq_getElem (by rw [hlen]; exact hi)] at h1
    obtain ⟨es, h2, h3⟩ := Option.bind_eq_some_iff.1 h1
    exact ⟨es, h2, n, _, h3⟩

theorem cell_spot {a : Addr} {u : Value} (h : w.cell? a = some u) : a.spot = none := by
  unfold World.cell? at h
  split at h
  · split at h
    · cases h
    · rename_i hs; simpa using hs
  · cases h

theorem add_add (a : Addr) (k m : Nat) : (a.add k).add m = a.add (k + m) := by
  unfold Addr.add
  by_cases hk : k = 0
  · subst hk; simp
  · by_cases hm : m = 0
    · subst hm; simp [hk]
    · simp [hk, hm]; omega
/-- A row, element by element. -/
theorem rd_cells {t : TypeId} {s : Nat} {a : Addr} (hs0 : 0 < s) : ∀ (len : Nat), (∀ i, i < len → ∃ es, w.cells? base (a.add (i * s)) s = some es ∧ Rd enc P w base spare held t es) →
    ∃ cs : List Value, cs.length = len * s ∧ (∀ j u, cs[j]? = some u → w.cell? (a.add j) = some u) ∧ ∀ i, i < len → Rd enc P w base spare held t ((cs.drop (i * s)).take s)
  | 0, _ => ⟨[], by simp, by simp, fun i hi => absurd hi (Nat.not_lt_zero _)⟩
  | len + 1, h => by
    obtain ⟨cs, h1, h2, h3⟩ := rd_cells hs0 len fun i hi => h i (by omega)
    obtain ⟨es, h4, h5⟩ := h len (by omega)
    obtain ⟨_, hl, hc⟩ := World.cells?_some h4
    refine ⟨cs ++ es, by rw [List.length_append, h1, hl, Nat.succ_mul], fun j u hj => ?_, fun i hi => ?_⟩
    · rw [List.getElem?_append] at hj
      split at hj
      · exact h2 j u hj
      · rename_i hge
        have hjl : j - cs.length < s := by rw [← hl]; exact (List.getElem?_eq_some_iff.1 hj).1
        have h6 := hc (j - cs.length) hjl
        rw [hj, add_add, h1, show len * s + (j - len * s) = j by rw [h1] at hge; omega] at h6
        exact h6
    · rcases Nat.lt_or_ge i len with hlt | hge
      · have := h3 i hlt
        have hb : i * s + s ≤ cs.length := by rw [h1, ← Nat.succ_mul]; exact Nat.mul_le_mul_right _ hlt
        rw [List.drop_append_of_le_length (by omega), List.take_append_of_le_length (by rw [List.length_drop]; omega)]
        exact this
      · have : i = len := by omega
        subst this
        rw [List.drop_append, h1]
        simp only [Nat.sub_self, List.drop_zero]
        rw [List.drop_of_length_le (by omega), List.nil_append, List.take_of_length_le (by omega)]
        exact h5

/-- A slice that reads: a row, and each element reads. -/
theorem Rd.row {t e : TypeId} {s : Nat} {cs : List Value} (ht : P.underlying t = some (.slice e)) (hs : P.cellsOf e = s) (hs0 : 0 < s) (h : Rd enc P w base spare held t cs) :
    ∃ v n es, cs = [v] ∧ Row w s v n es ∧ ∀ i, i < n → Rd enc P w base spare held e ((es.drop (i * s)).take s) := by
  rcases h.slice ht with rfl | ⟨a, len, cap, rfl, h1, h2, h3⟩
  · exact ⟨_, 0, [], rfl, Row.nil w s, fun i hi => absurd hi (Nat.not_lt_zero _)⟩
  · rw [hs] at h3
    obtain ⟨es, k1, k2, k3⟩ := rd_cells hs0 len h3
    refine ⟨_, len, es, rfl, ⟨k1, some a, cap, rfl, h1, h2, (fun h => by cases h), fun hp => ?_⟩, k3⟩
    have h0 := k2 0 _ (List.getElem?_eq_getElem hp)
    have hsp : a.spot = none := by have := cell_spot h0; simpa [Addr.add] using this
    obtain ⟨b, off, sp⟩ := a
    simp only at hsp
    subst hsp
    exact ⟨b, off, rfl, fun j u hj => by have := k2 j u hj; rwa [Addr.add_lit] at this⟩
end

/-! The arguments' types -/
section
variable {H : Type} {enc : TypeId × Value → H} {w : World} {base base' : Nat} {spare : Nat → Bool} {held : Bool}
theorem Rd.of_Trod {P : Program} {t : TypeId} {v : Value} {d : DataW H} {p : List MemPlace} (h : DataW.Trod enc P w base spare held t v d p) : Rd enc P w base spare held t v.cells.toList := by
  obtain ⟨n, h⟩ := h; exact ⟨n, _, h⟩
def I64 (n : Int) : Prop := -9223372036854775808 ≤ n ∧ n ≤ 9223372036854775807
theorem i64_of {n : Int} (h : (Lit.int .i64 n).wf = true) : I64 n := by
  simp only [Lit.wf, Bool.and_eq_true, decide_eq_true_eq] at h
  exact h
theorem open_i64 {r : Reach} {v : Value} {d : DataW H} {p : List MemPlace} (h : DataW.Trod enc Try.prog w base spare held 3 v d p) (hv : Value.okWide Try.prog w r base' 3 v) : ∃ n, v = .int .i64 n ∧ I64 n := by
  obtain ⟨x, rfl, _, _, wx⟩ := open_int Try.underlying3 hv h
  exact ⟨x, rfl, i64_of wx⟩
theorem cells_int : Try.prog.cellsOf 3 = 1 := by kernel_rfl
theorem rd_stamp {cs : List Value} (h : Rd enc Try.prog w base spare held 23 cs) : ∃ N R, cs = [.int .i64 N, .int .i64 R] ∧ I64 N ∧ I64 R := by
  obtain ⟨hl, hf⟩ := h.struct Try.underlying23
  have hl2 : cs.length = 2 := hl.trans (by kernel_rfl)
  match cs, hl2 with
  | [c0, c1], _ =>
    simp only [List.mem_cons, List.not_mem_nil, or_false, forall_eq_or_imp, forall_eq] at hf
    rw [cells_int] at hf
    obtain ⟨N, h1, w1⟩ := hf.1.int Try.underlying3
    obtain ⟨R, h2, w2⟩ := hf.2.int Try.underlying3
    simp at h1 h2
    exact ⟨N, R, by rw [h1, h2], i64_of w1, i64_of w2⟩

theorem open_stamp {r : Reach} {v : Value} {d : DataW H} {p : List MemPlace} (h : DataW.Trod enc Try.prog w base spare held 23 v d p) (hv : Value.okWide Try.prog w r base' 23 v) :
    ∃ N R, v = .agg #[.int .i64 N, .int .i64 R] ∧ I64 N ∧ I64 R := by
  obtain ⟨cs, rfl, _⟩ := okWide_struct Try.underlying23 hv
  obtain ⟨N, R, h1, h2, h3⟩ := rd_stamp (Rd.of_Trod h)
  exact ⟨N, R, by simp only [Value.cells] at h1; rw [show cs = #[.int .i64 N, .int .i64 R] from Array.ext' h1], h2, h3⟩

theorem u8_nat {n : Int} (h : (Lit.int .u8 n).wf = true) : ∃ c : UInt8, n = (c.toNat : Int) := by
  simp only [Lit.wf, Bool.and_eq_true, decide_eq_true_eq] at h
  have h1 : (0 : Int) ≤ n := h.1
  have h2 : n ≤ 255 := h.2
  exact ⟨UInt8.ofNat n.toNat, by simp; omega⟩
theorem rd_u8s : ∀ (n : Nat) (es : List Value), es.length = n → (∀ i, i < n → Rd enc Try.prog w base spare held 5 ((es.drop i).take 1)) → ∃ bs : List UInt8, es = encU bs
  | 0, es, hl, _ => ⟨[], by rw [List.eq_nil_of_length_eq_zero hl]; rfl⟩
  | n + 1, e :: es, hl, h => by
    have h0 := h 0 (by omega)
    simp only [List.drop_zero, List.take_succ_cons, List.take_zero] at h0
    obtain ⟨x, hx, hw⟩ := h0.int Try.underlying5
    obtain ⟨c, rfl⟩ := u8_nat hw
    obtain ⟨bs, rfl⟩ := rd_u8s n es (by simpa using hl) fun i hi => by have := h (i + 1) (by omega); simpa using this
    simp at hx
    exact ⟨c :: bs, by rw [hx]; rfl⟩

theorem open_bytes {r : Reach} {v : Value} {d : DataW H} {p : List MemPlace} (h : DataW.Trod enc Try.prog w base spare held 26 v d p) (hv : Value.okWide Try.prog w r base' 26 v) : ∃ bs, Byt w v bs := by
  obtain ⟨a, len, cap, rfl⟩ := okWide_slice Try.underlying26 hv
  obtain ⟨v', n, es, h1, h2, h3⟩ := (Rd.of_Trod h).row (s := 1) Try.underlying26 (by kernel_rfl) (by omega)
  simp [Value.cells] at h1
  subst h1
  have hl : es.length = n := by have := h2.1; omega
  obtain ⟨bs, rfl⟩ := rd_u8s n es hl fun i hi => by have := h3 i hi; simpa using this
  rw [encU_length] at hl
  subst hl
  exact ⟨bs, h2⟩

def encZ (zs : List Int) : List Value := zs.map fun n => .int .i64 n
theorem encZ_length (zs : List Int) : (encZ zs).length = zs.length := by simp [encZ]
theorem rd_ints : ∀ (n : Nat) (es : List Value), es.length = n → (∀ i, i < n → Rd enc Try.prog w base spare held 3 ((es.drop i).take 1)) → ∃ zs : List Int, es = encZ zs ∧ ∀ n ∈ zs, I64 n
  | 0, es, hl, _ => ⟨[], by rw [List.eq_nil_of_length_eq_zero hl]; rfl, by simp⟩
  | n + 1, e :: es, hl, h => by
    have h0 := h 0 (by omega)
    simp only [List.drop_zero, List.take_succ_cons, List.take_zero] at h0
    obtain ⟨x, hx, hw⟩ := h0.int Try.underlying3
    obtain ⟨zs, rfl, hz⟩ := rd_ints n es (by simpa using hl) fun i hi => by have := h (i + 1) (by omega); simpa using this
    simp at hx
    refine ⟨x :: zs, by rw [hx]; rfl, fun m hm => ?_⟩
    rcases List.mem_cons.1 hm with rfl | hm
    · exact i64_of hw
    · exact hz m hm
theorem open_ints64 {r : Reach} {v : Value} {d : DataW H} {p : List MemPlace} (h : DataW.Trod enc Try.prog w base spare held 98 v d p) (hv : Value.okWide Try.prog w r base' 98 v) : ∃ zs : List Int, Row w 1 v zs.length (encZ zs) ∧ ∀ n ∈ zs, I64 n := by
  obtain ⟨a, len, cap, rfl⟩ := okWide_slice Try.underlying98 hv
  obtain ⟨v', n, es, h1, h2, h3⟩ := (Rd.of_Trod h).row (s := 1) Try.underlying98 (by kernel_rfl) (by omega)
  simp [Value.cells] at h1
  subst h1
  have hl : es.length = n := by have := h2.1; omega
  obtain ⟨zs, rfl, hz⟩ := rd_ints n es hl fun i hi => by have := h3 i hi; simpa using this
  rw [encZ_length] at hl
  subst hl
  exact ⟨zs, h2, hz⟩
end
end Go.Proofs.Ytgckgbonhbabpaa
