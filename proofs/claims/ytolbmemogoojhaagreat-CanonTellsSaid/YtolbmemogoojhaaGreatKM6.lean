/- Cells: equality, the chapter's example, few. -/
import Derived.Test.YtolbmemogoojhaaGreatKM5
import Derived.Test.YtolbmemogoojhaaGreatKM3
namespace Go.Proofs.YtolbmemogoojhaaGreat
open Go Go.RowKit Go.Deep
set_option linter.unusedVariables false
set_option linter.unusedSimpArgs false
set_option maxRecDepth 100000

def cEq (N R : Int) (s : ByteArray) (N' R' : Int) (s' : ByteArray) : Bool := stEq N R N' R' && (s.toList == s'.toList)
theorem cEq_iff (N R : Int) (s : ByteArray) (N' R' : Int) (s' : ByteArray) : cEq N R s N' R' s' = true ↔ N = N' ∧ R = R' ∧ s = s' := by
  have h : (s.toList == s'.toList) = true ↔ s = s' := by
    rw [beq_iff_eq, ByteArray.toList_eq, ByteArray.toList_eq]
    constructor
    · intro h; cases s; cases s'; simp at h; rw [h]
    · intro h; rw [h]
  simp only [cEq, Bool.and_eq_true, h, stEq_iff, and_assoc]
theorem cget_m (v : Value) (bs : List UInt8) (w : World) (hv : Byt w v bs) {N R : Int} {s : ByteArray} {k : Nat} {d : Bool} (h : cGet bs = (N, R, s, k, d)) : Calls Tryz.prog 139 #[v] w fun e w' =>
    e = .returned (.tuple #[.agg (cellA N R s), .int .i64 (k : Int), .bool d]) ∧ Below w.heap.size w w' :=
  (cget_c v bs w hv).mono fun e w' ⟨he, hb⟩ => ⟨by rw [he]; unfold CGetIs; rw [h], hb⟩
end Go.Proofs.YtolbmemogoojhaaGreat
/- The order of cells; their bytes got back. Plain. -/
namespace Go.Proofs.YtolbmemogoojhaaGreat
open Go
set_option linter.unusedVariables false
set_option linter.unusedSimpArgs false
set_option maxRecDepth 100000

theorem bl_iff : ∀ a b : List UInt8, Op.bytesLess a b = true ↔ a < b
  | [], [] => by simp [Op.bytesLess]
  | [], b :: y => by simp [Op.bytesLess]
  | a :: x, [] => by simp [Op.bytesLess]
  | a :: x, b :: y => by
    rw [List.cons_lt_cons_iff, Op.bytesLess, Bool.or_eq_true, Bool.and_eq_true, bl_iff x y, decide_eq_true_eq, beq_iff_eq]
theorem cb_iff : ∀ a b : List UInt8, Lib.compareBytes a b < 0 ↔ a < b
  | [], [] => by simp [Lib.compareBytes]
  | [], b :: y => by simp [Lib.compareBytes]
  | a :: x, [] => by simp [Lib.compareBytes]
  | a :: x, b :: y => by
    rw [List.cons_lt_cons_iff, Lib.compareBytes]
    by_cases h : a < b
    · simp [h]
    · rw [if_neg h]
      by_cases h' : b < a
      · have hne : a ≠ b := fun e => by subst e; exact UInt8.lt_irrefl a h'
        simp [h', h, hne]
      · have e : a = b := UInt8.le_antisymm (UInt8.not_lt.1 h') (UInt8.not_lt.1 h)
        subst e
        simp [h, cb_iff x y]
theorem l_irr (a : List UInt8) : ¬ a < a := List.lt_irrefl _
theorem l_tri {a b : List UInt8} (h : ¬ a < b) (k : ¬ b < a) : a = b := by
  exact List.le_antisymm (List.not_lt.1 k) (List.not_lt.1 h)
/-- Keys of a cell: its stamp, its digest, its text. -/
structure Ord3 where
  N : Int
  R : Int
  d : List UInt8
  t : List UInt8
def Ord3.lt (a b : Ord3) : Prop := (a.N < b.N ∨ a.N = b.N ∧ a.R < b.R) ∨ (a.N = b.N ∧ a.R = b.R) ∧ (a.d < b.d ∨ a.d = b.d ∧ a.t < b.t)
def keyC (N R : Int) (s : ByteArray) : Ord3 := ⟨N, R, dgS s, s.toList⟩
theorem ord3_tri {a b : Ord3} (h : ¬ a.lt b) (k : ¬ b.lt a) : a = b := by
  unfold Ord3.lt at *
  simp only [not_or, not_and] at h k
  have hN : a.N = b.N := by omega
  have hR : a.R = b.R := by have := h.1.2 hN; have := k.1.2 hN.symm; omega
  have hd : a.d = b.d := l_tri (h.2 ⟨hN, hR⟩).1 (k.2 ⟨hN.symm, hR.symm⟩).1
  have ht : a.t = b.t := l_tri ((h.2 ⟨hN, hR⟩).2 hd) ((k.2 ⟨hN.symm, hR.symm⟩).2 hd.symm)
  cases a; cases b; simp_all
theorem bl_eq (s s' : ByteArray) : strLess s s' = true ↔ s.toList < s'.toList := bl_iff _ _
theorem cLess_iff (N R : Int) (s : ByteArray) (N' R' : Int) (s' : ByteArray) : cLess N R s N' R' s' = true ↔ (keyC N R s).lt (keyC N' R' s') := by
  have e1 : stLess N R N' R' = true ↔ (N < N' ∨ N = N' ∧ R < R') := by simp [stLess]
  have e2 : stLess N' R' N R = true ↔ (N' < N ∨ N' = N ∧ R' < R) := by simp [stLess]
  have e3 : ∀ a b, dgLess a b = true ↔ a < b := fun a b => by rw [dgLess, decide_eq_true_eq, cb_iff]
  have e4 := bl_eq s s'
  unfold cLess Ord3.lt keyC
  simp only
  cases h1 : stLess N R N' R'
  · rw [h1] at e1
    have f1 := mt e1.2 (by simp)
    cases h2 : stLess N' R' N R
    · rw [h2] at e2
      have f2 := mt e2.2 (by simp)
      have hN : N = N' := by omega
      have hR : R = R' := by omega
      cases h3 : dgLess (dgS s) (dgS s')
      · have f3 : ¬ dgS s < dgS s' := fun h => by rw [(e3 _ _).2 h] at h3; cases h3
        cases h4 : dgLess (dgS s') (dgS s)
        · have f4 : ¬ dgS s' < dgS s := fun h => by rw [(e3 _ _).2 h] at h4; cases h4
          have hd := l_tri f3 f4
          cases h5 : strLess s s'
          · have f5 : ¬ s.toList < s'.toList := fun h => by rw [e4.2 h] at h5; cases h5
            have : pick3 (ordB false false) (ordB false false) (ordB false (!(s.toList == s'.toList))) = false := by cases (!(s.toList == s'.toList)) <;> rfl
            rw [this]
            simp [f1, f3, f5]
          · have f5 := e4.1 h5
            have : pick3 (ordB false false) (ordB false false) (ordB true (!(s.toList == s'.toList))) = true := by cases (!(s.toList == s'.toList)) <;> rfl
            rw [this]
            simp [hN, hR, hd, f5]
        · have f4 := (e3 _ _).1 h4
          have : pick3 (ordB false false) (ordB false true) (ordB (strLess s s') (!(s.toList == s'.toList))) = false := rfl
          rw [this]
          have hd : dgS s ≠ dgS s' := fun e => by rw [e] at f4; exact l_irr _ f4
          simp [f1, f3, hd]
      · have f3 := (e3 _ _).1 h3
        have : ∀ g, pick3 (ordB false false) (ordB true g) (ordB (strLess s s') (!(s.toList == s'.toList))) = true := fun g => rfl
        rw [this]
        simp [hN, hR, f3]
    · have f2 := e2.1 h2
      have : ∀ x y, pick3 (ordB false true) x y = false := fun x y => rfl
      rw [this]
      simp only [Bool.false_eq_true, false_iff, not_or, not_and]
      refine ⟨not_or.1 f1 |>.imp id (fun h => by simpa using h), fun h1 => ?_⟩
      omega
  · have f1 := e1.1 h1
    have : ∀ g x y, pick3 (ordB true g) x y = true := fun g x y => rfl
    rw [this]
    simp [f1]

theorem keyC_inj {N R N' R' : Int} {s s' : ByteArray} (h : keyC N R s = keyC N' R' s') : N = N' ∧ R = R' ∧ s = s' := by
  have h1 := congrArg Ord3.N h; have h2 := congrArg Ord3.R h; have h3 := congrArg Ord3.t h
  have := (cEq_iff N R s N' R' s').1 (by
    simp only [cEq, Bool.and_eq_true, stEq_iff, beq_iff_eq]; exact ⟨⟨h1, h2⟩, h3⟩)
  exact this
theorem cl_tri {N R N' R' : Int} {s s' : ByteArray} (h : cLess N R s N' R' s' = false) (k : cLess N' R' s' N R s = false) : N = N' ∧ R = R' ∧ s = s' :=
  keyC_inj (ord3_tri (fun e => by rw [(cLess_iff _ _ _ _ _ _).2 e] at h; cases h) (fun e => by rw [(cLess_iff _ _ _ _ _ _).2 e] at k; cases k))

theorem data_toList_length (s : ByteArray) : s.data.toList.length = s.size := by simp
theorem read_text (s : ByteArray) (x : List UInt8) (M : Nat) (h : s.size ≤ M) (hM : M ≤ 100000) : readR (textL s ++ x) M = some (s, (textL s).length) := by
  have hg : getR (textL s ++ x) = some (s.size, (putL s.size).length) := by
    unfold textL; rw [List.append_assoc]; exact getR_put _ _ (by omega)
  unfold readR
  rw [hg]
  simp only
  have hl : (textL s).length = (putL s.size).length + s.size := by unfold textL; rw [List.length_append, data_toList_length]
  rw [if_pos (by rw [List.length_append, hl]; omega), hl]
  congr 2
  have e : textL s ++ x = putL s.size ++ (s.data.toList ++ x) := by unfold textL; rw [List.append_assoc]
  rw [e, List.drop_left, List.take_left' (data_toList_length s)]
  exact bstr_of s
theorem text_read {x : List UInt8} {M : Nat} {s : ByteArray} {m : Nat} (h : readR x M = some (s, m)) : textL s = x.take m ∧ m ≤ x.length ∧ s.size ≤ M := by
  obtain ⟨n, u, h1, h2, h3, h4⟩ := readR_some h
  obtain ⟨_, _, h5, _, h6⟩ := getR_some h1
  have hs : s.size = n := by rw [h3, bstr_size]; simp; omega
  have hd : s.data.toList = (x.drop u).take n := by rw [h3, bstr_data]
  refine ⟨?_, by omega, by omega⟩
  unfold textL
  rw [hs, hd, h6, h4, List.take_add]
theorem c_back1 {N R : Int} {s : ByteArray} (h : cMay N R s = true) (x : List UInt8) : cGet (cBytes N R s ++ x) = (N, R, s, (cBytes N R s).length, true) := by
  obtain ⟨_, h1, h2⟩ := cMay_le h
  have e : cBytes N R s = stBytes N R ++ textL s := by unfold cBytes; rw [if_pos h]
  rw [e]
  unfold cGet
  rw [List.append_assoc, st_back1 h1]
  simp only [List.drop_left, read_text s x 200 h2 (by omega), h, and_self, if_true, List.length_append]
theorem c_back2 (x : List UInt8) : cGet x = (0, 0, ⟨#[]⟩, 0, false) ∨ ∃ N R s k, cGet x = (N, R, s, k, true) ∧ cMay N R s = true ∧ k ≤ x.length ∧ cBytes N R s = x.take k := by
  obtain ⟨N, R, u, is, hst⟩ : ∃ N R u is, stGet x = (N, R, u, is) := ⟨_, _, _, _, rfl⟩
  cases hr : readR (x.drop u) 200 with
  | none => left; unfold cGet; rw [hst]; simp only; rw [hr]
  | some q =>
    obtain ⟨s, m⟩ := q
    by_cases hc : is = true ∧ cMay N R s = true
    · right
      refine ⟨N, R, s, u + m, ?_, hc.2, ?_, ?_⟩
      · unfold cGet; rw [hst]; simp only; rw [hr]; simp only; rw [if_pos hc]
      all_goals
        have hu := stGet_le x
        rw [hst] at hu
        obtain ⟨h1, h2, _⟩ := text_read hr
        simp only at hu
        rw [List.length_drop] at h2
      · omega
      · rcases st_back2 x with h | ⟨a, b, v, h, _, _, _, h4⟩
        · rw [hst] at h; simp only [Prod.mk.injEq] at h; rw [hc.1] at h; simp at h
        · rw [hst] at h
          simp only [Prod.mk.injEq] at h
          obtain ⟨rfl, rfl, rfl, _⟩ := h
          unfold cBytes
          rw [if_pos hc.2, h4, h1, ← List.take_add]
    · left; unfold cGet; rw [hst]; simp only; rw [hr]; simp only; rw [if_neg hc]
end Go.Proofs.YtolbmemogoojhaaGreat
/- Join as a function, and its laws. -/
namespace Go.Proofs.YtolbmemogoojhaaGreat
open Go Go.RowKit Go.Deep
set_option linter.unusedVariables false
set_option linter.unusedSimpArgs false
set_option maxRecDepth 100000

abbrev C3 := Int × Int × ByteArray
def cL (a b : C3) : Bool := cLess a.1 a.2.1 a.2.2 b.1 b.2.1 b.2.2
def cJ (a b : C3) : C3 := bif cL a b then b else a
theorem cL_tri {a b : C3} (h : cL a b = false) (k : cL b a = false) : a = b := by
  obtain ⟨h1, h2, h3⟩ := cl_tri h k
  obtain ⟨a1, a2, a3⟩ := a; obtain ⟨b1, b2, b3⟩ := b
  simp only at h1 h2 h3
  subst h1 h2 h3; rfl
theorem cJ_pick (a b : C3) : cJ a b = a ∨ cJ a b = b := by unfold cJ; cases cL a b <;> simp
theorem cJ_left {a b : C3} (h : cL a b = false) : cJ a b = a := by unfold cJ; rw [h]; rfl
theorem cJ_right {a b : C3} (h : cL a b = true) : cJ a b = b := by unfold cJ; rw [h]; rfl
theorem cjoin_r {N R N' R' X Y : Int} {s s' t : ByteArray} (h : cJ (N, R, s) (N', R', s') = (X, Y, t)) (hs : s.size ≤ 80000) (hs' : s'.size ≤ 80000) (w : World) : Calls Tryz.prog 121 #[.agg (cellA N R s), .agg (cellA N' R' s')] w fun e w' => e = .returned (.agg (cellA X Y t)) ∧ Below w.heap.size w w' :=
  (cjoin_c N R N' R' s s' hs hs' w).mono fun e w' ⟨he, hb⟩ => ⟨by
    rw [he]; unfold cJ cL at h; simp only at h
    cases hl : cLess N R s N' R' s' <;> rw [hl] at h <;> simp only [cond_false, cond_true, Prod.mk.injEq] at h <;> obtain ⟨rfl, rfl, rfl⟩ := h <;> rfl, hb⟩
end Go.Proofs.YtolbmemogoojhaaGreat
/- An argument that reads as data, opened: cells, texts. -/
namespace Go.Proofs.YtolbmemogoojhaaGreat
set_option maxRecDepth 100000
open Go Go.RowKit Go.ChangeShapes Go.WideShapes Go.ChangeAt
set_option linter.unusedVariables false
set_option linter.unusedSimpArgs false
section
variable {H : Type} {enc : TypeId × Value → H} {w : World} {base base' : Nat} {spare : Nat → Bool} {held : Bool}
theorem cells_stamp : Tryz.prog.cellsOf 30 = 2 := by kernel_rfl
theorem cells_string : Tryz.prog.cellsOf 9 = 1 := by kernel_rfl
theorem rd_cell {cs : List Value} (h : Rd enc Tryz.prog w base spare held 68 cs) : ∃ N R s, cs = [.int .i64 N, .int .i64 R, .string s] ∧ I64 N ∧ I64 R ∧ s.size ≤ maxLen := by
  obtain ⟨hl, hf⟩ := h.struct Tryz.underlying68
  have hl2 : cs.length = 3 := hl.trans (by kernel_rfl)
  match cs, hl2 with
  | [c0, c1, c2], _ =>
    simp only [List.mem_cons, List.not_mem_nil, or_false, forall_eq_or_imp, forall_eq] at hf
    rw [cells_stamp, cells_string] at hf
    obtain ⟨N, R, h1, w1, w2⟩ := rd_stamp hf.1
    obtain ⟨s, h2, w3⟩ := hf.2.str Tryz.underlying9
    simp at h1 h2
    exact ⟨N, R, s, by rw [h1.1, h1.2, h2], w1, w2, w3⟩
end
end Go.Proofs.YtolbmemogoojhaaGreat
