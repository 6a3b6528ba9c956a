/- The walk's steps over records, cells, fields and single variables that a call owns or reads. -/
import Derived.Test.YtolbmemogoojhaaSep
namespace Go.Proofs.Ytolbmemogoojhaa
open Go Go.RowKit Go.Deep
set_option linter.unusedVariables false
set_option linter.unusedSimpArgs false
set_option maxRecDepth 100000
theorem Sub.part {w : World} {b o : Nat} {cs ds : Array Value} (h : Sub w b o cs) (k : Nat) (hk : ∀ (j : Nat) (u : Value), ds[j]? = some u → cs[k + j]? = some u) : Sub w b (o + k) ds := fun j u hj => by
  have := h (k + j) u (hk j u hj)
  rwa [← Nat.add_assoc] at this
/-- A record lies here. -/
def RecAt (w : World) (b o : Nat) (r : RD) (s : Value) : Prop := Sub w b o (rA r s) ∧ r.ok
def CelAt (w : World) (b o : Nat) (N R : Int) (S : ByteArray) : Prop := Sub w b o #[.int .i64 N, .int .i64 R, .string S]
def FldAt (w : World) (b o : Nat) (no N R : Int) (S : ByteArray) : Prop := Sub w b o #[.int .i64 no, .int .i64 N, .int .i64 R, .string S]
section
variable {w w' : World} {b o : Nat} {r : RD} {s : Value} {no N R : Int} {S : ByteArray}
theorem RecAt.bel (h : RecAt w b o r s) (hb : Below w.heap.size w w') : RecAt w' b o r s := ⟨h.1.keep hb, h.2⟩
theorem CelAt.bel (h : CelAt w b o N R S) (hb : Below w.heap.size w w') : CelAt w' b o N R S := h.keep hb
theorem FldAt.bel (h : FldAt w b o no N R S) (hb : Below w.heap.size w w') : FldAt w' b o no N R S := h.keep hb
theorem rA_get {r : RD} (hr : r.ok) (s : Value) : (∀ (j : Nat) (u : Value), (idA r)[j]? = some u → (rA r s)[j]? = some u) ∧ (rA r s)[16]? = some (.int .i64 r.N) ∧ (rA r s)[17]? = some (.int .i64 r.R) ∧ (rA r s)[18]? = some s := by
  obtain ⟨h1, h2, h3⟩ := rA_at (s := s) hr
  refine ⟨fun j u hj => ?_, h1, h2, h3⟩
  have hlt := (Array.getElem?_eq_some_iff.1 hj).1
  unfold rA recA
  unfold idA at hj hlt
  rw [Array.getElem?_append, if_pos hlt]; exact hj
theorem RecAt.id (h : RecAt w b o r s) : Sub w b o (idA r) := fun j u hj => h.1 j u ((rA_get h.2 s).1 j u hj)
theorem RecAt.dead (h : RecAt w b o r s) : Sub w b (o + 16) #[.int .i64 r.N, .int .i64 r.R] := h.1.part 16 fun j u hj => by
  obtain ⟨_, h1, h2, h3⟩ := rA_get h.2 s
  match j, hj with
  | 0, hj => simp at hj; subst hj; exact h1
  | 1, hj => simp at hj; subst hj; exact h2
theorem RecAt.F (h : RecAt w b o r s) : Sub w b (o + 18) #[s] := h.1.part 18 fun j u hj => by
  obtain ⟨_, h1, h2, h3⟩ := rA_get h.2 s
  match j, hj with
  | 0, hj => simp at hj; subst hj; exact h3
theorem CelAt.stamp (h : CelAt w b o N R S) : Sub w b o #[.int .i64 N, .int .i64 R] := fun j u hj => h j u (by
  match j, hj with
  | 0, hj => simpa using hj
  | 1, hj => simpa using hj)
theorem CelAt.n (h : CelAt w b o N R S) : Sub w b o #[.int .i64 N] := fun j u hj => h j u (by
  match j, hj with
  | 0, hj => simpa using hj)
theorem CelAt.rep (h : CelAt w b o N R S) : Sub w b (o + 1) #[.int .i64 R] := Sub.part h 1 fun j u hj => by
  match j, hj with
  | 0, hj => simpa using hj
theorem CelAt.str (h : CelAt w b o N R S) : Sub w b (o + 2) #[.string S] := Sub.part h 2 fun j u hj => by
  match j, hj with
  | 0, hj => simpa using hj
theorem FldAt.num (h : FldAt w b o no N R S) : Sub w b o #[.int .i64 no] := fun j u hj => h j u (by
  match j, hj with
  | 0, hj => simpa using hj)
theorem FldAt.cel (h : FldAt w b o no N R S) : CelAt w b (o + 1) N R S := Sub.part h 1 fun j u hj => by
  match j, hj with
  | 0, hj => simpa using hj
  | 1, hj => simpa using hj
  | 2, hj => simpa using hj
theorem FldAt.str (h : FldAt w b o no N R S) : Sub w b (o + 3) #[.string S] := Sub.part h 3 fun j u hj => by
  match j, hj with
  | 0, hj => simpa using hj
end
def Res.rc (b : Nat) (r : RD) (s : Value) : Res := ⟨fun k => k = b, fun w => Blk w b 38 (rA r s) ∧ r.ok, fun h k => ⟨(k _ rfl).trans h.1, h.2⟩, fun h e => by subst e; exact h.1.lt⟩
theorem Res.rc_at {w : World} {b : Nat} {r : RD} {s : Value} (h : (Res.rc b r s).holds w) : RecAt w b 0 r s := ⟨h.1.subA, h.2⟩
section
variable {w0 w : World} {Γ Γ' : List Res} {b : Nat} {r : RD} {s : Value} {no N R : Int} {S : ByteArray} {t : TypeId} {v : Value} {cs : Array Value}
theorem St.rc (H : St w0 w Γ) (hm : Res.rc b r s ∈ Γ) : RecAt w b 0 r s := Res.rc_at (H.get hm)
theorem St.cel (H : St w0 w Γ) (hm : Res.blk b t #[.int .i64 N, .int .i64 R, .string S] ∈ Γ) : CelAt w b 0 N R S := Blk.subA (H.get hm)
theorem St.fld (H : St w0 w Γ) (hm : Res.blk b t #[.int .i64 no, .int .i64 N, .int .i64 R, .string S] ∈ Γ) : FldAt w b 0 no N R S := Blk.subA (H.get hm)
theorem St.one (H : St w0 w Γ) (hm : Res.blk b t #[v] ∈ Γ) : Sub w b 0 #[v] := Blk.subA (H.get hm)
theorem St.arr (H : St w0 w Γ) (hm : Res.blk b t cs ∈ Γ) : Sub w b 0 cs := Blk.subA (H.get hm)
end
section
variable {ops : Array Oper} {rest : List Oper} {a : Act} {w0 w : World} {Q : Exit → Act → World → Prop} {Γ Γ' : List Res}
variable {dst : Option Tmp} {typ : TypeId} {x y : Operand} {pos : String} {af : Array Edge} {gd : Option (Nat × Bool)}
variable {b o : Nat} {r r' : RD} {s s' : Value} {no N R N' R' no' : Int} {S S' : ByteArray} {C : World → Prop} {K : Act → Prop}
theorem ld_rec (hw : Region.wanted (⟨dst, .load 38 x, typ, pos, af, gd⟩ : Oper) (yielded ops a.tmps) = true) (hx : a.eval x = .pointer (some ⟨b, o, none⟩)) (h : RecAt w b o r s) (k : wpList Try.prog ops Q rest (a.put dst (.agg (rA r s))) w) : wpList Try.prog ops Q (⟨dst, .load 38 x, typ, pos, af, gd⟩ :: rest) a w :=
  arm_ld hw hx (h.1) Try.underlying38 rfl (rA_info h.2) k
theorem qd_rec (hx : a.eval x = .pointer (some ⟨b, o, none⟩)) (h : ∀ w', C w' → RecAt w' b o r s) (hok : r.ok) (k : K (a.put dst (.agg (rA r s)))) : (⟨dst, .load 38 x, typ, pos, af, gd⟩ : Oper).quiet Try.prog a C K :=
  quiet_load_sub 38 x rfl dst rfl b _ hx (rA r s) _ (fun w' hw' => by have h := h w' hw'; exact h.1) Try.underlying38 rfl (rA_info hok) k
theorem ld_id (hw : Region.wanted (⟨dst, .load 33 x, typ, pos, af, gd⟩ : Oper) (yielded ops a.tmps) = true) (hx : a.eval x = .pointer (some ⟨b, o, none⟩)) (h : RecAt w b o r s) (k : wpList Try.prog ops Q rest (a.put dst (.agg (idA r))) w) : wpList Try.prog ops Q (⟨dst, .load 33 x, typ, pos, af, gd⟩ :: rest) a w :=
  arm_ld hw hx (h.id) Try.underlying33 rfl (idA_info h.2) k
theorem qd_id (hx : a.eval x = .pointer (some ⟨b, o, none⟩)) (h : ∀ w', C w' → RecAt w' b o r s) (hok : r.ok) (k : K (a.put dst (.agg (idA r)))) : (⟨dst, .load 33 x, typ, pos, af, gd⟩ : Oper).quiet Try.prog a C K :=
  quiet_load_sub 33 x rfl dst rfl b _ hx (idA r) _ (fun w' hw' => by have h := h w' hw'; exact h.id) Try.underlying33 rfl (idA_info hok) k
theorem ld_dead (hw : Region.wanted (⟨dst, .load 35 x, typ, pos, af, gd⟩ : Oper) (yielded ops a.tmps) = true) (hx : a.eval x = .pointer (some ⟨b, o + 16, none⟩)) (h : RecAt w b o r s) (k : wpList Try.prog ops Q rest (a.put dst (.agg #[.int .i64 r.N, .int .i64 r.R])) w) : wpList Try.prog ops Q (⟨dst, .load 35 x, typ, pos, af, gd⟩ :: rest) a w :=
  arm_ld hw hx (h.dead) Try.underlying35 rfl (stamp_info) k
theorem qd_dead (hx : a.eval x = .pointer (some ⟨b, o + 16, none⟩)) (h : ∀ w', C w' → RecAt w' b o r s) (k : K (a.put dst (.agg #[.int .i64 r.N, .int .i64 r.R]))) : (⟨dst, .load 35 x, typ, pos, af, gd⟩ : Oper).quiet Try.prog a C K :=
  quiet_load_sub 35 x rfl dst rfl b _ hx #[.int .i64 r.N, .int .i64 r.R] _ (fun w' hw' => by have h := h w' hw'; exact h.dead) Try.underlying35 rfl (stamp_info) k
theorem ld_F (hw : Region.wanted (⟨dst, .load 36 x, typ, pos, af, gd⟩ : Oper) (yielded ops a.tmps) = true) (hx : a.eval x = .pointer (some ⟨b, o + 18, none⟩)) (h : RecAt w b o r s) (k : wpList Try.prog ops Q rest (a.put dst (s)) w) : wpList Try.prog ops Q (⟨dst, .load 36 x, typ, pos, af, gd⟩ :: rest) a w :=
  arm_ld1 hw hx (h.F) Try.underlying36 rfl k
theorem qd_F (hx : a.eval x = .pointer (some ⟨b, o + 18, none⟩)) (h : ∀ w', C w' → RecAt w' b o r s) (k : K (a.put dst (s))) : (⟨dst, .load 36 x, typ, pos, af, gd⟩ : Oper).quiet Try.prog a C K :=
  quiet_load_one 36 x rfl dst rfl b _ hx _ _ (fun w' hw' => by have h := h w' hw'; exact h.F) Try.underlying36 rfl k
theorem ld_cel (hw : Region.wanted (⟨dst, .load 46 x, typ, pos, af, gd⟩ : Oper) (yielded ops a.tmps) = true) (hx : a.eval x = .pointer (some ⟨b, o, none⟩)) (h : CelAt w b o N R S) (k : wpList Try.prog ops Q rest (a.put dst (.agg #[.int .i64 N, .int .i64 R, .string S])) w) : wpList Try.prog ops Q (⟨dst, .load 46 x, typ, pos, af, gd⟩ :: rest) a w :=
  arm_ld hw hx (h) Try.underlying46 rfl (cell_info) k
theorem qd_cel (hx : a.eval x = .pointer (some ⟨b, o, none⟩)) (h : ∀ w', C w' → CelAt w' b o N R S) (k : K (a.put dst (.agg #[.int .i64 N, .int .i64 R, .string S]))) : (⟨dst, .load 46 x, typ, pos, af, gd⟩ : Oper).quiet Try.prog a C K :=
  quiet_load_sub 46 x rfl dst rfl b _ hx #[.int .i64 N, .int .i64 R, .string S] _ (fun w' hw' => by have h := h w' hw'; exact h) Try.underlying46 rfl (cell_info) k
theorem ld_cstamp (hw : Region.wanted (⟨dst, .load 35 x, typ, pos, af, gd⟩ : Oper) (yielded ops a.tmps) = true) (hx : a.eval x = .pointer (some ⟨b, o, none⟩)) (h : CelAt w b o N R S) (k : wpList Try.prog ops Q rest (a.put dst (.agg #[.int .i64 N, .int .i64 R])) w) : wpList Try.prog ops Q (⟨dst, .load 35 x, typ, pos, af, gd⟩ :: rest) a w :=
  arm_ld hw hx (h.stamp) Try.underlying35 rfl (stamp_info) k
theorem qd_cstamp (hx : a.eval x = .pointer (some ⟨b, o, none⟩)) (h : ∀ w', C w' → CelAt w' b o N R S) (k : K (a.put dst (.agg #[.int .i64 N, .int .i64 R]))) : (⟨dst, .load 35 x, typ, pos, af, gd⟩ : Oper).quiet Try.prog a C K :=
  quiet_load_sub 35 x rfl dst rfl b _ hx #[.int .i64 N, .int .i64 R] _ (fun w' hw' => by have h := h w' hw'; exact h.stamp) Try.underlying35 rfl (stamp_info) k
theorem ld_cn (hw : Region.wanted (⟨dst, .load 3 x, typ, pos, af, gd⟩ : Oper) (yielded ops a.tmps) = true) (hx : a.eval x = .pointer (some ⟨b, o, none⟩)) (h : CelAt w b o N R S) (k : wpList Try.prog ops Q rest (a.put dst (.int .i64 N)) w) : wpList Try.prog ops Q (⟨dst, .load 3 x, typ, pos, af, gd⟩ :: rest) a w :=
  arm_ld1 hw hx (h.n) Try.underlying3 rfl k
theorem qd_cn (hx : a.eval x = .pointer (some ⟨b, o, none⟩)) (h : ∀ w', C w' → CelAt w' b o N R S) (k : K (a.put dst (.int .i64 N))) : (⟨dst, .load 3 x, typ, pos, af, gd⟩ : Oper).quiet Try.prog a C K :=
  quiet_load_one 3 x rfl dst rfl b _ hx _ _ (fun w' hw' => by have h := h w' hw'; exact h.n) Try.underlying3 rfl k
theorem ld_crep (hw : Region.wanted (⟨dst, .load 3 x, typ, pos, af, gd⟩ : Oper) (yielded ops a.tmps) = true) (hx : a.eval x = .pointer (some ⟨b, o + 1, none⟩)) (h : CelAt w b o N R S) (k : wpList Try.prog ops Q rest (a.put dst (.int .i64 R)) w) : wpList Try.prog ops Q (⟨dst, .load 3 x, typ, pos, af, gd⟩ :: rest) a w :=
  arm_ld1 hw hx (h.rep) Try.underlying3 rfl k
theorem qd_crep (hx : a.eval x = .pointer (some ⟨b, o + 1, none⟩)) (h : ∀ w', C w' → CelAt w' b o N R S) (k : K (a.put dst (.int .i64 R))) : (⟨dst, .load 3 x, typ, pos, af, gd⟩ : Oper).quiet Try.prog a C K :=
  quiet_load_one 3 x rfl dst rfl b _ hx _ _ (fun w' hw' => by have h := h w' hw'; exact h.rep) Try.underlying3 rfl k
theorem ld_cstr (hw : Region.wanted (⟨dst, .load 9 x, typ, pos, af, gd⟩ : Oper) (yielded ops a.tmps) = true) (hx : a.eval x = .pointer (some ⟨b, o + 2, none⟩)) (h : CelAt w b o N R S) (k : wpList Try.prog ops Q rest (a.put dst (.string S)) w) : wpList Try.prog ops Q (⟨dst, .load 9 x, typ, pos, af, gd⟩ :: rest) a w :=
  arm_ld1 hw hx (h.str) Try.underlying9 rfl k
theorem qd_cstr (hx : a.eval x = .pointer (some ⟨b, o + 2, none⟩)) (h : ∀ w', C w' → CelAt w' b o N R S) (k : K (a.put dst (.string S))) : (⟨dst, .load 9 x, typ, pos, af, gd⟩ : Oper).quiet Try.prog a C K :=
  quiet_load_one 9 x rfl dst rfl b _ hx _ _ (fun w' hw' => by have h := h w' hw'; exact h.str) Try.underlying9 rfl k
theorem ld_fld (hw : Region.wanted (⟨dst, .load 51 x, typ, pos, af, gd⟩ : Oper) (yielded ops a.tmps) = true) (hx : a.eval x = .pointer (some ⟨b, o, none⟩)) (h : FldAt w b o no N R S) (k : wpList Try.prog ops Q rest (a.put dst (.agg #[.int .i64 no, .int .i64 N, .int .i64 R, .string S])) w) : wpList Try.prog ops Q (⟨dst, .load 51 x, typ, pos, af, gd⟩ :: rest) a w :=
  arm_ld hw hx (h) Try.underlying51 rfl (field_info) k
theorem qd_fld (hx : a.eval x = .pointer (some ⟨b, o, none⟩)) (h : ∀ w', C w' → FldAt w' b o no N R S) (k : K (a.put dst (.agg #[.int .i64 no, .int .i64 N, .int .i64 R, .string S]))) : (⟨dst, .load 51 x, typ, pos, af, gd⟩ : Oper).quiet Try.prog a C K :=
  quiet_load_sub 51 x rfl dst rfl b _ hx #[.int .i64 no, .int .i64 N, .int .i64 R, .string S] _ (fun w' hw' => by have h := h w' hw'; exact h) Try.underlying51 rfl (field_info) k
theorem ld_fno (hw : Region.wanted (⟨dst, .load 3 x, typ, pos, af, gd⟩ : Oper) (yielded ops a.tmps) = true) (hx : a.eval x = .pointer (some ⟨b, o, none⟩)) (h : FldAt w b o no N R S) (k : wpList Try.prog ops Q rest (a.put dst (.int .i64 no)) w) : wpList Try.prog ops Q (⟨dst, .load 3 x, typ, pos, af, gd⟩ :: rest) a w :=
  arm_ld1 hw hx (h.num) Try.underlying3 rfl k
theorem qd_fno (hx : a.eval x = .pointer (some ⟨b, o, none⟩)) (h : ∀ w', C w' → FldAt w' b o no N R S) (k : K (a.put dst (.int .i64 no))) : (⟨dst, .load 3 x, typ, pos, af, gd⟩ : Oper).quiet Try.prog a C K :=
  quiet_load_one 3 x rfl dst rfl b _ hx _ _ (fun w' hw' => by have h := h w' hw'; exact h.num) Try.underlying3 rfl k
theorem ld_fcel (hw : Region.wanted (⟨dst, .load 46 x, typ, pos, af, gd⟩ : Oper) (yielded ops a.tmps) = true) (hx : a.eval x = .pointer (some ⟨b, o + 1, none⟩)) (h : FldAt w b o no N R S) (k : wpList Try.prog ops Q rest (a.put dst (.agg #[.int .i64 N, .int .i64 R, .string S])) w) : wpList Try.prog ops Q (⟨dst, .load 46 x, typ, pos, af, gd⟩ :: rest) a w :=
  arm_ld hw hx (h.cel) Try.underlying46 rfl (cell_info) k
theorem qd_fcel (hx : a.eval x = .pointer (some ⟨b, o + 1, none⟩)) (h : ∀ w', C w' → FldAt w' b o no N R S) (k : K (a.put dst (.agg #[.int .i64 N, .int .i64 R, .string S]))) : (⟨dst, .load 46 x, typ, pos, af, gd⟩ : Oper).quiet Try.prog a C K :=
  quiet_load_sub 46 x rfl dst rfl b _ hx #[.int .i64 N, .int .i64 R, .string S] _ (fun w' hw' => by have h := h w' hw'; exact h.cel) Try.underlying46 rfl (cell_info) k
theorem ld_fstamp (hw : Region.wanted (⟨dst, .load 35 x, typ, pos, af, gd⟩ : Oper) (yielded ops a.tmps) = true) (hx : a.eval x = .pointer (some ⟨b, o + 1, none⟩)) (h : FldAt w b o no N R S) (k : wpList Try.prog ops Q rest (a.put dst (.agg #[.int .i64 N, .int .i64 R])) w) : wpList Try.prog ops Q (⟨dst, .load 35 x, typ, pos, af, gd⟩ :: rest) a w :=
  arm_ld hw hx (h.cel.stamp) Try.underlying35 rfl (stamp_info) k
theorem qd_fstamp (hx : a.eval x = .pointer (some ⟨b, o + 1, none⟩)) (h : ∀ w', C w' → FldAt w' b o no N R S) (k : K (a.put dst (.agg #[.int .i64 N, .int .i64 R]))) : (⟨dst, .load 35 x, typ, pos, af, gd⟩ : Oper).quiet Try.prog a C K :=
  quiet_load_sub 35 x rfl dst rfl b _ hx #[.int .i64 N, .int .i64 R] _ (fun w' hw' => by have h := h w' hw'; exact h.cel.stamp) Try.underlying35 rfl (stamp_info) k
theorem ld_fstr (hw : Region.wanted (⟨dst, .load 9 x, typ, pos, af, gd⟩ : Oper) (yielded ops a.tmps) = true) (hx : a.eval x = .pointer (some ⟨b, o + 3, none⟩)) (h : FldAt w b o no N R S) (k : wpList Try.prog ops Q rest (a.put dst (.string S)) w) : wpList Try.prog ops Q (⟨dst, .load 9 x, typ, pos, af, gd⟩ :: rest) a w :=
  arm_ld1 hw hx (h.str) Try.underlying9 rfl k
theorem qd_fstr (hx : a.eval x = .pointer (some ⟨b, o + 3, none⟩)) (h : ∀ w', C w' → FldAt w' b o no N R S) (k : K (a.put dst (.string S))) : (⟨dst, .load 9 x, typ, pos, af, gd⟩ : Oper).quiet Try.prog a C K :=
  quiet_load_one 9 x rfl dst rfl b _ hx _ _ (fun w' hw' => by have h := h w' hw'; exact h.str) Try.underlying9 rfl k
theorem ld_fstr2 (hw : Region.wanted (⟨dst, .load 9 x, typ, pos, af, gd⟩ : Oper) (yielded ops a.tmps) = true) (hx : a.eval x = .pointer (some ⟨b, o + 1 + 2, none⟩)) (h : FldAt w b o no N R S) (k : wpList Try.prog ops Q rest (a.put dst (.string S)) w) : wpList Try.prog ops Q (⟨dst, .load 9 x, typ, pos, af, gd⟩ :: rest) a w :=
  arm_ld1 hw hx (h.cel.str) Try.underlying9 rfl k
theorem qd_fstr2 (hx : a.eval x = .pointer (some ⟨b, o + 1 + 2, none⟩)) (h : ∀ w', C w' → FldAt w' b o no N R S) (k : K (a.put dst (.string S))) : (⟨dst, .load 9 x, typ, pos, af, gd⟩ : Oper).quiet Try.prog a C K :=
  quiet_load_one 9 x rfl dst rfl b _ hx _ _ (fun w' hw' => by have h := h w' hw'; exact h.cel.str) Try.underlying9 rfl k
theorem bx_rec (H : St w0 w Γ) (hx : a.eval x = .agg (rA r s)) (ok : r.ok)
    (h : ∀ w' b, St w0 w' (Res.rc b r s :: Γ) → wpList Try.prog ops Q rest (a.put dst (.pointer (some ⟨b, 0, none⟩))) w') : wpList Try.prog ops Q (⟨dst, .box 38 x, typ, pos, af, none⟩ :: rest) a w :=
  wpList_box_blk rfl 38 x rfl dst rfl _ hx fun w' k b1 s1 => h w' _ (H.new b1 ⟨k, ok⟩ fun _ e => by cases e; exact Nat.le_refl _)
theorem al_rec (H : St w0 w Γ) (h : ∀ w' b, St w0 w' (Res.rc b noRD (.slice none 0 0) :: Γ) → wpList Try.prog ops Q rest (a.put dst (.pointer (some ⟨b, 0, none⟩))) w') : wpList Try.prog ops Q (⟨dst, .alloc 38, typ, pos, af, none⟩ :: rest) a w :=
  wpList_alloc_blk rfl 38 rfl dst rfl _ _ noA_zero rfl fun w' k b1 s1 => h w' _ (H.new b1 ⟨k, noRD_ok⟩ fun _ e => by cases e; exact Nat.le_refl _)
theorem rA_one' (r : RD) {s : Value} (h : s.oneCell' = true) : (rA r s).all (·.oneCell') = true := recA_one (encU_all _) h
theorem st_rec (H : St w0 w Γ) (hw : Region.wanted (⟨dst, .store 38 x y, typ, pos, af, gd⟩ : Oper) (yielded ops a.tmps) = true) (hx : a.eval x = .pointer (some ⟨b, 0, none⟩)) (hy : a.eval y = .agg (rA r' s'))
    (u : Upd Γ (Res.rc b r s) (Res.rc b r' s') Γ') (ok : r'.ok) (h1 : s'.oneCell' = true) (h : ∀ w', St w0 w' Γ' → wpList Try.prog ops Q rest (a.put dst undef) w') : wpList Try.prog ops Q (⟨dst, .store 38 x y, typ, pos, af, gd⟩ :: rest) a w := by
  have hB := H.holds _ u.mem
  refine wpList_store_part hw 38 x y rfl dst rfl b 0 (rA r' s') hx hy 38 (rA r s) hB.1 (rA_info ok) (by rw [rA_size ok, rA_size hB.2]; exact Nat.le_refl _) (rA_one' r' h1) (rA r' s') ?_ fun w' k c _ => h w' (H.upd u (Chg.of_but c) ⟨k, ok⟩ fun _ e => .inl e)
  rw [List.take_zero, List.nil_append, Nat.zero_add, List.drop_of_length_le (by rw [Array.length_toList, rA_size ok, rA_size hB.2]; exact Nat.le_refl _), List.append_nil]
theorem rA_list (r : RD) (s : Value) : (rA r s).toList = encU r.id ++ [.int .i64 r.N, .int .i64 r.R, s] := by simp [rA, recA]
theorem flds_info : (Try.prog.info? 36).map (·.size) = some 1 := by kernel_rfl
theorem st_F (H : St w0 w Γ) (hw : Region.wanted (⟨dst, .store 36 x y, typ, pos, af, gd⟩ : Oper) (yielded ops a.tmps) = true) (hx : a.eval x = .pointer (some ⟨b, 18, none⟩)) (hy : a.eval y = s')
    (u : Upd Γ (Res.rc b r s) (Res.rc b r s') Γ') (h1 : ∃ ad n c, s' = .slice ad n c) (h : ∀ w', St w0 w' Γ' → wpList Try.prog ops Q rest (a.put dst undef) w') : wpList Try.prog ops Q (⟨dst, .store 36 x y, typ, pos, af, gd⟩ :: rest) a w := by
  have hB : (Res.rc b r s).holds w := H.holds _ u.mem
  have hl : (encU r.id).length = 16 := by rw [encU_length]; exact hB.2
  obtain ⟨ad, n, c, rfl⟩ := h1
  refine BigFrame.wpList_want hw fun K hK => ?_
  unfold Oper.wp execOp
  simp only [hx, hy, Instr.storeAt, Instr.sureAddr, Sem.run_bind, Sem.run_pure, Result.andThen_ok, run_store_one (ty := 36) (off := 18) (v := .slice ad n c) hB.1 (by rw [rA_size hB.2]; decide) rfl rfl flds_info]
  have e : ((rA r s).toList.take 18 ++ [Value.slice ad n c] ++ (rA r s).toList.drop (18 + 1)).toArray = rA r (.slice ad n c) := by
    apply Array.toList_inj.1
    rw [rA_list, rA_list, List.take_append, List.drop_append, hl]
    simp [List.take_of_length_le (show (encU r.id).length ≤ 18 by omega), List.drop_of_length_le (show (encU r.id).length ≤ 19 by omega)]
  rw [e]
  refine hK _ _ (h _ (H.upd u (Chg.of_but ((But.refl _ _).setRow _)) ⟨Blk.setRow hB.1 _, hB.2⟩ fun _ e => .inl e))
theorem st_dead (H : St w0 w Γ) (hw : Region.wanted (⟨dst, .store 35 x y, typ, pos, af, gd⟩ : Oper) (yielded ops a.tmps) = true) (hx : a.eval x = .pointer (some ⟨b, 16, none⟩)) (hy : a.eval y = .agg #[.int .i64 N', .int .i64 R'])
    (u : Upd Γ (Res.rc b r s) (Res.rc b ⟨r.id, N', R', r.f⟩ s) Γ') (h : ∀ w', St w0 w' Γ' → wpList Try.prog ops Q rest (a.put dst undef) w') : wpList Try.prog ops Q (⟨dst, .store 35 x y, typ, pos, af, gd⟩ :: rest) a w := by
  have hB : (Res.rc b r s).holds w := H.holds _ u.mem
  have hl : (encU r.id).length = 16 := by rw [encU_length]; exact hB.2
  refine wpList_store_part hw 35 x y rfl dst rfl b 16 _ hx hy 38 (rA r s) hB.1 stamp_info (by rw [rA_size hB.2]; simp) (by simp [Value.oneCell']) (rA ⟨r.id, N', R', r.f⟩ s) ?_ fun w' k c _ => h w' (H.upd u (Chg.of_but c) ⟨k, hB.2⟩ fun _ e => .inl e)
  apply Array.toList_inj.1
  rw [rA_list, rA_list, List.take_append, List.drop_append, hl]
  simp [List.take_of_length_le (show (encU r.id).length ≤ 16 by omega), List.drop_of_length_le (show (encU r.id).length ≤ 18 by omega)]
theorem st_id (H : St w0 w Γ) (hw : Region.wanted (⟨dst, .store 33 x y, typ, pos, af, gd⟩ : Oper) (yielded ops a.tmps) = true) (hx : a.eval x = .pointer (some ⟨b, 0, none⟩)) (hy : a.eval y = .agg (idA r')) (ok : r'.ok)
    (u : Upd Γ (Res.rc b r s) (Res.rc b ⟨r'.id, r.N, r.R, r.f⟩ s) Γ') (h : ∀ w', St w0 w' Γ' → wpList Try.prog ops Q rest (a.put dst undef) w') : wpList Try.prog ops Q (⟨dst, .store 33 x y, typ, pos, af, gd⟩ :: rest) a w := by
  have hB : (Res.rc b r s).holds w := H.holds _ u.mem
  exact wpList_store_part hw 33 x y rfl dst rfl b 0 _ hx hy 38 (rA r s) hB.1 (idA_info ok) (by rw [rA_size hB.2, idA_size ok]; decide) (idA_one r') _ (rA_named r r' s hB.2 ok) fun w' k c _ => h w' (H.upd u (Chg.of_but c) ⟨k, ok⟩ fun _ e => .inl e)
theorem al_cel (H : St w0 w Γ) (h : ∀ w' b, St w0 w' (Res.blk b 46 #[.int .i64 0, .int .i64 0, .string ⟨#[]⟩] :: Γ) → wpList Try.prog ops Q rest (a.put dst (.pointer (some ⟨b, 0, none⟩))) w') : wpList Try.prog ops Q (⟨dst, .alloc 46, typ, pos, af, none⟩ :: rest) a w := arm_alloc H cell_zero rfl h
theorem fld_zero : (Try.prog.info? 51).map (·.zero) = some (some (.agg #[.int .i64 0, .int .i64 0, .int .i64 0, .string ⟨#[]⟩])) := by kernel_rfl
theorem stp_zero : (Try.prog.info? 35).map (·.zero) = some (some (.agg #[.int .i64 0, .int .i64 0])) := by kernel_rfl
theorem al_fld (H : St w0 w Γ) (h : ∀ w' b, St w0 w' (Res.blk b 51 #[.int .i64 0, .int .i64 0, .int .i64 0, .string ⟨#[]⟩] :: Γ) → wpList Try.prog ops Q rest (a.put dst (.pointer (some ⟨b, 0, none⟩))) w') : wpList Try.prog ops Q (⟨dst, .alloc 51, typ, pos, af, none⟩ :: rest) a w := arm_alloc H fld_zero rfl h
theorem al_stp (H : St w0 w Γ) (h : ∀ w' b, St w0 w' (Res.blk b 35 #[.int .i64 0, .int .i64 0] :: Γ) → wpList Try.prog ops Q rest (a.put dst (.pointer (some ⟨b, 0, none⟩))) w') : wpList Try.prog ops Q (⟨dst, .alloc 35, typ, pos, af, none⟩ :: rest) a w := arm_alloc H stp_zero rfl h
variable {t ty : TypeId} {v v' : Value}
theorem al_one {z : Value} (H : St w0 w Γ) (hz : (Try.prog.info? ty).map (·.zero) = some (some z)) (hc : z.cells = #[z]) (h : ∀ w' b, St w0 w' (Res.blk b ty #[z] :: Γ) → wpList Try.prog ops Q rest (a.put dst (.pointer (some ⟨b, 0, none⟩))) w') : wpList Try.prog ops Q (⟨dst, .alloc ty, typ, pos, af, none⟩ :: rest) a w := arm_alloc H hz hc h
theorem st_cel (H : St w0 w Γ) (hw : Region.wanted (⟨dst, .store 46 x y, typ, pos, af, gd⟩ : Oper) (yielded ops a.tmps) = true) (hx : a.eval x = .pointer (some ⟨b, 0, none⟩)) (hy : a.eval y = .agg #[.int .i64 N', .int .i64 R', .string S'])
    (u : Upd Γ (Res.blk b t #[.int .i64 N, .int .i64 R, .string S]) (Res.blk b t #[.int .i64 N', .int .i64 R', .string S']) Γ') (h : ∀ w', St w0 w' Γ' → wpList Try.prog ops Q rest (a.put dst undef) w') : wpList Try.prog ops Q (⟨dst, .store 46 x y, typ, pos, af, gd⟩ :: rest) a w :=
  arm_st H hw hx hy u cell_info (Nat.le_refl _) cell_one rfl h
theorem st_fld (H : St w0 w Γ) (hw : Region.wanted (⟨dst, .store 51 x y, typ, pos, af, gd⟩ : Oper) (yielded ops a.tmps) = true) (hx : a.eval x = .pointer (some ⟨b, 0, none⟩)) (hy : a.eval y = .agg #[.int .i64 no', .int .i64 N', .int .i64 R', .string S'])
    (u : Upd Γ (Res.blk b t #[.int .i64 no, .int .i64 N, .int .i64 R, .string S]) (Res.blk b t #[.int .i64 no', .int .i64 N', .int .i64 R', .string S']) Γ') (h : ∀ w', St w0 w' Γ' → wpList Try.prog ops Q rest (a.put dst undef) w') : wpList Try.prog ops Q (⟨dst, .store 51 x y, typ, pos, af, gd⟩ :: rest) a w :=
  arm_st H hw hx hy u field_info (Nat.le_refl _) (by simp [Value.oneCell']) rfl h
theorem st_stamp (H : St w0 w Γ) (hw : Region.wanted (⟨dst, .store 35 x y, typ, pos, af, gd⟩ : Oper) (yielded ops a.tmps) = true) (hx : a.eval x = .pointer (some ⟨b, 0, none⟩)) (hy : a.eval y = .agg #[.int .i64 N', .int .i64 R'])
    (u : Upd Γ (Res.blk b t #[.int .i64 N, .int .i64 R]) (Res.blk b t #[.int .i64 N', .int .i64 R']) Γ') (h : ∀ w', St w0 w' Γ' → wpList Try.prog ops Q rest (a.put dst undef) w') : wpList Try.prog ops Q (⟨dst, .store 35 x y, typ, pos, af, gd⟩ :: rest) a w :=
  arm_st H hw hx hy u stamp_info (Nat.le_refl _) (by simp [Value.oneCell']) rfl h
/-- A single variable. -/
theorem st_one (H : St w0 w Γ) (hw : Region.wanted (⟨dst, .store ty x y, typ, pos, af, gd⟩ : Oper) (yielded ops a.tmps) = true) (hx : a.eval x = .pointer (some ⟨b, 0, none⟩)) (hy : a.eval y = v')
    (u : Upd Γ (Res.blk b t #[v]) (Res.blk b t #[v']) Γ') (hi : (Try.prog.info? ty).map (·.size) = some 1) (hv : v'.cells = #[v']) (h1 : v'.oneCell' = true) (h : ∀ w', St w0 w' Γ' → wpList Try.prog ops Q rest (a.put dst undef) w') : wpList Try.prog ops Q (⟨dst, .store ty x y, typ, pos, af, gd⟩ :: rest) a w :=
  arm_st1 H hw hx hy u hi Nat.zero_lt_one hv h1 rfl h
end
section
variable {ops : Array Oper} {md : Region.Mode} {a : Act} {w0 w : World} {Q : Exit → Act → World → Prop} {Γ : List Res} {P : Program}
/-- A region that draws its order, with a new variable that hangs on nothing. -/
theorem wp_float_st (H : St w0 w Γ) {id : Nat} {l : List Oper} (n : Nat) (ty : TypeId) (d : Tmp) (aE : Act) {z : Value} {cs : Array Value} (hm : P.follows .mixedOrders = true)
    (hB : (Region.lexTailB .any (strikeL n l).toArray (n + 1) && oneSlot (strikeL n l).toArray && blindTo l.toArray n && Region.noSelect l.toArray) = true)
    (hon : ((l[n]?).map fun o => (o.op, o.dst)) = some (.alloc ty, some d)) (hz : (P.info? ty).map (·.zero) = some (some z)) (hcs : z.cells = cs)
    (hlex : ∀ T : After w, wpQuiet P (strikeL n l).toArray (fun w' => ∃ x : After T.w, w' = x.w) (fun a' => a' = aE) ((strikeL n l).take (n + 1)) a)
    (hK : ∀ w' b, St w0 w' (Res.blk b ty cs :: Γ) → wpList P l.toArray Q (l.drop (n + 1)) (aE.put (some d) (.pointer (some ⟨b, 0, none⟩))) w') : (Code.region id l.toArray true).wp P Q a w :=
  wp_float_tail n ty d aE hm hB hon hz hcs hlex fun g x hg hb => hK x.w g (H.new x.h hb fun _ e => by cases e; exact hg)
theorem St.recOf {w0 w : World} {Γ : List Res} {b : Nat} {r : RD} {s : Value} (H : St w0 w (Res.blk b 38 (rA r s) :: Γ)) (ok : r.ok) : St w0 w (Res.rc b r s :: Γ) :=
  H.upd (Upd.head _ _ _) ⟨rfl, rfl, rfl, Nat.le_refl _, fun _ _ _ => rfl⟩ ⟨H.get List.mem_cons_self, ok⟩ fun _ e => .inl e
end
end Go.Proofs.Ytolbmemogoojhaa
