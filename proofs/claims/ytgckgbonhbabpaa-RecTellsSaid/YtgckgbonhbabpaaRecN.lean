/- Records: the laws of RecDead in plain words; fields and stamps in blocks. -/
import Derived.Test.YtgckgbonhbabpaaRecM
namespace Go.Proofs.Ytgckgbonhbabpaa
open Go Go.RowKit Go.Deep
set_option linter.unusedVariables false
set_option linter.unusedSimpArgs false
set_option maxRecDepth 100000
theorem quiet_load_one {P : Program} {o : Oper} {a : Act} {C : World → Prop} {K : Act → Prop} (ty : TypeId) (x : Operand) (ho : o.op = .load ty x) (dst : Option Tmp) (hdst : o.dst = dst)
    (b off : Nat) (hx : a.eval x = .pointer (some ⟨b, off, none⟩)) (v : Value) (d : TypeDesc) (hg : ∀ w, C w → Sub w b off #[v])
    (hu : P.underlying ty = some d) (hd : (match d with | .struct _ | .array _ _ => true | _ => false) = false) (h : K (a.put dst v)) : o.quiet P a C K := by
  subst hdst
  refine ⟨v, fun w hw => ?_, h⟩
  unfold Oper.quietAt execOp
  simp only [ho, hx, Instr.loadAt, Instr.sureAddr, Sem.run_bind, Sem.run_pure, Result.andThen_ok, run_load_one w b off ty v d (hg w hw) hu hd]
  exact ⟨rfl, rfl⟩
theorem fld_subs {w : World} {b : Nat} {t : TypeId} {i N R : Int} {S : ByteArray} (h : Blk w b t #[.int .i64 i, .int .i64 N, .int .i64 R, .string S]) :
    Sub w b 0 #[.int .i64 i, .int .i64 N, .int .i64 R, .string S] ∧ Sub w b 0 #[.int .i64 i] ∧ Sub w b 1 #[.int .i64 N, .int .i64 R, .string S] ∧ Sub w b 1 #[.int .i64 N, .int .i64 R] ∧ Sub w b 3 #[.string S] := by
  refine ⟨h.subA, h.subOne 0 rfl, fun j u hj => ?_, fun j u hj => ?_, h.subOne 3 rfl⟩
  · match j, hj with
    | 0, hj => rw [h.cell]; simpa using hj
    | 1, hj => rw [h.cell]; simpa using hj
    | 2, hj => rw [h.cell]; simpa using hj
    | j + 3, hj => simp at hj
  · match j, hj with
    | 0, hj => rw [h.cell]; simpa using hj
    | 1, hj => rw [h.cell]; simpa using hj
    | j + 2, hj => simp at hj
theorem field_info {i N R : Int} {s : ByteArray} : (Try.prog.info? 65).map (·.size) = some (#[Value.int .i64 i, .int .i64 N, .int .i64 R, .string s]).size := by kernel_rfl
theorem built_id_f {A : Array Value} (h : A.size = 16) (a : Option Addr) (n c : Nat) : Try.prog.built 54 [(0, .agg A), (2, .slice a n c)] = some (recA A 0 0 (.slice a n c)) := by
  obtain ⟨a0, a1, a2, a3, a4, a5, a6, a7, a8, a9, a10, a11, a12, a13, a14, a15, rfl⟩ := arr16 h
  kernel_rfl
theorem built_all {A : Array Value} (h : A.size = 16) (N R : Int) (a : Option Addr) (n c : Nat) : Try.prog.built 54 [(0, .agg A), (1, .agg #[.int .i64 N, .int .i64 R]), (2, .slice a n c)] = some (recA A N R (.slice a n c)) := by
  obtain ⟨a0, a1, a2, a3, a4, a5, a6, a7, a8, a9, a10, a11, a12, a13, a14, a15, rfl⟩ := arr16 h
  kernel_rfl
theorem dead_law {a d o : RD} {i sN sR cN cR : Int} {cS : ByteArray} (ha : rMay a = true) (hd : rMay d = true) (ho : rMay o = true) (ed : d = ⟨a.id, sN, sR, []⟩) (eo : o = ⟨a.id, 0, 0, [(i, cN, cR, cS)]⟩)
    (hall : ∀ f ∈ a.f, stLess sN sR f.2.1 f.2.2.1 = false) :
    rCan a d = true ∧ rCan (rJoin a d) o = true ∧ (rJoin a d).f = [] ∧ fFindP (rJoin (rJoin a d) o).f i = if stLess (rJoin a d).N (rJoin a d).R cN cR = true then (cN, cR, cS, true) else (0, 0, ⟨#[]⟩, false) := by
  have hid : a.id = d.id := by rw [ed]
  have hio : a.id = o.id := by rw [eo]
  have e1 := join_eq ha hd hid
  have m1 := both_may ha hd
  have hx : (rBoth a d).f = [] := by
    refine asc_ext (both_asc a d) trivial fun k => ?_
    rw [both_find ha hd, show fFind d.f k = none by rw [ed]; rfl, comb_none]
    cases hk : fFind a.f k with
    | none => rfl
    | some c =>
      have h1 := hall _ (fFind_mem hk)
      have h2 := mx_ge2 a.N a.R d.N d.R
      have h3 : stLess (rBoth a d).N (rBoth a d).R d.N d.R = false := h2
      rw [ed] at h3
      simp only at h1 h3
      rw [live_dead]
      · rfl
      · rw [← ed] at h3; rw [stl_f] at *; omega
  have e2 := join_eq m1 ho (show (rBoth a d).id = o.id from hio)
  rw [e1, e2]
  refine ⟨can_iff.2 ⟨ha, hd, hid⟩, can_iff.2 ⟨m1, ho, hio⟩, hx, ?_⟩
  have hg := stMay_ge (rMay_iff.1 m1).1
  have hN : (rBoth (rBoth a d) o).N = (rBoth a d).N ∧ (rBoth (rBoth a d) o).R = (rBoth a d).R := by
    have : stLess (rBoth a d).N (rBoth a d).R o.N o.R = false := by rw [eo, stl_f]; simp only; omega
    have e : ∀ N R N' R' : Int, stLess N R N' R' = false → mxN N R N' R' = N ∧ mxR N R N' R' = R := fun N R N' R' h => by unfold mxN mxR; rw [h]; exact ⟨rfl, rfl⟩
    exact e _ _ _ _ this
  unfold fFindP
  rw [both_find m1 ho, hx, show fFind [] i = none from rfl, show fFind o.f i = some (cN, cR, cS) by rw [eo]; simp [fFind], hN.1, hN.2]
  show (match live _ _ (some (cN, cR, cS)) with | some c => _ | none => _) = _
  cases hs : stLess (rBoth a d).N (rBoth a d).R cN cR with
  | false => rw [live_dead (by simpa using hs)]; simp
  | true => rw [live_some (by simpa using hs)]; simp
end Go.Proofs.Ytgckgbonhbabpaa
