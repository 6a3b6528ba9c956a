/- Two books joined, where they may be. -/
import Derived.Test.YtolbmemogoojhaaBookG
import Derived.Test.YtolbmemogoojhaaSlotsM
namespace Go.Proofs.Ytolbmemogoojhaa
open Go Go.RowKit Go.Deep
set_option linter.unusedVariables false
set_option linter.unusedSimpArgs false
set_option maxRecDepth 100000
def Made (W0 : World) (f : Value → Value) (R : Value → Res) (W : World) (v : Value) : Prop := ∃ s, v = f s ∧ (R s).holds W ∧ ∀ b, (R s).foot b → W0.heap.size ≤ b
theorem Res.keep {R : Res} {w w' : World} (h : R.holds w) (hb : Below w.heap.size w w') : R.holds w' := R.stay h fun b hf => hb.block b (R.lt h hf)
theorem Made.keep {W0 : World} {f : Value → Value} {R : Value → Res} (w w' : World) (v : Value) (hb : Below w.heap.size w w') (h : Made W0 f R w v) : Made W0 f R w' v := by
  obtain ⟨s, e, h1, h2⟩ := h
  exact ⟨s, e, Res.keep h1 hb, h2⟩
section
variable {P : Program} {ops : Array Oper} {rest : List Oper} {a : Act} {w0 w : World} {Q : Exit → Act → World → Prop} {Γ : List Res} {dst : Option Tmp} {typ : TypeId} {x y : Operand} {pos : String} {af : Array Edge}
/-- A slice of two single cells that is written out. -/
theorem arm_bslice2 (H : St w0 w Γ) {t e : TypeId} {v v' z : Value} {bytes : Nat} (hu : P.underlying t = some (.slice e)) (hinfo : (P.info? e).map (fun i => (i.zero, i.size, i.bytes)) = some (some z, 1, bytes)) (hx : a.eval x = v) (hy : a.eval y = v') (hv : v.cells = #[v]) (hv' : v'.cells = #[v'])
    (h : ∀ w' b, St w0 w' (Res.blk b e #[v, v'] :: Γ) → wpList P ops Q rest (a.put dst (.slice (some ⟨b, 0, none⟩) 2 2)) w') : wpList P ops Q (⟨dst, .buildSlice t 2 #[(0, x), (1, y)], typ, pos, af, none⟩ :: rest) a w := by
  obtain ⟨i, hi, hzz⟩ := Option.map_eq_some_iff.1 hinfo
  simp only [Prod.mk.injEq] at hzz
  obtain ⟨hz, hsi, hby⟩ := hzz
  refine wpList_buildSlice rfl t e 2 #[(0, x), (1, y)] rfl #[v, v'] i z hu hi hz (by rw [hsi]; decide) (by rw [hsi]; decide) ?_ (h _ _ (H.new (bel_alloc (Below.refl _ _) _) (Blk.new _ _ _) fun _ e => by cases e; exact Nat.le_refl _))
  have hf := Go.Great.fill_flat [v, v'] ((Array.range (2 * i.size)).map (z.cells[· % z.cells.size]!)) (fun u hu => by simp only [List.mem_cons, List.not_mem_nil, or_false] at hu; rcases hu with rfl | rfl; exact hv; exact hv') (by simp [hsi])
  rw [hsi] at hf ⊢
  simp only [List.map_toArray, List.map_cons, List.map_nil, hx, hy]
  simpa using hf
end
section
variable {ops : Array Oper} {rest : List Oper} {a : Act} {w0 w : World} {Q : Exit → Act → World → Prop} {Γ : List Res} {dst : Option Tmp} {typ : TypeId} {x y : Operand} {pos : String} {af : Array Edge}
theorem info_id3 : (Try.prog.info? 33).map (fun i => (i.zero, i.size, i.bytes)) = some (some (.agg (encU zid).toArray), 16, 16) := by kernel_rfl
theorem size_id0 : (Value.agg (encU zid).toArray).cells.size = 16 := encU_arr16 zid_length
theorem idsL_single (k : IDK) : idsL [k] = encU k.1 := by simp [idsL, encQ]
theorem bs_id {r : RD} (ok : r.ok) (H : St w0 w Γ) (hx : a.eval x = .agg (idA r)) (h : ∀ w' b, St w0 w' (Res.row 33 16 (.slice (some ⟨b, 0, none⟩) 1 1) 1 (idsL [⟨r.id, ok⟩]) :: Γ) → wpList Try.prog ops Q rest (a.put dst (.slice (some ⟨b, 0, none⟩) 1 1)) w') : wpList Try.prog ops Q (⟨dst, .buildSlice 84 1 #[(0, x)], typ, pos, af, none⟩ :: rest) a w :=
  arm_bslice1 H hx (cs := idsL [⟨r.id, ok⟩]) (by rw [show idsL [⟨r.id, ok⟩] = encU r.id from idsL_single ⟨r.id, ok⟩]; simp [Value.cells, idA]) Try.underlying84 info_id3 size_id0 (by rw [show idsL [⟨r.id, ok⟩] = encU r.id from idsL_single ⟨r.id, ok⟩, encU_length]; exact ok) (by decide) (by decide) h
theorem bs_rec {r : RD} {s : Value} (ok : r.ok) (H : St w0 w Γ) (hx : a.eval x = .agg (rA r s)) (h : ∀ w' b, St w0 w' (Res.row 38 19 (.slice (some ⟨b, 0, none⟩) 1 1) 1 (recsL [(r, s)]) :: Γ) → wpList Try.prog ops Q rest (a.put dst (.slice (some ⟨b, 0, none⟩) 1 1)) w') : wpList Try.prog ops Q (⟨dst, .buildSlice 22 1 #[(0, x)], typ, pos, af, none⟩ :: rest) a w :=
  arm_bslice1 H hx (cs := recsL [(r, s)]) (by simp [Value.cells, recsL]) Try.underlying22 info_rec3 size_rec0 (by rw [recsL_length (fun p hp => by rw [List.mem_singleton.1 hp]; exact ok)]; rfl) (by decide) (by decide) h
end
theorem info_rs3 : (Try.prog.info? 22).map (fun i => (i.zero, i.size, i.bytes)) = some (some (.slice none 0 0), 1, 24) := by kernel_rfl
theorem zero_recW (w : World) : (zeroValue 38).run Try.prog w = .ok (.agg (rA noRD (.slice none 0 0))) w := by kernel_rfl
theorem St.rowSl {w0 w : World} {Γ : List Res} (H : St w0 w Γ) {e : TypeId} {size n : Nat} {v : Value} {cs : List Value} (hm : Res.row e size v n cs ∈ Γ) : ∃ a c, v = .slice a n c := by
  obtain ⟨_, ⟨rfl, rfl⟩ | ⟨g, cap, cur, rfl, _⟩⟩ := H.get hm
  · exact ⟨_, _, rfl⟩
  · exact ⟨_, _, rfl⟩
/-- An element of a row of records: where it lies. -/
theorem recs_row_at {w : World} {a : Option Addr} {n c : Nat} {l : RS} (h : Row w 19 (.slice a n c) n (recsL l)) (ok : ∀ p ∈ l, p.1.ok) {j : Nat} {p : RD × Value} (hj : l[j]? = some p) : ∃ b off, a = some ⟨b, off, none⟩ ∧ RecAt w b (off + j * 19) p.1 p.2 := by
  have hmem := List.mem_of_getElem? hj
  obtain ⟨hl, a', c', he, _, _, _, h4⟩ := h
  injection he with e1 e2 e3
  subst e1
  have hjl := (List.getElem?_eq_some_iff.1 hj).1
  have hlen := recsL_length ok
  obtain ⟨b, off, rfl, hc⟩ := h4 (by rw [hlen]; omega)
  exact ⟨b, off, rfl, fun k u hk => by rw [Nat.add_assoc]; exact hc _ _ (recsL_get ok hj k u hk), ok p hmem⟩
theorem cn_lenB (g : Int → Option C3) (s n : Nat) : (cn g s n).length ≤ n := by
  unfold cn
  refine Nat.le_trans (List.length_filterMap_le _ _) ?_
  simp
theorem rMay_few {r : RD} (h : rMay r = true) : r.f.length ≤ 8 := by
  have := asc_cn 8 0 r.f (by simpa using rMay_asc h)
  rw [this]; exact cn_lenB _ 0 8
def Pj (L : RS) (j : Nat) : BK := bPuts [] ((L.take j).map (·.1))
theorem Pj_step {L : RS} {j : Nat} {p : RD × Value} (h : L[j]? = some p) : Pj L (j + 1) = bPut (Pj L j) p.1 := by
  unfold Pj; rw [List.take_add_one, h]; simp [bPuts]
theorem bPut_le : ∀ (l : BK) (r : RD), (bPut l r).length ≤ l.length + 1
  | [], r => by simp [bPut]
  | y :: l, r => by
    have := bPut_le l r
    unfold bPut
    split
    · simp
    · split
      · simp
      · simp; omega
theorem bPuts_le : ∀ (l m : BK), (bPuts m l).length ≤ m.length + l.length
  | [], m => by simp [bPuts]
  | r :: l, m => by
    have h1 := bPuts_le l (bPut m r)
    have h2 := bPut_le m r
    show (bPuts (bPut m r) l).length ≤ _
    simp only [List.length_cons]; omega
def Reads (R : Res) (m : AL) : Prop := ∀ W, R.holds W → ∀ p ∈ m, Flds W p.2.2 p.2.1.f
theorem ms_rec {ops : Array Oper} {rest : List Oper} {a : Act} {w0 w : World} {Q : Exit → Act → World → Prop} {Γ Γ' : List Res} {dst : Option Tmp} {typ : TypeId} {x y z : Operand} {pos : String} {af : Array Edge} {b : Nat} {m : List (IDK × Value)} {v : Value} (k : IDK) (H : St w0 w Γ) (hx : a.eval x = .map (some b)) (hk : a.eval y = encK k) (hv : a.eval z = v) (u : Upd Γ (Res.map b encK m) (Res.map b encK (gPut m k v)) Γ')
    (h : ∀ w', St w0 w' Γ' → wpList Try.prog ops Q rest (a.put dst undef) w') : wpList Try.prog ops Q (⟨dst, .mapUpdate 83 x y z, typ, pos, af, none⟩ :: rest) a w := arm_mapset H hx hk hv u keyID Try.underlying83 h
theorem rs_one : (Try.prog.info? 22).map (·.size) = some 1 := by kernel_rfl
abbrev RD.key (r : RD) (ok : r.ok) : IDK := ⟨r.id, ok⟩
theorem St.begin {w0 w : World} {v z n1 n2 n3 n4 : Res} {e : TypeId} {size : Nat} (H : St w0 w [v, n1, z, n2, n3, n4]) : St w0 w [Res.row e size (.slice none 0 0) 0 [], v, z, n2, Res.none] :=
  St.sub (Γ := [Res.row e size (.slice none 0 0) 0 [], v, n1, z, n2, n3, n4, Res.none]) ((H.addNone.perm (List.perm_append_comm (l₁ := [v, n1, z, n2, n3, n4]) (l₂ := [Res.none]))).nilRow e size) (by repeat (first | with_reducible exact List.Sublist.refl _ | with_reducible refine List.Sublist.cons_cons _ ?_ | refine List.Sublist.cons _ ?_))
theorem Reads.get {R : Res} {m : AL} (h : Reads R m) {W : World} (hW : R.holds W) {p : IDK × (RD × Value)} (hp : p ∈ m) : Flds W p.2.2 p.2.1.f := h W hW p hp
theorem Reads.put {R : Res} {m : AL} (h : Reads R m) {k : IDK} {r : RD} {s : Value} : Reads ((Res.row 51 4 s r.f.length (fieldsL r.f)).and R) (alPut m k (r, s)) := fun W hW p hp => by
  rcases alPut_mem hp with hp | rfl
  · exact h W hW.2 p hp
  · exact Res.row_reads hW.1
theorem St.absorb {w0 w : World} {a n1 n2 n3 n4 R : Res} (h : St w0 w [a, n1, n2, n3, n4, R]) : St w0 w [n1, n2, n3, n4, a.and R] :=
  (St.merge (h.perm (Γ' := [a, R, n1, n2, n3, n4]) (.cons _ (List.perm_append_comm (l₁ := [R]) (l₂ := [n1, n2, n3, n4]))))).perm (List.perm_append_comm (l₁ := [n1, n2, n3, n4]) (l₂ := [a.and R]))
theorem St.two {w0 w : World} {Γ : List Res} (H : St w0 w Γ) {b : Nat} {t : TypeId} {v v' : Value} (hm : Res.blk b t #[v, v'] ∈ Γ) : Sub w b 0 #[v] ∧ Sub w b 1 #[v'] := by
  have h := H.arr hm
  refine ⟨fun j u hj => ?_, fun j u hj => ?_⟩
  · match j with
    | 0 => exact h 0 u (by simpa using hj)
    | _ + 1 => simp at hj
  · match j with
    | 0 => have := h 1 u (by simpa using hj); simpa using this
    | _ + 1 => simp at hj
theorem ids_row_at {w : World} {a : Option Addr} {n c : Nat} {l : List IDK} (h : Row w 16 (.slice a n c) n (idsL l)) {j : Nat} {k : IDK} (hj : l[j]? = some k) : ∃ b off, a = some ⟨b, off, none⟩ ∧ Sub w b (off + j * 16) (encU k.1).toArray := by
  obtain ⟨hl, a', c', he, _, _, _, h4⟩ := h
  injection he with e1 e2 e3
  subst e1
  have hjl := (List.getElem?_eq_some_iff.1 hj).1
  obtain ⟨b, off, rfl, hc⟩ := h4 (by rw [idsL_len]; omega)
  refine ⟨b, off, rfl, fun i u hi => ?_⟩
  have hi16 : i < 16 := by have := (Array.getElem?_eq_some_iff.1 hi).1; rw [encU_arr16 k.2] at this; exact this
  rw [Nat.add_assoc]
  refine hc _ _ ?_
  rw [idsL_get, show (j * 16 + i) / 16 = j by omega, show (j * 16 + i) % 16 = i by omega, hj]
  simpa [encQ] using hi
section
variable {ops : Array Oper} {rest : List Oper} {a : Act} {w0 w : World} {Q : Exit → Act → World → Prop} {Γ Γ' : List Res} {dst : Option Tmp} {typ t : TypeId} {x y : Operand} {pos : String} {af : Array Edge} {gd : Option (Nat × Bool)} {b off : Nat}
theorem id_inf {l : List UInt8} (h : l.length = 16) : (Try.prog.info? 33).map (·.size) = some (encU l).toArray.size := info_id (by rw [encU_arr16 h])
theorem ld_idS {k : IDK} (hw : Region.wanted (⟨dst, .load 33 x, typ, pos, af, gd⟩ : Oper) (yielded ops a.tmps) = true) (hx : a.eval x = .pointer (some ⟨b, off, none⟩)) (h : Sub w b off (encU k.1).toArray) (q : wpList Try.prog ops Q rest (a.put dst (encK k)) w) : wpList Try.prog ops Q (⟨dst, .load 33 x, typ, pos, af, gd⟩ :: rest) a w :=
  arm_ld hw hx h Try.underlying33 rfl (id_inf k.2) q
theorem id_zero3 : (Try.prog.info? 33).map (·.zero) = some (some (.agg (encU zid).toArray)) := by kernel_rfl
theorem al_idz (H : St w0 w Γ) (h : ∀ w' b, St w0 w' (Res.blk b 33 (encU zid).toArray :: Γ) → wpList Try.prog ops Q rest (a.put dst (.pointer (some ⟨b, 0, none⟩))) w') : wpList Try.prog ops Q (⟨dst, .alloc 33, typ, pos, af, none⟩ :: rest) a w := arm_alloc H id_zero3 rfl h
theorem st_idb {k : IDK} {z : List UInt8} (hz : z.length = 16) (H : St w0 w Γ) (hw : Region.wanted (⟨dst, .store 33 x y, typ, pos, af, gd⟩ : Oper) (yielded ops a.tmps) = true) (hx : a.eval x = .pointer (some ⟨b, 0, none⟩)) (hy : a.eval y = encK k)
    (u : Upd Γ (Res.blk b t (encU z).toArray) (Res.blk b t (encU k.1).toArray) Γ') (h : ∀ w', St w0 w' Γ' → wpList Try.prog ops Q rest (a.put dst undef) w') : wpList Try.prog ops Q (⟨dst, .store 33 x y, typ, pos, af, gd⟩ :: rest) a w := by
  have e1 := encU_arr16 k.2
  have e2 := encU_arr16 hz
  refine arm_st H hw hx hy u (id_inf k.2) (by rw [e1, e2]; decide) (Array.all_eq_true_iff_forall_mem.2 fun v hv => encU_one _ v (by simpa using hv)) ?_ h
  rw [List.take_zero, List.nil_append, Nat.zero_add, List.drop_of_length_le (by rw [e1, Array.length_toList, e2]; exact Nat.le_refl _), List.append_nil]
end
end Go.Proofs.Ytolbmemogoojhaa
