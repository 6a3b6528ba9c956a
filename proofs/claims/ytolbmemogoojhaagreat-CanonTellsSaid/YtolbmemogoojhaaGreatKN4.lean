/- The same rule, the frame written out by a mask. No program. -/
import Derived.Test.YtolbmemogoojhaaGreatKN1
import Derived.Test.YtolbmemogoojhaaGreatKN3
namespace Go.Proofs.YtolbmemogoojhaaGreat
open Go Go.RowKit Go.Deep
set_option linter.unusedVariables false
set_option linter.unusedSimpArgs false
def fillM : List Bool → (Nat → Value) → Nat → List Value → List Value
  | true :: m, u, k, _ :: l => u k :: fillM m u (k + 1) l
  | false :: m, u, k, c :: l => c :: fillM m u (k + 1) l
  | _, _, _, l => l
def maskB (ds : List Nat) : List Bool → Nat → Nat → Bool
  | b :: m, k, n + 1 => (ds.contains k == b) && maskB ds m (k + 1) n
  | [], k, n + 1 => !(ds.contains k) && maskB ds [] (k + 1) n
  | _, _, 0 => true
theorem fill_mask (ds : List Nat) (u : Nat → Value) : ∀ (l : List Value) (m : List Bool) (k : Nat), maskB ds m k l.length = true → fillR ds u k l = fillM m u k l
  | [], m, k, _ => by cases m with | nil => rfl | cons b m => cases b <;> rfl
  | c :: l, [], k, h => by
    simp only [List.length_cons, maskB, Bool.and_eq_true, Bool.not_eq_true'] at h
    have := fill_mask ds u l [] (k + 1) h.2
    rw [fillR, if_neg (by rw [h.1]; simp), this]
    cases l <;> rfl
  | c :: l, true :: m, k, h => by
    simp only [List.length_cons, maskB, Bool.and_eq_true, beq_iff_eq] at h
    rw [fillR, if_pos h.1, fill_mask ds u l m (k + 1) h.2]; rfl
  | c :: l, false :: m, k, h => by
    simp only [List.length_cons, maskB, Bool.and_eq_true, beq_iff_eq] at h
    rw [fillR, if_neg (by rw [h.1]; simp), fill_mask ds u l m (k + 1) h.2]; rfl
def HopM (P : Program) (l : List Oper) (W : World) (df : List Deferred) (L : List Value) (m : List Bool) (sp : List Spec) (o : Oper) (s : Spec) : Prop :=
  ∀ (u : Nat → Value) (w : World), Below W.heap.size W w → Knows sp w u s.deps → wpList P l.toArray (PostS w o s ⟨(fillM m u 0 L).toArray, df⟩) [o] ⟨(fillM m u 0 L).toArray, df⟩ w
def HopsM (P : Program) (l : List Oper) (W : World) (df : List Deferred) (L : List Value) (m : List Bool) (sp : List Spec) : List Oper → List Spec → Prop
  | o :: r, s :: t => HopM P l W df L m sp o s ∧ HopsM P l W df L m sp r t
  | _, _ => True
theorem hops_cons {P : Program} {l : List Oper} {W : World} {df : List Deferred} {L : List Value} {m : List Bool} {sp : List Spec} {o : Oper} {s : Spec} {r : List Oper} {t : List Spec} (h : HopM P l W df L m sp o s) (k : HopsM P l W df L m sp r t) : HopsM P l W df L m sp (o :: r) (s :: t) := ⟨h, k⟩
theorem stable_nil : Stable [] := fun _ h => (List.not_mem_nil h).elim
theorem stable_cons {s : Spec} {sp : List Spec} (h : ∀ (w w' : World) (v : Value), Below w.heap.size w w' → s.val w v → s.val w' v) (k : Stable sp) : Stable (s :: sp) := fun x hx => by
  rcases List.mem_cons.1 hx with rfl | hx
  · exact h
  · exact k x hx
/-- What is known of all slots behind the head. -/
def KnowsAll (w : World) (u : Nat → Value) : List Spec → Prop
  | [] => True
  | s :: t => (∀ d, s.dst = some d → s.val w (u d)) ∧ KnowsAll w u t
theorem knowsAll_of {w : World} {u : Nat → Value} : ∀ {sp : List Spec}, (∀ (j : Nat) (s : Spec) (d : Tmp), sp[j]? = some s → s.dst = some d → s.val w (u d)) → KnowsAll w u sp
  | [], _ => trivial
  | s :: t, h => ⟨fun d hd => h 0 s d rfl hd, knowsAll_of fun j s d hj hd => h (j + 1) s d (by simpa using hj) hd⟩
section
variable {P : Program} {l : List Oper} {sp : List Spec} {Q : Exit → Act → World → Prop} {L : List Value} {df : List Deferred}
theorem hops_mask {ds : List Nat} {m : List Bool} {w : World} (hmask : maskB ds m 0 L.length = true) : ∀ {r : List Oper} {t : List Spec}, HopsM P l w df L m sp r t → Hops P l w ⟨L.toArray, df⟩ ds sp r t
  | [], _, _ => trivial
  | _ :: _, [], _ => trivial
  | o :: r, s :: t, h => ⟨fun u w' hb hk => by rw [fill_mask ds u L m 0 hmask]; exact h.1 u w' hb hk, hops_mask hmask h.2⟩
theorem wp_slotsM {id : Nat} {w : World} (sp : List Spec) (ds : List Nat) (m : List Bool) (dd : List (Option Tmp × List (Nat × Nat))) (hdd : ddOf sp = dd) (hm : P.follows .mixedOrders = true) (hok : okB l ds dd = true) (hmask : maskB ds m 0 L.length = true) (hsz : (ds.all fun d => decide (d < L.length)) = true) (hst : Stable sp)
    (hops : HopsM P l w df L m sp (l.take sp.length) sp)
    (hfin : ∀ (u : Nat → Value) (w' : World), Below w.heap.size w w' → KnowsAll w' u sp → wpList P l.toArray Q (l.drop sp.length) ⟨(fillM m u 0 L).toArray, df⟩ w') :
    (Code.region id l.toArray true).wp P Q ⟨L.toArray, df⟩ w := by
  subst hdd
  refine wp_slots sp ds hm hok (by simpa using hsz) hst (hops_mask hmask hops) fun u w' hb hk => ?_
  have := hfin u w' hb (knowsAll_of hk)
  rw [← fill_mask ds u L m 0 hmask] at this
  exact this
theorem wp_slotsML {id : Nat} {w : World} (sp : List Spec) (ds : List Nat) (m : List Bool) (dd : List (Option Tmp × List (Nat × Nat))) (k : Nat) {ok : Oper} {sk : Spec} (hdd : ddOf sp = dd) (hm : P.follows .mixedOrders = true) (hok : okL l ds dd k = true) (hmask : maskB ds m 0 L.length = true) (hsz : (ds.all fun d => decide (d < L.length)) = true) (hst : Stable sp)
    (hko : l[k]? = some ok) (hks : sp[k]? = some sk) 
    (hops : HopsM P l w df L m sp (l.take sp.length) sp)
    (hlate : ∀ (u : Nat → Value) (w' : World), Below w.heap.size w w' → Knows sp w' u sk.deps → ∃ v, Yields P l.toArray ok v ⟨(fillM m u 0 L).toArray, df⟩ ∧ sk.val w' v)
    (hfin : ∀ (u : Nat → Value) (w' : World), Below w.heap.size w w' → KnowsAll w' u sp → wpList P l.toArray (fun e a w => e = .normal ∧ Q .normal a w) (l.drop sp.length) ⟨(fillM m u 0 L).toArray, df⟩ w') :
    (Code.region id l.toArray true).wp P Q ⟨L.toArray, df⟩ w := by
  subst hdd
  refine Code.wp_mono (Q := fun e a w => e = .normal ∧ Q .normal a w) (fun e a w h => by obtain ⟨rfl, h⟩ := h; exact h) ?_
  refine wp_slots_late sp ds k hm hok (by simpa using hsz) hst (hops_mask hmask hops) hko hks (fun _ _ _ _ _ h => by cases h.1) (fun u w' hb hk => ?_) fun u w' hb hk => ?_
  · have := hlate u w' hb hk
    rw [← fill_mask ds u L m 0 hmask] at this
    exact this
  · have := hfin u w' hb (knowsAll_of hk)
    rw [← fill_mask ds u L m 0 hmask] at this
    exact this
end
end Go.Proofs.YtolbmemogoojhaaGreat
/- Two books joined, where they may be. -/
namespace Go.Proofs.YtolbmemogoojhaaGreat
open Go Go.RowKit Go.Deep
set_option linter.unusedVariables false
set_option linter.unusedSimpArgs false
set_option maxRecDepth 100000
def Made (W0 : World) (f : Value → Value) (R : Value → Res) (W : World) (v : Value) : Prop := ∃ s, v = f s ∧ (R s).holds W ∧ ∀ b, (R s).foot b → W0.heap.size ≤ b
theorem Res.keep {R : Res} {w w' : World} (h : R.holds w) (hb : Below w.heap.size w w') : R.holds w' := R.stay h fun b hf => hb.block b (R.lt h hf)
theorem Made.keep {W0 : World} {f : Value → Value} {R : Value → Res} (w w' : World) (v : Value) (hb : Below w.heap.size w w') (h : Made W0 f R w v) : Made W0 f R w' v := by
  obtain ⟨s, e, h1, h2⟩ := h
  exact ⟨s, e, Res.keep h1 hb, h2⟩
section
variable {P : Program} {ops : Array Oper} {rest : List Oper} {a : Act} {w0 w : World} {Q : Exit → Act → World → Prop} {Γ : List Res} {dst : Option Tmp} {typ : TypeId} {x y : Operand} {pos : String} {af : Array Edge}
/-- A slice of two single cells that is written out. -/
theorem arm_bslice2 (H : St w0 w Γ) {t e : TypeId} {v v' z : Value} {bytes : Nat} (hu : P.underlying t = some (.slice e)) (hinfo : (P.info? e).map (fun i => (i.zero, i.size, i.bytes)) = some (some z, 1, bytes)) (hx : a.eval x = v) (hy : a.eval y = v') (hv : v.cells = #[v]) (hv' : v'.cells = #[v'])
    (h : ∀ w' b, St w0 w' (Res.blk b e #[v, v'] :: Γ) → wpList P ops Q rest (a.put dst (.slice (some ⟨b, 0, none⟩) 2 2)) w') : wpList P ops Q (⟨dst, .buildSlice t 2 #[(0, x), (1, y)], typ, pos, af, none⟩ :: rest) a w := by
  obtain ⟨i, hi, hzz⟩ := Option.map_eq_some_iff.1 hinfo
  simp only [Prod.mk.injEq] at hzz
  obtain ⟨hz, hsi, hby⟩ := hzz
  refine wpList_buildSlice rfl t e 2 #[(0, x), (1, y)] rfl #[v, v'] i z hu hi hz (by rw [hsi]; decide) (by rw [hsi]; decide) ?_ (h _ _ (H.new (bel_alloc (Below.refl _ _) _) (Blk.new _ _ _) fun _ e => by cases e; exact Nat.le_refl _))
  have hf := Go.Great.fill_flat [v, v'] ((Array.range (2 * i.size)).map (z.cells[· % z.cells.size]!)) (fun u hu => by simp only [List.mem_cons, List.not_mem_nil, or_false] at hu; rcases hu with rfl | rfl; exact hv; exact hv') (by simp [hsi])
  rw [hsi] at hf ⊢
  simp only [List.map_toArray, List.map_cons, List.map_nil, hx, hy]
  simpa using hf
end
section
variable {ops : Array Oper} {rest : List Oper} {a : Act} {w0 w : World} {Q : Exit → Act → World → Prop} {Γ : List Res} {dst : Option Tmp} {typ : TypeId} {x y : Operand} {pos : String} {af : Array Edge}
theorem info_id3 : (Tryz.prog.info? 26).map (fun i => (i.zero, i.size, i.bytes)) = some (some (.agg (encU zid).toArray), 16, 16) := by kernel_rfl
theorem size_id0 : (Value.agg (encU zid).toArray).cells.size = 16 := encU_arr16 zid_length
theorem idsL_single (k : IDK) : idsL [k] = encU k.1 := by simp [idsL, encQ]
theorem bs_id {r : RD} (ok : r.ok) (H : St w0 w Γ) (hx : a.eval x = .agg (idA r)) (h : ∀ w' b, St w0 w' (Res.row 26 16 (.slice (some ⟨b, 0, none⟩) 1 1) 1 (idsL [⟨r.id, ok⟩]) :: Γ) → wpList Tryz.prog ops Q rest (a.put dst (.slice (some ⟨b, 0, none⟩) 1 1)) w') : wpList Tryz.prog ops Q (⟨dst, .buildSlice 75 1 #[(0, x)], typ, pos, af, none⟩ :: rest) a w :=
  arm_bslice1 H hx (cs := idsL [⟨r.id, ok⟩]) (by rw [show idsL [⟨r.id, ok⟩] = encU r.id from idsL_single ⟨r.id, ok⟩]; simp [Value.cells, idA]) Tryz.underlying75 info_id3 size_id0 (by rw [show idsL [⟨r.id, ok⟩] = encU r.id from idsL_single ⟨r.id, ok⟩, encU_length]; exact ok) (by decide) (by decide) h
theorem bs_rec {r : RD} {s : Value} (ok : r.ok) (H : St w0 w Γ) (hx : a.eval x = .agg (rA r s)) (h : ∀ w' b, St w0 w' (Res.row 33 19 (.slice (some ⟨b, 0, none⟩) 1 1) 1 (recsL [(r, s)]) :: Γ) → wpList Tryz.prog ops Q rest (a.put dst (.slice (some ⟨b, 0, none⟩) 1 1)) w') : wpList Tryz.prog ops Q (⟨dst, .buildSlice 22 1 #[(0, x)], typ, pos, af, none⟩ :: rest) a w :=
  arm_bslice1 H hx (cs := recsL [(r, s)]) (by simp [Value.cells, recsL]) Tryz.underlying22 info_rec3 size_rec0 (by rw [recsL_length (fun p hp => by rw [List.mem_singleton.1 hp]; exact ok)]; rfl) (by decide) (by decide) h
end
theorem info_rs3 : (Tryz.prog.info? 22).map (fun i => (i.zero, i.size, i.bytes)) = some (some (.slice none 0 0), 1, 24) := by kernel_rfl
theorem zero_recW (w : World) : (zeroValue 33).run Tryz.prog w = .ok (.agg (rA noRD (.slice none 0 0))) w := by kernel_rfl
theorem St.rowSl {w0 w : World} {Γ : List Res} (H : St w0 w Γ) {e : TypeId} {size n : Nat} {v : Value} {cs : List Value} (hm : Res.row e size v n cs ∈ Γ) : ∃ a c, v = .slice a n c := by
  obtain ⟨_, ⟨rfl, rfl⟩ | ⟨g, cap, cur, rfl, _⟩⟩ := H.get hm
  · exact ⟨_, _, rfl⟩
  · exact ⟨_, _, rfl⟩
/-- An element of a row of records: where it lies. -/
theorem recs_row_at {w : World} {a : Option Addr} {n c : Nat} {l : RS} (h : Row w 19 (.slice a n c) n (recsL l)) (ok : ∀ p ∈ l, p.1.ok) {j : Nat} {p : RD × Value} (hj : l[j]? = some p) : ∃ b off, a = some ⟨b, off, none⟩ ∧ RecAt w b (off + j * 19) p.1 p.2 := by
  have hmem := List.mem_of_getElem? hj
  obtain ⟨hl, a', c', he, _, _, _, h4⟩ := h
  injection he with e1 e2 e3
  subst e1
  have hjl := (List.getElem?_eq_some_iff.1 hj).1
  have hlen := recsL_length ok
  obtain ⟨b, off, rfl, hc⟩ := h4 (by rw [hlen]; omega)
  exact ⟨b, off, rfl, fun k u hk => by rw [Nat.add_assoc]; exact hc _ _ (recsL_get ok hj k u hk), ok p hmem⟩
theorem cn_lenB (g : Int → Option C3) (s n : Nat) : (cn g s n).length ≤ n := by
  unfold cn
  refine Nat.le_trans (List.length_filterMap_le _ _) ?_
  simp
theorem rMay_few {r : RD} (h : rMay r = true) : r.f.length ≤ 8 := by
  have := asc_cn 8 0 r.f (by simpa using rMay_asc h)
  rw [this]; exact cn_lenB _ 0 8
def Pj (L : RS) (j : Nat) : BK := bPuts [] ((L.take j).map (·.1))
theorem Pj_step {L : RS} {j : Nat} {p : RD × Value} (h : L[j]? = some p) : Pj L (j + 1) = bPut (Pj L j) p.1 := by
  unfold Pj; rw [List.take_add_one, h]; simp [bPuts]
theorem bPut_le : ∀ (l : BK) (r : RD), (bPut l r).length ≤ l.length + 1
  | [], r => by simp [bPut]
  | y :: l, r => by
    have := bPut_le l r
    unfold bPut
    split
    · simp
    · split
      · simp
      · simp; omega
theorem bPuts_le : ∀ (l m : BK), (bPuts m l).length ≤ m.length + l.length
  | [], m => by simp [bPuts]
  | r :: l, m => by
    have h1 := bPuts_le l (bPut m r)
    have h2 := bPut_le m r
    show (bPuts (bPut m r) l).length ≤ _
    simp only [List.length_cons]; omega
def Reads (R : Res) (m : AL) : Prop := ∀ W, R.holds W → ∀ p ∈ m, Flds W p.2.2 p.2.1.f
theorem ms_rec {ops : Array Oper} {rest : List Oper} {a : Act} {w0 w : World} {Q : Exit → Act → World → Prop} {Γ Γ' : List Res} {dst : Option Tmp} {typ : TypeId} {x y z : Operand} {pos : String} {af : Array Edge} {b : Nat} {m : List (IDK × Value)} {v : Value} (k : IDK) (H : St w0 w Γ) (hx : a.eval x = .map (some b)) (hk : a.eval y = encK k) (hv : a.eval z = v) (u : Upd Γ (Res.map b encK m) (Res.map b encK (gPut m k v)) Γ')
    (h : ∀ w', St w0 w' Γ' → wpList Tryz.prog ops Q rest (a.put dst undef) w') : wpList Tryz.prog ops Q (⟨dst, .mapUpdate 74 x y z, typ, pos, af, none⟩ :: rest) a w := arm_mapset H hx hk hv u keyID Tryz.underlying74 h
theorem rs_one : (Tryz.prog.info? 22).map (·.size) = some 1 := by kernel_rfl
abbrev RD.key (r : RD) (ok : r.ok) : IDK := ⟨r.id, ok⟩
theorem St.begin {w0 w : World} {v z n1 n2 n3 n4 : Res} {e : TypeId} {size : Nat} (H : St w0 w [v, n1, z, n2, n3, n4]) : St w0 w [Res.row e size (.slice none 0 0) 0 [], v, z, n2, Res.none] :=
  St.sub (Γ := [Res.row e size (.slice none 0 0) 0 [], v, n1, z, n2, n3, n4, Res.none]) ((H.addNone.perm (List.perm_append_comm (l₁ := [v, n1, z, n2, n3, n4]) (l₂ := [Res.none]))).nilRow e size) (by repeat (first | with_reducible exact List.Sublist.refl _ | with_reducible refine List.Sublist.cons_cons _ ?_ | refine List.Sublist.cons _ ?_))
theorem Reads.get {R : Res} {m : AL} (h : Reads R m) {W : World} (hW : R.holds W) {p : IDK × (RD × Value)} (hp : p ∈ m) : Flds W p.2.2 p.2.1.f := h W hW p hp
theorem Reads.put {R : Res} {m : AL} (h : Reads R m) {k : IDK} {r : RD} {s : Value} : Reads ((Res.row 82 4 s r.f.length (fieldsL r.f)).and R) (alPut m k (r, s)) := fun W hW p hp => by
  rcases alPut_mem hp with hp | rfl
  · exact h W hW.2 p hp
  · exact Res.row_reads hW.1
theorem St.absorb {w0 w : World} {a n1 n2 n3 n4 R : Res} (h : St w0 w [a, n1, n2, n3, n4, R]) : St w0 w [n1, n2, n3, n4, a.and R] :=
  (St.merge (h.perm (Γ' := [a, R, n1, n2, n3, n4]) (.cons _ (List.perm_append_comm (l₁ := [R]) (l₂ := [n1, n2, n3, n4]))))).perm (List.perm_append_comm (l₁ := [n1, n2, n3, n4]) (l₂ := [a.and R]))
theorem St.two {w0 w : World} {Γ : List Res} (H : St w0 w Γ) {b : Nat} {t : TypeId} {v v' : Value} (hm : Res.blk b t #[v, v'] ∈ Γ) : Sub w b 0 #[v] ∧ Sub w b 1 #[v'] := by
  have h := H.arr hm
  refine ⟨fun j u hj => ?_, fun j u hj => ?_⟩
  · match j with
    | 0 => exact h 0 u (by simpa using hj)
    | _ + 1 => simp at hj
  · match j with
    | 0 => have := h 1 u (by simpa using hj); simpa using this
    | _ + 1 => simp at hj
theorem ids_row_at {w : World} {a : Option Addr} {n c : Nat} {l : List IDK} (h : Row w 16 (.slice a n c) n (idsL l)) {j : Nat} {k : IDK} (hj : l[j]? = some k) : ∃ b off, a = some ⟨b, off, none⟩ ∧ Sub w b (off + j * 16) (encU k.1).toArray := by
  obtain ⟨hl, a', c', he, _, _, _, h4⟩ := h
  injection he with e1 e2 e3
  subst e1
  have hjl := (List.getElem?_eq_some_iff.1 hj).1
  obtain ⟨b, off, rfl, hc⟩ := h4 (by rw [idsL_len]; omega)
  refine ⟨b, off, rfl, fun i u hi => ?_⟩
  have hi16 : i < 16 := by have := (Array.getElem?_eq_some_iff.1 hi).1; rw [encU_arr16 k.2] at this; exact this
  rw [Nat.add_assoc]
  refine hc _ _ ?_
  rw [idsL_get, show (j * 16 + i) / 16 = j by omega, show (j * 16 + i) % 16 = i by omega, hj]
  simpa [encQ] using hi
section
variable {ops : Array Oper} {rest : List Oper} {a : Act} {w0 w : World} {Q : Exit → Act → World → Prop} {Γ Γ' : List Res} {dst : Option Tmp} {typ t : TypeId} {x y : Operand} {pos : String} {af : Array Edge} {gd : Option (Nat × Bool)} {b off : Nat}
theorem id_inf {l : List UInt8} (h : l.length = 16) : (Tryz.prog.info? 26).map (·.size) = some (encU l).toArray.size := info_id (by rw [encU_arr16 h])
theorem ld_idS {k : IDK} (hw : Region.wanted (⟨dst, .load 26 x, typ, pos, af, gd⟩ : Oper) (yielded ops a.tmps) = true) (hx : a.eval x = .pointer (some ⟨b, off, none⟩)) (h : Sub w b off (encU k.1).toArray) (q : wpList Tryz.prog ops Q rest (a.put dst (encK k)) w) : wpList Tryz.prog ops Q (⟨dst, .load 26 x, typ, pos, af, gd⟩ :: rest) a w :=
  arm_ld hw hx h Tryz.underlying26 rfl (id_inf k.2) q
theorem id_zero3 : (Tryz.prog.info? 26).map (·.zero) = some (some (.agg (encU zid).toArray)) := by kernel_rfl
theorem al_idz (H : St w0 w Γ) (h : ∀ w' b, St w0 w' (Res.blk b 26 (encU zid).toArray :: Γ) → wpList Tryz.prog ops Q rest (a.put dst (.pointer (some ⟨b, 0, none⟩))) w') : wpList Tryz.prog ops Q (⟨dst, .alloc 26, typ, pos, af, none⟩ :: rest) a w := arm_alloc H id_zero3 rfl h
theorem st_idb {k : IDK} {z : List UInt8} (hz : z.length = 16) (H : St w0 w Γ) (hw : Region.wanted (⟨dst, .store 26 x y, typ, pos, af, gd⟩ : Oper) (yielded ops a.tmps) = true) (hx : a.eval x = .pointer (some ⟨b, 0, none⟩)) (hy : a.eval y = encK k)
    (u : Upd Γ (Res.blk b t (encU z).toArray) (Res.blk b t (encU k.1).toArray) Γ') (h : ∀ w', St w0 w' Γ' → wpList Tryz.prog ops Q rest (a.put dst undef) w') : wpList Tryz.prog ops Q (⟨dst, .store 26 x y, typ, pos, af, gd⟩ :: rest) a w := by
  have e1 := encU_arr16 k.2
  have e2 := encU_arr16 hz
  refine arm_st H hw hx hy u (id_inf k.2) (by rw [e1, e2]; decide) (Array.all_eq_true_iff_forall_mem.2 fun v hv => encU_one _ v (by simpa using hv)) ?_ h
  rw [List.take_zero, List.nil_append, Nat.zero_add, List.drop_of_length_le (by rw [e1, Array.length_toList, e2]; exact Nat.le_refl _), List.append_nil]
end
end Go.Proofs.YtolbmemogoojhaaGreat
/- Two books joined, where they may be: the walk. -/
namespace Go.Proofs.YtolbmemogoojhaaGreat
open Go Go.RowKit Go.Deep
set_option linter.unusedVariables false
set_option linter.unusedSimpArgs false
set_option maxRecDepth 100000
set_option maxHeartbeats 12800000 in
theorem bkjoin_yes (va vb : Value) (LA LB : RS) (hcA : bMay (LA.map (·.1)) = true) (hcB : bMay (LB.map (·.1)) = true) (w : World) (ha : RecsS w va LA) (hb : RecsS w vb LB) : Calls Tryz.prog 11 #[.agg #[va], .agg #[vb]] w fun e w' =>
    ∃ v r, e = .returned (.tuple #[.agg #[v], .int .i64 (bCan (LA.map (·.1)) (LB.map (·.1)))]) ∧ (∀ W, r.holds W → Recs W v (bJ (LA.map (·.1)) (LB.map (·.1)))) ∧ St w w' [r] := by
  have hp := Lib.hid hcA; have hq := Lib.hid hcB
  have gA := bMay_iff.1 hcA; have gB := bMay_iff.1 hcB
  have Ha : Hid (Recs w va (LA.map (·.1))) := Lib.hid ⟨LA, rfl, ha⟩
  have Hb : Hid (Recs w vb (LB.map (·.1))) := Lib.hid ⟨LB, rfl, hb⟩
  have hsl : ∀ (v : Value) (l : RS), RecsS w v l → v.cells = #[v] ∧ v.oneCell' = true ∧ ∀ p ∈ l, p.2.oneCell' = true := fun v l h => by
    obtain ⟨⟨_, a, c, rfl, _⟩, h2⟩ := h
    exact ⟨rfl, rfl, fun p hp => flds_one (h2 p hp).2⟩
  have HvA := Lib.hid (hsl va LA ha).1; have HvB := Lib.hid (hsl vb LB hb).1
  have OA := Lib.hid (hsl va LA ha).2.2; have OB := Lib.hid (hsl vb LB hb).2.2
  have RA := Lib.hid ha.1; have RB := Lib.hid hb.1
  have lA : LA.length ≤ 10 := by simpa using gA.2
  have lB : LB.length ≤ 10 := by simpa using gB.2
  obtain ⟨L, hL⟩ : ∃ L, LA ++ LB = L := ⟨_, rfl⟩
  obtain ⟨n, hn⟩ : ∃ n, L.length = n := ⟨_, rfl⟩
  have hn20 : n ≤ 20 := by rw [← hn, ← hL]; simp; omega
  have hAll : ∀ p ∈ L, p.1.ok ∧ Flds w p.2 p.1.f ∧ rMay p.1 = true := fun p hp => by
    rw [← hL] at hp
    rcases List.mem_append.1 hp with hp | hp
    · exact ⟨(ha.2 p hp).1, (ha.2 p hp).2, gA.1.2 _ (List.mem_map_of_mem hp)⟩
    · exact ⟨(hb.2 p hp).1, (hb.2 p hp).2, gB.1.2 _ (List.mem_map_of_mem hp)⟩
  have Hall := Lib.hid hAll; have Hn := Lib.hid hn; have HL := Lib.hid hL
  have HP : Hid (Pj L n = bBoth (LA.map (·.1)) (LB.map (·.1))) := Lib.hid (by unfold Pj; rw [bBoth_app, ← hn, List.take_length, ← hL, List.map_append])
  have Hcan : Hid ((bMay (LA.map (·.1)) && bMay (LB.map (·.1))) = true) := Lib.hid (by rw [hcA, hcB]; rfl)
  have Hno : Hid noRD.ok := Lib.hid noRD_ok
  have Hone : Hid (Value.oneCell' (.slice none 0 0) = true) := Lib.hid rfl
  clear ha hb hsl gA gB hAll hn hL hcA hcB
  have H := St.init w
  go_enter Tryz.func11, Tryz.ntmps11
  go_wp2_with (first | go_skip | ((fail_if_success have := kA); (with_reducible apply arm_box H); rfl; clear H; intro wn kA H) | ((fail_if_success have := kB); (with_reducible apply arm_box H); rfl; clear H; intro wn kB H) | ((fail_if_success have := kR); (with_reducible apply al_bk H); clear H; intro wn kR H) | ((with_reducible apply ld_bk); rfl; rfl; (focus (apply H.one; (repeat (first | with_reducible exact mH | with_reducible apply mT)); done))) | (with_reducible apply bd_bk0) | ((with_reducible apply st_bk H); rfl; rfl; rfl; (repeat (first | with_reducible apply Upd.head | with_reducible apply Upd.tail)); (first | rfl | assumption | (refine Hid.out ?_; assumption)); clear H; intro wn H) | (go_at_call 18; first | ((with_reducible refine (bkmay_v hp.out _ (Ha.out.below H.bel)).mono ?_); rintro e wn ⟨rfl, hb⟩; replace H := H.call hb; clear hb) | ((with_reducible refine (bkmay_v hq.out _ (Hb.out.below H.bel)).mono ?_); rintro e wn ⟨rfl, hb⟩; replace H := H.call hb; clear hb)) | ((fail_if_success have := kM); (with_reducible apply arm_makeMap H encK); clear H; intro wn kM H) | ((with_reducible apply ld_one (ty := 22) Tryz.underlying22 rfl); rfl; rfl; (focus (apply H.one; (repeat (first | with_reducible exact mH | with_reducible apply mT)); done))) | ((fail_if_success have := kC); (with_reducible apply arm_bslice2 H Tryz.underlying118 info_rs3); (conv => lhs; whnf); (conv => lhs; whnf); (exact HvA.out); (exact HvB.out); clear H; intro wn kC H) | (go_at_call 50; (with_reducible refine (concat_c va vb LA LB kC (by omega) (by omega) _ (H.two (by (repeat (first | with_reducible exact mH | with_reducible apply mT)))).1 (H.two (by (repeat (first | with_reducible exact mH | with_reducible apply mT)))).2 (RA.out.below H.bel) (RB.out.below H.bel) OA.out OB.out).mono ?_); rintro e wn ⟨vc, rfl, hs⟩; replace H := H.comp hs; clear hs; rw [HL.out, Hn.out] at H; simp only [List.cons_append, List.nil_append] at H; obtain ⟨ac, cc, rfl⟩ := H.rowSl mH))
  go_loopw [32, 7] (fun i q wr => ∃ (j : Nat) (m : AL) (names : List IDK) (R : Res), j ≤ n ∧ i = .int .i64 j ∧ Hid (JInv (Pj L j) m names) ∧ Hid (Reads R m) ∧ St w wr [Res.row 26 16 q names.length (idsL names), Res.row 33 19 (.slice ac n cc) n (recsL L), Res.map kM encK (alV m), Res.blk kR 24 #[.slice none 0 0], R]) (fun i _ _ => n - (intOf i).toNat)
  case atStart => exact ⟨0, [], [], Res.none, by omega, rfl, Lib.hid jinv_nil, Lib.hid (fun _ _ p hp => (List.not_mem_nil hp).elim), St.begin H⟩
  case round =>
    clear H
    obtain ⟨j, m, names, R, hj, rfl, J, Rd, H⟩ := hrel
    have hnl : names.length ≤ 20 := by
      have h1 : names.length = m.length := by rw [J.out.keys]; simp
      have h2 := J.out.len
      have h3 := bPuts_le ((L.take j).map (·.1)) []
      have h4 : (Pj L j).length ≤ j := by
        unfold Pj
        refine Nat.le_trans h3 ?_
        simp; omega
      omega
    by_cases hlt : j < n
    · obtain ⟨p, hpj⟩ : ∃ p, L[j]? = some p := ⟨_, List.getElem?_eq_getElem (by rw [Hn.out]; exact hlt)⟩
      obtain ⟨r, s⟩ := p
      have hmem := List.mem_of_getElem? hpj
      have hstep := Pj_step hpj
      obtain ⟨b0, off0, rfl, G⟩ := recs_row_at (H.rowRead (by (repeat (first | with_reducible exact mH | with_reducible apply mT)))) (fun p hp => (Hall.out p hp).1) hpj
      dsimp only at G hstep
      have ok : r.ok := (Hall.out _ hmem).1
      have Hok : Hid r.ok := Lib.hid ok
      have Hf : Hid (Flds w s r.f) := Lib.hid (Hall.out _ hmem).2.1
      have Hm : Hid (rMay r = true) := Lib.hid (Hall.out _ hmem).2.2
      have Hs1 : Hid (s.oneCell' = true) := Lib.hid (flds_one Hf.out)
      have Hfew : Hid (r.f.length ≤ 1000) := Lib.hid (Nat.le_trans (rMay_few Hm.out) (by decide))
      have Hst := Lib.hid hstep
      clear hmem hstep hpj
      rcases gIx_alV (r.key ok) m with ⟨e1, e2⟩ | ⟨jj, x, e1, e2⟩
      · have E1 := Lib.hid e1; have E2 := Lib.hid e2; clear e1 e2
        go_wp2_with (first | go_skip | ((with_reducible apply ld_rec); rfl; rfl; (first | (focus (apply H.rc; (repeat (first | with_reducible exact mH | with_reducible apply mT)); done)) | (apply RecAt.bel (hb := H.bel); assumption) | assumption)) | ((with_reducible apply ld_id); rfl; rfl; (first | (focus (apply H.rc; (repeat (first | with_reducible exact mH | with_reducible apply mT)); done)) | (apply RecAt.bel (hb := H.bel); assumption))) | ((fail_if_success have := k9); (with_reducible apply al_rec H); clear H; intro wn k9 H) | ((fail_if_success have := k10); (with_reducible apply al_rec H); clear H; intro wn k10 H) | ((with_reducible apply st_rec H); rfl; rfl; rfl; (repeat (first | with_reducible apply Upd.head | with_reducible apply Upd.tail)); (first | assumption | (refine Hid.out ?_; assumption)); (first | rfl | assumption | (refine Hid.out ?_; assumption)); clear H; intro wn H) | ((with_reducible apply arm_lookup2 H (k := r.key ok) (ok := keyID) (ht := Tryz.underlying74) (hz := zero_recW)); rfl; rfl; (repeat (first | with_reducible exact mH | with_reducible apply mT)); rw [E1.out]; dsimp only) | ((fail_if_success have := kI); (with_reducible apply bs_id ok H); rfl; clear H; intro wn kI H) | ((with_reducible apply arm_app H (ht := Tryz.underlying75) (hinfo := info_id3) (hzs := size_id0) (hsz := by decide)); (conv => lhs; whnf); (conv => lhs; whnf); (intro v; (repeat (first | with_reducible apply Upd.head | with_reducible apply Upd.tail))); (focus (apply H.rowRead; (repeat (first | with_reducible exact mH | with_reducible apply mT)); done)); (focus (exact idsL_one _; done)); (focus (unfold maxLen; omega; done)); (focus (omega; done)); clear H; intro wn vn H))
        (try simp only [Act.put, List.setIfInBounds_toArray, List.set_cons_zero, List.set_cons_succ])
        refine wp_slotsM [⟨some 50, [], fun _ v => v = .map (some kM)⟩, ⟨some 51, [], fun _ v => v = .pointer (some ⟨k9, 0, none⟩)⟩, ⟨some 52, [(1, 51)], fun _ v => v = .agg (idA r)⟩, ⟨some 53, [], fun _ v => v = .agg (rA r s)⟩, ⟨some 54, [(3, 53)], Made wn (fun s' => .agg (rA r s')) (fun s' => Res.row 82 4 s' r.f.length (fieldsL r.f))⟩] [50, 51, 52, 53, 54] (false :: false :: false :: false :: false :: false :: false :: false :: false :: false :: false :: false :: false :: false :: false :: false :: false :: false :: false :: false :: false :: false :: false :: false :: false :: false :: false :: false :: false :: false :: false :: false :: false :: false :: false :: false :: false :: false :: false :: false :: false :: false :: false :: false :: false :: false :: false :: false :: false :: false :: true :: true :: true :: true :: true :: []) [(some 50, []), (some 51, []), (some 52, [(1, 51)]), (some 53, []), (some 54, [(3, 53)])] rfl (by kernel_rfl) (by kernel_rfl) (by rfl) (by rfl) ?_ ?_ ?_
        · exact stable_cons (fun _ _ _ _ h => h) (stable_cons (fun _ _ _ _ h => h) (stable_cons (fun _ _ _ _ h => h) (stable_cons (fun _ _ _ _ h => h) (stable_cons Made.keep (stable_nil)))))
        · refine hops_cons ?_ (hops_cons ?_ (hops_cons ?_ (hops_cons ?_ (hops_cons ?_ (trivial)))))
          · unfold HopM; intro u wn hb hk; have H0 := H; replace H := H.call hb
            simp only [fillM]
            go_wp2_with (first | go_skip | ((with_reducible apply ld_rec); rfl; rfl; (first | (focus (apply H.rc; (repeat (first | with_reducible exact mH | with_reducible apply mT)); done)) | (apply RecAt.bel (hb := H.bel); assumption) | assumption)) | ((with_reducible apply ld_id); rfl; rfl; (first | (focus (apply H.rc; (repeat (first | with_reducible exact mH | with_reducible apply mT)); done)) | (apply RecAt.bel (hb := H.bel); assumption))))
            exact ⟨rfl, Below.refl _ _, .map (some kM), rfl, rfl⟩
          · unfold HopM; intro u wn hb hk; have H0 := H; replace H := H.call hb
            simp only [fillM]
            go_wp2_with (first | go_skip | ((with_reducible apply ld_rec); rfl; rfl; (first | (focus (apply H.rc; (repeat (first | with_reducible exact mH | with_reducible apply mT)); done)) | (apply RecAt.bel (hb := H.bel); assumption) | assumption)) | ((with_reducible apply ld_id); rfl; rfl; (first | (focus (apply H.rc; (repeat (first | with_reducible exact mH | with_reducible apply mT)); done)) | (apply RecAt.bel (hb := H.bel); assumption))))
            exact ⟨rfl, Below.refl _ _, .pointer (some ⟨k9, 0, none⟩), rfl, rfl⟩
          · unfold HopM; intro u wn hb hk; have H0 := H; replace H := H.call hb
            obtain ⟨hq1, -⟩ := hk
            replace hq1 := hq1 _ rfl; dsimp only at hq1
            simp only [fillM, hq1]
            clear hq1
            go_wp2_with (first | go_skip | ((with_reducible apply ld_rec); rfl; rfl; (first | (focus (apply H.rc; (repeat (first | with_reducible exact mH | with_reducible apply mT)); done)) | (apply RecAt.bel (hb := H.bel); assumption) | assumption)) | ((with_reducible apply ld_id); rfl; rfl; (first | (focus (apply H.rc; (repeat (first | with_reducible exact mH | with_reducible apply mT)); done)) | (apply RecAt.bel (hb := H.bel); assumption))))
            exact ⟨rfl, Below.refl _ _, .agg (idA r), rfl, rfl⟩
          · unfold HopM; intro u wn hb hk; have H0 := H; replace H := H.call hb
            simp only [fillM]
            go_wp2_with (first | go_skip | ((with_reducible apply ld_rec); rfl; rfl; (first | (focus (apply H.rc; (repeat (first | with_reducible exact mH | with_reducible apply mT)); done)) | (apply RecAt.bel (hb := H.bel); assumption) | assumption)) | ((with_reducible apply ld_id); rfl; rfl; (first | (focus (apply H.rc; (repeat (first | with_reducible exact mH | with_reducible apply mT)); done)) | (apply RecAt.bel (hb := H.bel); assumption))))
            exact ⟨rfl, Below.refl _ _, .agg (rA r s), rfl, rfl⟩
          · unfold HopM; intro u wn hb hk; have H0 := H; replace H := H.call hb
            obtain ⟨hq3, -⟩ := hk
            replace hq3 := hq3 _ rfl; dsimp only at hq3
            simp only [fillM, hq3]
            clear hq3
            go_wp2_with (first | go_skip | (go_at_call 49; (with_reducible refine (own_c r s ok Hfew.out _ (Hf.out.below H.bel)).mono ?_); rintro e wm ⟨sj, rfl, hs⟩))
            exact ⟨rfl, hs.bel, _, rfl, sj, rfl, hs.get mH, fun b hf => Nat.le_trans hb.size (hs.base _ mH b hf)⟩
        intro u wn hb hk; have H0 := H; replace H := H.call hb
        obtain ⟨hq0, hq1, hq2, hq3, hq4, -⟩ := hk
        replace hq0 := hq0 _ rfl; dsimp only at hq0
        replace hq1 := hq1 _ rfl; dsimp only at hq1
        replace hq2 := hq2 _ rfl; dsimp only at hq2
        replace hq3 := hq3 _ rfl; dsimp only at hq3
        replace hq4 := hq4 _ rfl; dsimp only at hq4; obtain ⟨sj, hq4, hRow, hBase⟩ := hq4; dsimp only at hq4; replace H := H0.new hb hRow hBase; clear hRow hBase
        simp only [fillM, List.length_cons, List.length_nil, Nat.reduceAdd, List.drop_succ_cons, List.drop_zero, hq0, hq1, hq2, hq3, hq4]
        clear hb H0 hq0 hq1 hq2 hq3 hq4
        go_wp2_with (first | go_skip | ((with_reducible apply ms_rec (r.key ok) H); rfl; rfl; (conv => lhs; whnf); (repeat (first | with_reducible apply Upd.head | with_reducible apply Upd.tail)); clear H; intro wn H))
        go_roundw
        case rel =>
          refine ⟨j + 1, alPut m (r.key ok) (r, sj), names ++ [r.key ok], (Res.row 82 4 sj r.f.length (fieldsL r.f)).and R, by omega, by go_num, Lib.hid (by rw [Hst.out]; exact jinv_new J.out sj Hm.out rfl E2.out), Lib.hid Rd.out.put, ?_⟩
          have hg := gPut_alV (r.key ok) (r, sj) m
          dsimp only at hg
          rw [hg] at H
          try dsimp only at H
          rw [show idsL (names ++ [r.key ok]) = idsL names ++ idsL [r.key ok] from List.flatMap_append, List.length_append, List.length_singleton]
          exact (H.sub (by (repeat (first | with_reducible exact List.Sublist.refl _ | with_reducible refine List.Sublist.cons_cons _ ?_ | refine List.Sublist.cons _ ?_)))).absorb
        case measure => simp [intOf]; omega
      · obtain ⟨q, sq⟩ := x
        have hjo := jinv_old J.out (r := r) (q := q) (sq := sq) sq Hm.out rfl e2
        have hokq : q.ok := by show q.id.length = 16; rw [hjo.2.2]; exact ok
        have Hokq : Hid q.ok := Lib.hid hokq
        obtain ⟨d, hd⟩ : ∃ d, rCan q r = d := ⟨_, rfl⟩
        obtain ⟨jr, hjr⟩ : ∃ jr, rJoin q r = jr := ⟨_, rfl⟩
        have Hd := Lib.hid hd; have Hjr := Lib.hid hjr
        have Hokj : Hid jr.ok := Lib.hid (by rw [← hjr]; exact rJoin_ok hokq)
        have hmq : (r.key ok, (q, sq)) ∈ m := alFind_mem e2
        have Hqf : Hid (Flds _ sq q.f) := Lib.hid (Rd.out.get (H.get (r := R) (by (repeat (first | with_reducible exact mH | with_reducible apply mT)))) hmq)
        have Hmq := Lib.hid hmq
        have Hsq : Hid (sq.oneCell' = true) := Lib.hid (flds_one Hqf.out)
        have J2 : Hid (∀ s, JInv (bPut (Pj L j) r) (alPut m (r.key ok) (jr, s)) names) := Lib.hid fun s => by rw [← hjr]; exact (jinv_old J.out s Hm.out rfl e2).1
        have E1 := Lib.hid e1
        have Hh := Lib.hid H
        clear e1 e2 hjo hd hjr hmq
        go_wp2_with (first | go_skip | ((with_reducible apply ld_rec); rfl; rfl; (first | (focus (apply H.rc; (repeat (first | with_reducible exact mH | with_reducible apply mT)); done)) | (apply RecAt.bel (hb := H.bel); assumption) | assumption)) | ((with_reducible apply ld_id); rfl; rfl; (first | (focus (apply H.rc; (repeat (first | with_reducible exact mH | with_reducible apply mT)); done)) | (apply RecAt.bel (hb := H.bel); assumption))) | ((fail_if_success have := k9); (with_reducible apply al_rec H); clear H; intro wn k9 H) | ((fail_if_success have := k10); (with_reducible apply al_rec H); clear H; intro wn k10 H) | ((with_reducible apply st_rec H); rfl; rfl; rfl; (repeat (first | with_reducible apply Upd.head | with_reducible apply Upd.tail)); (first | assumption | (refine Hid.out ?_; assumption)); (first | rfl | assumption | (refine Hid.out ?_; assumption)); clear H; intro wn H) | ((with_reducible apply arm_lookup2 H (k := r.key ok) (ok := keyID) (ht := Tryz.underlying74) (hz := zero_recW)); rfl; rfl; (repeat (first | with_reducible exact mH | with_reducible apply mT)); rw [E1.out]; dsimp only))
        (try simp only [Act.put, List.setIfInBounds_toArray, List.set_cons_zero, List.set_cons_succ])
        refine wp_slotsML [⟨some 56, [], fun _ v => v = .map (some kM)⟩, ⟨some 57, [], fun _ v => v = .pointer (some ⟨k9, 0, none⟩)⟩, ⟨some 58, [(1, 57)], fun _ v => v = .agg (idA r)⟩, ⟨some 59, [], fun _ v => v = .agg (rA q sq)⟩, ⟨some 60, [], fun _ v => v = .agg (rA r s)⟩, ⟨some 61, [(3, 59), (4, 60)], Made wn (fun s' => .tuple #[.agg (rA jr s'), .bool d]) (fun s' => Res.row 82 4 s' jr.f.length (fieldsL jr.f))⟩, ⟨some 55, [(5, 61)], Made wn (fun s' => .tuple #[.agg (rA jr s'), .bool d]) (fun s' => Res.row 82 4 s' jr.f.length (fieldsL jr.f))⟩, ⟨some 62, [(6, 55)], Made wn (fun s' => .agg (rA jr s')) (fun s' => Res.row 82 4 s' jr.f.length (fieldsL jr.f))⟩, ⟨some 63, [(6, 55)], fun _ v => v = .bool d⟩] [56, 57, 58, 59, 60, 61, 55, 62, 63] (false :: false :: false :: false :: false :: false :: false :: false :: false :: false :: false :: false :: false :: false :: false :: false :: false :: false :: false :: false :: false :: false :: false :: false :: false :: false :: false :: false :: false :: false :: false :: false :: false :: false :: false :: false :: false :: false :: false :: false :: false :: false :: false :: false :: false :: false :: false :: false :: false :: false :: false :: false :: false :: false :: false :: true :: true :: true :: true :: true :: true :: true :: true :: true :: []) [(some 56, []), (some 57, []), (some 58, [(1, 57)]), (some 59, []), (some 60, []), (some 61, [(3, 59), (4, 60)]), (some 55, [(5, 61)]), (some 62, [(6, 55)]), (some 63, [(6, 55)])] 8 rfl (by kernel_rfl) (by kernel_rfl) (by rfl) (by rfl) ?_ (by rfl) (by rfl) ?_ ?_ ?_
        · exact stable_cons (fun _ _ _ _ h => h) (stable_cons (fun _ _ _ _ h => h) (stable_cons (fun _ _ _ _ h => h) (stable_cons (fun _ _ _ _ h => h) (stable_cons (fun _ _ _ _ h => h) (stable_cons Made.keep (stable_cons Made.keep (stable_cons Made.keep (stable_cons (fun _ _ _ _ h => h) (stable_nil)))))))))
        · refine hops_cons ?_ (hops_cons ?_ (hops_cons ?_ (hops_cons ?_ (hops_cons ?_ (hops_cons ?_ (hops_cons ?_ (hops_cons ?_ (hops_cons ?_ (trivial)))))))))
          · unfold HopM; intro u wn hb hk; have H0 := H; replace H := H.call hb
            simp only [fillM]
            go_wp2_with (first | go_skip | ((with_reducible apply ld_rec); rfl; rfl; (first | (focus (apply H.rc; (repeat (first | with_reducible exact mH | with_reducible apply mT)); done)) | (apply RecAt.bel (hb := H.bel); assumption) | assumption)) | ((with_reducible apply ld_id); rfl; rfl; (first | (focus (apply H.rc; (repeat (first | with_reducible exact mH | with_reducible apply mT)); done)) | (apply RecAt.bel (hb := H.bel); assumption))))
            exact ⟨rfl, Below.refl _ _, .map (some kM), rfl, rfl⟩
          · unfold HopM; intro u wn hb hk; have H0 := H; replace H := H.call hb
            simp only [fillM]
            go_wp2_with (first | go_skip | ((with_reducible apply ld_rec); rfl; rfl; (first | (focus (apply H.rc; (repeat (first | with_reducible exact mH | with_reducible apply mT)); done)) | (apply RecAt.bel (hb := H.bel); assumption) | assumption)) | ((with_reducible apply ld_id); rfl; rfl; (first | (focus (apply H.rc; (repeat (first | with_reducible exact mH | with_reducible apply mT)); done)) | (apply RecAt.bel (hb := H.bel); assumption))))
            exact ⟨rfl, Below.refl _ _, .pointer (some ⟨k9, 0, none⟩), rfl, rfl⟩
          · unfold HopM; intro u wn hb hk; have H0 := H; replace H := H.call hb
            obtain ⟨hq1, -⟩ := hk
            replace hq1 := hq1 _ rfl; dsimp only at hq1
            simp only [fillM, hq1]
            clear hq1
            go_wp2_with (first | go_skip | ((with_reducible apply ld_rec); rfl; rfl; (first | (focus (apply H.rc; (repeat (first | with_reducible exact mH | with_reducible apply mT)); done)) | (apply RecAt.bel (hb := H.bel); assumption) | assumption)) | ((with_reducible apply ld_id); rfl; rfl; (first | (focus (apply H.rc; (repeat (first | with_reducible exact mH | with_reducible apply mT)); done)) | (apply RecAt.bel (hb := H.bel); assumption))))
            exact ⟨rfl, Below.refl _ _, .agg (idA r), rfl, rfl⟩
          · unfold HopM; intro u wn hb hk; have H0 := H; replace H := H.call hb
            simp only [fillM]
            go_wp2_with (first | go_skip | ((with_reducible apply ld_rec); rfl; rfl; (first | (focus (apply H.rc; (repeat (first | with_reducible exact mH | with_reducible apply mT)); done)) | (apply RecAt.bel (hb := H.bel); assumption) | assumption)) | ((with_reducible apply ld_id); rfl; rfl; (first | (focus (apply H.rc; (repeat (first | with_reducible exact mH | with_reducible apply mT)); done)) | (apply RecAt.bel (hb := H.bel); assumption))))
            exact ⟨rfl, Below.refl _ _, .agg (rA q sq), rfl, rfl⟩
          · unfold HopM; intro u wn hb hk; have H0 := H; replace H := H.call hb
            simp only [fillM]
            go_wp2_with (first | go_skip | ((with_reducible apply ld_rec); rfl; rfl; (first | (focus (apply H.rc; (repeat (first | with_reducible exact mH | with_reducible apply mT)); done)) | (apply RecAt.bel (hb := H.bel); assumption) | assumption)) | ((with_reducible apply ld_id); rfl; rfl; (first | (focus (apply H.rc; (repeat (first | with_reducible exact mH | with_reducible apply mT)); done)) | (apply RecAt.bel (hb := H.bel); assumption))))
            exact ⟨rfl, Below.refl _ _, .agg (rA r s), rfl, rfl⟩
          · unfold HopM; intro u wn hb hk; have H0 := H; replace H := H.call hb
            obtain ⟨hq3, hq4, -⟩ := hk
            replace hq3 := hq3 _ rfl; dsimp only at hq3
            replace hq4 := hq4 _ rfl; dsimp only at hq4
            simp only [fillM, hq3, hq4]
            clear hq3 hq4
            go_wp2_with (first | go_skip | (go_at_call 51; (with_reducible refine (rjoinO Hokq.out ok Hd.out Hjr.out _ (Rd.out.get (H.get (r := R) (by (repeat (first | with_reducible exact mH | with_reducible apply mT)))) Hmq.out) (Hf.out.below H.bel)).mono ?_); rintro e wm ⟨sj, rfl, ho, hbb⟩; have hs := St.ofRow hbb ho))
            exact ⟨rfl, hs.bel, _, rfl, sj, rfl, hs.get mH, fun b hf => Nat.le_trans hb.size (hs.base _ mH b hf)⟩
          · unfold HopM; intro u wn hb hk; have H0 := H; replace H := H.call hb
            obtain ⟨hq5, -⟩ := hk
            replace hq5 := hq5 _ rfl; dsimp only at hq5; obtain ⟨sj, hq5, hr, hbs⟩ := hq5; dsimp only at hq5
            simp only [fillM, hq5]
            clear hq5
            go_wp2_with (first | go_skip)
            exact ⟨rfl, Below.refl _ _, _, rfl, sj, rfl, hr, hbs⟩
          · unfold HopM; intro u wn hb hk; have H0 := H; replace H := H.call hb
            obtain ⟨hq6, -⟩ := hk
            replace hq6 := hq6 _ rfl; dsimp only at hq6; obtain ⟨sj, hq6, hr, hbs⟩ := hq6; dsimp only at hq6
            simp only [fillM, hq6]
            clear hq6
            go_wp2_with (first | go_skip)
            exact ⟨rfl, Below.refl _ _, _, rfl, sj, rfl, hr, hbs⟩
          · unfold HopM; intro u wn hb hk; have H0 := H; replace H := H.call hb
            obtain ⟨hq6, -⟩ := hk
            replace hq6 := hq6 _ rfl; dsimp only at hq6; obtain ⟨sj, hq6, hr, hbs⟩ := hq6; dsimp only at hq6
            simp only [fillM, hq6]
            clear hq6
            go_wp2_with (first | go_skip | ((with_reducible apply ld_rec); rfl; rfl; (first | (focus (apply H.rc; (repeat (first | with_reducible exact mH | with_reducible apply mT)); done)) | (apply RecAt.bel (hb := H.bel); assumption) | assumption)) | ((with_reducible apply ld_id); rfl; rfl; (first | (focus (apply H.rc; (repeat (first | with_reducible exact mH | with_reducible apply mT)); done)) | (apply RecAt.bel (hb := H.bel); assumption))))
            exact ⟨rfl, Below.refl _ _, .bool d, rfl, rfl⟩
        · intro u wn hb hk
          obtain ⟨hq6, -⟩ := hk
          replace hq6 := hq6 _ rfl; dsimp only at hq6; obtain ⟨sj, hq6, hr, hbs⟩ := hq6; dsimp only at hq6
          simp only [fillM, hq6]
          exact ⟨.bool d, .inl ⟨rfl, fun W => rfl⟩, rfl⟩
        intro u wn hb hk; have H0 := H; replace H := H.call hb
        obtain ⟨hq0, hq1, hq2, hq3, hq4, hq5, hq6, hq7, hq8, -⟩ := hk
        replace hq0 := hq0 _ rfl; dsimp only at hq0
        replace hq1 := hq1 _ rfl; dsimp only at hq1
        replace hq2 := hq2 _ rfl; dsimp only at hq2
        replace hq3 := hq3 _ rfl; dsimp only at hq3
        replace hq4 := hq4 _ rfl; dsimp only at hq4
        replace hq5 := hq5 _ rfl; dsimp only at hq5; obtain ⟨sj, hq5, hr, hbs⟩ := hq5; dsimp only at hq5
        replace hq6 := hq6 _ rfl; dsimp only at hq6; obtain ⟨sj, hq6, hr, hbs⟩ := hq6; dsimp only at hq6
        replace hq7 := hq7 _ rfl; dsimp only at hq7; obtain ⟨sj, hq7, hRow, hBase⟩ := hq7; dsimp only at hq7; replace H := H0.new hb hRow hBase; clear hRow hBase
        replace hq8 := hq8 _ rfl; dsimp only at hq8
        simp only [fillM, List.length_cons, List.length_nil, Nat.reduceAdd, List.drop_succ_cons, List.drop_zero, hq0, hq1, hq2, hq3, hq4, hq5, hq6, hq7, hq8]
        clear hb H0 hq0 hq1 hq2 hq3 hq4 hq5 hq6 hq7 hq8
        go_wp2_with (first | go_skip | ((with_reducible apply ms_rec (r.key ok) H); rfl; rfl; (conv => lhs; whnf); (repeat (first | with_reducible apply Upd.head | with_reducible apply Upd.tail)); clear H; intro wn H))
        go_roundw
        case rel =>
          refine ⟨j + 1, alPut m (r.key ok) (jr, sj), names, (Res.row 82 4 sj jr.f.length (fieldsL jr.f)).and R, by omega, by go_num, Lib.hid (by rw [Hst.out]; exact J2.out sj), Lib.hid Rd.out.put, ?_⟩
          have hg := gPut_alV (r.key ok) (jr, sj) m
          dsimp only at hg
          rw [hg] at H
          try dsimp only at H
          exact (H.sub (by (repeat (first | with_reducible exact List.Sublist.refl _ | with_reducible refine List.Sublist.cons_cons _ ?_ | refine List.Sublist.cons _ ?_)))).absorb
        case measure => simp [intOf]; omega
    · have hjn : j = n := by omega
      subst hjn
      have Hlen : Hid (names.length = (Pj L j).length) := Lib.hid (by rw [J.out.keys, J.out.len]; simp)
      obtain ⟨an, cn, rfl⟩ := H.rowSl mH
      by_cases hbig : names.length ≤ 10
      · have Hc0 : Hid (bCan (LA.map (·.1)) (LB.map (·.1)) = 0) := Lib.hid (by
          unfold bCan; rw [if_pos Hcan.out, ← HP.out, ← Hlen.out, if_pos hbig])
        have HbJ : Hid (bJ (LA.map (·.1)) (LB.map (·.1)) = Pj L j) := Lib.hid (by unfold bJ; rw [if_pos Hc0.out, HP.out])
        go_wp2_with (first | go_skip | (go_at_call 52; (with_reducible refine (bksort_c _ names (by omega) _ (H.get (by (repeat (first | with_reducible exact mH | with_reducible apply mT))))).mono ?_); rintro e wn ⟨rfl, ns, hpm, hsrt, hrow, hchg⟩; replace H := H.upd (Upd.head _ _ _) hchg hrow (fun _ e => .inl e)) | ((fail_if_success have := k12); (with_reducible apply al_bk H); clear H; intro wn k12 H))
        rw [hpm.length_eq] at H
        have Hnl2 := Lib.hid hpm.length_eq
        have Hpm := Lib.hid hpm; have Hsrt := Lib.hid hsrt
        clear hpm hsrt hrow hchg
        go_loopw [73] (fun i wr => ∃ (kk : Nat) (so : Value), kk ≤ names.length ∧ i = .int .i64 kk ∧ St w wr [Res.row 33 19 so kk (recsL ((ns.take kk).map (alGet m))), Res.blk k12 24 #[so], Res.row 26 16 (.slice an names.length cn) names.length (idsL ns), Res.map kM encK (alV m), Res.blk kR 24 #[.slice none 0 0], R]) (fun i _ => names.length - (intOf i).toNat)
        case atStart =>
          refine ⟨0, .slice none 0 0, by omega, rfl, ?_⟩
          rw [show recsL ((ns.take 0).map (alGet m)) = [] from rfl]
          exact (H.nilRow 33 19).sub (by (repeat (first | with_reducible exact List.Sublist.refl _ | with_reducible refine List.Sublist.cons_cons _ ?_ | refine List.Sublist.cons _ ?_)))
        case round =>
          clear H
          obtain ⟨kk, so, hkk, rfl, H⟩ := hrel
          by_cases hkl : kk < names.length
          · obtain ⟨key, hkey⟩ : ∃ key, ns[kk]? = some key := ⟨_, List.getElem?_eq_getElem (by rw [Hnl2.out]; exact hkl)⟩
            obtain ⟨b1, off1, rfl, G1⟩ := ids_row_at (H.rowRead (by (repeat (first | with_reducible exact mH | with_reducible apply mT)))) hkey
            obtain ⟨x, hx⟩ : ∃ x, alFind m key = some x := alFind_key (by rw [← J.out.keys]; exact Hpm.out.subset (List.mem_of_getElem? hkey))
            obtain ⟨r, s⟩ := x
            have ok : r.ok := by
              have hb := J.out.find key
              rw [hx] at hb
              exact J.out.ok r (bFind_mem hb).1
            have Hok : Hid r.ok := Lib.hid ok
            have Hs1 : Hid (s.oneCell' = true) := Lib.hid (flds_one (Rd.out.get (H.get (r := R) (by (repeat (first | with_reducible exact mH | with_reducible apply mT)))) (alFind_mem hx)))
            obtain ⟨jj, E1⟩ : ∃ jj, Hid (gIx (alV m) key = some (jj, .agg (rA r s))) := by
              rcases gIx_alV key m with ⟨_, e2⟩ | ⟨jj, x, e1, e2⟩
              · rw [hx] at e2; cases e2
              · rw [hx] at e2; cases e2; exact ⟨jj, Lib.hid e1⟩
            have Hnext : Hid (recsL ((ns.take (kk + 1)).map (alGet m)) = recsL ((ns.take kk).map (alGet m)) ++ recsL [(r, s)]) := Lib.hid (by
              rw [List.take_add_one, hkey, List.map_append, recsL_append]
              congr 1
              show recsL [alGet m key] = _
              unfold alGet; rw [hx]; rfl)
            clear hx hkey
            go_wp2_with (first | go_skip | ((with_reducible apply ld_idS (k := key)); rfl; rfl; (first | assumption | (focus (apply H.arr (t := 26); (repeat (first | with_reducible exact mH | with_reducible apply mT)); done)))) | ((fail_if_success have := k14); (with_reducible apply al_idz H); clear H; intro wn k14 H) | ((with_reducible apply st_idb (k := key) zid_length H); rfl; rfl; rfl; (repeat (first | with_reducible apply Upd.head | with_reducible apply Upd.tail)); clear H; intro wn H))
            (try simp only [Act.put, List.setIfInBounds_toArray, List.set_cons_zero, List.set_cons_succ])
            refine wp_slotsM [⟨some 77, [], fun _ v => v = .pointer (some ⟨k12, 0, none⟩)⟩, ⟨some 78, [(0, 77)], fun _ v => v = so⟩, ⟨some 79, [], fun _ v => v = .map (some kM)⟩, ⟨some 80, [], fun _ v => v = encK key⟩, ⟨some 81, [(2, 79), (3, 80)], fun _ v => v = .agg (rA r s)⟩, ⟨some 82, [(4, 81)], Made wn (fun v => v) (fun v => Res.row 33 19 v 1 (recsL [(r, s)]))⟩] [77, 78, 79, 80, 81, 82] (false :: false :: false :: false :: false :: false :: false :: false :: false :: false :: false :: false :: false :: false :: false :: false :: false :: false :: false :: false :: false :: false :: false :: false :: false :: false :: false :: false :: false :: false :: false :: false :: false :: false :: false :: false :: false :: false :: false :: false :: false :: false :: false :: false :: false :: false :: false :: false :: false :: false :: false :: false :: false :: false :: false :: false :: false :: false :: false :: false :: false :: false :: false :: false :: false :: false :: false :: false :: false :: false :: false :: false :: false :: false :: false :: false :: false :: true :: true :: true :: true :: true :: true :: []) [(some 77, []), (some 78, [(0, 77)]), (some 79, []), (some 80, []), (some 81, [(2, 79), (3, 80)]), (some 82, [(4, 81)])] rfl (by kernel_rfl) (by kernel_rfl) (by rfl) (by rfl) ?_ ?_ ?_
            · exact stable_cons (fun _ _ _ _ h => h) (stable_cons (fun _ _ _ _ h => h) (stable_cons (fun _ _ _ _ h => h) (stable_cons (fun _ _ _ _ h => h) (stable_cons (fun _ _ _ _ h => h) (stable_cons Made.keep (stable_nil))))))
            · refine hops_cons ?_ (hops_cons ?_ (hops_cons ?_ (hops_cons ?_ (hops_cons ?_ (hops_cons ?_ (trivial))))))
              · unfold HopM; intro u wn hb hk; have H0 := H; replace H := H.call hb
                simp only [fillM]
                go_wp2_with (first | go_skip | ((with_reducible apply ld_one (ty := 22) Tryz.underlying22 rfl); rfl; rfl; (focus (apply H.one; (repeat (first | with_reducible exact mH | with_reducible apply mT)); done))) | ((with_reducible apply ld_idS (k := key)); rfl; rfl; (first | assumption | (focus (apply H.arr (t := 26); (repeat (first | with_reducible exact mH | with_reducible apply mT)); done)))) | ((with_reducible apply arm_lookup1 H (k := key) (ok := keyID) (ht := Tryz.underlying74) (hz := zero_recW)); rfl; rfl; (repeat (first | with_reducible exact mH | with_reducible apply mT)); rw [E1.out]; dsimp only))
                exact ⟨rfl, Below.refl _ _, .pointer (some ⟨k12, 0, none⟩), rfl, rfl⟩
              · unfold HopM; intro u wn hb hk; have H0 := H; replace H := H.call hb
                obtain ⟨hq0, -⟩ := hk
                replace hq0 := hq0 _ rfl; dsimp only at hq0
                simp only [fillM, hq0]
                clear hq0
                go_wp2_with (first | go_skip | ((with_reducible apply ld_one (ty := 22) Tryz.underlying22 rfl); rfl; rfl; (focus (apply H.one; (repeat (first | with_reducible exact mH | with_reducible apply mT)); done))) | ((with_reducible apply ld_idS (k := key)); rfl; rfl; (first | assumption | (focus (apply H.arr (t := 26); (repeat (first | with_reducible exact mH | with_reducible apply mT)); done)))) | ((with_reducible apply arm_lookup1 H (k := key) (ok := keyID) (ht := Tryz.underlying74) (hz := zero_recW)); rfl; rfl; (repeat (first | with_reducible exact mH | with_reducible apply mT)); rw [E1.out]; dsimp only))
                exact ⟨rfl, Below.refl _ _, so, rfl, rfl⟩
              · unfold HopM; intro u wn hb hk; have H0 := H; replace H := H.call hb
                simp only [fillM]
                go_wp2_with (first | go_skip | ((with_reducible apply ld_one (ty := 22) Tryz.underlying22 rfl); rfl; rfl; (focus (apply H.one; (repeat (first | with_reducible exact mH | with_reducible apply mT)); done))) | ((with_reducible apply ld_idS (k := key)); rfl; rfl; (first | assumption | (focus (apply H.arr (t := 26); (repeat (first | with_reducible exact mH | with_reducible apply mT)); done)))) | ((with_reducible apply arm_lookup1 H (k := key) (ok := keyID) (ht := Tryz.underlying74) (hz := zero_recW)); rfl; rfl; (repeat (first | with_reducible exact mH | with_reducible apply mT)); rw [E1.out]; dsimp only))
                exact ⟨rfl, Below.refl _ _, .map (some kM), rfl, rfl⟩
              · unfold HopM; intro u wn hb hk; have H0 := H; replace H := H.call hb
                simp only [fillM]
                go_wp2_with (first | go_skip | ((with_reducible apply ld_one (ty := 22) Tryz.underlying22 rfl); rfl; rfl; (focus (apply H.one; (repeat (first | with_reducible exact mH | with_reducible apply mT)); done))) | ((with_reducible apply ld_idS (k := key)); rfl; rfl; (first | assumption | (focus (apply H.arr (t := 26); (repeat (first | with_reducible exact mH | with_reducible apply mT)); done)))) | ((with_reducible apply arm_lookup1 H (k := key) (ok := keyID) (ht := Tryz.underlying74) (hz := zero_recW)); rfl; rfl; (repeat (first | with_reducible exact mH | with_reducible apply mT)); rw [E1.out]; dsimp only))
                exact ⟨rfl, Below.refl _ _, encK key, rfl, rfl⟩
              · unfold HopM; intro u wn hb hk; have H0 := H; replace H := H.call hb
                obtain ⟨hq2, hq3, -⟩ := hk
                replace hq2 := hq2 _ rfl; dsimp only at hq2
                replace hq3 := hq3 _ rfl; dsimp only at hq3
                simp only [fillM, hq2, hq3]
                clear hq2 hq3
                go_wp2_with (first | go_skip | ((with_reducible apply ld_one (ty := 22) Tryz.underlying22 rfl); rfl; rfl; (focus (apply H.one; (repeat (first | with_reducible exact mH | with_reducible apply mT)); done))) | ((with_reducible apply ld_idS (k := key)); rfl; rfl; (first | assumption | (focus (apply H.arr (t := 26); (repeat (first | with_reducible exact mH | with_reducible apply mT)); done)))) | ((with_reducible apply arm_lookup1 H (k := key) (ok := keyID) (ht := Tryz.underlying74) (hz := zero_recW)); rfl; rfl; (repeat (first | with_reducible exact mH | with_reducible apply mT)); rw [E1.out]; dsimp only))
                exact ⟨rfl, Below.refl _ _, .agg (rA r s), rfl, rfl⟩
              · unfold HopM; intro u wn hb hk; have H0 := H; replace H := H.call hb
                obtain ⟨hq4, -⟩ := hk
                replace hq4 := hq4 _ rfl; dsimp only at hq4
                simp only [fillM, hq4]
                clear hq4
                go_wp2_with (first | go_skip | ((with_reducible apply bs_rec ok (St.init _)); rfl; intro wm b hs))
                exact ⟨rfl, hs.bel, _, rfl, _, rfl, hs.get mH, fun b hf => Nat.le_trans hb.size (hs.base _ mH b hf)⟩
            intro u wn hb hk; have H0 := H; replace H := H.call hb
            obtain ⟨hq0, hq1, hq2, hq3, hq4, hq5, -⟩ := hk
            replace hq0 := hq0 _ rfl; dsimp only at hq0
            replace hq1 := hq1 _ rfl; dsimp only at hq1
            replace hq2 := hq2 _ rfl; dsimp only at hq2
            replace hq3 := hq3 _ rfl; dsimp only at hq3
            replace hq4 := hq4 _ rfl; dsimp only at hq4
            replace hq5 := hq5 _ rfl; dsimp only at hq5; obtain ⟨sv, hq5, hRow, hBase⟩ := hq5; dsimp only at hq5; replace H := H0.new hb hRow hBase; clear hRow hBase
            simp only [fillM, List.length_cons, List.length_nil, Nat.reduceAdd, List.drop_succ_cons, List.drop_zero, hq0, hq1, hq2, hq3, hq4, hq5]
            clear hb H0 hq0 hq1 hq2 hq3 hq4 hq5
            go_wp2_with (first | go_skip | ((with_reducible apply arm_app H (ht := Tryz.underlying22) (hinfo := info_rec3) (hzs := size_rec0) (hsz := by decide)); (conv => lhs; whnf); (conv => lhs; whnf); (intro v; (repeat (first | with_reducible apply Upd.head | with_reducible apply Upd.tail))); (focus (apply H.rowRead; (repeat (first | with_reducible exact mH | with_reducible apply mT)); done)); (focus (exact recsL_one (fun p hp => by rw [List.mem_singleton.1 hp]; exact Hs1.out); done)); (focus (unfold maxLen; omega; done)); (focus (omega; done)); clear H; intro wn vn H; obtain ⟨av, cv, rfl⟩ := H.rowSl (v := vn) (by (repeat (first | with_reducible exact mH | with_reducible apply mT)))) | ((with_reducible apply st_on rs_one H); rfl; rfl; (conv => lhs; whnf); (repeat (first | with_reducible apply Upd.head | with_reducible apply Upd.tail)); rfl; (first | rfl | assumption | (refine Hid.out ?_; assumption)); clear H; intro wn H))
            go_roundw
            case rel =>
              refine ⟨kk + 1, .slice av (kk + 1) cv, by omega, by go_num, ?_⟩
              rw [Hnext.out]
              exact H.sub (by (repeat (first | with_reducible exact List.Sublist.refl _ | with_reducible refine List.Sublist.cons_cons _ ?_ | refine List.Sublist.cons _ ?_)))
            case measure => simp [intOf]; omega
          · have hkn : kk = names.length := by omega
            subst hkn
            obtain ⟨az, cz, rfl⟩ := H.rowSl mH
            go_wp2_with (first | go_skip | ((with_reducible apply ld_bk); rfl; rfl; (focus (apply H.one; (repeat (first | with_reducible exact mH | with_reducible apply mT)); done))) | (with_reducible apply bd_bk0) | ((with_reducible apply st_bk H); rfl; rfl; rfl; (repeat (first | with_reducible apply Upd.head | with_reducible apply Upd.tail)); (first | rfl | assumption | (refine Hid.out ?_; assumption)); clear H; intro wn H))
            all_goals first | (rw [Exit.noGoto_ret]) | skip
            have hR := H.arr (b := kR) (t := 24) (cs := #[.slice az names.length cz]) (by (repeat (first | with_reducible exact mH | with_reducible apply mT)))
            refine bodyPost_ret (results_cell_tmp Tryz.results11 _ _ kR #[.slice az names.length cz] _ _ rfl rfl hR Tryz.underlying24 rfl bk_info) rfl ?_
            refine ⟨.slice az names.length cz, (Res.row 33 19 (.slice az names.length cz) names.length (recsL ((ns.take names.length).map (alGet m)))).and R, by rw [Hc0.out]; rfl, fun W hW => ?_, St.merge (Γ := []) (H.sub (by (repeat (first | with_reducible exact List.Sublist.refl _ | with_reducible refine List.Sublist.cons_cons _ ?_ | refine List.Sublist.cons _ ?_))))⟩
            rw [HbJ.out]
            have htk : ns.take names.length = ns := by rw [← Hnl2.out]; exact List.take_length
            have hrow := Res.row_reads hW.1
            rw [htk] at hrow
            refine ⟨ns.map (alGet m), jinv_out J.out Hpm.out Hsrt.out, by rw [List.length_map, Hnl2.out]; exact hrow, fun p hp => ?_⟩
            obtain ⟨key, hkey, rfl⟩ := List.mem_map.1 hp
            obtain ⟨x, hx⟩ : ∃ x, alFind m key = some x := alFind_key (by rw [← J.out.keys]; exact Hpm.out.subset hkey)
            have hb := J.out.find key
            rw [hx] at hb
            have hf := Rd.out.get hW.2 (alFind_mem hx)
            rw [show alGet m key = x by unfold alGet; rw [hx]; rfl]
            exact ⟨J.out.ok x.1 (bFind_mem hb).1, hf⟩
      · have Hc4 : Hid (bCan (LA.map (·.1)) (LB.map (·.1)) = 4) := Lib.hid (by
          unfold bCan; rw [if_pos Hcan.out, ← HP.out, ← Hlen.out, if_neg hbig])
        have HbJ : Hid (bJ (LA.map (·.1)) (LB.map (·.1)) = []) := Lib.hid (by unfold bJ; rw [if_neg (by rw [Hc4.out]; decide)])
        go_wp2_with (first | go_skip | ((with_reducible apply ld_bk); rfl; rfl; (focus (apply H.one; (repeat (first | with_reducible exact mH | with_reducible apply mT)); done))) | (with_reducible apply bd_bk0) | ((with_reducible apply st_bk H); rfl; rfl; rfl; (repeat (first | with_reducible apply Upd.head | with_reducible apply Upd.tail)); (first | rfl | assumption | (refine Hid.out ?_; assumption)); clear H; intro wn H))
        all_goals first | (rw [Exit.noGoto_ret]) | skip
        have hR := H.arr (b := kR) (t := 24) (cs := #[.slice none 0 0]) (by (repeat (first | with_reducible exact mH | with_reducible apply mT)))
        refine bodyPost_ret (results_cell_tmp Tryz.results11 _ _ kR #[.slice none 0 0] _ _ rfl rfl hR Tryz.underlying24 rfl bk_info) rfl ?_
        refine ⟨.slice none 0 0, by rw [Hc4.out]; rfl, Res.none, fun W _ => by rw [HbJ.out]; exact Recs.nil W, ?_⟩
        exact H.addNone.sub (by (repeat (first | with_reducible exact List.Sublist.refl _ | with_reducible refine List.Sublist.cons_cons _ ?_ | refine List.Sublist.cons _ ?_)))
end Go.Proofs.YtolbmemogoojhaaGreat
/- Two books joined; one adds nothing to another one. -/
namespace Go.Proofs.YtolbmemogoojhaaGreat
open Go Go.RowKit Go.Deep
set_option linter.unusedVariables false
set_option linter.unusedSimpArgs false
set_option maxRecDepth 100000
def JoinP (w : World) (d : Int) (J : BK) (e : Ending) (w' : World) : Prop := ∃ v r, e = .returned (.tuple #[.agg #[v], .int .i64 d]) ∧ (∀ W, r.holds W → Recs W v J) ∧ St w w' [r]
theorem bkjoin_c {va vb : Value} {A B J : BK} {d : Int} (hc : bCan A B = d) (hj : bJ A B = J) (w : World) (ha : Recs w va A) (hb : Recs w vb B) : Calls Tryz.prog 11 #[.agg #[va], .agg #[vb]] w (JoinP w d J) := by
  subst hc hj
  cases hm : (bMay A && bMay B) with
  | false =>
    have h1 : bCan A B = 1 := by unfold bCan; rw [if_neg (by rw [hm]; simp)]
    have h2 : bJ A B = [] := by unfold bJ; rw [if_neg (by rw [h1]; decide)]
    rw [h1, h2]
    exact (bkjoin_arg va vb A B hm w ha hb).mono fun e w' ⟨h, hb⟩ => ⟨_, Res.none, h, fun W _ => Recs.nil W, ((St.init w).call hb).addNone⟩
  | true =>
    obtain ⟨LA, rfl, ra⟩ := ha
    obtain ⟨LB, rfl, rb⟩ := hb
    simp only [Bool.and_eq_true] at hm
    exact bkjoin_yes va vb LA LB hm.1 hm.2 w ra rb
end Go.Proofs.YtolbmemogoojhaaGreat
