/- What a call owns: blocks, rows and maps that nothing else touches; each step says what becomes of the list. No program. -/
import Derived.Test.YtolbmemogoojhaaGreatKM9
import Derived.Maps.AppendAt
import Derived.Great.BuildSlice
import Derived.Test.YtolbmemogoojhaaGreatKM6
import Derived.Stop.BytesEq
import Derived.StillTail
namespace Go.Proofs.YtolbmemogoojhaaGreat
open Go Go.RowKit Go.Deep
set_option linter.unusedVariables false
set_option linter.unusedSimpArgs false

/-- Something in memory that hangs on some blocks alone. -/
structure Res where
  foot : Nat → Prop
  holds : World → Prop
  stay : ∀ {w w' : World}, holds w → (∀ b, foot b → w'.heap[b]? = w.heap[b]?) → holds w'
  lt : ∀ {w : World} {b : Nat}, holds w → foot b → b < w.heap.size

/-- Turned at no old block but those of F. -/
structure Chg (F : Nat → Prop) (w w' : World) : Prop where
  os : w'.os = w.os
  tape : w'.tape = w.tape
  output : w'.output = w.output
  size : w.heap.size ≤ w'.heap.size
  block : ∀ k, k < w.heap.size → ¬ F k → w'.heap[k]? = w.heap[k]?
theorem Chg.of_but {b : Nat} {w w' : World} (h : But b w w') : Chg (· = b) w w' := ⟨h.os, h.tape, h.output, h.size, fun k hk hn => h.block k hk hn⟩
theorem Chg.of_below {F : Nat → Prop} {w w' : World} (h : Below w.heap.size w w') : Chg F w w' := ⟨h.os, h.tape, h.output, h.size, fun k hk _ => h.block k hk⟩
theorem Chg.of_grown {w w' : World} {row : Option Nat} (h : w.grownBy w' row) : Chg (fun k => row = some k) w w' := ⟨h.os, h.tape, h.output, h.size, fun k hk hn => h.block k hk fun e => hn e.symm⟩

def Apart (r s : Res) : Prop := ∀ b, r.foot b → ¬ s.foot b
theorem Apart.symm {r s : Res} (h : Apart r s) : Apart s r := fun b h1 h2 => h b h2 h1

/-- The world w, come from w0: nothing that w0 had has turned; beside it these resources, all made since, no two of them touching. -/
structure St (w0 w : World) (Γ : List Res) : Prop where
  bel : Below w0.heap.size w0 w
  base : ∀ r ∈ Γ, ∀ b, r.foot b → w0.heap.size ≤ b
  holds : ∀ r ∈ Γ, r.holds w
  apart : Γ.Pairwise Apart

inductive Upd : List Res → Res → Res → List Res → Prop
  | head (r r' : Res) (Γ : List Res) : Upd (r :: Γ) r r' (r' :: Γ)
  | tail (x : Res) {Γ Γ' : List Res} {r r' : Res} : Upd Γ r r' Γ' → Upd (x :: Γ) r r' (x :: Γ')
theorem Upd.mem {Γ Γ' : List Res} {r r' : Res} (h : Upd Γ r r' Γ') : r ∈ Γ := by
  induction h with
  | head => exact mH
  | tail x _ ih => exact mT _ ih
theorem Upd.mem' {Γ Γ' : List Res} {r r' : Res} (h : Upd Γ r r' Γ') (hp : Γ.Pairwise Apart) : ∀ s ∈ Γ', s = r' ∨ (s ∈ Γ ∧ Apart r s) := by
  induction h with
  | head r r' Γ =>
    intro s hs
    rcases List.mem_cons.1 hs with rfl | hs
    · exact .inl rfl
    · exact .inr ⟨mT _ hs, (List.pairwise_cons.1 hp).1 s hs⟩
  | tail x u ih =>
    obtain ⟨h1, h2⟩ := List.pairwise_cons.1 hp
    intro s hs
    rcases List.mem_cons.1 hs with rfl | hs
    · exact .inr ⟨mH, (h1 _ u.mem).symm⟩
    · rcases ih h2 s hs with h | ⟨h, h'⟩
      · exact .inl h
      · exact .inr ⟨mT _ h, h'⟩
theorem Upd.pair {Γ Γ' : List Res} {r r' : Res} (h : Upd Γ r r' Γ') (hp : Γ.Pairwise Apart) (hd : ∀ s ∈ Γ, Apart r s → Apart r' s) : Γ'.Pairwise Apart := by
  induction h with
  | head r r' Γ =>
    obtain ⟨h1, h2⟩ := List.pairwise_cons.1 hp
    exact List.pairwise_cons.2 ⟨fun s hs => hd s (mT _ hs) (h1 s hs), h2⟩
  | tail x u ih =>
    obtain ⟨h1, h2⟩ := List.pairwise_cons.1 hp
    refine List.pairwise_cons.2 ⟨fun s hs => ?_, ih h2 fun s hs => hd s (mT _ hs)⟩
    rcases u.mem' h2 s hs with rfl | ⟨h, _⟩
    · exact (hd x mH (h1 _ u.mem).symm).symm
    · exact h1 s h

theorem St.init (w : World) : St w w [] := ⟨Below.refl _ _, fun _ h => (List.not_mem_nil h).elim, fun _ h => (List.not_mem_nil h).elim, List.Pairwise.nil⟩
section
variable {w0 w w' : World} {Γ Γ' Δ : List Res} {r r' : Res}
theorem St.get (h : St w0 w Γ) (hm : r ∈ Γ) : r.holds w := h.holds r hm
theorem St.size (h : St w0 w Γ) : w0.heap.size ≤ w.heap.size := h.bel.size
theorem St.call (h : St w0 w Γ) (hb : Below w.heap.size w w') : St w0 w' Γ :=
  ⟨h.bel.trans (hb.mono h.bel.size), h.base, fun r hr => r.stay (h.holds r hr) fun b hf => hb.block b (r.lt (h.holds r hr) hf), h.apart⟩
theorem St.drew (h : St w0 w Γ) : St w0 w.drew Γ := h.call (Below.refl _ _).drew
theorem St.alloc (h : St w0 w Γ) (o : Obj) : St w0 (w.alloc o) Γ := h.call (bel_alloc (Below.refl _ _) o)
/-- What a call has made, beside what was there. -/
theorem St.comp (h : St w0 w Γ) (k : St w w' Δ) : St w0 w' (Δ ++ Γ) := by
  have h' := h.call k.bel
  refine ⟨h'.bel, fun r hr b hf => ?_, fun r hr => ?_, ?_⟩
  · rcases List.mem_append.1 hr with hr | hr
    · exact Nat.le_trans h.bel.size (k.base r hr b hf)
    · exact h.base r hr b hf
  · rcases List.mem_append.1 hr with hr | hr
    · exact k.holds r hr
    · exact h'.holds r hr
  · refine List.pairwise_append.2 ⟨k.apart, h.apart, fun r hr s hs b h1 h2 => ?_⟩
    have := k.base r hr b h1
    have := s.lt (h.holds s hs) h2
    omega
theorem St.new (h : St w0 w Γ) (hb : Below w.heap.size w w') (hr : r.holds w') (hf : ∀ b, r.foot b → w.heap.size ≤ b) : St w0 w' (r :: Γ) :=
  h.comp (Δ := [r]) ⟨hb, fun s hs => by rw [List.mem_singleton.1 hs]; exact hf, fun s hs => by rw [List.mem_singleton.1 hs]; exact hr, List.pairwise_singleton _ _⟩
/-- One of them turned. -/
theorem St.upd (h : St w0 w Γ) (u : Upd Γ r r' Γ') (hc : Chg r.foot w w') (hr : r'.holds w') (hf : ∀ b, r'.foot b → r.foot b ∨ w.heap.size ≤ b) : St w0 w' Γ' := by
  have hm := u.mem' h.apart
  have hb := h.base r u.mem
  refine ⟨h.bel.trans ⟨hc.os, hc.tape, hc.output, hc.size, fun k hk => hc.block k (Nat.lt_of_lt_of_le hk h.bel.size) fun hk' => ?_⟩, fun s hs b hfb => ?_, fun s hs => ?_, ?_⟩
  · have := hb k hk'; omega
  · rcases hm s hs with rfl | ⟨hs', _⟩
    · rcases hf b hfb with h1 | h1
      · exact hb b h1
      · exact Nat.le_trans h.bel.size h1
    · exact h.base s hs' b hfb
  · rcases hm s hs with rfl | ⟨hs', ha⟩
    · exact hr
    · exact s.stay (h.holds s hs') fun b hfb => hc.block b (s.lt (h.holds s hs') hfb) fun h1 => ha b h1 hfb
  · refine u.pair h.apart fun s hs ha b h1 h2 => ?_
    rcases hf b h1 with h3 | h3
    · exact ha b h3 h2
    · have := s.lt (h.holds s hs) h2; omega
theorem St.sub (h : St w0 w Γ) (hs : Γ'.Sublist Γ) : St w0 w Γ' := ⟨h.bel, fun r hr => h.base r (hs.subset hr), fun r hr => h.holds r (hs.subset hr), h.apart.sublist hs⟩
theorem St.perm (h : St w0 w Γ) (hs : Γ'.Perm Γ) : St w0 w Γ' := ⟨h.bel, fun r hr => h.base r (hs.subset hr), fun r hr => h.holds r (hs.subset hr), (hs.pairwise_iff (fun h => Apart.symm h)).2 h.apart⟩
def Res.and (r s : Res) : Res := ⟨fun b => r.foot b ∨ s.foot b, fun w => r.holds w ∧ s.holds w, fun h k => ⟨r.stay h.1 fun b hb => k b (.inl hb), s.stay h.2 fun b hb => k b (.inr hb)⟩, fun h hb => hb.elim (r.lt h.1) (s.lt h.2)⟩
theorem St.merge (h : St w0 w (r :: r' :: Γ)) : St w0 w (r.and r' :: Γ) := by
  obtain ⟨h1, h2⟩ := List.pairwise_cons.1 h.apart
  obtain ⟨h3, h4⟩ := List.pairwise_cons.1 h2
  refine ⟨h.bel, fun s hs b hf => ?_, fun s hs => ?_, List.pairwise_cons.2 ⟨fun s hs b hf h' => ?_, h4⟩⟩
  · rcases List.mem_cons.1 hs with rfl | hs
    · rcases hf with hf | hf
      · exact h.base r mH b hf
      · exact h.base r' (mT _ mH) b hf
    · exact h.base s (mT _ (mT _ hs)) b hf
  · rcases List.mem_cons.1 hs with rfl | hs
    · exact ⟨h.holds r mH, h.holds r' (mT _ mH)⟩
    · exact h.holds s (mT _ (mT _ hs))
  · rcases hf with hf | hf
    · exact h1 s (mT _ hs) b hf h'
    · exact h3 s hs b hf h'
def Res.none : Res := ⟨fun _ => False, fun _ => True, fun _ _ => trivial, fun _ h => h.elim⟩
theorem St.addNone (h : St w0 w Γ) : St w0 w (Res.none :: Γ) := h.comp (Δ := [Res.none]) ⟨Below.refl _ _, fun s hs b hf => by rw [List.mem_singleton.1 hs] at hf; exact hf.elim, fun s hs => by rw [List.mem_singleton.1 hs]; trivial, List.pairwise_singleton _ _⟩
end

def Res.blk (b : Nat) (t : TypeId) (cs : Array Value) : Res := ⟨fun k => k = b, fun w => Blk w b t cs, fun h k => (k _ rfl).trans h, fun h e => by subst e; exact h.lt⟩
def Res.map (b : Nat) {κ : Type} (enc : κ → Value) (m : List (κ × Value)) : Res :=
  ⟨fun k => k = b, fun w => MapAt w b enc m, fun ⟨es, c, h, e⟩ k => ⟨es, c, (k _ rfl).trans h, e⟩, fun h e => by subst e; exact h.lt⟩
/-- A row of one's own, at which one may append. -/
def Res.row (e : TypeId) (size : Nat) (v : Value) (n : Nat) (cs : List Value) : Res :=
  ⟨fun k => v.ownBlock = some k, fun w => w.ownsRow 0 e size v n cs, fun h k => by
    obtain ⟨hl, h | ⟨g, cap, cur, rfl, hb, hg, h1⟩⟩ := h
    · exact ⟨hl, .inl h⟩
    · exact ⟨hl, .inr ⟨g, cap, cur, rfl, hb, (k g rfl).trans hg, h1⟩⟩, fun h e => by
    obtain ⟨hl, ⟨rfl, _⟩ | ⟨g, cap, cur, rfl, hb, hg, h1⟩⟩ := h
    · cases e
    · cases e; exact (Array.getElem?_eq_some_iff.1 hg).1⟩
theorem row_none (w : World) (e : TypeId) (size : Nat) : (Res.row e size (.slice none 0 0) 0 []).holds w := World.ownsRow_nil _ _ _ _
theorem St.nilRow {w0 w : World} {Γ : List Res} (h : St w0 w Γ) (e : TypeId) (size : Nat) : St w0 w (Res.row e size (.slice none 0 0) 0 [] :: Γ) :=
  h.new (Below.refl _ _) (row_none w e size) fun b hb => by cases hb
theorem Res.row_reads {w : World} {e : TypeId} {size n : Nat} {v : Value} {cs : List Value} (h : (Res.row e size v n cs).holds w) : Row w size v n cs := row_of_own h
theorem St.rowSlice {w0 w : World} {Γ : List Res} (H : St w0 w Γ) {e : TypeId} {size n : Nat} {v : Value} {cs : List Value} (hm : Res.row e size v n cs ∈ Γ) : ∃ a n c, v = .slice a n c := by
  obtain ⟨_, ⟨rfl, _⟩ | ⟨g, cap, cur, rfl, _⟩⟩ := H.get hm
  · exact ⟨_, _, _, rfl⟩
  · exact ⟨_, _, _, rfl⟩
theorem St.rowRead {w0 w : World} {Γ : List Res} (H : St w0 w Γ) {e : TypeId} {size n : Nat} {v : Value} {cs : List Value} (hm : Res.row e size v n cs ∈ Γ) : Row w size v n cs := Res.row_reads (H.get hm)
/-- What was made since the call, with its base. -/
theorem St.own {w0 w : World} {Γ : List Res} (h : St w0 w Γ) {e : TypeId} {size n : Nat} {v : Value} {cs : List Value} (hm : Res.row e size v n cs ∈ Γ) : w.ownsRow w0.heap.size e size v n cs := by
  have hb := h.base _ hm
  obtain ⟨hl, h1 | ⟨g, cap, cur, rfl, _, h2⟩⟩ := h.holds _ hm
  · exact ⟨hl, .inl h1⟩
  · exact ⟨hl, .inr ⟨g, cap, cur, rfl, hb g rfl, h2⟩⟩
theorem St.rowIn {w0 w : World} {Γ : List Res} (h : St w0 w Γ) {w' : World} {e : TypeId} {size n : Nat} {v : Value} {cs : List Value} (hb : Below w.heap.size w w') (hr : w'.ownsRow w.heap.size e size v n cs) : St w0 w' (Res.row e size v n cs :: Γ) :=
  h.new hb (own_lower hr (Nat.zero_le _)) fun b hf => (hr.lt b hf).1
theorem St.ofRow {w w' : World} {e : TypeId} {size n : Nat} {v : Value} {cs : List Value} (hb : Below w.heap.size w w') (hr : w'.ownsRow w.heap.size e size v n cs) : St w w' [Res.row e size v n cs] := (St.init w).rowIn hb hr

theorem run_append_row_at {P : Program} {w : World} (base : Nat) (t ty e : TypeId) (i : TypeInfo) (z : Value) (size bytes : Nat) (ht : P.underlying t = some (.slice e)) (hi : P.info? e = some i) (hz : i.zero = some z)
    (hsize : i.size = size) (hby : i.bytes = bytes) (hzs : z.cells.size = size) (hsz : 0 < size)
    (v : Value) (n : Nat) (xs : List Value) (hown : w.ownsRow base e size v n xs)
    (x : Value) (m : Nat) (news : List Value) (hx : Row w size x m news) (h1 : ∀ u ∈ news, u.oneCell' = true)
    (h63 : n + m ≤ maxLen) (hbytes : (n + m) * bytes ≤ 140737488355328) (hbase : base ≤ w.heap.size) :
    ∃ v' w', (Builtin.append_ #[t, t] ty #[v, x]).run P w = .ok v' w' ∧ w'.ownsRow base e size v' (n + m) (xs ++ news) ∧ w.grownBy w' v.ownBlock ∧ (v'.ownBlock = v.ownBlock ∨ v'.ownBlock = some w.heap.size) := by
  obtain ⟨hl, a, c, rfl, k1, k2, k3, k4⟩ := hx
  by_cases hm : m = 0
  · subst hm
    have hn : news = [] := by simpa using hl
    subst hn
    simp only [Nat.add_zero, List.append_nil]
    cases a with
    | none =>
      have hc0 := k3 rfl
      subst hc0
      subst hsize
      obtain ⟨hxl, ⟨rfl, rfl⟩ | ⟨g, cap, cur, rfl, hbg, hg, hnc, hcm, hcs, htake⟩⟩ := id hown
      · refine ⟨.slice none 0 0, w, ?_, hown, ⟨rfl, rfl, rfl, Nat.le_refl _, fun _ _ _ => rfl⟩, .inl rfl⟩
        simp [Builtin.append_, run_underlying ht, sizeOf, typeInfo, hi, Builtin.lenOf, Builtin.firstCells, loadCells, loadCellsFrom]
      · have hr := run_append_room_src (P := P) w t t ty e i ht hi g 0 n cap (.slice none 0 0) 0 [] (Src.ofNil w ht 0) (by omega) (by simp) (by simp)
        refine ⟨_, _, hr, ?_, ⟨rfl, rfl, rfl, by simp [World.setCells], fun _ _ _ => by simp [World.setCells]⟩, .inl rfl⟩
        simpa [World.setCells] using hown
    | some ad =>
      obtain ⟨v', w', hr, h2, h3, _, h5⟩ := run_append_own_at (P := P) w base t ty e i z size bytes ht hi hz hsize hby hzs hsz v n xs hown ad 0 c [] (by simp) (by simp) (by simp) (by omega) (by simpa using hbytes) hbase
      exact ⟨v', w', hr, by simpa using h2, h3, h5⟩
  · have hpos : 0 < news.length := by rw [hl]; exact Nat.mul_pos (by omega) hsz
    obtain ⟨b, off, rfl, hc⟩ := k4 hpos
    obtain ⟨v', w', hr, h2, h3, _, h5⟩ := run_append_own_at (P := P) w base t ty e i z size bytes ht hi hz hsize hby hzs hsz v n xs hown ⟨b, off, none⟩ m c news hl
      (fun j u hj => by rw [Addr.add_lit]; exact hc j u hj) h1 h63 hbytes hbase
    exact ⟨v', w', hr, h2, h3, h5⟩

/-! The walk's steps. -/
section
variable {P : Program} {ops : Array Oper} {rest : List Oper} {a : Act} {w0 w : World} {Q : Exit → Act → World → Prop} {Γ Γ' : List Res}
variable {dst : Option Tmp} {ty typ : TypeId} {x y : Operand} {pos : String} {af : Array Edge} {gd : Option (Nat × Bool)}
theorem arm_box (H : St w0 w Γ) {cs : Array Value} (hx : a.eval x = .agg cs)
    (h : ∀ w' b, St w0 w' (Res.blk b ty cs :: Γ) → wpList P ops Q rest (a.put dst (.pointer (some ⟨b, 0, none⟩))) w') : wpList P ops Q (⟨dst, .box ty x, typ, pos, af, none⟩ :: rest) a w :=
  wpList_box_blk rfl ty x rfl dst rfl cs hx fun w' k b s => h w' _ (H.new b k fun _ e => by cases e; exact Nat.le_refl _)
theorem run_box_one (v : Value) (hv : v.cells = #[v]) (ρ : Operand → Value) (o : Oper) (ho : o.op = .box ty x) (hx : ρ x = v) :
    (execOp ρ o).run P w = .ok (.value (.pointer (some ⟨w.heap.size, 0, none⟩))) (w.alloc (.cells #[v] ty)) := by
  unfold execOp
  simp [ho, hx, Instr.box, newVar, newRow, hv]
theorem arm_box1 (H : St w0 w Γ) {v : Value} (hx : a.eval x = v) (hv : v.cells = #[v])
    (h : ∀ w' b, St w0 w' (Res.blk b ty #[v] :: Γ) → wpList P ops Q rest (a.put dst (.pointer (some ⟨b, 0, none⟩))) w') : wpList P ops Q (⟨dst, .box ty x, typ, pos, af, none⟩ :: rest) a w := by
  refine wpList_plain rfl fun K hK => ?_
  unfold Oper.wp
  rw [run_box_one (x := x) (ty := ty) v hv _ _ rfl hx, Oper.upon_value]
  exact hK _ _ (h _ _ (H.new (bel_alloc (Below.refl _ _) _) (Blk.new _ _ _) fun _ e => by cases e; exact Nat.le_refl _))
theorem arm_alloc (H : St w0 w Γ) {z : Value} {cs : Array Value} (hz : (P.info? ty).map (·.zero) = some (some z)) (hcs : z.cells = cs)
    (h : ∀ w' b, St w0 w' (Res.blk b ty cs :: Γ) → wpList P ops Q rest (a.put dst (.pointer (some ⟨b, 0, none⟩))) w') : wpList P ops Q (⟨dst, .alloc ty, typ, pos, af, none⟩ :: rest) a w :=
  wpList_alloc_blk rfl ty rfl dst rfl z cs hz hcs fun w' k b s => h w' _ (H.new b k fun _ e => by cases e; exact Nat.le_refl _)
/-- An aggregate is read. -/
theorem arm_ld (hw : Region.wanted (⟨dst, .load ty x, typ, pos, af, gd⟩ : Oper) (yielded ops a.tmps) = true) {b off : Nat} (hx : a.eval x = .pointer (some ⟨b, off, none⟩)) {cs : Array Value} {d : TypeDesc} (hg : Sub w b off cs)
    (hu : P.underlying ty = some d) (hd : (match d with | .struct _ | .array _ _ => true | _ => false) = true) (hi : (P.info? ty).map (·.size) = some cs.size)
    (h : wpList P ops Q rest (a.put dst (.agg cs)) w) : wpList P ops Q (⟨dst, .load ty x, typ, pos, af, gd⟩ :: rest) a w := wpList_load_sub hw ty x rfl dst rfl b off hx cs d hg hu hd hi h
/-- One cell is read. -/
theorem arm_ld1 (hw : Region.wanted (⟨dst, .load ty x, typ, pos, af, gd⟩ : Oper) (yielded ops a.tmps) = true) {b off : Nat} (hx : a.eval x = .pointer (some ⟨b, off, none⟩)) {v : Value} {d : TypeDesc} (hg : Sub w b off #[v])
    (hu : P.underlying ty = some d) (hd : (match d with | .struct _ | .array _ _ => true | _ => false) = false)
    (h : wpList P ops Q rest (a.put dst v) w) : wpList P ops Q (⟨dst, .load ty x, typ, pos, af, gd⟩ :: rest) a w := wpList_load_one hw ty x rfl dst rfl b off hx v d hg hu hd h
/-- An aggregate is written over a part of a block, or over all of it. -/
theorem arm_st (H : St w0 w Γ) (hw : Region.wanted (⟨dst, .store ty x y, typ, pos, af, gd⟩ : Oper) (yielded ops a.tmps) = true) {b off : Nat} {cells cur new : Array Value} {t : TypeId} (hx : a.eval x = .pointer (some ⟨b, off, none⟩)) (hy : a.eval y = .agg cells)
    (u : Upd Γ (Res.blk b t cur) (Res.blk b t new) Γ') (hi : (P.info? ty).map (·.size) = some cells.size) (hfit : off + cells.size ≤ cur.size) (h1 : cells.all (·.oneCell') = true)
    (hnew : (cur.toList.take off ++ cells.toList ++ cur.toList.drop (off + cells.size)).toArray = new)
    (h : ∀ w', St w0 w' Γ' → wpList P ops Q rest (a.put dst undef) w') : wpList P ops Q (⟨dst, .store ty x y, typ, pos, af, gd⟩ :: rest) a w :=
  wpList_store_part hw ty x y rfl dst rfl b off cells hx hy t cur (H.holds _ u.mem) hi hfit h1 new hnew fun w' k c _ => h w' (H.upd u (Chg.of_but c) k fun _ e => .inl e)
theorem run_store_one {b off : Nat} {v : Value} {t : TypeId} {cur : Array Value} (hg : Blk w b t cur) (hlt : off < cur.size) (hv : v.cells = #[v]) (h1 : v.oneCell' = true) (hi : (P.info? ty).map (·.size) = some 1) :
    (storeVar ty ⟨b, off, none⟩ v).run P w = .ok () (w.setRow b (cur.toList.take off ++ [v] ++ cur.toList.drop (off + 1)).toArray) := by
  have hst := run_storeCells_at (P := P) b off t [v] 0 cur w hg (by simpa using Nat.succ_le_of_lt hlt) (fun u hu => by simp at hu; subst hu; exact h1)
  simp only [Nat.add_zero, List.length_cons, List.length_nil, Nat.zero_add] at hst
  cases hq : P.info? ty with
  | none => simp [hq] at hi
  | some i =>
    have hs : 1 = i.size := by simp [hq] at hi; omega
    simp [storeVar, sizeOf, typeInfo, hq, hv, ← hs]
    rw [List.append_assoc] at hst
    simpa using hst
/-- One cell is written. -/
theorem arm_st1 (H : St w0 w Γ) (hw : Region.wanted (⟨dst, .store ty x y, typ, pos, af, gd⟩ : Oper) (yielded ops a.tmps) = true) {b off : Nat} {v : Value} {cur new : Array Value} {t : TypeId} (hx : a.eval x = .pointer (some ⟨b, off, none⟩)) (hy : a.eval y = v)
    (u : Upd Γ (Res.blk b t cur) (Res.blk b t new) Γ') (hi : (P.info? ty).map (·.size) = some 1) (hfit : off < cur.size) (hv : v.cells = #[v]) (h1 : v.oneCell' = true)
    (hnew : (cur.toList.take off ++ [v] ++ cur.toList.drop (off + 1)).toArray = new)
    (h : ∀ w', St w0 w' Γ' → wpList P ops Q rest (a.put dst undef) w') : wpList P ops Q (⟨dst, .store ty x y, typ, pos, af, gd⟩ :: rest) a w := by
  refine BigFrame.wpList_want hw fun K hK => ?_
  unfold Oper.wp execOp
  have hB : Blk w b t cur := H.holds _ u.mem
  simp only [hx, hy, Instr.storeAt, Instr.sureAddr, Sem.run_bind, Sem.run_pure, Result.andThen_ok, run_store_one hB hfit hv h1 hi]
  rw [hnew]
  exact hK _ _ (h _ (H.upd u (Chg.of_but ((But.refl _ _).setRow _)) (hB.setRow _) fun _ e => .inl e))
/-- Append, from whatever row. -/
theorem arm_append {o : Oper} (H : St w0 w Γ) (hgd : o.guard = none) (s x : Operand) (t : TypeId)
    (ho : o.op = .call { callee := .builtin .append, args := #[s, x], argTypes := #[t, t] })
    (e : TypeId) (z : Value) (size bytes : Nat) (ht : P.underlying t = some (.slice e)) (hinfo : (P.info? e).map (fun i => (i.zero, i.size, i.bytes)) = some (some z, size, bytes))
    (hzs : z.cells.size = size) (hsz : 0 < size)
    (v : Value) (n : Nat) (xs : List Value) (hs : a.eval s = v)
    (xv : Value) (m : Nat) (news : List Value) (hxv : a.eval x = xv) (hx : Row w size xv m news) (h1 : ∀ u ∈ news, u.oneCell' = true)
    (h63 : n + m ≤ maxLen) (hbytes : (n + m) * bytes ≤ 140737488355328)
    {Γ' : Value → List Res} (u : ∀ v', Upd Γ (Res.row e size v n xs) (Res.row e size v' (n + m) (xs ++ news)) (Γ' v'))
    (h : ∀ v' w', St w0 w' (Γ' v') → wpList P ops Q rest (a.put o.dst v') w') : wpList P ops Q (o :: rest) a w := by
  have hr : w.ownsRow 0 e size v n xs := H.holds _ (u undef).mem
  obtain ⟨i, hi, hzz⟩ := Option.map_eq_some_iff.1 hinfo
  simp only [Prod.mk.injEq] at hzz
  obtain ⟨hz, hsi, hby⟩ := hzz
  refine wpList_plain hgd fun K hK => ?_
  obtain ⟨v', w', hrun, h2, h3, h4⟩ := run_append_row_at (P := P) 0 t o.type e i z size bytes ht hi hz hsi hby hzs hsz v n xs hr xv m news hx h1 h63 hbytes (Nat.zero_le _)
  unfold Oper.wp execOp
  simp only [ho, resolve, invoke, builtin, Sem.run_bind, Sem.run_pure, Result.andThen_ok, List.map_toArray, List.map_cons, List.map_nil, hs, hxv, hrun]
  refine hK _ _ (h v' w' (H.upd (u v') (Chg.of_grown h3) h2 fun b hb => ?_))
  rcases h4 with h4 | h4
  · left; show v.ownBlock = some b; rw [← h4]; exact hb
  · right; have hb' : v'.ownBlock = some b := hb; rw [h4] at hb'; cases hb'; exact Nat.le_refl _
theorem arm_app (H : St w0 w Γ) {s : Operand} {t e : TypeId} {z : Value} {size bytes : Nat} (ht : P.underlying t = some (.slice e)) (hinfo : (P.info? e).map (fun i => (i.zero, i.size, i.bytes)) = some (some z, size, bytes))
    (hzs : z.cells.size = size) (hsz : 0 < size)
    {v : Value} {n : Nat} {xs : List Value} (hs : a.eval s = v) {xv : Value} {m : Nat} {news : List Value} (hxv : a.eval x = xv)
    {Γ' : Value → List Res} (u : ∀ v', Upd Γ (Res.row e size v n xs) (Res.row e size v' (n + m) (xs ++ news)) (Γ' v'))
    (hx : Row w size xv m news) (h1 : ∀ u ∈ news, u.oneCell' = true) (h63 : n + m ≤ maxLen) (hbytes : (n + m) * bytes ≤ 140737488355328)
    (h : ∀ w' v', St w0 w' (Γ' v') → wpList P ops Q rest (a.put dst v') w') : wpList P ops Q (⟨dst, .call { callee := .builtin .append, args := #[s, x], argTypes := #[t, t] }, typ, pos, af, none⟩ :: rest) a w :=
  arm_append H rfl s x t rfl e z size bytes ht hinfo hzs hsz v n xs hs xv m news hxv hx h1 h63 hbytes u fun v' w' h' => h w' v' h'
/-- A slice of one element that is written out. -/
theorem arm_bslice1 (H : St w0 w Γ) {t e : TypeId} {v z : Value} {cs : List Value} {size bytes : Nat} (hx : a.eval x = v) (hv : v.cells.toList = cs) (hu : P.underlying t = some (.slice e)) (hinfo : (P.info? e).map (fun i => (i.zero, i.size, i.bytes)) = some (some z, size, bytes))
    (hzs : z.cells.size = size) (hn : cs.length = size) (hsz : 0 < size) (hsm : size ≤ 2 ^ 24)
    (h : ∀ w' b, St w0 w' (Res.row e size (.slice (some ⟨b, 0, none⟩) 1 1) 1 cs :: Γ) → wpList P ops Q rest (a.put dst (.slice (some ⟨b, 0, none⟩) 1 1)) w') : wpList P ops Q (⟨dst, .buildSlice t 1 #[(0, x)], typ, pos, af, none⟩ :: rest) a w := by
  obtain ⟨i, hi, hzz⟩ := Option.map_eq_some_iff.1 hinfo
  simp only [Prod.mk.injEq] at hzz
  obtain ⟨hz, hsi, hby⟩ := hzz
  refine wpList_buildSlice rfl t e 1 #[(0, x)] rfl cs.toArray i z hu hi hz (by rw [hsi]; omega) (by rw [hsi]; omega) ?_ (h _ _ (H.rowIn (bel_alloc (Below.refl _ _) _) ⟨by simpa using hn, .inr ⟨w.heap.size, 1, cs.toArray, rfl, Nat.le_refl _, World.alloc_heap_new w _, Nat.le_refl _, by decide, by simp [hn], by simp [← hn]⟩⟩))
  have hf := Go.Great.fill_whole (s := size) hsz [v] ((Array.range (1 * i.size)).map (z.cells[· % z.cells.size]!)) (fun u hu => by simp at hu; subst hu; rw [← hn, ← hv]; simp) (by simp [hsi])
  rw [hsi] at hf ⊢
  simp only [List.map_toArray, List.map_cons, List.map_nil, hx]
  simpa [hv] using hf
theorem run_makeMap0 (t : TypeId) (w : World) : (Instr.makeMap t none).run P w = .ok (.map (some w.heap.size)) (w.alloc (.map #[] 0)) := rfl
theorem arm_makeMap (H : St w0 w Γ) {κ : Type} (enc : κ → Value)
    (h : ∀ w' b, St w0 w' (Res.map b enc [] :: Γ) → wpList P ops Q rest (a.put dst (.map (some b))) w') : wpList P ops Q (⟨dst, .makeMap ty none, typ, pos, af, none⟩ :: rest) a w := by
  refine wpList_plain rfl fun K hK => ?_
  unfold Oper.wp execOp
  simp only [Option.map_none, Sem.run_bind, run_makeMap0, Result.andThen_ok, Sem.run_pure, Oper.upon_value]
  exact hK _ _ (h _ _ (H.new (bel_alloc (Below.refl _ _) _) (MapAt.new w) fun _ e => by cases e; exact Nat.le_refl _))
section
variable {b : Nat} {κ : Type} [DecidableEq κ] {enc : κ → Value} {m : List (κ × Value)} {K E : TypeId} {z : Operand}
theorem arm_lookup2 (H : St w0 w Γ) (hx : a.eval x = .map (some b)) {k : κ} (hk : a.eval y = enc k) (hm : Res.map b enc m ∈ Γ) (ok : KeyOk P K enc) (ht : P.underlying ty = some (.map K E)) {zv : Value} (hz : ∀ w, (zeroValue E).run P w = .ok zv w)
    (h : wpList P ops Q rest (a.put dst (match gIx m k with | some q => .tuple #[q.2, .bool true] | none => .tuple #[zv, .bool false])) w) : wpList P ops Q (⟨dst, .lookup ty x y true, typ, pos, af, none⟩ :: rest) a w :=
  wpList_lookup_map rfl ty K E x y rfl dst rfl hx k hk (H.get hm) ok ht zv hz h
theorem arm_lookup1 (H : St w0 w Γ) (hx : a.eval x = .map (some b)) {k : κ} (hk : a.eval y = enc k) (hm : Res.map b enc m ∈ Γ) (ok : KeyOk P K enc) (ht : P.underlying ty = some (.map K E)) {zv : Value} (hz : ∀ w, (zeroValue E).run P w = .ok zv w)
    (h : wpList P ops Q rest (a.put dst (match gIx m k with | some q => q.2 | none => zv)) w) : wpList P ops Q (⟨dst, .lookup ty x y false, typ, pos, af, none⟩ :: rest) a w := by
  refine wpList_run rfl _ w ?_ h
  unfold execOp
  simp only [hx, hk, Sem.run_bind, run_lookup_map1 (H.get hm) ok ht (hz w) k, Result.andThen_ok, Sem.run_pure]
  rfl
theorem arm_mapset (H : St w0 w Γ) (hx : a.eval x = .map (some b)) {k : κ} (hk : a.eval y = enc k) {v : Value} (hv : a.eval z = v) (u : Upd Γ (Res.map b enc m) (Res.map b enc (gPut m k v)) Γ') (ok : KeyOk P K enc) (ht : P.underlying ty = some (.map K E))
    (h : ∀ w', St w0 w' Γ' → wpList P ops Q rest (a.put dst undef) w') : wpList P ops Q (⟨dst, .mapUpdate ty x y z, typ, pos, af, none⟩ :: rest) a w :=
  wpList_update_map rfl ty K E x y z rfl dst rfl hx k hk v hv (H.holds _ u.mem) ok ht fun w' hm hb _ => h w' (H.upd u (Chg.of_but hb) hm fun _ e => .inl e)
end
end
end Go.Proofs.YtolbmemogoojhaaGreat
/- The walk's steps over records, cells, fields and single variables that a call owns or reads. -/
namespace Go.Proofs.YtolbmemogoojhaaGreat
open Go Go.RowKit Go.Deep
set_option linter.unusedVariables false
set_option linter.unusedSimpArgs false
set_option maxRecDepth 100000
theorem Sub.part {w : World} {b o : Nat} {cs ds : Array Value} (h : Sub w b o cs) (k : Nat) (hk : ∀ (j : Nat) (u : Value), ds[j]? = some u → cs[k + j]? = some u) : Sub w b (o + k) ds := fun j u hj => by
  have := h (k + j) u (hk j u hj)
  rwa [← Nat.add_assoc] at this
/-- A record lies here. -/
def RecAt (w : World) (b o : Nat) (r : RD) (s : Value) : Prop := Sub w b o (rA r s) ∧ r.ok
def CelAt (w : World) (b o : Nat) (N R : Int) (S : ByteArray) : Prop := Sub w b o #[.int .i64 N, .int .i64 R, .string S]
def FldAt (w : World) (b o : Nat) (no N R : Int) (S : ByteArray) : Prop := Sub w b o #[.int .i64 no, .int .i64 N, .int .i64 R, .string S]
section
variable {w w' : World} {b o : Nat} {r : RD} {s : Value} {no N R : Int} {S : ByteArray}
theorem RecAt.bel (h : RecAt w b o r s) (hb : Below w.heap.size w w') : RecAt w' b o r s := ⟨h.1.keep hb, h.2⟩
theorem CelAt.bel (h : CelAt w b o N R S) (hb : Below w.heap.size w w') : CelAt w' b o N R S := h.keep hb
theorem FldAt.bel (h : FldAt w b o no N R S) (hb : Below w.heap.size w w') : FldAt w' b o no N R S := h.keep hb
theorem rA_get {r : RD} (hr : r.ok) (s : Value) : (∀ (j : Nat) (u : Value), (idA r)[j]? = some u → (rA r s)[j]? = some u) ∧ (rA r s)[16]? = some (.int .i64 r.N) ∧ (rA r s)[17]? = some (.int .i64 r.R) ∧ (rA r s)[18]? = some s := by
  obtain ⟨h1, h2, h3⟩ := rA_at (s := s) hr
  refine ⟨fun j u hj => ?_, h1, h2, h3⟩
  have hlt := (Array.getElem?_eq_some_iff.1 hj).1
  unfold rA recA
  unfold idA at hj hlt
  rw [Array.getElem?_append, if_pos hlt]; exact hj
theorem RecAt.id (h : RecAt w b o r s) : Sub w b o (idA r) := fun j u hj => h.1 j u ((rA_get h.2 s).1 j u hj)
theorem RecAt.dead (h : RecAt w b o r s) : Sub w b (o + 16) #[.int .i64 r.N, .int .i64 r.R] := h.1.part 16 fun j u hj => by
  obtain ⟨_, h1, h2, h3⟩ := rA_get h.2 s
  match j, hj with
  | 0, hj => simp at hj; subst hj; exact h1
  | 1, hj => simp at hj; subst hj; exact h2
theorem RecAt.F (h : RecAt w b o r s) : Sub w b (o + 18) #[s] := h.1.part 18 fun j u hj => by
  obtain ⟨_, h1, h2, h3⟩ := rA_get h.2 s
  match j, hj with
  | 0, hj => simp at hj; subst hj; exact h3
theorem CelAt.stamp (h : CelAt w b o N R S) : Sub w b o #[.int .i64 N, .int .i64 R] := fun j u hj => h j u (by
  match j, hj with
  | 0, hj => simpa using hj
  | 1, hj => simpa using hj)
theorem CelAt.n (h : CelAt w b o N R S) : Sub w b o #[.int .i64 N] := fun j u hj => h j u (by
  match j, hj with
  | 0, hj => simpa using hj)
theorem CelAt.rep (h : CelAt w b o N R S) : Sub w b (o + 1) #[.int .i64 R] := Sub.part h 1 fun j u hj => by
  match j, hj with
  | 0, hj => simpa using hj
theorem CelAt.str (h : CelAt w b o N R S) : Sub w b (o + 2) #[.string S] := Sub.part h 2 fun j u hj => by
  match j, hj with
  | 0, hj => simpa using hj
theorem FldAt.num (h : FldAt w b o no N R S) : Sub w b o #[.int .i64 no] := fun j u hj => h j u (by
  match j, hj with
  | 0, hj => simpa using hj)
theorem FldAt.cel (h : FldAt w b o no N R S) : CelAt w b (o + 1) N R S := Sub.part h 1 fun j u hj => by
  match j, hj with
  | 0, hj => simpa using hj
  | 1, hj => simpa using hj
  | 2, hj => simpa using hj
theorem FldAt.str (h : FldAt w b o no N R S) : Sub w b (o + 3) #[.string S] := Sub.part h 3 fun j u hj => by
  match j, hj with
  | 0, hj => simpa using hj
end
def Res.rc (b : Nat) (r : RD) (s : Value) : Res := ⟨fun k => k = b, fun w => Blk w b 33 (rA r s) ∧ r.ok, fun h k => ⟨(k _ rfl).trans h.1, h.2⟩, fun h e => by subst e; exact h.1.lt⟩
theorem Res.rc_at {w : World} {b : Nat} {r : RD} {s : Value} (h : (Res.rc b r s).holds w) : RecAt w b 0 r s := ⟨h.1.subA, h.2⟩
section
variable {w0 w : World} {Γ Γ' : List Res} {b : Nat} {r : RD} {s : Value} {no N R : Int} {S : ByteArray} {t : TypeId} {v : Value} {cs : Array Value}
theorem St.rc (H : St w0 w Γ) (hm : Res.rc b r s ∈ Γ) : RecAt w b 0 r s := Res.rc_at (H.get hm)
theorem St.cel (H : St w0 w Γ) (hm : Res.blk b t #[.int .i64 N, .int .i64 R, .string S] ∈ Γ) : CelAt w b 0 N R S := Blk.subA (H.get hm)
theorem St.fld (H : St w0 w Γ) (hm : Res.blk b t #[.int .i64 no, .int .i64 N, .int .i64 R, .string S] ∈ Γ) : FldAt w b 0 no N R S := Blk.subA (H.get hm)
theorem St.one (H : St w0 w Γ) (hm : Res.blk b t #[v] ∈ Γ) : Sub w b 0 #[v] := Blk.subA (H.get hm)
theorem St.arr (H : St w0 w Γ) (hm : Res.blk b t cs ∈ Γ) : Sub w b 0 cs := Blk.subA (H.get hm)
end
section
variable {ops : Array Oper} {rest : List Oper} {a : Act} {w0 w : World} {Q : Exit → Act → World → Prop} {Γ Γ' : List Res}
variable {dst : Option Tmp} {typ : TypeId} {x y : Operand} {pos : String} {af : Array Edge} {gd : Option (Nat × Bool)}
variable {b o : Nat} {r r' : RD} {s s' : Value} {no N R N' R' no' : Int} {S S' : ByteArray} {C : World → Prop} {K : Act → Prop}
theorem ld_rec (hw : Region.wanted (⟨dst, .load 33 x, typ, pos, af, gd⟩ : Oper) (yielded ops a.tmps) = true) (hx : a.eval x = .pointer (some ⟨b, o, none⟩)) (h : RecAt w b o r s) (k : wpList Tryz.prog ops Q rest (a.put dst (.agg (rA r s))) w) : wpList Tryz.prog ops Q (⟨dst, .load 33 x, typ, pos, af, gd⟩ :: rest) a w :=
  arm_ld hw hx (h.1) Tryz.underlying33 rfl (rA_info h.2) k
theorem qd_rec (hx : a.eval x = .pointer (some ⟨b, o, none⟩)) (h : ∀ w', C w' → RecAt w' b o r s) (hok : r.ok) (k : K (a.put dst (.agg (rA r s)))) : (⟨dst, .load 33 x, typ, pos, af, gd⟩ : Oper).quiet Tryz.prog a C K :=
  quiet_load_sub 33 x rfl dst rfl b _ hx (rA r s) _ (fun w' hw' => by have h := h w' hw'; exact h.1) Tryz.underlying33 rfl (rA_info hok) k
theorem ld_id (hw : Region.wanted (⟨dst, .load 26 x, typ, pos, af, gd⟩ : Oper) (yielded ops a.tmps) = true) (hx : a.eval x = .pointer (some ⟨b, o, none⟩)) (h : RecAt w b o r s) (k : wpList Tryz.prog ops Q rest (a.put dst (.agg (idA r))) w) : wpList Tryz.prog ops Q (⟨dst, .load 26 x, typ, pos, af, gd⟩ :: rest) a w :=
  arm_ld hw hx (h.id) Tryz.underlying26 rfl (idA_info h.2) k
theorem qd_id (hx : a.eval x = .pointer (some ⟨b, o, none⟩)) (h : ∀ w', C w' → RecAt w' b o r s) (hok : r.ok) (k : K (a.put dst (.agg (idA r)))) : (⟨dst, .load 26 x, typ, pos, af, gd⟩ : Oper).quiet Tryz.prog a C K :=
  quiet_load_sub 26 x rfl dst rfl b _ hx (idA r) _ (fun w' hw' => by have h := h w' hw'; exact h.id) Tryz.underlying26 rfl (idA_info hok) k
theorem ld_dead (hw : Region.wanted (⟨dst, .load 30 x, typ, pos, af, gd⟩ : Oper) (yielded ops a.tmps) = true) (hx : a.eval x = .pointer (some ⟨b, o + 16, none⟩)) (h : RecAt w b o r s) (k : wpList Tryz.prog ops Q rest (a.put dst (.agg #[.int .i64 r.N, .int .i64 r.R])) w) : wpList Tryz.prog ops Q (⟨dst, .load 30 x, typ, pos, af, gd⟩ :: rest) a w :=
  arm_ld hw hx (h.dead) Tryz.underlying30 rfl (stamp_info) k
theorem ld_F (hw : Region.wanted (⟨dst, .load 31 x, typ, pos, af, gd⟩ : Oper) (yielded ops a.tmps) = true) (hx : a.eval x = .pointer (some ⟨b, o + 18, none⟩)) (h : RecAt w b o r s) (k : wpList Tryz.prog ops Q rest (a.put dst (s)) w) : wpList Tryz.prog ops Q (⟨dst, .load 31 x, typ, pos, af, gd⟩ :: rest) a w :=
  arm_ld1 hw hx (h.F) Tryz.underlying31 rfl k
theorem ld_cel (hw : Region.wanted (⟨dst, .load 68 x, typ, pos, af, gd⟩ : Oper) (yielded ops a.tmps) = true) (hx : a.eval x = .pointer (some ⟨b, o, none⟩)) (h : CelAt w b o N R S) (k : wpList Tryz.prog ops Q rest (a.put dst (.agg #[.int .i64 N, .int .i64 R, .string S])) w) : wpList Tryz.prog ops Q (⟨dst, .load 68 x, typ, pos, af, gd⟩ :: rest) a w :=
  arm_ld hw hx (h) Tryz.underlying68 rfl (cell_info) k
theorem ld_fld (hw : Region.wanted (⟨dst, .load 82 x, typ, pos, af, gd⟩ : Oper) (yielded ops a.tmps) = true) (hx : a.eval x = .pointer (some ⟨b, o, none⟩)) (h : FldAt w b o no N R S) (k : wpList Tryz.prog ops Q rest (a.put dst (.agg #[.int .i64 no, .int .i64 N, .int .i64 R, .string S])) w) : wpList Tryz.prog ops Q (⟨dst, .load 82 x, typ, pos, af, gd⟩ :: rest) a w :=
  arm_ld hw hx (h) Tryz.underlying82 rfl (field_info) k
theorem ld_fno (hw : Region.wanted (⟨dst, .load 3 x, typ, pos, af, gd⟩ : Oper) (yielded ops a.tmps) = true) (hx : a.eval x = .pointer (some ⟨b, o, none⟩)) (h : FldAt w b o no N R S) (k : wpList Tryz.prog ops Q rest (a.put dst (.int .i64 no)) w) : wpList Tryz.prog ops Q (⟨dst, .load 3 x, typ, pos, af, gd⟩ :: rest) a w :=
  arm_ld1 hw hx (h.num) Tryz.underlying3 rfl k
theorem ld_fcel (hw : Region.wanted (⟨dst, .load 68 x, typ, pos, af, gd⟩ : Oper) (yielded ops a.tmps) = true) (hx : a.eval x = .pointer (some ⟨b, o + 1, none⟩)) (h : FldAt w b o no N R S) (k : wpList Tryz.prog ops Q rest (a.put dst (.agg #[.int .i64 N, .int .i64 R, .string S])) w) : wpList Tryz.prog ops Q (⟨dst, .load 68 x, typ, pos, af, gd⟩ :: rest) a w :=
  arm_ld hw hx (h.cel) Tryz.underlying68 rfl (cell_info) k
theorem ld_fstamp (hw : Region.wanted (⟨dst, .load 30 x, typ, pos, af, gd⟩ : Oper) (yielded ops a.tmps) = true) (hx : a.eval x = .pointer (some ⟨b, o + 1, none⟩)) (h : FldAt w b o no N R S) (k : wpList Tryz.prog ops Q rest (a.put dst (.agg #[.int .i64 N, .int .i64 R])) w) : wpList Tryz.prog ops Q (⟨dst, .load 30 x, typ, pos, af, gd⟩ :: rest) a w :=
  arm_ld hw hx (h.cel.stamp) Tryz.underlying30 rfl (stamp_info) k
theorem bx_rec (H : St w0 w Γ) (hx : a.eval x = .agg (rA r s)) (ok : r.ok)
    (h : ∀ w' b, St w0 w' (Res.rc b r s :: Γ) → wpList Tryz.prog ops Q rest (a.put dst (.pointer (some ⟨b, 0, none⟩))) w') : wpList Tryz.prog ops Q (⟨dst, .box 33 x, typ, pos, af, none⟩ :: rest) a w :=
  wpList_box_blk rfl 33 x rfl dst rfl _ hx fun w' k b1 s1 => h w' _ (H.new b1 ⟨k, ok⟩ fun _ e => by cases e; exact Nat.le_refl _)
theorem al_rec (H : St w0 w Γ) (h : ∀ w' b, St w0 w' (Res.rc b noRD (.slice none 0 0) :: Γ) → wpList Tryz.prog ops Q rest (a.put dst (.pointer (some ⟨b, 0, none⟩))) w') : wpList Tryz.prog ops Q (⟨dst, .alloc 33, typ, pos, af, none⟩ :: rest) a w :=
  wpList_alloc_blk rfl 33 rfl dst rfl _ _ noA_zero rfl fun w' k b1 s1 => h w' _ (H.new b1 ⟨k, noRD_ok⟩ fun _ e => by cases e; exact Nat.le_refl _)
theorem rA_one' (r : RD) {s : Value} (h : s.oneCell' = true) : (rA r s).all (·.oneCell') = true := recA_one (encU_all _) h
theorem st_rec (H : St w0 w Γ) (hw : Region.wanted (⟨dst, .store 33 x y, typ, pos, af, gd⟩ : Oper) (yielded ops a.tmps) = true) (hx : a.eval x = .pointer (some ⟨b, 0, none⟩)) (hy : a.eval y = .agg (rA r' s'))
    (u : Upd Γ (Res.rc b r s) (Res.rc b r' s') Γ') (ok : r'.ok) (h1 : s'.oneCell' = true) (h : ∀ w', St w0 w' Γ' → wpList Tryz.prog ops Q rest (a.put dst undef) w') : wpList Tryz.prog ops Q (⟨dst, .store 33 x y, typ, pos, af, gd⟩ :: rest) a w := by
  have hB := H.holds _ u.mem
  refine wpList_store_part hw 33 x y rfl dst rfl b 0 (rA r' s') hx hy 33 (rA r s) hB.1 (rA_info ok) (by rw [rA_size ok, rA_size hB.2]; exact Nat.le_refl _) (rA_one' r' h1) (rA r' s') ?_ fun w' k c _ => h w' (H.upd u (Chg.of_but c) ⟨k, ok⟩ fun _ e => .inl e)
  rw [List.take_zero, List.nil_append, Nat.zero_add, List.drop_of_length_le (by rw [Array.length_toList, rA_size ok, rA_size hB.2]; exact Nat.le_refl _), List.append_nil]
theorem rA_list (r : RD) (s : Value) : (rA r s).toList = encU r.id ++ [.int .i64 r.N, .int .i64 r.R, s] := by simp [rA, recA]
theorem flds_info : (Tryz.prog.info? 31).map (·.size) = some 1 := by kernel_rfl
theorem st_F (H : St w0 w Γ) (hw : Region.wanted (⟨dst, .store 31 x y, typ, pos, af, gd⟩ : Oper) (yielded ops a.tmps) = true) (hx : a.eval x = .pointer (some ⟨b, 18, none⟩)) (hy : a.eval y = s')
    (u : Upd Γ (Res.rc b r s) (Res.rc b r s') Γ') (h1 : ∃ ad n c, s' = .slice ad n c) (h : ∀ w', St w0 w' Γ' → wpList Tryz.prog ops Q rest (a.put dst undef) w') : wpList Tryz.prog ops Q (⟨dst, .store 31 x y, typ, pos, af, gd⟩ :: rest) a w := by
  have hB : (Res.rc b r s).holds w := H.holds _ u.mem
  have hl : (encU r.id).length = 16 := by rw [encU_length]; exact hB.2
  obtain ⟨ad, n, c, rfl⟩ := h1
  refine BigFrame.wpList_want hw fun K hK => ?_
  unfold Oper.wp execOp
  simp only [hx, hy, Instr.storeAt, Instr.sureAddr, Sem.run_bind, Sem.run_pure, Result.andThen_ok, run_store_one (ty := 31) (off := 18) (v := .slice ad n c) hB.1 (by rw [rA_size hB.2]; decide) rfl rfl flds_info]
  have e : ((rA r s).toList.take 18 ++ [Value.slice ad n c] ++ (rA r s).toList.drop (18 + 1)).toArray = rA r (.slice ad n c) := by
    apply Array.toList_inj.1
    rw [rA_list, rA_list, List.take_append, List.drop_append, hl]
    simp [List.take_of_length_le (show (encU r.id).length ≤ 18 by omega), List.drop_of_length_le (show (encU r.id).length ≤ 19 by omega)]
  rw [e]
  refine hK _ _ (h _ (H.upd u (Chg.of_but ((But.refl _ _).setRow _)) ⟨Blk.setRow hB.1 _, hB.2⟩ fun _ e => .inl e))
theorem st_dead (H : St w0 w Γ) (hw : Region.wanted (⟨dst, .store 30 x y, typ, pos, af, gd⟩ : Oper) (yielded ops a.tmps) = true) (hx : a.eval x = .pointer (some ⟨b, 16, none⟩)) (hy : a.eval y = .agg #[.int .i64 N', .int .i64 R'])
    (u : Upd Γ (Res.rc b r s) (Res.rc b ⟨r.id, N', R', r.f⟩ s) Γ') (h : ∀ w', St w0 w' Γ' → wpList Tryz.prog ops Q rest (a.put dst undef) w') : wpList Tryz.prog ops Q (⟨dst, .store 30 x y, typ, pos, af, gd⟩ :: rest) a w := by
  have hB : (Res.rc b r s).holds w := H.holds _ u.mem
  have hl : (encU r.id).length = 16 := by rw [encU_length]; exact hB.2
  refine wpList_store_part hw 30 x y rfl dst rfl b 16 _ hx hy 33 (rA r s) hB.1 stamp_info (by rw [rA_size hB.2]; simp) (by simp [Value.oneCell']) (rA ⟨r.id, N', R', r.f⟩ s) ?_ fun w' k c _ => h w' (H.upd u (Chg.of_but c) ⟨k, hB.2⟩ fun _ e => .inl e)
  apply Array.toList_inj.1
  rw [rA_list, rA_list, List.take_append, List.drop_append, hl]
  simp [List.take_of_length_le (show (encU r.id).length ≤ 16 by omega), List.drop_of_length_le (show (encU r.id).length ≤ 18 by omega)]
theorem al_cel (H : St w0 w Γ) (h : ∀ w' b, St w0 w' (Res.blk b 68 #[.int .i64 0, .int .i64 0, .string ⟨#[]⟩] :: Γ) → wpList Tryz.prog ops Q rest (a.put dst (.pointer (some ⟨b, 0, none⟩))) w') : wpList Tryz.prog ops Q (⟨dst, .alloc 68, typ, pos, af, none⟩ :: rest) a w := arm_alloc H cell_zero rfl h
theorem fld_zero : (Tryz.prog.info? 82).map (·.zero) = some (some (.agg #[.int .i64 0, .int .i64 0, .int .i64 0, .string ⟨#[]⟩])) := by kernel_rfl
theorem stp_zero : (Tryz.prog.info? 30).map (·.zero) = some (some (.agg #[.int .i64 0, .int .i64 0])) := by kernel_rfl
theorem al_fld (H : St w0 w Γ) (h : ∀ w' b, St w0 w' (Res.blk b 82 #[.int .i64 0, .int .i64 0, .int .i64 0, .string ⟨#[]⟩] :: Γ) → wpList Tryz.prog ops Q rest (a.put dst (.pointer (some ⟨b, 0, none⟩))) w') : wpList Tryz.prog ops Q (⟨dst, .alloc 82, typ, pos, af, none⟩ :: rest) a w := arm_alloc H fld_zero rfl h
theorem al_stp (H : St w0 w Γ) (h : ∀ w' b, St w0 w' (Res.blk b 30 #[.int .i64 0, .int .i64 0] :: Γ) → wpList Tryz.prog ops Q rest (a.put dst (.pointer (some ⟨b, 0, none⟩))) w') : wpList Tryz.prog ops Q (⟨dst, .alloc 30, typ, pos, af, none⟩ :: rest) a w := arm_alloc H stp_zero rfl h
variable {t ty : TypeId} {v v' : Value}
theorem al_one {z : Value} (H : St w0 w Γ) (hz : (Tryz.prog.info? ty).map (·.zero) = some (some z)) (hc : z.cells = #[z]) (h : ∀ w' b, St w0 w' (Res.blk b ty #[z] :: Γ) → wpList Tryz.prog ops Q rest (a.put dst (.pointer (some ⟨b, 0, none⟩))) w') : wpList Tryz.prog ops Q (⟨dst, .alloc ty, typ, pos, af, none⟩ :: rest) a w := arm_alloc H hz hc h
theorem st_cel (H : St w0 w Γ) (hw : Region.wanted (⟨dst, .store 68 x y, typ, pos, af, gd⟩ : Oper) (yielded ops a.tmps) = true) (hx : a.eval x = .pointer (some ⟨b, 0, none⟩)) (hy : a.eval y = .agg #[.int .i64 N', .int .i64 R', .string S'])
    (u : Upd Γ (Res.blk b t #[.int .i64 N, .int .i64 R, .string S]) (Res.blk b t #[.int .i64 N', .int .i64 R', .string S']) Γ') (h : ∀ w', St w0 w' Γ' → wpList Tryz.prog ops Q rest (a.put dst undef) w') : wpList Tryz.prog ops Q (⟨dst, .store 68 x y, typ, pos, af, gd⟩ :: rest) a w :=
  arm_st H hw hx hy u cell_info (Nat.le_refl _) cell_one rfl h
theorem st_fld (H : St w0 w Γ) (hw : Region.wanted (⟨dst, .store 82 x y, typ, pos, af, gd⟩ : Oper) (yielded ops a.tmps) = true) (hx : a.eval x = .pointer (some ⟨b, 0, none⟩)) (hy : a.eval y = .agg #[.int .i64 no', .int .i64 N', .int .i64 R', .string S'])
    (u : Upd Γ (Res.blk b t #[.int .i64 no, .int .i64 N, .int .i64 R, .string S]) (Res.blk b t #[.int .i64 no', .int .i64 N', .int .i64 R', .string S']) Γ') (h : ∀ w', St w0 w' Γ' → wpList Tryz.prog ops Q rest (a.put dst undef) w') : wpList Tryz.prog ops Q (⟨dst, .store 82 x y, typ, pos, af, gd⟩ :: rest) a w :=
  arm_st H hw hx hy u field_info (Nat.le_refl _) (by simp [Value.oneCell']) rfl h
theorem st_stamp (H : St w0 w Γ) (hw : Region.wanted (⟨dst, .store 30 x y, typ, pos, af, gd⟩ : Oper) (yielded ops a.tmps) = true) (hx : a.eval x = .pointer (some ⟨b, 0, none⟩)) (hy : a.eval y = .agg #[.int .i64 N', .int .i64 R'])
    (u : Upd Γ (Res.blk b t #[.int .i64 N, .int .i64 R]) (Res.blk b t #[.int .i64 N', .int .i64 R']) Γ') (h : ∀ w', St w0 w' Γ' → wpList Tryz.prog ops Q rest (a.put dst undef) w') : wpList Tryz.prog ops Q (⟨dst, .store 30 x y, typ, pos, af, gd⟩ :: rest) a w :=
  arm_st H hw hx hy u stamp_info (Nat.le_refl _) (by simp [Value.oneCell']) rfl h
/-- A single variable. -/
theorem st_one (H : St w0 w Γ) (hw : Region.wanted (⟨dst, .store ty x y, typ, pos, af, gd⟩ : Oper) (yielded ops a.tmps) = true) (hx : a.eval x = .pointer (some ⟨b, 0, none⟩)) (hy : a.eval y = v')
    (u : Upd Γ (Res.blk b t #[v]) (Res.blk b t #[v']) Γ') (hi : (Tryz.prog.info? ty).map (·.size) = some 1) (hv : v'.cells = #[v']) (h1 : v'.oneCell' = true) (h : ∀ w', St w0 w' Γ' → wpList Tryz.prog ops Q rest (a.put dst undef) w') : wpList Tryz.prog ops Q (⟨dst, .store ty x y, typ, pos, af, gd⟩ :: rest) a w :=
  arm_st1 H hw hx hy u hi Nat.zero_lt_one hv h1 rfl h
end
section
variable {ops : Array Oper} {md : Region.Mode} {a : Act} {w0 w : World} {Q : Exit → Act → World → Prop} {Γ : List Res} {P : Program}
end
end Go.Proofs.YtolbmemogoojhaaGreat
/- Books: the plain law. No program. -/
namespace Go.Proofs.YtolbmemogoojhaaGreat
set_option linter.unusedVariables false
set_option linter.unusedSimpArgs false

abbrev BK := List RD
abbrev IDL := List UInt8
theorem idl_irrefl (a : IDL) : ¬ a < a := List.lt_irrefl a
theorem idl_trans {a b c : IDL} (h : a < b) (k : b < c) : a < c := List.lt_trans h k
theorem idl_asymm {a b : IDL} (h : a < b) : ¬ b < a := List.lt_asymm h
theorem idl_tri (a b : IDL) : a < b ∨ a = b ∨ b < a := by
  by_cases h1 : a < b
  · exact .inl h1
  · by_cases h2 : b < a
    · exact .inr (.inr h2)
    · exact .inr (.inl (List.le_antisymm (List.not_lt.1 h2) (List.not_lt.1 h1)))
theorem idl_ne {a b : IDL} (h : a < b) : a ≠ b := fun e => idl_irrefl b (e ▸ h)

def bFind : BK → IDL → Option RD
  | [], _ => none
  | r :: l, i => if r.id = i then some r else bFind l i
def Asc : BK → Prop
  | [] => True
  | r :: l => (∀ x ∈ l, r.id < x.id) ∧ Asc l
def Good (l : BK) : Prop := Asc l ∧ ∀ r ∈ l, rMay r = true
theorem good_nil : Good [] := ⟨trivial, fun _ h => (List.not_mem_nil h).elim⟩
theorem good_tail {r : RD} {l : BK} (h : Good (r :: l)) : Good l := ⟨h.1.2, fun x hx => h.2 x (mT _ hx)⟩
theorem bFind_mem : ∀ {l : BK} {i : IDL} {r : RD}, bFind l i = some r → r ∈ l ∧ r.id = i
  | x :: l, i, r, h => by
    unfold bFind at h
    split at h
    · rename_i hx; cases h; exact ⟨mH, hx⟩
    · obtain ⟨h1, h2⟩ := bFind_mem h; exact ⟨mT _ h1, h2⟩
theorem bFind_none : ∀ {l : BK} {i : IDL}, bFind l i = none ↔ ∀ r ∈ l, r.id ≠ i
  | [], i => ⟨fun _ _ h => (List.not_mem_nil h).elim, fun _ => rfl⟩
  | x :: l, i => by
    unfold bFind
    by_cases hx : x.id = i
    · rw [if_pos hx]; exact ⟨(fun h => by cases h), fun h => absurd hx (h x mH)⟩
    · rw [if_neg hx, bFind_none]
      exact ⟨(fun h r hr => by rcases List.mem_cons.1 hr with rfl | hr; exact hx; exact h r hr), fun h r hr => h r (mT _ hr)⟩
theorem asc_ext_b : ∀ {l m : BK}, Asc l → Asc m → (∀ i, bFind l i = bFind m i) → l = m
  | [], [], _, _, _ => rfl
  | [], y :: m, _, _, h => by have := h y.id; simp [bFind] at this
  | x :: l, [], _, _, h => by have := h x.id; simp [bFind] at this
  | x :: l, y :: m, hl, hm, h => by
    have h1 := h x.id
    have h2 := h y.id
    rw [bFind, if_pos rfl] at h1
    rw [bFind.eq_2 y.id y m, if_pos rfl] at h2
    have hxm := bFind_mem h1.symm
    have hyl := bFind_mem h2
    have hxy : x = y := by
      rcases List.mem_cons.1 hxm.1 with e | h3
      · exact e
      · rcases List.mem_cons.1 hyl.1 with e | h4
        · exact e.symm
        · exact absurd (hm.1 x h3) (idl_asymm (hl.1 y h4))
    subst hxy
    rw [asc_ext_b hl.2 hm.2 fun i => by
      have := h i
      unfold bFind at this
      by_cases hi : x.id = i
      · subst hi
        rw [bFind_none.2 fun r hr => (idl_ne (hl.1 r hr)).symm, bFind_none.2 fun r hr => (idl_ne (hm.1 r hr)).symm]
      · rwa [if_neg hi, if_neg hi] at this]

/-! A record more. -/
def bPut : BK → RD → BK
  | [], r => [r]
  | x :: l, r => if r.id < x.id then r :: x :: l else if x.id = r.id then rJoin x r :: l else x :: bPut l r
def bOne : Option RD → RD → RD
  | none, r => r
  | some x, r => rJoin x r
theorem rJoin_id {x r : RD} (hx : rMay x = true) (hr : rMay r = true) (hi : x.id = r.id) : (rJoin x r).id = r.id := by
  rw [join_eq hx hr hi, ← hi]; rfl
theorem rJoin_may {x r : RD} (hx : rMay x = true) (hr : rMay r = true) (hi : x.id = r.id) : rMay (rJoin x r) = true := by
  rw [join_eq hx hr hi]; exact both_may hx hr
theorem bPut_mem {l : BK} {r : RD} (hl : Good l) (hr : rMay r = true) : ∀ x ∈ bPut l r, rMay x = true ∧ (x.id = r.id ∨ ∃ y ∈ l, x.id = y.id) := by
  induction l with
  | nil => intro x hx; simp [bPut] at hx; subst hx; exact ⟨hr, .inl rfl⟩
  | cons y l ih =>
    intro x hx
    unfold bPut at hx
    split at hx
    · rcases List.mem_cons.1 hx with rfl | hx
      · exact ⟨hr, .inl rfl⟩
      · exact ⟨hl.2 x hx, .inr ⟨x, hx, rfl⟩⟩
    · split at hx
      · rename_i he
        rcases List.mem_cons.1 hx with rfl | hx
        · exact ⟨rJoin_may (hl.2 y mH) hr he, .inl (rJoin_id (hl.2 y mH) hr he)⟩
        · exact ⟨hl.2 x (mT _ hx), .inr ⟨x, mT _ hx, rfl⟩⟩
      · rcases List.mem_cons.1 hx with rfl | hx
        · exact ⟨hl.2 x mH, .inr ⟨x, mH, rfl⟩⟩
        · obtain ⟨h1, h2⟩ := ih (good_tail hl) x hx
          exact ⟨h1, h2.imp id fun ⟨z, hz, e⟩ => ⟨z, mT _ hz, e⟩⟩
theorem bPut_good {l : BK} {r : RD} (hl : Good l) (hr : rMay r = true) : Good (bPut l r) := by
  refine ⟨?_, fun x hx => (bPut_mem hl hr x hx).1⟩
  induction l with
  | nil => exact ⟨fun x hx => (List.not_mem_nil hx).elim, trivial⟩
  | cons y l ih =>
    unfold bPut
    split
    · rename_i h
      exact ⟨fun x hx => by rcases List.mem_cons.1 hx with rfl | hx; exact h; exact idl_trans h (hl.1.1 x hx), hl.1⟩
    · rename_i h
      split
      · rename_i he
        refine ⟨fun x hx => ?_, hl.1.2⟩
        rw [rJoin_id (hl.2 y mH) hr he, ← he]
        exact hl.1.1 x hx
      · rename_i he
        have hlt : y.id < r.id := by
          rcases idl_tri y.id r.id with h1 | h1 | h1
          · exact h1
          · exact absurd h1 he
          · exact absurd h1 h
        refine ⟨fun x hx => ?_, ih (good_tail hl)⟩
        rcases (bPut_mem (good_tail hl) hr x hx).2 with e | ⟨z, hz, e⟩
        · rw [e]; exact hlt
        · rw [e]; exact hl.1.1 z hz
theorem bFind_bPut {l : BK} {r : RD} (hl : Good l) (hr : rMay r = true) (i : IDL) : bFind (bPut l r) i = if r.id = i then some (bOne (bFind l i) r) else bFind l i := by
  induction l with
  | nil => simp only [bPut, bFind]; split <;> rfl
  | cons y l ih =>
    unfold bPut
    split
    · rename_i h
      by_cases hi : r.id = i
      · subst hi
        rw [if_pos rfl, bFind, if_pos rfl, bFind, if_neg (idl_ne h).symm, bFind_none.2 fun x hx => (idl_ne (idl_trans h (hl.1.1 x hx))).symm]; rfl
      · rw [if_neg hi, bFind, if_neg hi]
    · split
      · rename_i he
        have hj := rJoin_id (hl.2 y mH) hr he
        by_cases hi : r.id = i
        · subst hi
          rw [if_pos rfl, bFind, if_pos hj, bFind, if_pos he]; rfl
        · rw [if_neg hi, bFind, if_neg (by rw [hj]; exact hi), bFind, if_neg (by rw [he]; exact hi)]
      · rename_i he
        rw [bFind, bFind, ih (good_tail hl)]
        by_cases hy : y.id = i
        · rw [if_pos hy, if_pos hy, if_neg (fun e => he (hy.trans e.symm))]
        · rw [if_neg hy, if_neg hy]
def bPuts (m l : BK) : BK := l.foldl bPut m
def bBoth (a b : BK) : BK := bPuts (bPuts [] a) b
theorem bBoth_app (a b : BK) : bBoth a b = bPuts [] (a ++ b) := by unfold bBoth bPuts; rw [List.foldl_append]
theorem find_good {l : BK} (h : Good l) {i : IDL} {r : RD} (hf : bFind l i = some r) : rMay r = true ∧ r.id = i := ⟨h.2 r (bFind_mem hf).1, (bFind_mem hf).2⟩
/-! Whether one may be; whether two are the same; what one adds. -/
def bMayL : Option IDL → BK → Bool
  | _, [] => true
  | p, r :: l => rMay r && (match p with | none => true | some q => decide (q < r.id)) && bMayL (some r.id) l
def bMay (l : BK) : Bool := bMayL none l && decide (l.length ≤ 10)
theorem bMayL_iff : ∀ {l : BK} {p : Option IDL}, bMayL p l = true ↔ Good l ∧ ∀ q, p = some q → ∀ x ∈ l, q < x.id
  | [], p => ⟨fun _ => ⟨good_nil, fun _ _ _ h => (List.not_mem_nil h).elim⟩, fun _ => rfl⟩
  | r :: l, p => by
    unfold bMayL
    rw [Bool.and_eq_true, Bool.and_eq_true, bMayL_iff]
    constructor
    · rintro ⟨⟨h1, h2⟩, h3, h4⟩
      have h5 := h4 r.id rfl
      refine ⟨⟨⟨h5, h3.1⟩, fun x hx => by rcases List.mem_cons.1 hx with rfl | hx; exact h1; exact h3.2 x hx⟩, fun q hq x hx => ?_⟩
      subst hq
      have h6 : q < r.id := by simpa using h2
      rcases List.mem_cons.1 hx with rfl | hx
      · exact h6
      · exact idl_trans h6 (h5 x hx)
    · rintro ⟨h1, h2⟩
      refine ⟨⟨h1.2 r mH, ?_⟩, good_tail h1, fun q hq x hx => by cases hq; exact h1.1.1 x hx⟩
      cases p with
      | none => rfl
      | some q => simpa using h2 q rfl r mH
theorem bMay_iff {l : BK} : bMay l = true ↔ Good l ∧ l.length ≤ 10 := by
  unfold bMay
  rw [Bool.and_eq_true, bMayL_iff, decide_eq_true_eq]
  exact ⟨fun ⟨h, k⟩ => ⟨h.1, k⟩, fun ⟨h, k⟩ => ⟨⟨h, fun q hq => by cases hq⟩, k⟩⟩
def bSame : BK → BK → Bool
  | [], [] => true
  | r :: l, r' :: m => rSame r r' && bSame l m
  | _, _ => false
theorem bSame_iff : ∀ l m : BK, bSame l m = true ↔ l = m
  | [], [] => ⟨fun _ => rfl, fun _ => rfl⟩
  | [], y :: m => ⟨(fun h => by cases h), (fun h => by cases h)⟩
  | x :: l, [] => ⟨(fun h => by cases h), (fun h => by cases h)⟩
  | x :: l, y :: m => by
    rw [bSame, Bool.and_eq_true, rSame_iff, bSame_iff l m, List.cons.injEq]
/-- Two together: the book, and the error's number. -/
def bCan (a b : BK) : Int := if (bMay a && bMay b) = true then (if (bBoth a b).length ≤ 10 then 0 else 4) else 1
def bJ (a b : BK) : BK := if bCan a b = 0 then bBoth a b else []
theorem bCan_ok {a b : BK} : bCan a b = 0 ↔ bMay a = true ∧ bMay b = true ∧ (bBoth a b).length ≤ 10 := by
  unfold bCan
  by_cases h : (bMay a && bMay b) = true
  · rw [if_pos h]
    rw [Bool.and_eq_true] at h
    by_cases k : (bBoth a b).length ≤ 10
    · rw [if_pos k]; simp [h, k]
    · rw [if_neg k]; simp [h, k]
  · rw [if_neg h]
    rw [Bool.and_eq_true] at h
    constructor
    · intro e; cases e
    · rintro ⟨h1, h2, _⟩; exact absurd ⟨h1, h2⟩ h
end Go.Proofs.YtolbmemogoojhaaGreat
/- Rows of records; maps whose keys are names. -/
namespace Go.Proofs.YtolbmemogoojhaaGreat
open Go Go.RowKit Go.Deep
set_option linter.unusedVariables false
set_option linter.unusedSimpArgs false
set_option maxRecDepth 100000
/-- Records, each with the slice of its fields. -/
abbrev RS := List (RD × Value)
def recsL : RS → List Value
  | [] => []
  | p :: l => (rA p.1 p.2).toList ++ recsL l
theorem recsL_append (a b : RS) : recsL (a ++ b) = recsL a ++ recsL b := by
  induction a with
  | nil => rfl
  | cons p a ih => simp [recsL, ih]
theorem recsL_length : ∀ {l : RS}, (∀ p ∈ l, p.1.ok) → (recsL l).length = l.length * 19
  | [], _ => rfl
  | p :: l, h => by
    rw [recsL, List.length_append, recsL_length fun q hq => h q (mT _ hq), Array.length_toList, rA_size (h p mH), List.length_cons]; omega
theorem recsL_get : ∀ {l : RS} {j : Nat} {p : RD × Value}, (∀ p ∈ l, p.1.ok) → l[j]? = some p → ∀ (k : Nat) (u : Value), (rA p.1 p.2)[k]? = some u → (recsL l)[j * 19 + k]? = some u
  | q :: l, 0, p, h, hj, k, u, hk => by
    simp only [List.getElem?_cons_zero, Option.some.injEq] at hj
    subst hj
    have hlt := (Array.getElem?_eq_some_iff.1 hk).1
    rw [recsL, Nat.zero_mul, Nat.zero_add, List.getElem?_append_left (by simpa using hlt), Array.getElem?_toList]
    exact hk
  | q :: l, j + 1, p, h, hj, k, u, hk => by
    have := recsL_get (fun x hx => h x (mT _ hx)) (by simpa using hj) k u hk
    have hs : (rA q.1 q.2).toList.length = 19 := by rw [Array.length_toList]; exact rA_size (h q mH)
    rw [recsL, List.getElem?_append_right (by omega), hs]
    rw [show (j + 1) * 19 + k - 19 = j * 19 + k by omega]
    exact this
def RecsS (w : World) (v : Value) (l : RS) : Prop := Row w 19 v l.length (recsL l) ∧ ∀ p ∈ l, p.1.ok ∧ Flds w p.2 p.1.f
/-- A slice reads as these records. -/
def Recs (w : World) (v : Value) (L : BK) : Prop := ∃ l : RS, l.map (·.1) = L ∧ RecsS w v l
theorem RecsS.below {w w' : World} {v : Value} {l : RS} (h : RecsS w v l) (hb : Below w.heap.size w w') : RecsS w' v l := ⟨Row.below h.1 hb, fun p hp => ⟨(h.2 p hp).1, (h.2 p hp).2.below hb⟩⟩
theorem Recs.below {w w' : World} {v : Value} {L : BK} (h : Recs w v L) (hb : Below w.heap.size w w') : Recs w' v L := by obtain ⟨l, e, h⟩ := h; exact ⟨l, e, h.below hb⟩
theorem Recs.nil (w : World) : Recs w (.slice none 0 0) [] := ⟨[], rfl, Row.nil w 19, fun _ h => (List.not_mem_nil h).elim⟩
theorem Recs.slice {w : World} {v : Value} {L : BK} (h : Recs w v L) : ∃ a c, v = .slice a L.length c ∧ L.length ≤ maxLen ∧ (a = none → c = 0) := by
  obtain ⟨l, rfl, ⟨_, a, c, rfl, h1, h2, h3, _⟩, _⟩ := h
  exact ⟨a, c, by simp, by simp; omega, h3⟩
theorem Recs.ok {w : World} {v : Value} {L : BK} (h : Recs w v L) : ∀ r ∈ L, r.ok := by
  obtain ⟨l, rfl, _, h2⟩ := h
  intro r hr
  obtain ⟨p, hp, rfl⟩ := List.mem_map.1 hr
  exact (h2 p hp).1
/-- The j-th one: where it lies. -/
theorem Recs.at {w : World} {a : Option Addr} {n c : Nat} {L : BK} (h : Recs w (.slice a n c) L) {j : Nat} {r : RD} (hj : L[j]? = some r) :
    ∃ b off s, a = some ⟨b, off, none⟩ ∧ b < w.heap.size ∧ RecAt w b (off + j * 19) r s ∧ Flds w s r.f := by
  obtain ⟨l, rfl, hrow, h2⟩ := h
  rw [List.getElem?_map, Option.map_eq_some_iff] at hj
  obtain ⟨p, hp, rfl⟩ := hj
  have hmem := List.mem_of_getElem? hp
  obtain ⟨hok, hf⟩ := h2 p hmem
  have hoks : ∀ p ∈ l, p.1.ok := fun p hp => (h2 p hp).1
  obtain ⟨hl, a', c', he, _, _, _, h4⟩ := hrow
  injection he with e1 e2 e3
  subst e1
  have hjl := (List.getElem?_eq_some_iff.1 hp).1
  obtain ⟨b, off, rfl, hc⟩ := h4 (by rw [hl]; omega)
  have hg : RecAt w b (off + j * 19) p.1 p.2 := ⟨fun k u hk => by rw [Nat.add_assoc]; exact hc _ _ (recsL_get hoks hp k u hk), hok⟩
  obtain ⟨_, h16, _⟩ := rA_get hok p.2
  exact ⟨b, off, p.2, rfl, World.block_lt_of_cell? w _ (hg.1 16 _ h16), hg, hf⟩
theorem recsL_one : ∀ {l : RS}, (∀ p ∈ l, p.2.oneCell' = true) → ∀ u ∈ recsL l, u.oneCell' = true
  | [], _, u, hu => by cases hu
  | p :: l, h, u, hu => by
    rcases List.mem_append.1 hu with hu | hu
    · exact (Array.all_eq_true_iff_forall_mem.1 (rA_one' p.1 (h p mH))) u (by simpa using hu)
    · exact recsL_one (fun q hq => h q (mT _ hq)) u hu

/-! Names as keys. -/
def IDK := { l : List UInt8 // l.length = 16 }
instance : DecidableEq IDK := fun a b => decidable_of_iff (a.1 = b.1) Subtype.ext_iff.symm
def encK (k : IDK) : Value := .agg (encU k.1).toArray
theorem run_equal_id (a b : List UInt8) (ha : a.length = 16) (hb : b.length = 16) (W : World) : (Op.equal 26 (.agg (encU a).toArray) (.agg (encU b).toArray)).run Tryz.prog W = .ok (a == b) W := by
  have := run_equalIn_bytes (P := Tryz.prog) W 9998 26 5 16 (by kernel_rfl) (by kernel_rfl) (fun w => by simp [sizeOf, typeInfo]; kernel_rfl) a b ha hb
  have e : ∀ l : List UInt8, encU l = l.map Extern.Stop.cell := fun l => rfl
  rw [e, e]
  exact this
theorem findAsk_id (k : IDK) : ∀ (es : List MapEntry) (m : List (IDK × Value)) (i : Nat) (W : World), es.map (fun e => (e.key, e.val)) = m.map (fun p => (encK p.1, p.2)) →
    (Instr.findAsking 26 (encK k) es i).run Tryz.prog W = .ok ((gIx m k).map fun p => (i + p.1, p.2)) W
  | [], [], i, W, _ => rfl
  | [], _ :: _, _, _, h => by cases h
  | _ :: _, [], _, _, h => by cases h
  | e :: es, p :: m, i, W, h => by
    simp only [List.map_cons, List.cons.injEq, Prod.mk.injEq] at h
    obtain ⟨⟨h1, h2⟩, h3⟩ := h
    unfold Instr.findAsking
    rw [h1]
    simp only [Sem.run_bind, encK, run_equal_id k.1 p.1.1 k.2 p.1.2, Result.andThen_ok]
    by_cases hk : p.1 = k
    · rw [gIx, if_pos hk, hk]; simp [h2, Sem.run_pure]
    · have hk' : (k.1 == p.1.1) = false := by
        rw [beq_eq_false_iff_ne]; exact fun e => hk (Subtype.ext e.symm)
      rw [gIx, if_neg hk, hk']
      have := findAsk_id k es m (i + 1) W h3
      simp only [Bool.false_eq_true, if_false]
      unfold encK at this
      rw [this]
      cases gIx m k with
      | none => rfl
      | some r => simp; omega
theorem sameBits_u8 (n : Nat) : ∀ l : List UInt8, ((encU l).zip (encU l)).all (fun x => match x with | (x, y) => Instr.sameBits n x y) = true
  | [] => rfl
  | b :: l => by
    have := sameBits_u8 n l
    simp only [encU, List.map_cons, List.zip_cons_cons, List.all_cons] at this ⊢
    rw [this]
    simp [Instr.sameBits]
theorem len16 {l : List UInt8} (h : l.length = 16) : ∃ b0 b1 b2 b3 b4 b5 b6 b7 b8 b9 b10 b11 b12 b13 b14 b15, l = [b0, b1, b2, b3, b4, b5, b6, b7, b8, b9, b10, b11, b12, b13, b14, b15] := by
  match l, h with
  | [a0, a1, a2, a3, a4, a5, a6, a7, a8, a9, a10, a11, a12, a13, a14, a15], _ => exact ⟨a0, a1, a2, a3, a4, a5, a6, a7, a8, a9, a10, a11, a12, a13, a14, a15, rfl⟩
theorem keyID : KeyOk Tryz.prog 26 encK where
  check w em k := by
    obtain ⟨l, hl⟩ := k
    obtain ⟨b0, b1, b2, b3, b4, b5, b6, b7, b8, b9, b10, b11, b12, b13, b14, b15, rfl⟩ := len16 hl
    cases em <;> kernel_rfl
  find w k m es h := by
    unfold Instr.findKey
    have hu : Tryz.prog.underlying 26 = some (.array 16 5) := by kernel_rfl
    simp only [Sem.run_bind, run_underlying hu, Result.andThen_ok]
    cases es with
    | nil =>
      cases m with
      | nil => rfl
      | cons p m => cases h
    | cons e es =>
      have := findAsk_id k (e :: es) m 0 w h
      have e1 : Instr.findNow (.array 16 5) (encK k) (e :: es) 0 = none := by simp [Instr.findNow, Instr.sameNow]
      rw [e1]
      simp only
      rw [this]
      cases gIx m k with
      | none => rfl
      | some r => simp
  stays w k := by
    unfold Instr.keyThatStays encK
    have : Instr.sameBits 10000 (.agg (encU k.1).toArray) (.agg (encU k.1).toArray) = true := by
      rw [Instr.sameBits]
      simp only [beq_self_eq_true, Bool.true_and]
      exact sameBits_u8 9999 k.1
    rw [this]; simp [Sem.run_pure]
end Go.Proofs.YtolbmemogoojhaaGreat
/- A region that draws its order: each operation of a head yields a value of its own kind, whichever of the others ran before it; behind the head a tail, one operation behind the other. No program. -/
namespace Go.Proofs.YtolbmemogoojhaaGreat
open Go Go.RowKit Go.Deep
set_option linter.unusedVariables false
set_option linter.unusedSimpArgs false

theorem wp_monoQ {P : Program} {o : Oper} {a : Act} {w : World} {K K' : Act → World → Prop} {Q Q' : Exit → Act → World → Prop} (hK : ∀ a w, K a w → K' a w) (hQ : ∀ e a w, e ≠ .normal → ¬ Q e a w) (h : o.wp P a w K Q) : o.wp P a w K' Q' := by
  unfold Oper.wp at *
  generalize (execOp a.eval o).run P w = r at *
  cases r with
  | ok n w' =>
    cases n <;> simp only [Oper.upon] at h ⊢
    case value v => exact hK _ _ h
    case skip => exact hK _ _ h
    case defer d => exact hK _ _ h
    case enter f args =>
      refine Calls.mono h fun e w'' he => ?_
      cases e with
      | returned u => exact hK _ _ he
      | panicked c => exact (hQ _ _ _ (by simp) he).elim
      | outgrown => exact he.elim fun a he => he.elim fun w he => (hQ _ _ _ (by simp) he).elim
    case row row args => exact Rows.mono h fun u w'' he => hK _ _ he
    all_goals exact h.elim
  | halt x w' =>
    cases x <;> simp only [Oper.upon] at h ⊢
    case panic u => exact (hQ _ _ _ (by simp) h).elim

/-- The frame, with letters in some slots. -/
def fillR (ds : List Nat) (u : Nat → Value) : Nat → List Value → List Value
  | _, [] => []
  | k, c :: l => (if ds.contains k then u k else c) :: fillR ds u (k + 1) l
theorem fillR_get (ds : List Nat) (u : Nat → Value) : ∀ (l : List Value) (k i : Nat), (fillR ds u k l)[i]? = (l[i]?).map fun c => if ds.contains (k + i) then u (k + i) else c
  | [], _, _ => by simp [fillR]
  | c :: l, k, 0 => by simp [fillR]
  | c :: l, k, i + 1 => by
    have := fillR_get ds u l (k + 1) i
    simp only [fillR, List.getElem?_cons_succ, this]
    rw [show k + 1 + i = k + (i + 1) by omega]

structure Spec where
  dst : Option Tmp
  deps : List (Nat × Nat)
  val : World → Value → Prop
section
variable {P : Program} {l : List Oper}
def Knows (sp : List Spec) (w : World) (u : Nat → Value) : List (Nat × Nat) → Prop
  | [] => True
  | p :: ds => (∀ s, sp[p.1]? = some s → s.val w (u p.2)) ∧ Knows sp w u ds
/-- What is behind one operation. -/
def PostS (W : World) (o : Oper) (s : Spec) (a : Act) : Exit → Act → World → Prop := fun e a' w' => e = .normal ∧ Below W.heap.size W w' ∧ ∃ v, a' = a.put o.dst v ∧ s.val w' v
def Hops (P : Program) (l : List Oper) (W : World) (a0 : Act) (ds : List Nat) (sp : List Spec) : List Oper → List Spec → Prop
  | o :: r, s :: t => (∀ (u : Nat → Value) (w : World), Below W.heap.size W w → Knows sp w u s.deps → wpList P l.toArray (PostS w o s ⟨(fillR ds u 0 a0.tmps.toList).toArray, a0.defers⟩) [o] ⟨(fillR ds u 0 a0.tmps.toList).toArray, a0.defers⟩ w) ∧ Hops P l W a0 ds sp r t
  | _, _ => True
def Stable (sp : List Spec) : Prop := ∀ s ∈ sp, ∀ (w w' : World) (v : Value), Below w.heap.size w w' → s.val w v → s.val w' v
/-- What the kernel checks of the region. -/
def okB (l : List Oper) (ds : List Nat) (dd : List (Option Tmp × List (Nat × Nat))) : Bool :=
  let n := dd.length
  Region.noSelect l.toArray && decide (n ≤ l.length) &&
  ((List.range n).all fun i => match l[i]?, dd[i]? with
    | some o, some s => o.dst == s.1 && (match s.1 with | some d => ds.contains d | none => true) &&
        (match o.op with | .defer _ => false | _ => true) &&
        s.2.all (fun p => Region.waitsFor .any l.toArray i p.1 && (match dd[p.1]? with | some q => q.1 == some p.2 | none => false)) &&
        ((List.range n).all fun j => i == j || (match s.1, (dd[j]?).bind (·.1) with | some d, some d' => d != d' | _, _ => true)) &&
        o.after.all (fun e => !Region.binds .any e || decide (e.on < i))
    | _, _ => false) &&
  ds.all (fun d => dd.any fun s => s.1 == some d) &&
  (decide (n = l.length) || (Region.sinkB .any l.toArray n && Region.chainB .any l.toArray n)) &&
  Region.seqB .any l.toArray (l.length - n) n (Array.replicate n true ++ Array.replicate (l.length - n) false)
end
def cntU : Nat → Array Bool → Nat
  | 0, _ => 0
  | n + 1, listed => cntU n listed + (if listed.getD n true then 0 else 1)
theorem cntU_out {listed : Array Bool} {i : Nat} : ∀ n, n ≤ i → cntU n (listed.setIfInBounds i true) = cntU n listed
  | 0, _ => rfl
  | n + 1, h => by rw [cntU, cntU, cntU_out n (by omega), getD_set_ne true (by omega)]
theorem cntU_set {listed : Array Bool} {i : Nat} (hu : listed.getD i true = false) : ∀ n, i < n → cntU n (listed.setIfInBounds i true) + 1 = cntU n listed
  | 0, h => by omega
  | n + 1, h => by
    rw [cntU, cntU]
    by_cases hin : i = n
    · subst hin
      have hlt : i < listed.size := by
        rcases Nat.lt_or_ge i listed.size with h' | h'
        · exact h'
        · simp [Array.getElem?_eq_none h'] at hu
      rw [cntU_out i (Nat.le_refl _), hu]
      simp [hlt]
    · have := cntU_set hu n (by omega)
      rw [getD_set_ne true hin]
      omega
theorem cntU_zero {listed : Array Bool} : ∀ n, cntU n listed = 0 → ∀ i, i < n → listed.getD i true = true
  | 0, _, i, h => by omega
  | n + 1, h, i, hi => by
    rw [cntU] at h
    by_cases hin : i = n
    · subst hin
      by_cases hg : listed.getD i true = true
      · exact hg
      · rw [if_neg hg] at h; omega
    · exact cntU_zero n (by omega) i (by omega)
theorem cntU_pos {listed : Array Bool} : ∀ n, cntU n listed ≠ 0 → ∃ i, i < n ∧ listed.getD i true = false
  | 0, h => absurd rfl h
  | n + 1, h => by
    rw [cntU] at h
    by_cases hg : listed.getD n true = true
    · rw [if_pos hg] at h
      obtain ⟨i, h1, h2⟩ := cntU_pos n (by omega)
      exact ⟨i, by omega, h2⟩
    · exact ⟨n, by omega, by simpa using hg⟩
theorem getD_true_false {listed : Array Bool} {i : Nat} (h : listed.getD i true = true) (hi : i < listed.size) : listed.getD i false = true := by
  simp only [Array.getD_eq_getD_getElem?, Array.getElem?_eq_getElem hi, Option.getD_some] at h ⊢; exact h
structure Inv (l : List Oper) (n : Nat) (W : World) (a0 : Act) (ds : List Nat) (sp : List Spec) (listed : Array Bool) (a : Act) (w : World) : Prop where
  head : HeadInv .any l.toArray n listed
  bel : Below W.heap.size W w
  defers : a.defers = a0.defers
  size : a.tmps.size = a0.tmps.size
  old : ∀ d, ds.contains d = false → a.tmps.getD d undef = a0.tmps.getD d undef
  new : ∀ (j : Nat) (s : Spec), sp[j]? = some s → listed.getD j false = true → ∀ d, s.dst = some d → s.val w (a.tmps.getD d undef)
theorem Inv.act {l : List Oper} {n : Nat} {W : World} {a0 : Act} {ds : List Nat} {sp : List Spec} {listed : Array Bool} {a : Act} {w : World} (h : Inv l n W a0 ds sp listed a w) :
    a = ⟨(fillR ds (fun d => a.tmps.getD d undef) 0 a0.tmps.toList).toArray, a0.defers⟩ := by
  obtain ⟨t, df⟩ := a
  have h1 := h.defers; have h2 := h.size; have h3 := h.old
  simp only at h1 h2 h3
  subst h1
  congr 1
  apply Array.ext_getElem?
  intro i
  have e1 : ∀ L : List Value, L.toArray[i]? = L[i]? := fun L => by simp
  show t[i]? = (fillR ds (fun d => t.getD d undef) 0 a0.tmps.toList).toArray[i]?
  rw [e1 (fillR ds (fun d => t.getD d undef) 0 a0.tmps.toList), fillR_get, Nat.zero_add, Array.getElem?_toList]
  rcases Nat.lt_or_ge i t.size with hi | hi
  · have hi0 : i < a0.tmps.size := by omega
    rw [Array.getElem?_eq_getElem hi, Array.getElem?_eq_getElem hi0, Option.map_some]
    congr 1
    by_cases hc : ds.contains i = true
    · rw [if_pos hc]; simp [hi]
    · have := h3 i (by simpa using hc)
      rw [if_neg hc]
      simpa [hi, hi0] using this
  · rw [Array.getElem?_eq_none hi, Array.getElem?_eq_none (by omega)]; rfl
theorem hops_get {P : Program} {l : List Oper} {W : World} {a0 : Act} {ds : List Nat} {sp : List Spec} (r : List Oper) : ∀ (t : List Spec), Hops P l W a0 ds sp r t → ∀ (j : Nat) (o : Oper) (s : Spec), r[j]? = some o → t[j]? = some s →
    ∀ (u : Nat → Value) (w : World), Below W.heap.size W w → Knows sp w u s.deps → wpList P l.toArray (PostS w o s ⟨(fillR ds u 0 a0.tmps.toList).toArray, a0.defers⟩) [o] ⟨(fillR ds u 0 a0.tmps.toList).toArray, a0.defers⟩ w := by
  induction r with
  | nil => intro t h j o s h1 h2; cases h1
  | cons x r ih =>
    intro t h j o s h1 h2
    cases t with
    | nil => cases h2
    | cons y t =>
      obtain ⟨ha, hb⟩ := h
      cases j with
      | zero =>
        rw [List.getElem?_cons_zero] at h1 h2
        cases h1; cases h2
        exact ha
      | succ j =>
        rw [List.getElem?_cons_succ] at h1 h2
        exact ih t hb j o s h1 h2
theorem waits_spec {ops : Array Oper} {j i : Nat} {o : Oper} (ho : ops[j]? = some o) (h : Region.waitsFor .any ops j i = true) : ∃ e ∈ o.after, Region.binds .any e = true ∧ e.on = i := by
  obtain ⟨oj, h1, h2⟩ := Region.waitsFor_spec h
  rw [ho] at h1; cases h1; exact h2
theorem knows_of {sp : List Spec} {w : World} {u : Nat → Value} : ∀ {ds : List (Nat × Nat)}, (∀ p ∈ ds, ∀ s, sp[p.1]? = some s → s.val w (u p.2)) → Knows sp w u ds
  | [], _ => trivial
  | p :: ds, h => ⟨h p mH, knows_of fun q hq => h q (mT _ hq)⟩
def ddOf (sp : List Spec) : List (Option Tmp × List (Nat × Nat)) := sp.map fun s => (s.dst, s.deps)
section
variable {P : Program} {l : List Oper} {W : World} {a0 : Act} {ds : List Nat} {sp : List Spec} {Q : Exit → Act → World → Prop}
theorem okB_at (h : okB l ds (ddOf sp) = true) {i : Nat} (hi : i < sp.length) : ∃ (o : Oper) (s : Spec), l[i]? = some o ∧ sp[i]? = some s ∧ o.dst = s.dst ∧ (∀ d, s.dst = some d → ds.contains d = true) ∧
    (∀ p ∈ s.deps, Region.waitsFor .any l.toArray i p.1 = true ∧ ∃ q, sp[p.1]? = some q ∧ q.dst = some p.2) ∧
    (∀ (j : Nat) (q : Spec) (d : Tmp), j ≠ i → sp[j]? = some q → s.dst = some d → q.dst ≠ some d) ∧ (∀ e ∈ o.after, Region.binds .any e = true → e.on < i) := by
  unfold okB at h
  simp only [Bool.and_eq_true] at h
  have h1 := List.all_eq_true.1 h.1.1.1.2 i (List.mem_range.2 (by simpa [ddOf] using hi))
  have hsp : sp[i]? = some sp[i] := List.getElem?_eq_getElem hi
  simp only [ddOf, List.getElem?_map, hsp, Option.map_some] at h1
  cases ho : l[i]? with
  | none => rw [ho] at h1; cases h1
  | some o =>
    rw [ho] at h1
    simp only [Bool.and_eq_true, beq_iff_eq] at h1
    obtain ⟨⟨⟨⟨⟨e1, e2⟩, e3⟩, e4⟩, e5⟩, e6⟩ := h1
    refine ⟨o, sp[i], rfl, hsp, e1, fun d hd => by rw [hd] at e2; exact e2, fun p hp => ?_, fun j q d hj hq hd hqd => ?_, fun e he hb => ?_⟩
    · have := List.all_eq_true.1 e4 p hp
      simp only [Bool.and_eq_true] at this
      refine ⟨this.1, ?_⟩
      have h2 := this.2
      cases hq : sp[p.1]? with
      | none => rw [hq] at h2; cases h2
      | some q => rw [hq] at h2; exact ⟨q, rfl, by simpa using h2⟩
    · have hjl : j < sp.length := (List.getElem?_eq_some_iff.1 hq).1
      have := List.all_eq_true.1 e5 j (List.mem_range.2 (by simpa [ddOf] using hjl))
      rw [hq, hd] at this
      simp only [Option.map_some, Option.bind_some, hqd, Bool.or_eq_true, beq_iff_eq, bne_self_eq_false, Bool.false_eq_true, or_false] at this
      exact hj this.symm
    · have := (Array.all_eq_true_iff_forall_mem.1 e6) e he
      simpa [hb] using this
theorem inv_step (hsz : ∀ d, ds.contains d = true → d < a0.tmps.size) (hok : okB l ds (ddOf sp) = true) (hst : Stable sp) (hops : Hops P l W a0 ds sp (l.take sp.length) sp) {listed : Array Bool} {a : Act} {w : World} (inv : Inv l sp.length W a0 ds sp listed a w) {i : Nat} (hi : i ∈ Region.ready .any l.toArray listed) (hin : i < sp.length) :
    wpOp P l.toArray Q i (fun a' w' => Inv l sp.length W a0 ds sp (listed.setIfInBounds i true) a' w') a w := by
  obtain ⟨o, s, ho, hs, hd, hds, hdeps, hdiff, hback⟩ := okB_at hok hin
  obtain ⟨hun, o', ho', hall⟩ := mem_ready.1 hi
  have hoo : l.toArray[i]? = some o := by simpa using ho
  rw [hoo] at ho'; cases ho'
  have hk : Knows sp w (fun d => a.tmps.getD d undef) s.deps := knows_of fun p hp q hq => by
    obtain ⟨h1, q', hq', hqd⟩ := hdeps p hp
    rw [hq] at hq'; cases hq'
    obtain ⟨e, he, hb, hon⟩ := waits_spec hoo h1
    have := hall e he hb
    rw [hon] at this
    exact inv.new p.1 q hq this p.2 hqd
  have hact := inv.act
  have hw := hops_get _ _ hops i o s (by rw [List.getElem?_take, if_pos hin]; exact ho) hs (fun d => a.tmps.getD d undef) w inv.bel hk
  rw [← hact] at hw
  have key : ∀ a' w', PostS w o s a .normal a' w' → Inv l sp.length W a0 ds sp (listed.setIfInBounds i true) a' w' := by
    rintro a' w' ⟨_, hb, v, rfl, hv⟩
    refine ⟨inv.head.set hi hin, inv.bel.trans (hb.mono inv.bel.size), ?_, ?_, fun d hd' => ?_, fun j q hq hl d hqd => ?_⟩
    · unfold Act.put; cases o.dst <;> exact inv.defers
    · unfold Act.put; cases o.dst <;> simp [inv.size]
    · unfold Act.put
      cases hdo : o.dst with
      | none => exact inv.old d hd'
      | some d0 =>
        have hne : d0 ≠ d := fun e => by rw [e] at hdo; rw [hds d (hd ▸ hdo)] at hd'; cases hd'
        have := inv.old d hd'
        simp only [Array.getD_eq_getD_getElem?] at this ⊢
        rw [Array.getElem?_setIfInBounds_ne hne]; exact this
    · by_cases hij : j = i
      · subst hij
        rw [hs] at hq; cases hq
        unfold Act.put
        rw [hd, hqd]
        have hcon := hds d hqd
        have hlt : d < a.tmps.size := by rw [inv.size]; exact hsz d hcon
        simpa [Array.getElem?_setIfInBounds, hlt] using hv
      · rw [getD_set_ne false (Ne.symm hij)] at hl
        have hold := inv.new j q hq hl d hqd
        have hne : o.dst ≠ some d := by
          intro e; rw [hd] at e; exact hdiff j q d hij hq e hqd
        have hsame : (a.put o.dst v).tmps.getD d undef = a.tmps.getD d undef := by
          unfold Act.put
          cases hdo : o.dst with
          | none => rfl
          | some d0 =>
            have : d0 ≠ d := fun e => hne (by rw [hdo, e])
            simp only [Array.getD_eq_getD_getElem?]
            rw [Array.getElem?_setIfInBounds_ne this]
        rw [hsame]
        exact hst q (List.mem_of_getElem? hq) w w' _ hb hold
  unfold wpOp
  simp only [hoo]
  unfold wpList at hw
  split at hw
  · rename_i hwant
    rw [if_pos hwant]
    rcases hw with hw | ⟨_, a1, w1, hbad, _⟩
    · exact .inl (wp_monoQ key (fun e a w he h => he h.1) hw)
    · cases hbad
  · rename_i hwant
    rw [if_neg hwant]
    exact key _ _ hw
theorem fin_slots (hok : okB l ds (ddOf sp) = true)
    (hfin : ∀ (u : Nat → Value) (w : World), Below W.heap.size W w → (∀ (j : Nat) (s : Spec) (d : Tmp), sp[j]? = some s → s.dst = some d → s.val w (u d)) → wpList P l.toArray Q (l.drop sp.length) ⟨(fillR ds u 0 a0.tmps.toList).toArray, a0.defers⟩ w)
    {listed : Array Bool} {a : Act} {w : World} (inv : Inv l sp.length W a0 ds sp listed a w) (hc : cntU sp.length listed = 0) : wpAny P .any l.toArray Q (l.length - sp.length) listed a w := by
  have h := hok
  unfold okB at h
  simp only [Bool.and_eq_true, decide_eq_true_eq] at h
  have hlen : sp.length ≤ l.length := by simpa [ddOf] using h.1.1.1.1.2
  have hseq := h.2
  have hdl : (ddOf sp).length = sp.length := by simp [ddOf]
  rw [hdl] at hseq
  have hall := cntU_zero _ hc
  have hsz : listed.size = l.length := by rw [inv.head.size]; simp
  have hL : listed = Array.replicate sp.length true ++ Array.replicate (l.length - sp.length) false := by
    apply Array.ext_getElem?
    intro i
    rcases Nat.lt_or_ge i listed.size with hi | hi
    · rw [Array.getElem?_append]
      by_cases hin : i < sp.length
      · rw [if_pos (by simpa using hin)]
        have := hall i hin
        simp only [Array.getD_eq_getD_getElem?, Array.getElem?_eq_getElem hi, Option.getD_some] at this
        simp [hi, hin, this]
      · rw [if_neg (by simpa using hin)]
        have := inv.head.tail i (by omega) (by simp; omega)
        simp only [Array.getD_eq_getD_getElem?, Array.getElem?_eq_getElem hi, Option.getD_some] at this
        rw [Array.getElem?_eq_getElem hi, this, Array.size_replicate, Array.getElem?_replicate, if_pos (by omega)]
    · rw [Array.getElem?_eq_none hi, Array.getElem?_eq_none (by simp; omega)]
  have hw := hfin (fun d => a.tmps.getD d undef) w inv.bel fun j s d hj hd => inv.new j s hj (getD_true_false (hall j (List.getElem?_eq_some_iff.1 hj).1) (by rw [hsz]; have := (List.getElem?_eq_some_iff.1 hj).1; omega)) d hd
  rw [← inv.act] at hw
  have hdrop : (l.drop sp.length).length = l.length - sp.length := by simp
  rw [← hdrop]
  refine wpAny_of_seq (l.drop sp.length) sp.length listed a w (fun j => by simp [List.getElem?_drop]) ?_ hw
  rw [hdrop, hL]; exact hseq
theorem wpAny_slots (hsz : ∀ d, ds.contains d = true → d < a0.tmps.size) (hok : okB l ds (ddOf sp) = true) (hst : Stable sp) (hops : Hops P l W a0 ds sp (l.take sp.length) sp)
    (hfin : ∀ (u : Nat → Value) (w : World), Below W.heap.size W w → (∀ (j : Nat) (s : Spec) (d : Tmp), sp[j]? = some s → s.dst = some d → s.val w (u d)) → wpList P l.toArray Q (l.drop sp.length) ⟨(fillR ds u 0 a0.tmps.toList).toArray, a0.defers⟩ w) :
    ∀ (f : Nat) (listed : Array Bool) (a : Act) (w : World), Inv l sp.length W a0 ds sp listed a w → f = cntU sp.length listed + (l.length - sp.length) → wpAny P .any l.toArray Q f listed a w := by
  intro f
  induction f with
  | zero =>
    intro listed a w inv hf
    have := fin_slots (Q := Q) hok hfin inv (by omega)
    rwa [show l.length - sp.length = 0 by omega] at this
  | succ f ih =>
    intro listed a w inv hf
    by_cases hc : cntU sp.length listed = 0
    · have := fin_slots (Q := Q) hok hfin inv hc
      rwa [show l.length - sp.length = f + 1 by omega] at this
    · obtain ⟨i0, hi0, hu0⟩ := cntU_pos _ hc
      have hrd : ∀ (k i : Nat), i < k → i < sp.length → listed.getD i true = false → Region.ready .any l.toArray listed ≠ [] := by
        intro k
        induction k with
        | zero => intro i h; omega
        | succ k ihk =>
          intro i hk hi hu
          obtain ⟨o, s, ho, hs, _, _, _, _, hback⟩ := okB_at hok hi
          by_cases hall : ∀ e ∈ o.after, Region.binds .any e = true → listed.getD e.on false = true
          · exact List.ne_nil_of_mem (mem_ready.2 ⟨hu, o, by simpa using ho, hall⟩)
          · simp only [Classical.not_forall] at hall
            obtain ⟨e, he, hb, hn⟩ := hall
            have hlt := hback e he hb
            refine ihk e.on (by omega) (by omega) ?_
            have hsz2 : listed.size = l.length := by rw [inv.head.size]; simp
            have hol : i < l.length := (List.getElem?_eq_some_iff.1 ho).1
            exact getD_in (by omega) (by simpa using hn)
      have htail : ∀ t, sp.length ≤ t → t ∉ Region.ready .any l.toArray listed := by
        intro t ht hr
        have h := hok
        unfold okB at h
        simp only [Bool.and_eq_true, decide_eq_true_eq, Bool.or_eq_true] at h
        have hdl : (ddOf sp).length = sp.length := by simp [ddOf]
        rw [hdl] at h
        obtain ⟨_, o, ho, _⟩ := mem_ready.1 hr
        have htl : t < l.length := by have := (Array.getElem?_eq_some_iff.1 ho).1; simpa using this
        rcases h.1.2 with h1 | h1
        · omega
        · exact tail_waits h1.1 h1.2 (by simp; omega) inv.head _ i0 rfl hi0 hu0 t ht hr
      refine ⟨fun h0 => absurd h0 (hrd (i0 + 1) i0 (by omega) hi0 hu0), fun i hi => ?_⟩
      have hin : i < sp.length := by
        rcases Nat.lt_or_ge i sp.length with h | h
        · exact h
        · exact absurd hi (htail i h)
      have hun := (mem_ready.1 hi).1
      exact wpOp_mono (fun a' w' h' => ih _ a' w' h' (by have := cntU_set hun sp.length hin; omega)) (inv_step hsz hok hst hops inv hi hin)
/-- THE REGION. -/
theorem wp_slots {id : Nat} {w : World} (sp : List Spec) (ds : List Nat) (hm : P.follows .mixedOrders = true) (hok : okB l ds (ddOf sp) = true) (hsz : (ds.all fun d => decide (d < a0.tmps.size)) = true) (hst : Stable sp)
    (hops : Hops P l w a0 ds sp (l.take sp.length) sp)
    (hfin : ∀ (u : Nat → Value) (w' : World), Below w.heap.size w w' → (∀ (j : Nat) (s : Spec) (d : Tmp), sp[j]? = some s → s.dst = some d → s.val w' (u d)) → wpList P l.toArray Q (l.drop sp.length) ⟨(fillR ds u 0 a0.tmps.toList).toArray, a0.defers⟩ w') :
    (Code.region id l.toArray true).wp P Q a0 w := by
  refine wp_region_any hm ?_
  have hlen : sp.length ≤ l.length := by
    have h := hok
    unfold okB at h
    simp only [Bool.and_eq_true, decide_eq_true_eq] at h
    simpa [ddOf] using h.1.1.1.1.2
  refine wpAny_slots (sp := sp) (ds := ds) (W := w) (a0 := a0) (fun d hd => ?_) hok hst hops hfin _ _ _ _ ⟨⟨by simp, fun j oj _ hl => (by rw [getD_replicate_false] at hl; cases hl), fun t _ ht => getD_in (by simpa using ht) (getD_replicate_false _ _)⟩, (Below.refl _ _).drew, rfl, rfl, fun _ _ => rfl, fun j s _ hl => (by rw [getD_replicate_false] at hl; cases hl)⟩ ?_
  · exact of_decide_eq_true (List.all_eq_true.1 hsz d (by simpa using hd))
  · have : ∀ n, n ≤ l.length → cntU n (Array.replicate l.toArray.size false) = n := by
      intro n
      induction n with
      | zero => intro _; rfl
      | succ n ih =>
        intro hn
        rw [cntU, ih (by omega)]
        simp [show n < l.length by omega]
    rw [this _ hlen]; simp; omega
theorem inv_put (hsz : ∀ d, ds.contains d = true → d < a0.tmps.size) (hok : okB l ds (ddOf sp) = true ∨ True) (hst : Stable sp) {listed : Array Bool} {a : Act} {w w' : World} (inv : Inv l sp.length W a0 ds sp listed a w) {i : Nat} (hi : i ∈ Region.ready .any l.toArray listed) (hin : i < sp.length)
    {o : Oper} {s : Spec} (hs : sp[i]? = some s) (hd : o.dst = s.dst) (hds : ∀ d, s.dst = some d → ds.contains d = true) (hdiff : ∀ (j : Nat) (q : Spec) (d : Tmp), j ≠ i → sp[j]? = some q → s.dst = some d → q.dst ≠ some d)
    (hb : Below w.heap.size w w') {v : Value} (hv : s.val w' v) : Inv l sp.length W a0 ds sp (listed.setIfInBounds i true) (a.put o.dst v) w' := by
  refine ⟨inv.head.set hi hin, inv.bel.trans (hb.mono inv.bel.size), ?_, ?_, fun d hd' => ?_, fun j q hq hl d hqd => ?_⟩
  · unfold Act.put; cases o.dst <;> exact inv.defers
  · unfold Act.put; cases o.dst <;> simp [inv.size]
  · unfold Act.put
    cases hdo : o.dst with
    | none => exact inv.old d hd'
    | some d0 =>
      have hne : d0 ≠ d := fun e => by rw [e] at hdo; rw [hds d (hd ▸ hdo)] at hd'; cases hd'
      have := inv.old d hd'
      simp only [Array.getD_eq_getD_getElem?] at this ⊢
      rw [Array.getElem?_setIfInBounds_ne hne]; exact this
  · by_cases hij : j = i
    · subst hij
      rw [hs] at hq; cases hq
      unfold Act.put
      rw [hd, hqd]
      have hcon := hds d hqd
      have hlt : d < a.tmps.size := by rw [inv.size]; exact hsz d hcon
      simpa [Array.getElem?_setIfInBounds, hlt] using hv
    · rw [getD_set_ne false (Ne.symm hij)] at hl
      have hold := inv.new j q hq hl d hqd
      have hne : o.dst ≠ some d := by
        intro e; rw [hd] at e; exact hdiff j q d hij hq e hqd
      have hsame : (a.put o.dst v).tmps.getD d undef = a.tmps.getD d undef := by
        unfold Act.put
        cases hdo : o.dst with
        | none => rfl
        | some d0 =>
          have : d0 ≠ d := fun e => hne (by rw [hdo, e])
          simp only [Array.getD_eq_getD_getElem?]
          rw [Array.getElem?_setIfInBounds_ne this]
      rw [hsame]
      exact hst q (List.mem_of_getElem? hq) w w' _ hb hold
end
section
variable {P : Program} {l : List Oper} {W : World} {a0 : Act} {ds : List Nat} {sp : List Spec} {Q : Exit → Act → World → Prop}
/-- What the kernel checks where one operation, number k, may come behind the tail. -/
def okL (l : List Oper) (ds : List Nat) (dd : List (Option Tmp × List (Nat × Nat))) (k : Nat) : Bool :=
  let n := dd.length
  Region.noSelect l.toArray && decide (n < l.length) && decide (k < n) &&
  ((List.range n).all fun i => match l[i]?, dd[i]? with
    | some o, some s => o.dst == s.1 && (match s.1 with | some d => ds.contains d | none => true) &&
        s.2.all (fun p => Region.waitsFor .any l.toArray i p.1 && (match dd[p.1]? with | some q => q.1 == some p.2 | none => false)) &&
        ((List.range n).all fun j => i == j || (match s.1, (dd[j]?).bind (·.1) with | some d, some d' => d != d' | _, _ => true)) &&
        o.after.all (fun e => !Region.binds .any e || decide (e.on < i))
    | _, _ => false) &&
  ((List.range n).all fun i => i == k || (List.range (n + 1)).any fun j => decide (i < j) && j != k && Region.waitsFor .any l.toArray j i) &&
  Region.chainB .any l.toArray n &&
  ((List.range l.length).all fun t => decide (t < n) || (match l[k]?, l[t]? with | some ok, some ot => ok.apart l.toArray ot | _, _ => false)) &&
  Region.seqB .any l.toArray (l.length - n) n (Array.replicate n true ++ Array.replicate (l.length - n) false)
theorem okL_n {k : Nat} (h : okL l ds (ddOf sp) k = true) : sp.length < l.length ∧ k < sp.length := by
  unfold okL at h
  simp only [Bool.and_eq_true, decide_eq_true_eq] at h
  have hdl : (ddOf sp).length = sp.length := by simp [ddOf]
  rw [hdl] at h
  exact ⟨h.1.1.1.1.1.1.2, h.1.1.1.1.1.2⟩
theorem okL_at {k : Nat} (h : okL l ds (ddOf sp) k = true) {i : Nat} (hi : i < sp.length) : ∃ (o : Oper) (s : Spec), l[i]? = some o ∧ sp[i]? = some s ∧ o.dst = s.dst ∧ (∀ d, s.dst = some d → ds.contains d = true) ∧
    (∀ p ∈ s.deps, Region.waitsFor .any l.toArray i p.1 = true ∧ ∃ q, sp[p.1]? = some q ∧ q.dst = some p.2) ∧
    (∀ (j : Nat) (q : Spec) (d : Tmp), j ≠ i → sp[j]? = some q → s.dst = some d → q.dst ≠ some d) ∧ (∀ e ∈ o.after, Region.binds .any e = true → e.on < i) := by
  unfold okL at h
  simp only [Bool.and_eq_true] at h
  have h1 := List.all_eq_true.1 h.1.1.1.1.2 i (List.mem_range.2 (by simpa [ddOf] using hi))
  have hsp : sp[i]? = some sp[i] := List.getElem?_eq_getElem hi
  simp only [ddOf, List.getElem?_map, hsp, Option.map_some] at h1
  cases ho : l[i]? with
  | none => rw [ho] at h1; cases h1
  | some o =>
    rw [ho] at h1
    simp only [Bool.and_eq_true, beq_iff_eq] at h1
    obtain ⟨⟨⟨⟨e1, e2⟩, e4⟩, e5⟩, e6⟩ := h1
    refine ⟨o, sp[i], rfl, hsp, e1, fun d hd => by rw [hd] at e2; exact e2, fun p hp => ?_, fun j q d hj hq hd hqd => ?_, fun e he hb => ?_⟩
    · have := List.all_eq_true.1 e4 p hp
      simp only [Bool.and_eq_true] at this
      refine ⟨this.1, ?_⟩
      have h2 := this.2
      cases hq : sp[p.1]? with
      | none => rw [hq] at h2; cases h2
      | some q => rw [hq] at h2; exact ⟨q, rfl, by simpa using h2⟩
    · have hjl : j < sp.length := (List.getElem?_eq_some_iff.1 hq).1
      have := List.all_eq_true.1 e5 j (List.mem_range.2 (by simpa [ddOf] using hjl))
      rw [hq, hd] at this
      simp only [Option.map_some, Option.bind_some, hqd, Bool.or_eq_true, beq_iff_eq, bne_self_eq_false, Bool.false_eq_true, or_false] at this
      exact hj this.symm
    · have := (Array.all_eq_true_iff_forall_mem.1 e6) e he
      simpa [hb] using this
theorem late_waits {k : Nat} (hok : okL l ds (ddOf sp) k = true) {listed : Array Bool} (inv : HeadInv .any l.toArray sp.length listed) :
    ∀ (d i : Nat), sp.length - i = d → i < sp.length → i ≠ k → listed.getD i true = false → ∀ t, sp.length ≤ t → t ∉ Region.ready .any l.toArray listed := by
  have h := hok
  unfold okL at h
  simp only [Bool.and_eq_true] at h
  have hdl : (ddOf sp).length = sp.length := by simp [ddOf]
  rw [hdl] at h
  have hs := h.1.1.1.2; have hc := h.1.1.2
  have hsz : l.toArray.size = l.length := by simp
  intro d
  induction d using Nat.strongRecOn with
  | _ d ih =>
    intro i hd hi hik hun t ht hr
    obtain ⟨_, ot, hot, hall⟩ := mem_ready.1 hr
    have htlt : t < l.toArray.size := (Array.getElem?_eq_some_iff.1 hot).1
    by_cases htn : t = sp.length
    · subst htn
      have h1 := List.all_eq_true.1 hs i (List.mem_range.2 hi)
      simp only [Bool.or_eq_true, beq_iff_eq] at h1
      rcases h1 with h1 | h1
      · exact hik h1
      · obtain ⟨j, hj, hj2⟩ := List.any_eq_true.1 h1
        simp only [Bool.and_eq_true, decide_eq_true_eq, bne_iff_ne, ne_eq] at hj2
        obtain ⟨oj, hoj, e, he, hb, hon⟩ := Region.waitsFor_spec hj2.2
        have hjle : j ≤ sp.length := by have := List.mem_range.1 hj; omega
        by_cases hjt : j = sp.length
        · subst hjt
          have : oj = ot := Option.some.inj (hoj.symm.trans hot)
          subst this
          have h2 := hall e he hb
          rw [hon, getD_both hun] at h2
          cases h2
        · cases hl : listed.getD j false with
          | true =>
            have h2 := inv.closed j oj hoj hl e he hb
            rw [hon, getD_both hun] at h2
            cases h2
          | false =>
            have hjs : j < listed.size := by rw [inv.size]; omega
            exact ih (sp.length - j) (by omega) j rfl (by omega) hj2.1.2 (getD_in hjs hl) sp.length (Nat.le_refl _) hr
    · have h1 := List.all_eq_true.1 hc t (List.mem_range.2 htlt)
      simp only [Bool.or_eq_true, decide_eq_true_eq] at h1
      rcases h1 with h1 | h1
      · omega
      · obtain ⟨o', ho', e, he, hb, hon⟩ := Region.waitsFor_spec h1
        have : o' = ot := Option.some.inj (ho'.symm.trans hot)
        subst this
        have h2 := hall e he hb
        rw [hon, getD_both (inv.tail (t - 1) (by omega) (by omega))] at h2
        cases h2
theorem fin_late {k : Nat} (hok : okL l ds (ddOf sp) k = true)
    (hfin : ∀ (u : Nat → Value) (w : World), Below W.heap.size W w → (∀ (j : Nat) (s : Spec) (d : Tmp), sp[j]? = some s → s.dst = some d → s.val w (u d)) → wpList P l.toArray Q (l.drop sp.length) ⟨(fillR ds u 0 a0.tmps.toList).toArray, a0.defers⟩ w)
    {listed : Array Bool} {a : Act} {w : World} (inv : Inv l sp.length W a0 ds sp listed a w) (hc : cntU sp.length listed = 0) : wpAny P .any l.toArray Q (l.length - sp.length) listed a w := by
  have h := hok
  unfold okL at h
  simp only [Bool.and_eq_true] at h
  have hlen := (okL_n hok).1
  have hseq := h.2
  have hdl : (ddOf sp).length = sp.length := by simp [ddOf]
  rw [hdl] at hseq
  have hall := cntU_zero _ hc
  have hsz : listed.size = l.length := by rw [inv.head.size]; simp
  have hL : listed = Array.replicate sp.length true ++ Array.replicate (l.length - sp.length) false := by
    apply Array.ext_getElem?
    intro i
    rcases Nat.lt_or_ge i listed.size with hi | hi
    · rw [Array.getElem?_append]
      by_cases hin : i < sp.length
      · rw [if_pos (by simpa using hin)]
        have := hall i hin
        simp only [Array.getD_eq_getD_getElem?, Array.getElem?_eq_getElem hi, Option.getD_some] at this
        simp [hi, hin, this]
      · rw [if_neg (by simpa using hin)]
        have := inv.head.tail i (by omega) (by simp; omega)
        simp only [Array.getD_eq_getD_getElem?, Array.getElem?_eq_getElem hi, Option.getD_some] at this
        rw [Array.getElem?_eq_getElem hi, this, Array.size_replicate, Array.getElem?_replicate, if_pos (by omega)]
    · rw [Array.getElem?_eq_none hi, Array.getElem?_eq_none (by simp; omega)]
  have hw := hfin (fun d => a.tmps.getD d undef) w inv.bel fun j s d hj hd => inv.new j s hj (getD_true_false (hall j (List.getElem?_eq_some_iff.1 hj).1) (by rw [hsz]; have := (List.getElem?_eq_some_iff.1 hj).1; omega)) d hd
  rw [← inv.act] at hw
  have hdrop : (l.drop sp.length).length = l.length - sp.length := by simp
  rw [← hdrop]
  refine wpAny_of_seq (l.drop sp.length) sp.length listed a w (fun j => by simp [List.getElem?_drop]) ?_ hw
  rw [hdrop, hL]; exact hseq
theorem cntU_none {listed : Array Bool} : ∀ n, (∀ i, i < n → listed.getD i true = true) → cntU n listed = 0
  | 0, _ => rfl
  | n + 1, h => by rw [cntU, cntU_none n fun i hi => h i (by omega), if_pos (h n (by omega))]
theorem wpAny_late {k : Nat} {ok : Oper} {sk : Spec} (hsz : ∀ d, ds.contains d = true → d < a0.tmps.size) (hok : okL l ds (ddOf sp) k = true) (hst : Stable sp) (hops : Hops P l W a0 ds sp (l.take sp.length) sp)
    (hko : l[k]? = some ok) (hks : sp[k]? = some sk) (hQ : ∀ c a d v w, Q (.panic c) (a.put d v) w → Q (.panic c) a w)
    (hlate : ∀ (u : Nat → Value) (w : World), Below W.heap.size W w → Knows sp w u sk.deps → ∃ v, Yields P l.toArray ok v ⟨(fillR ds u 0 a0.tmps.toList).toArray, a0.defers⟩ ∧ sk.val w v)
    (hfin : ∀ (u : Nat → Value) (w : World), Below W.heap.size W w → (∀ (j : Nat) (s : Spec) (d : Tmp), sp[j]? = some s → s.dst = some d → s.val w (u d)) → wpList P l.toArray Q (l.drop sp.length) ⟨(fillR ds u 0 a0.tmps.toList).toArray, a0.defers⟩ w) :
    ∀ (f : Nat) (listed : Array Bool) (a : Act) (w : World), Inv l sp.length W a0 ds sp listed a w → f = cntU sp.length listed + (l.length - sp.length) → wpAny P .any l.toArray Q f listed a w := by
  obtain ⟨hlen, hkn⟩ := okL_n hok
  intro f
  induction f with
  | zero => intro listed a w inv hf; omega
  | succ f ih =>
    intro listed a w inv hf
    have hsz2 : listed.size = l.length := by rw [inv.head.size]; simp
    by_cases hc : cntU sp.length listed = 0
    · have := fin_late (Q := Q) hok hfin inv hc
      rwa [show l.length - sp.length = f + 1 by omega] at this
    · by_cases hother : ∃ i, i < sp.length ∧ i ≠ k ∧ listed.getD i true = false
      · obtain ⟨i0, hi0, hik0, hu0⟩ := hother
        have hrd : ∀ (m i : Nat), i < m → i < sp.length → listed.getD i true = false → Region.ready .any l.toArray listed ≠ [] := by
          intro m
          induction m with
          | zero => intro i h; omega
          | succ m ihk =>
            intro i hk hi hu
            obtain ⟨o, s, ho, hs, _, _, _, _, hback⟩ := okL_at hok hi
            by_cases hall : ∀ e ∈ o.after, Region.binds .any e = true → listed.getD e.on false = true
            · exact List.ne_nil_of_mem (mem_ready.2 ⟨hu, o, by simpa using ho, hall⟩)
            · simp only [Classical.not_forall] at hall
              obtain ⟨e, he, hb, hn⟩ := hall
              have hlt := hback e he hb
              refine ihk e.on (by omega) (by omega) ?_
              have hol : i < l.length := (List.getElem?_eq_some_iff.1 ho).1
              exact getD_in (by omega) (by simpa using hn)
        have htail := late_waits hok inv.head _ i0 rfl hi0 hik0 hu0
        refine ⟨fun h0 => absurd h0 (hrd (i0 + 1) i0 (by omega) hi0 hu0), fun i hi => ?_⟩
        have hin : i < sp.length := by
          rcases Nat.lt_or_ge i sp.length with h | h
          · exact h
          · exact absurd hi (htail i h)
        have hun := (mem_ready.1 hi).1
        obtain ⟨o, s, ho, hs, hd, hds, hdeps, hdiff, hback⟩ := okL_at hok hin
        obtain ⟨_, o', ho', hall⟩ := mem_ready.1 hi
        have hoo : l.toArray[i]? = some o := by simpa using ho
        rw [hoo] at ho'; cases ho'
        have hk : Knows sp w (fun d => a.tmps.getD d undef) s.deps := knows_of fun p hp q hq => by
          obtain ⟨h1, q', hq', hqd⟩ := hdeps p hp
          rw [hq] at hq'; cases hq'
          obtain ⟨e, he, hb, hon⟩ := waits_spec hoo h1
          have := hall e he hb
          rw [hon] at this
          exact inv.new p.1 q hq this p.2 hqd
        have hact := inv.act
        have hw := hops_get _ _ hops i o s (by rw [List.getElem?_take, if_pos hin]; exact ho) hs (fun d => a.tmps.getD d undef) w inv.bel hk
        rw [← hact] at hw
        have key : ∀ a' w', PostS w o s a .normal a' w' → wpAny P .any l.toArray Q f (listed.setIfInBounds i true) a' w' := by
          rintro a' w' ⟨_, hb, v, rfl, hv⟩
          exact ih _ _ _ (inv_put hsz (.inr trivial) hst inv hi hin hs hd hds hdiff hb hv) (by have := cntU_set hun sp.length hin; omega)
        unfold wpOp
        simp only [hoo]
        unfold wpList at hw
        split at hw
        · rename_i hwant
          rw [if_pos hwant]
          rcases hw with hw | ⟨_, a1, w1, hbad, _⟩
          · exact .inl (wp_monoQ key (fun e a w he h => he h.1) hw)
          · cases hbad
        · rename_i hwant
          rw [if_neg hwant]
          exact key _ _ hw
      · have hall : ∀ i, i < sp.length → i ≠ k → listed.getD i true = true := fun i hi hik => by
          cases h : listed.getD i true with
          | true => rfl
          | false => exact absurd ⟨i, hi, hik, h⟩ hother
        have hku : listed.getD k true = false := by
          cases h : listed.getD k true with
          | false => rfl
          | true => exact absurd (cntU_none _ fun i hi => if hik : i = k then hik ▸ h else hall i hi hik) hc
        obtain ⟨o, s, ho, hs, hd, hds, hdeps, hdiff, hback⟩ := okL_at hok hkn
        rw [hko] at ho; cases ho
        rw [hks] at hs; cases hs
        have hoo : l.toArray[k]? = some ok := by simpa using hko
        have hr : k ∈ Region.ready .any l.toArray listed := mem_ready.2 ⟨hku, ok, hoo, fun e he hb => by
          have hlt := hback e he hb
          exact getD_true_false (hall e.on (by omega) (by omega)) (by omega)⟩
        have hk : Knows sp w (fun d => a.tmps.getD d undef) sk.deps := knows_of fun p hp q hq => by
          obtain ⟨h1, q', hq', hqd⟩ := hdeps p hp
          rw [hq] at hq'; cases hq'
          obtain ⟨e, he, hb, hon⟩ := waits_spec hoo h1
          have hlt := hback e he hb
          rw [hon] at hlt
          exact inv.new p.1 q hq (getD_true_false (hall p.1 (by omega) (by omega)) (by omega)) p.2 hqd
        obtain ⟨v, hy, hv⟩ := hlate (fun d => a.tmps.getD d undef) w inv.bel hk
        rw [← inv.act] at hy
        have h := hok
        unfold okL at h
        simp only [Bool.and_eq_true] at h
        have hap := h.1.2
        have hdl : (ddOf sp).length = sp.length := by simp [ddOf]
        rw [hdl] at hap
        refine wpAny_first hoo (Region.noSelect_spec h.1.1.1.1.1.1.1) (fun c a w hq => hQ c a _ _ w hq) f listed a w (fun j oj hj hjk hju hjw => ?_) hr hy (ih _ _ _ (inv_put hsz (.inr trivial) hst inv hr hkn hks hd hds hdiff (Below.refl _ _) hv) (by have := cntU_set hku sp.length hkn; omega))
        have hjl : j < l.length := by have := (Array.getElem?_eq_some_iff.1 hj).1; simpa using this
        rcases Nat.lt_or_ge j sp.length with hjn | hjn
        · rw [hall j hjn hjk] at hju; cases hju
        · have h1 := List.all_eq_true.1 hap j (List.mem_range.2 hjl)
          simp only [Bool.or_eq_true, decide_eq_true_eq] at h1
          rcases h1 with h1 | h1
          · omega
          · have hj' : l[j]? = some oj := by simpa using hj
            rw [hko, hj'] at h1; exact h1
theorem wp_slots_late {id : Nat} {w : World} (sp : List Spec) (ds : List Nat) (k : Nat) {ok : Oper} {sk : Spec} (hm : P.follows .mixedOrders = true) (hok : okL l ds (ddOf sp) k = true) (hsz : (ds.all fun d => decide (d < a0.tmps.size)) = true) (hst : Stable sp)
    (hops : Hops P l w a0 ds sp (l.take sp.length) sp)
    (hko : l[k]? = some ok) (hks : sp[k]? = some sk) (hQ : ∀ c a d v w, Q (.panic c) (a.put d v) w → Q (.panic c) a w)
    (hlate : ∀ (u : Nat → Value) (w' : World), Below w.heap.size w w' → Knows sp w' u sk.deps → ∃ v, Yields P l.toArray ok v ⟨(fillR ds u 0 a0.tmps.toList).toArray, a0.defers⟩ ∧ sk.val w' v)
    (hfin : ∀ (u : Nat → Value) (w' : World), Below w.heap.size w w' → (∀ (j : Nat) (s : Spec) (d : Tmp), sp[j]? = some s → s.dst = some d → s.val w' (u d)) → wpList P l.toArray Q (l.drop sp.length) ⟨(fillR ds u 0 a0.tmps.toList).toArray, a0.defers⟩ w') :
    (Code.region id l.toArray true).wp P Q a0 w := by
  refine wp_region_any hm ?_
  obtain ⟨hlen, hkn⟩ := okL_n hok
  refine wpAny_late (sp := sp) (ds := ds) (W := w) (a0 := a0) (fun d hd => ?_) hok hst hops hko hks hQ hlate hfin _ _ _ _ ⟨⟨by simp, fun j oj _ hl => (by rw [getD_replicate_false] at hl; cases hl), fun t _ ht => getD_in (by simpa using ht) (getD_replicate_false _ _)⟩, (Below.refl _ _).drew, rfl, rfl, fun _ _ => rfl, fun j s _ hl => (by rw [getD_replicate_false] at hl; cases hl)⟩ ?_
  · exact of_decide_eq_true (List.all_eq_true.1 hsz d (by simpa using hd))
  · have : ∀ n, n ≤ l.length → cntU n (Array.replicate l.toArray.size false) = n := by
      intro n
      induction n with
      | zero => intro _; rfl
      | succ n ih =>
        intro hn
        rw [cntU, ih (by omega)]
        simp [show n < l.length by omega]
    rw [this _ (by omega)]; simp; omega
end
end Go.Proofs.YtolbmemogoojhaaGreat
