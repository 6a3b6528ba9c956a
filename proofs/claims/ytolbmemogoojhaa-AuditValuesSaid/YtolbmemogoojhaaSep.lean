/- What a call owns: blocks, rows and maps that nothing else touches; each step says what becomes of the list. No program. -/
import Derived.Test.YtolbmemogoojhaaM9
import Derived.Maps.AppendAt
import Derived.Great.BuildSlice
namespace Go.Proofs.Ytolbmemogoojhaa
open Go Go.RowKit Go.Deep
set_option linter.unusedVariables false
set_option linter.unusedSimpArgs false

/-- Something in memory that hangs on some blocks alone. -/
structure Res where
  foot : Nat → Prop
  holds : World → Prop
  stay : ∀ {w w' : World}, holds w → (∀ b, foot b → w'.heap[b]? = w.heap[b]?) → holds w'
  lt : ∀ {w : World} {b : Nat}, holds w → foot b → b < w.heap.size

/-- Turned at no old block but those of F. -/
structure Chg (F : Nat → Prop) (w w' : World) : Prop where
  os : w'.os = w.os
  tape : w'.tape = w.tape
  output : w'.output = w.output
  size : w.heap.size ≤ w'.heap.size
  block : ∀ k, k < w.heap.size → ¬ F k → w'.heap[k]? = w.heap[k]?
theorem Chg.of_but {b : Nat} {w w' : World} (h : But b w w') : Chg (· = b) w w' := ⟨h.os, h.tape, h.output, h.size, fun k hk hn => h.block k hk hn⟩
theorem Chg.of_below {F : Nat → Prop} {w w' : World} (h : Below w.heap.size w w') : Chg F w w' := ⟨h.os, h.tape, h.output, h.size, fun k hk _ => h.block k hk⟩
theorem Chg.of_grown {w w' : World} {row : Option Nat} (h : w.grownBy w' row) : Chg (fun k => row = some k) w w' := ⟨h.os, h.tape, h.output, h.size, fun k hk hn => h.block k hk fun e => hn e.symm⟩

def Apart (r s : Res) : Prop := ∀ b, r.foot b → ¬ s.foot b
theorem Apart.symm {r s : Res} (h : Apart r s) : Apart s r := fun b h1 h2 => h b h2 h1

/-- The world w, come from w0: nothing that w0 had has turned; beside it these resources, all made since, no two of them touching. -/
structure St (w0 w : World) (Γ : List Res) : Prop where
  bel : Below w0.heap.size w0 w
  base : ∀ r ∈ Γ, ∀ b, r.foot b → w0.heap.size ≤ b
  holds : ∀ r ∈ Γ, r.holds w
  apart : Γ.Pairwise Apart

inductive Upd : List Res → Res → Res → List Res → Prop
  | head (r r' : Res) (Γ : List Res) : Upd (r :: Γ) r r' (r' :: Γ)
  | tail (x : Res) {Γ Γ' : List Res} {r r' : Res} : Upd Γ r r' Γ' → Upd (x :: Γ) r r' (x :: Γ')
theorem Upd.mem {Γ Γ' : List Res} {r r' : Res} (h : Upd Γ r r' Γ') : r ∈ Γ := by
  induction h with
  | head => exact List.mem_cons_self
  | tail x _ ih => exact List.mem_cons_of_mem _ ih
theorem Upd.mem' {Γ Γ' : List Res} {r r' : Res} (h : Upd Γ r r' Γ') (hp : Γ.Pairwise Apart) : ∀ s ∈ Γ', s = r' ∨ (s ∈ Γ ∧ Apart r s) := by
  induction h with
  | head r r' Γ =>
    intro s hs
    rcases List.mem_cons.1 hs with rfl | hs
    · exact .inl rfl
    · exact .inr ⟨List.mem_cons_of_mem _ hs, (List.pairwise_cons.1 hp).1 s hs⟩
  | tail x u ih =>
    obtain ⟨h1, h2⟩ := List.pairwise_cons.1 hp
    intro s hs
    rcases List.mem_cons.1 hs with rfl | hs
    · exact .inr ⟨List.mem_cons_self, (h1 _ u.mem).symm⟩
    · rcases ih h2 s hs with h | ⟨h, h'⟩
      · exact .inl h
      · exact .inr ⟨List.mem_cons_of_mem _ h, h'⟩
theorem Upd.pair {Γ Γ' : List Res} {r r' : Res} (h : Upd Γ r r' Γ') (hp : Γ.Pairwise Apart) (hd : ∀ s ∈ Γ, Apart r s → Apart r' s) : Γ'.Pairwise Apart := by
  induction h with
  | head r r' Γ =>
    obtain ⟨h1, h2⟩ := List.pairwise_cons.1 hp
    exact List.pairwise_cons.2 ⟨fun s hs => hd s (List.mem_cons_of_mem _ hs) (h1 s hs), h2⟩
  | tail x u ih =>
    obtain ⟨h1, h2⟩ := List.pairwise_cons.1 hp
    refine List.pairwise_cons.2 ⟨fun s hs => ?_, ih h2 fun s hs => hd s (List.mem_cons_of_mem _ hs)⟩
    rcases u.mem' h2 s hs with rfl | ⟨h, _⟩
    · exact (hd x List.mem_cons_self (h1 _ u.mem).symm).symm
    · exact h1 s h

theorem St.init (w : World) : St w w [] := ⟨Below.refl _ _, fun _ h => (List.not_mem_nil h).elim, fun _ h => (List.not_mem_nil h).elim, List.Pairwise.nil⟩
section
variable {w0 w w' : World} {Γ Γ' Δ : List Res} {r r' : Res}
theorem St.get (h : St w0 w Γ) (hm : r ∈ Γ) : r.holds w := h.holds r hm
theorem St.size (h : St w0 w Γ) : w0.heap.size ≤ w.heap.size := h.bel.size
theorem St.call (h : St w0 w Γ) (hb : Below w.heap.size w w') : St w0 w' Γ :=
  ⟨h.bel.trans (hb.mono h.bel.size), h.base, fun r hr => r.stay (h.holds r hr) fun b hf => hb.block b (r.lt (h.holds r hr) hf), h.apart⟩
theorem St.drew (h : St w0 w Γ) : St w0 w.drew Γ := h.call (Below.refl _ _).drew
theorem St.alloc (h : St w0 w Γ) (o : Obj) : St w0 (w.alloc o) Γ := h.call (bel_alloc (Below.refl _ _) o)
/-- What a call has made, beside what was there. -/
theorem St.comp (h : St w0 w Γ) (k : St w w' Δ) : St w0 w' (Δ ++ Γ) := by
  have h' := h.call k.bel
  refine ⟨h'.bel, fun r hr b hf => ?_, fun r hr => ?_, ?_⟩
  · rcases List.mem_append.1 hr with hr | hr
    · exact Nat.le_trans h.bel.size (k.base r hr b hf)
    · exact h.base r hr b hf
  · rcases List.mem_append.1 hr with hr | hr
    · exact k.holds r hr
    · exact h'.holds r hr
  · refine List.pairwise_append.2 ⟨k.apart, h.apart, fun r hr s hs b h1 h2 => ?_⟩
    have := k.base r hr b h1
    have := s.lt (h.holds s hs) h2
    omega
theorem St.new (h : St w0 w Γ) (hb : Below w.heap.size w w') (hr : r.holds w') (hf : ∀ b, r.foot b → w.heap.size ≤ b) : St w0 w' (r :: Γ) :=
  h.comp (Δ := [r]) ⟨hb, fun s hs => by rw [List.mem_singleton.1 hs]; exact hf, fun s hs => by rw [List.mem_singleton.1 hs]; exact hr, List.pairwise_singleton _ _⟩
/-- One of them turned. -/
theorem St.upd (h : St w0 w Γ) (u : Upd Γ r r' Γ') (hc : Chg r.foot w w') (hr : r'.holds w') (hf : ∀ b, r'.foot b → r.foot b ∨ w.heap.size ≤ b) : St w0 w' Γ' := by
  have hm := u.mem' h.apart
  have hb := h.base r u.mem
  refine ⟨h.bel.trans ⟨hc.os, hc.tape, hc.output, hc.size, fun k hk => hc.block k (Nat.lt_of_lt_of_le hk h.bel.size) fun hk' => ?_⟩, fun s hs b hfb => ?_, fun s hs => ?_, ?_⟩
  · have := hb k hk'; omega
  · rcases hm s hs with rfl | ⟨hs', _⟩
    · rcases hf b hfb with h1 | h1
      · exact hb b h1
      · exact Nat.le_trans h.bel.size h1
    · exact h.base s hs' b hfb
  · rcases hm s hs with rfl | ⟨hs', ha⟩
    · exact hr
    · exact s.stay (h.holds s hs') fun b hfb => hc.block b (s.lt (h.holds s hs') hfb) fun h1 => ha b h1 hfb
  · refine u.pair h.apart fun s hs ha b h1 h2 => ?_
    rcases hf b h1 with h3 | h3
    · exact ha b h3 h2
    · have := s.lt (h.holds s hs) h2; omega
theorem St.sub (h : St w0 w Γ) (hs : Γ'.Sublist Γ) : St w0 w Γ' := ⟨h.bel, fun r hr => h.base r (hs.subset hr), fun r hr => h.holds r (hs.subset hr), h.apart.sublist hs⟩
theorem St.perm (h : St w0 w Γ) (hs : Γ'.Perm Γ) : St w0 w Γ' := ⟨h.bel, fun r hr => h.base r (hs.subset hr), fun r hr => h.holds r (hs.subset hr), (hs.pairwise_iff (fun h => Apart.symm h)).2 h.apart⟩
def Res.and (r s : Res) : Res := ⟨fun b => r.foot b ∨ s.foot b, fun w => r.holds w ∧ s.holds w, fun h k => ⟨r.stay h.1 fun b hb => k b (.inl hb), s.stay h.2 fun b hb => k b (.inr hb)⟩, fun h hb => hb.elim (r.lt h.1) (s.lt h.2)⟩
theorem St.merge (h : St w0 w (r :: r' :: Γ)) : St w0 w (r.and r' :: Γ) := by
  obtain ⟨h1, h2⟩ := List.pairwise_cons.1 h.apart
  obtain ⟨h3, h4⟩ := List.pairwise_cons.1 h2
  refine ⟨h.bel, fun s hs b hf => ?_, fun s hs => ?_, List.pairwise_cons.2 ⟨fun s hs b hf h' => ?_, h4⟩⟩
  · rcases List.mem_cons.1 hs with rfl | hs
    · rcases hf with hf | hf
      · exact h.base r List.mem_cons_self b hf
      · exact h.base r' (List.mem_cons_of_mem _ List.mem_cons_self) b hf
    · exact h.base s (List.mem_cons_of_mem _ (List.mem_cons_of_mem _ hs)) b hf
  · rcases List.mem_cons.1 hs with rfl | hs
    · exact ⟨h.holds r List.mem_cons_self, h.holds r' (List.mem_cons_of_mem _ List.mem_cons_self)⟩
    · exact h.holds s (List.mem_cons_of_mem _ (List.mem_cons_of_mem _ hs))
  · rcases hf with hf | hf
    · exact h1 s (List.mem_cons_of_mem _ hs) b hf h'
    · exact h3 s hs b hf h'
def Res.none : Res := ⟨fun _ => False, fun _ => True, fun _ _ => trivial, fun _ h => h.elim⟩
theorem St.addNone (h : St w0 w Γ) : St w0 w (Res.none :: Γ) := h.comp (Δ := [Res.none]) ⟨Below.refl _ _, fun s hs b hf => by rw [List.mem_singleton.1 hs] at hf; exact hf.elim, fun s hs => by rw [List.mem_singleton.1 hs]; trivial, List.pairwise_singleton _ _⟩
/-- A callee's own resources, among which one of ours was handed in and turned. -/
theorem St.turn (h : St w0 w Γ) (u : Upd Γ r r' Γ') (hc : Chg r.foot w w') (hr : r'.holds w') (hf : ∀ b, r'.foot b → r.foot b ∨ w.heap.size ≤ b) : St w0 w' Γ' := h.upd u hc hr hf
end

def Res.blk (b : Nat) (t : TypeId) (cs : Array Value) : Res := ⟨fun k => k = b, fun w => Blk w b t cs, fun h k => (k _ rfl).trans h, fun h e => by subst e; exact h.lt⟩
def Res.map (b : Nat) {κ : Type} (enc : κ → Value) (m : List (κ × Value)) : Res :=
  ⟨fun k => k = b, fun w => MapAt w b enc m, fun ⟨es, c, h, e⟩ k => ⟨es, c, (k _ rfl).trans h, e⟩, fun h e => by subst e; exact h.lt⟩
/-- A row of one's own, at which one may append. -/
def Res.row (e : TypeId) (size : Nat) (v : Value) (n : Nat) (cs : List Value) : Res :=
  ⟨fun k => v.ownBlock = some k, fun w => w.ownsRow 0 e size v n cs, fun h k => by
    obtain ⟨hl, h | ⟨g, cap, cur, rfl, hb, hg, h1⟩⟩ := h
    · exact ⟨hl, .inl h⟩
    · exact ⟨hl, .inr ⟨g, cap, cur, rfl, hb, (k g rfl).trans hg, h1⟩⟩, fun h e => by
    obtain ⟨hl, ⟨rfl, _⟩ | ⟨g, cap, cur, rfl, hb, hg, h1⟩⟩ := h
    · cases e
    · cases e; exact (Array.getElem?_eq_some_iff.1 hg).1⟩
theorem row_none (w : World) (e : TypeId) (size : Nat) : (Res.row e size (.slice none 0 0) 0 []).holds w := World.ownsRow_nil _ _ _ _
theorem St.nilRow {w0 w : World} {Γ : List Res} (h : St w0 w Γ) (e : TypeId) (size : Nat) : St w0 w (Res.row e size (.slice none 0 0) 0 [] :: Γ) :=
  h.new (Below.refl _ _) (row_none w e size) fun b hb => by cases hb
theorem Res.row_reads {w : World} {e : TypeId} {size n : Nat} {v : Value} {cs : List Value} (h : (Res.row e size v n cs).holds w) : Row w size v n cs := row_of_own h
theorem St.rowSlice {w0 w : World} {Γ : List Res} (H : St w0 w Γ) {e : TypeId} {size n : Nat} {v : Value} {cs : List Value} (hm : Res.row e size v n cs ∈ Γ) : ∃ a n c, v = .slice a n c := by
  obtain ⟨_, ⟨rfl, _⟩ | ⟨g, cap, cur, rfl, _⟩⟩ := H.get hm
  · exact ⟨_, _, _, rfl⟩
  · exact ⟨_, _, _, rfl⟩
theorem St.rowRead {w0 w : World} {Γ : List Res} (H : St w0 w Γ) {e : TypeId} {size n : Nat} {v : Value} {cs : List Value} (hm : Res.row e size v n cs ∈ Γ) : Row w size v n cs := Res.row_reads (H.get hm)
/-- What was made since the call, with its base. -/
theorem St.own {w0 w : World} {Γ : List Res} (h : St w0 w Γ) {e : TypeId} {size n : Nat} {v : Value} {cs : List Value} (hm : Res.row e size v n cs ∈ Γ) : w.ownsRow w0.heap.size e size v n cs := by
  have hb := h.base _ hm
  obtain ⟨hl, h1 | ⟨g, cap, cur, rfl, _, h2⟩⟩ := h.holds _ hm
  · exact ⟨hl, .inl h1⟩
  · exact ⟨hl, .inr ⟨g, cap, cur, rfl, hb g rfl, h2⟩⟩
theorem St.rowIn {w0 w : World} {Γ : List Res} (h : St w0 w Γ) {w' : World} {e : TypeId} {size n : Nat} {v : Value} {cs : List Value} (hb : Below w.heap.size w w') (hr : w'.ownsRow w.heap.size e size v n cs) : St w0 w' (Res.row e size v n cs :: Γ) :=
  h.new hb (own_lower hr (Nat.zero_le _)) fun b hf => (hr.lt b hf).1
theorem St.ofRow {w w' : World} {e : TypeId} {size n : Nat} {v : Value} {cs : List Value} (hb : Below w.heap.size w w') (hr : w'.ownsRow w.heap.size e size v n cs) : St w w' [Res.row e size v n cs] := (St.init w).rowIn hb hr

theorem run_append_row_at {P : Program} {w : World} (base : Nat) (t ty e : TypeId) (i : TypeInfo) (z : Value) (size bytes : Nat) (ht : P.underlying t = some (.slice e)) (hi : P.info? e = some i) (hz : i.zero = some z)
    (hsize : i.size = size) (hby : i.bytes = bytes) (hzs : z.cells.size = size) (hsz : 0 < size)
    (v : Value) (n : Nat) (xs : List Value) (hown : w.ownsRow base e size v n xs)
    (x : Value) (m : Nat) (news : List Value) (hx : Row w size x m news) (h1 : ∀ u ∈ news, u.oneCell' = true)
    (h63 : n + m ≤ maxLen) (hbytes : (n + m) * bytes ≤ 140737488355328) (hbase : base ≤ w.heap.size) :
    ∃ v' w', (Builtin.append_ #[t, t] ty #[v, x]).run P w = .ok v' w' ∧ w'.ownsRow base e size v' (n + m) (xs ++ news) ∧ w.grownBy w' v.ownBlock ∧ (v'.ownBlock = v.ownBlock ∨ v'.ownBlock = some w.heap.size) := by
  obtain ⟨hl, a, c, rfl, k1, k2, k3, k4⟩ := hx
  by_cases hm : m = 0
  · subst hm
    have hn : news = [] := by simpa using hl
    subst hn
    simp only [Nat.add_zero, List.append_nil]
    cases a with
    | none =>
      have hc0 := k3 rfl
      subst hc0
      subst hsize
      obtain ⟨hxl, ⟨rfl, rfl⟩ | ⟨g, cap, cur, rfl, hbg, hg, hnc, hcm, hcs, htake⟩⟩ := id hown
      · refine ⟨.slice none 0 0, w, ?_, hown, ⟨rfl, rfl, rfl, Nat.le_refl _, fun _ _ _ => rfl⟩, .inl rfl⟩
        simp [Builtin.append_, run_underlying ht, sizeOf, typeInfo, hi, Builtin.lenOf, Builtin.firstCells, loadCells, loadCellsFrom]
      · have hr := run_append_room_src (P := P) w t t ty e i ht hi g 0 n cap (.slice none 0 0) 0 [] (Src.ofNil w ht 0) (by omega) (by simp) (by simp)
        refine ⟨_, _, hr, ?_, ⟨rfl, rfl, rfl, by simp [World.setCells], fun _ _ _ => by simp [World.setCells]⟩, .inl rfl⟩
        simpa [World.setCells] using hown
    | some ad =>
      obtain ⟨v', w', hr, h2, h3, _, h5⟩ := run_append_own_at (P := P) w base t ty e i z size bytes ht hi hz hsize hby hzs hsz v n xs hown ad 0 c [] (by simp) (by simp) (by simp) (by omega) (by simpa using hbytes) hbase
      exact ⟨v', w', hr, by simpa using h2, h3, h5⟩
  · have hpos : 0 < news.length := by rw [hl]; exact Nat.mul_pos (by omega) hsz
    obtain ⟨b, off, rfl, hc⟩ := k4 hpos
    obtain ⟨v', w', hr, h2, h3, _, h5⟩ := run_append_own_at (P := P) w base t ty e i z size bytes ht hi hz hsize hby hzs hsz v n xs hown ⟨b, off, none⟩ m c news hl
      (fun j u hj => by rw [Addr.add_lit]; exact hc j u hj) h1 h63 hbytes hbase
    exact ⟨v', w', hr, h2, h3, h5⟩

/-! The walk's steps. -/
section
variable {P : Program} {ops : Array Oper} {rest : List Oper} {a : Act} {w0 w : World} {Q : Exit → Act → World → Prop} {Γ Γ' : List Res}
variable {dst : Option Tmp} {ty typ : TypeId} {x y : Operand} {pos : String} {af : Array Edge} {gd : Option (Nat × Bool)}
theorem arm_box (H : St w0 w Γ) {cs : Array Value} (hx : a.eval x = .agg cs)
    (h : ∀ w' b, St w0 w' (Res.blk b ty cs :: Γ) → wpList P ops Q rest (a.put dst (.pointer (some ⟨b, 0, none⟩))) w') : wpList P ops Q (⟨dst, .box ty x, typ, pos, af, none⟩ :: rest) a w :=
  wpList_box_blk rfl ty x rfl dst rfl cs hx fun w' k b s => h w' _ (H.new b k fun _ e => by cases e; exact Nat.le_refl _)
theorem run_box_one (v : Value) (hv : v.cells = #[v]) (ρ : Operand → Value) (o : Oper) (ho : o.op = .box ty x) (hx : ρ x = v) :
    (execOp ρ o).run P w = .ok (.value (.pointer (some ⟨w.heap.size, 0, none⟩))) (w.alloc (.cells #[v] ty)) := by
  unfold execOp
  simp [ho, hx, Instr.box, newVar, newRow, hv]
theorem arm_box1 (H : St w0 w Γ) {v : Value} (hx : a.eval x = v) (hv : v.cells = #[v])
    (h : ∀ w' b, St w0 w' (Res.blk b ty #[v] :: Γ) → wpList P ops Q rest (a.put dst (.pointer (some ⟨b, 0, none⟩))) w') : wpList P ops Q (⟨dst, .box ty x, typ, pos, af, none⟩ :: rest) a w := by
  refine wpList_plain rfl fun K hK => ?_
  unfold Oper.wp
  rw [run_box_one (x := x) (ty := ty) v hv _ _ rfl hx, Oper.upon_value]
  exact hK _ _ (h _ _ (H.new (bel_alloc (Below.refl _ _) _) (Blk.new _ _ _) fun _ e => by cases e; exact Nat.le_refl _))
theorem arm_alloc (H : St w0 w Γ) {z : Value} {cs : Array Value} (hz : (P.info? ty).map (·.zero) = some (some z)) (hcs : z.cells = cs)
    (h : ∀ w' b, St w0 w' (Res.blk b ty cs :: Γ) → wpList P ops Q rest (a.put dst (.pointer (some ⟨b, 0, none⟩))) w') : wpList P ops Q (⟨dst, .alloc ty, typ, pos, af, none⟩ :: rest) a w :=
  wpList_alloc_blk rfl ty rfl dst rfl z cs hz hcs fun w' k b s => h w' _ (H.new b k fun _ e => by cases e; exact Nat.le_refl _)
/-- An aggregate is read. -/
theorem arm_ld (hw : Region.wanted (⟨dst, .load ty x, typ, pos, af, gd⟩ : Oper) (yielded ops a.tmps) = true) {b off : Nat} (hx : a.eval x = .pointer (some ⟨b, off, none⟩)) {cs : Array Value} {d : TypeDesc} (hg : Sub w b off cs)
    (hu : P.underlying ty = some d) (hd : (match d with | .struct _ | .array _ _ => true | _ => false) = true) (hi : (P.info? ty).map (·.size) = some cs.size)
    (h : wpList P ops Q rest (a.put dst (.agg cs)) w) : wpList P ops Q (⟨dst, .load ty x, typ, pos, af, gd⟩ :: rest) a w := wpList_load_sub hw ty x rfl dst rfl b off hx cs d hg hu hd hi h
/-- One cell is read. -/
theorem arm_ld1 (hw : Region.wanted (⟨dst, .load ty x, typ, pos, af, gd⟩ : Oper) (yielded ops a.tmps) = true) {b off : Nat} (hx : a.eval x = .pointer (some ⟨b, off, none⟩)) {v : Value} {d : TypeDesc} (hg : Sub w b off #[v])
    (hu : P.underlying ty = some d) (hd : (match d with | .struct _ | .array _ _ => true | _ => false) = false)
    (h : wpList P ops Q rest (a.put dst v) w) : wpList P ops Q (⟨dst, .load ty x, typ, pos, af, gd⟩ :: rest) a w := wpList_load_one hw ty x rfl dst rfl b off hx v d hg hu hd h
/-- An aggregate is written over a part of a block, or over all of it. -/
theorem arm_st (H : St w0 w Γ) (hw : Region.wanted (⟨dst, .store ty x y, typ, pos, af, gd⟩ : Oper) (yielded ops a.tmps) = true) {b off : Nat} {cells cur new : Array Value} {t : TypeId} (hx : a.eval x = .pointer (some ⟨b, off, none⟩)) (hy : a.eval y = .agg cells)
    (u : Upd Γ (Res.blk b t cur) (Res.blk b t new) Γ') (hi : (P.info? ty).map (·.size) = some cells.size) (hfit : off + cells.size ≤ cur.size) (h1 : cells.all (·.oneCell') = true)
    (hnew : (cur.toList.take off ++ cells.toList ++ cur.toList.drop (off + cells.size)).toArray = new)
    (h : ∀ w', St w0 w' Γ' → wpList P ops Q rest (a.put dst undef) w') : wpList P ops Q (⟨dst, .store ty x y, typ, pos, af, gd⟩ :: rest) a w :=
  wpList_store_part hw ty x y rfl dst rfl b off cells hx hy t cur (H.holds _ u.mem) hi hfit h1 new hnew fun w' k c _ => h w' (H.upd u (Chg.of_but c) k fun _ e => .inl e)
theorem run_store_one {b off : Nat} {v : Value} {t : TypeId} {cur : Array Value} (hg : Blk w b t cur) (hlt : off < cur.size) (hv : v.cells = #[v]) (h1 : v.oneCell' = true) (hi : (P.info? ty).map (·.size) = some 1) :
    (storeVar ty ⟨b, off, none⟩ v).run P w = .ok () (w.setRow b (cur.toList.take off ++ [v] ++ cur.toList.drop (off + 1)).toArray) := by
  have hst := run_storeCells_at (P := P) b off t [v] 0 cur w hg (by simpa using Nat.succ_le_of_lt hlt) (fun u hu => by simp at hu; subst hu; exact h1)
  simp only [Nat.add_zero, List.length_cons, List.length_nil, Nat.zero_add] at hst
  cases hq : P.info? ty with
  | none => simp [hq] at hi
  | some i =>
    have hs : 1 = i.size := by simp [hq] at hi; omega
    simp [storeVar, sizeOf, typeInfo, hq, hv, ← hs]
    rw [List.append_assoc] at hst
    simpa using hst
/-- One cell is written. -/
theorem arm_st1 (H : St w0 w Γ) (hw : Region.wanted (⟨dst, .store ty x y, typ, pos, af, gd⟩ : Oper) (yielded ops a.tmps) = true) {b off : Nat} {v : Value} {cur new : Array Value} {t : TypeId} (hx : a.eval x = .pointer (some ⟨b, off, none⟩)) (hy : a.eval y = v)
    (u : Upd Γ (Res.blk b t cur) (Res.blk b t new) Γ') (hi : (P.info? ty).map (·.size) = some 1) (hfit : off < cur.size) (hv : v.cells = #[v]) (h1 : v.oneCell' = true)
    (hnew : (cur.toList.take off ++ [v] ++ cur.toList.drop (off + 1)).toArray = new)
    (h : ∀ w', St w0 w' Γ' → wpList P ops Q rest (a.put dst undef) w') : wpList P ops Q (⟨dst, .store ty x y, typ, pos, af, gd⟩ :: rest) a w := by
  refine BigFrame.wpList_want hw fun K hK => ?_
  unfold Oper.wp execOp
  have hB : Blk w b t cur := H.holds _ u.mem
  simp only [hx, hy, Instr.storeAt, Instr.sureAddr, Sem.run_bind, Sem.run_pure, Result.andThen_ok, run_store_one hB hfit hv h1 hi]
  rw [hnew]
  exact hK _ _ (h _ (H.upd u (Chg.of_but ((But.refl _ _).setRow _)) (hB.setRow _) fun _ e => .inl e))
/-- Append, from whatever row. -/
theorem arm_append {o : Oper} (H : St w0 w Γ) (hgd : o.guard = none) (s x : Operand) (t : TypeId)
    (ho : o.op = .call { callee := .builtin .append, args := #[s, x], argTypes := #[t, t] })
    (e : TypeId) (z : Value) (size bytes : Nat) (ht : P.underlying t = some (.slice e)) (hinfo : (P.info? e).map (fun i => (i.zero, i.size, i.bytes)) = some (some z, size, bytes))
    (hzs : z.cells.size = size) (hsz : 0 < size)
    (v : Value) (n : Nat) (xs : List Value) (hs : a.eval s = v)
    (xv : Value) (m : Nat) (news : List Value) (hxv : a.eval x = xv) (hx : Row w size xv m news) (h1 : ∀ u ∈ news, u.oneCell' = true)
    (h63 : n + m ≤ maxLen) (hbytes : (n + m) * bytes ≤ 140737488355328)
    {Γ' : Value → List Res} (u : ∀ v', Upd Γ (Res.row e size v n xs) (Res.row e size v' (n + m) (xs ++ news)) (Γ' v'))
    (h : ∀ v' w', St w0 w' (Γ' v') → wpList P ops Q rest (a.put o.dst v') w') : wpList P ops Q (o :: rest) a w := by
  have hr : w.ownsRow 0 e size v n xs := H.holds _ (u undef).mem
  obtain ⟨i, hi, hzz⟩ := Option.map_eq_some_iff.1 hinfo
  simp only [Prod.mk.injEq] at hzz
  obtain ⟨hz, hsi, hby⟩ := hzz
  refine wpList_plain hgd fun K hK => ?_
  obtain ⟨v', w', hrun, h2, h3, h4⟩ := run_append_row_at (P := P) 0 t o.type e i z size bytes ht hi hz hsi hby hzs hsz v n xs hr xv m news hx h1 h63 hbytes (Nat.zero_le _)
  unfold Oper.wp execOp
  simp only [ho, resolve, invoke, builtin, Sem.run_bind, Sem.run_pure, Result.andThen_ok, List.map_toArray, List.map_cons, List.map_nil, hs, hxv, hrun]
  refine hK _ _ (h v' w' (H.upd (u v') (Chg.of_grown h3) h2 fun b hb => ?_))
  rcases h4 with h4 | h4
  · left; show v.ownBlock = some b; rw [← h4]; exact hb
  · right; have hb' : v'.ownBlock = some b := hb; rw [h4] at hb'; cases hb'; exact Nat.le_refl _
theorem arm_app (H : St w0 w Γ) {s : Operand} {t e : TypeId} {z : Value} {size bytes : Nat} (ht : P.underlying t = some (.slice e)) (hinfo : (P.info? e).map (fun i => (i.zero, i.size, i.bytes)) = some (some z, size, bytes))
    (hzs : z.cells.size = size) (hsz : 0 < size)
    {v : Value} {n : Nat} {xs : List Value} (hs : a.eval s = v) {xv : Value} {m : Nat} {news : List Value} (hxv : a.eval x = xv)
    {Γ' : Value → List Res} (u : ∀ v', Upd Γ (Res.row e size v n xs) (Res.row e size v' (n + m) (xs ++ news)) (Γ' v'))
    (hx : Row w size xv m news) (h1 : ∀ u ∈ news, u.oneCell' = true) (h63 : n + m ≤ maxLen) (hbytes : (n + m) * bytes ≤ 140737488355328)
    (h : ∀ w' v', St w0 w' (Γ' v') → wpList P ops Q rest (a.put dst v') w') : wpList P ops Q (⟨dst, .call { callee := .builtin .append, args := #[s, x], argTypes := #[t, t] }, typ, pos, af, none⟩ :: rest) a w :=
  arm_append H rfl s x t rfl e z size bytes ht hinfo hzs hsz v n xs hs xv m news hxv hx h1 h63 hbytes u fun v' w' h' => h w' v' h'
/-- A slice of one element that is written out. -/
theorem arm_bslice1 (H : St w0 w Γ) {t e : TypeId} {v z : Value} {cs : List Value} {size bytes : Nat} (hx : a.eval x = v) (hv : v.cells.toList = cs) (hu : P.underlying t = some (.slice e)) (hinfo : (P.info? e).map (fun i => (i.zero, i.size, i.bytes)) = some (some z, size, bytes))
    (hzs : z.cells.size = size) (hn : cs.length = size) (hsz : 0 < size) (hsm : size ≤ 2 ^ 24)
    (h : ∀ w' b, St w0 w' (Res.row e size (.slice (some ⟨b, 0, none⟩) 1 1) 1 cs :: Γ) → wpList P ops Q rest (a.put dst (.slice (some ⟨b, 0, none⟩) 1 1)) w') : wpList P ops Q (⟨dst, .buildSlice t 1 #[(0, x)], typ, pos, af, none⟩ :: rest) a w := by
  obtain ⟨i, hi, hzz⟩ := Option.map_eq_some_iff.1 hinfo
  simp only [Prod.mk.injEq] at hzz
  obtain ⟨hz, hsi, hby⟩ := hzz
  refine wpList_buildSlice rfl t e 1 #[(0, x)] rfl cs.toArray i z hu hi hz (by rw [hsi]; omega) (by rw [hsi]; omega) ?_ (h _ _ (H.rowIn (bel_alloc (Below.refl _ _) _) ⟨by simpa using hn, .inr ⟨w.heap.size, 1, cs.toArray, rfl, Nat.le_refl _, World.alloc_heap_new w _, Nat.le_refl _, by decide, by simp [hn], by simp [← hn]⟩⟩))
  have hf := Go.Great.fill_whole (s := size) hsz [v] ((Array.range (1 * i.size)).map (z.cells[· % z.cells.size]!)) (fun u hu => by simp at hu; subst hu; rw [← hn, ← hv]; simp) (by simp [hsi])
  rw [hsi] at hf ⊢
  simp only [List.map_toArray, List.map_cons, List.map_nil, hx]
  simpa [hv] using hf
theorem run_makeMap0 (t : TypeId) (w : World) : (Instr.makeMap t none).run P w = .ok (.map (some w.heap.size)) (w.alloc (.map #[] 0)) := rfl
theorem arm_makeMap (H : St w0 w Γ) {κ : Type} (enc : κ → Value)
    (h : ∀ w' b, St w0 w' (Res.map b enc [] :: Γ) → wpList P ops Q rest (a.put dst (.map (some b))) w') : wpList P ops Q (⟨dst, .makeMap ty none, typ, pos, af, none⟩ :: rest) a w := by
  refine wpList_plain rfl fun K hK => ?_
  unfold Oper.wp execOp
  simp only [Option.map_none, Sem.run_bind, run_makeMap0, Result.andThen_ok, Sem.run_pure, Oper.upon_value]
  exact hK _ _ (h _ _ (H.new (bel_alloc (Below.refl _ _) _) (MapAt.new w) fun _ e => by cases e; exact Nat.le_refl _))
section
variable {b : Nat} {κ : Type} [DecidableEq κ] {enc : κ → Value} {m : List (κ × Value)} {K E : TypeId} {z : Operand}
theorem arm_lookup2 (H : St w0 w Γ) (hx : a.eval x = .map (some b)) {k : κ} (hk : a.eval y = enc k) (hm : Res.map b enc m ∈ Γ) (ok : KeyOk P K enc) (ht : P.underlying ty = some (.map K E)) {zv : Value} (hz : ∀ w, (zeroValue E).run P w = .ok zv w)
    (h : wpList P ops Q rest (a.put dst (match gIx m k with | some q => .tuple #[q.2, .bool true] | none => .tuple #[zv, .bool false])) w) : wpList P ops Q (⟨dst, .lookup ty x y true, typ, pos, af, none⟩ :: rest) a w :=
  wpList_lookup_map rfl ty K E x y rfl dst rfl hx k hk (H.get hm) ok ht zv hz h
theorem arm_lookup1 (H : St w0 w Γ) (hx : a.eval x = .map (some b)) {k : κ} (hk : a.eval y = enc k) (hm : Res.map b enc m ∈ Γ) (ok : KeyOk P K enc) (ht : P.underlying ty = some (.map K E)) {zv : Value} (hz : ∀ w, (zeroValue E).run P w = .ok zv w)
    (h : wpList P ops Q rest (a.put dst (match gIx m k with | some q => q.2 | none => zv)) w) : wpList P ops Q (⟨dst, .lookup ty x y false, typ, pos, af, none⟩ :: rest) a w := by
  refine wpList_run rfl _ w ?_ h
  unfold execOp
  simp only [hx, hk, Sem.run_bind, run_lookup_map1 (H.get hm) ok ht (hz w) k, Result.andThen_ok, Sem.run_pure]
  rfl
theorem arm_mapset (H : St w0 w Γ) (hx : a.eval x = .map (some b)) {k : κ} (hk : a.eval y = enc k) {v : Value} (hv : a.eval z = v) (u : Upd Γ (Res.map b enc m) (Res.map b enc (gPut m k v)) Γ') (ok : KeyOk P K enc) (ht : P.underlying ty = some (.map K E))
    (h : ∀ w', St w0 w' Γ' → wpList P ops Q rest (a.put dst undef) w') : wpList P ops Q (⟨dst, .mapUpdate ty x y z, typ, pos, af, none⟩ :: rest) a w :=
  wpList_update_map rfl ty K E x y z rfl dst rfl hx k hk v hv (H.holds _ u.mem) ok ht fun w' hm hb _ => h w' (H.upd u (Chg.of_but hb) hm fun _ e => .inl e)
end
end
end Go.Proofs.Ytolbmemogoojhaa
