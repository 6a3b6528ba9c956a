/- What a call owns: blocks, rows and maps that nothing else touches; each step says what becomes of the list. No program. -/
import Derived.Test.YtgckgbonhbabpaaRecL
import Derived.Test.YtgckgbonhbabpaaRecO
import Derived.Maps.AppendAt
import Derived.Great.BuildSlice
import Derived.Test.YtgckgbonhbabpaaRecW
import Derived.Test.YtgckgbonhbabpaaRecK
import Derived.Test.YtgckgbonhbabpaaRecP
namespace Go.Proofs.Ytgckgbonhbabpaa
open Go Go.RowKit Go.Deep
set_option linter.unusedVariables false
set_option linter.unusedSimpArgs false

/-- Something in memory that hangs on some blocks alone. -/
structure Res where
  foot : Nat → Prop
  holds : World → Prop
  stay : ∀ {w w' : World}, holds w → (∀ b, foot b → w'.heap[b]? = w.heap[b]?) → holds w'
  lt : ∀ {w : World} {b : Nat}, holds w → foot b → b < w.heap.size

/-- Turned at no old block but those of F. -/
structure Chg (F : Nat → Prop) (w w' : World) : Prop where
  os : w'.os = w.os
  tape : w'.tape = w.tape
  output : w'.output = w.output
  size : w.heap.size ≤ w'.heap.size
  block : ∀ k, k < w.heap.size → ¬ F k → w'.heap[k]? = w.heap[k]?
theorem Chg.of_but {b : Nat} {w w' : World} (h : But b w w') : Chg (· = b) w w' := ⟨h.os, h.tape, h.output, h.size, fun k hk hn => h.block k hk hn⟩
theorem Chg.of_below {F : Nat → Prop} {w w' : World} (h : Below w.heap.size w w') : Chg F w w' := ⟨h.os, h.tape, h.output, h.size, fun k hk _ => h.block k hk⟩
theorem Chg.of_grown {w w' : World} {row : Option Nat} (h : w.grownBy w' row) : Chg (fun k => row = some k) w w' := ⟨h.os, h.tape, h.output, h.size, fun k hk hn => h.block k hk fun e => hn e.symm⟩

def Apart (r s : Res) : Prop := ∀ b, r.foot b → ¬ s.foot b
theorem Apart.symm {r s : Res} (h : Apart r s) : Apart s r := fun b h1 h2 => h b h2 h1

/-- The world w, come from w0: nothing that w0 had has turned; beside it these resources, all made since, no two of them touching. -/
structure St (w0 w : World) (Γ : List Res) : Prop where
  bel : Below w0.heap.size w0 w
  base : ∀ r ∈ Γ, ∀ b, r.foot b → w0.heap.size ≤ b
  holds : ∀ r ∈ Γ, r.holds w
  apart : Γ.Pairwise Apart

inductive Upd : List Res → Res → Res → List Res → Prop
  | head (r r' : Res) (Γ : List Res) : Upd (r :: Γ) r r' (r' :: Γ)
  | tail (x : Res) {Γ Γ' : List Res} {r r' : Res} : Upd Γ r r' Γ' → Upd (x :: Γ) r r' (x :: Γ')
theorem Upd.mem {Γ Γ' : List Res} {r r' : Res} (h : Upd Γ r r' Γ') : r ∈ Γ := by
  induction h with
  | head => exact List.mem_cons_self
  | tail x _ ih => exact List.mem_cons_of_mem _ ih
theorem Upd.mem' {Γ Γ' : List Res} {r r' : Res} (h : Upd Γ r r' Γ') (hp : Γ.Pairwise Apart) : ∀ s ∈ Γ', s = r' ∨ (s ∈ Γ ∧ Apart r s) := by
  induction h with
  | head r r' Γ =>
    intro s hs
    rcases List.mem_cons.1 hs with rfl | hs
    · exact .inl rfl
    · exact .inr ⟨List.mem_cons_of_mem _ hs, (List.pairwise_cons.1 hp).1 s hs⟩
  | tail x u ih =>
    obtain ⟨h1, h2⟩ := List.pairwise_cons.1 hp
    intro s hs
    rcases List.mem_cons.1 hs with rfl | hs
    · exact .inr ⟨List.mem_cons_self, (h1 _ u.mem).symm⟩
    · rcases ih h2 s hs with h | ⟨h, h'⟩
      · exact .inl h
      · exact .inr ⟨List.mem_cons_of_mem _ h, h'⟩
theorem Upd.pair {Γ Γ' : List Res} {r r' : Res} (h : Upd Γ r r' Γ') (hp : Γ.Pairwise Apart) (hd : ∀ s ∈ Γ, Apart r s → Apart r' s) : Γ'.Pairwise Apart := by
  induction h with
  | head r r' Γ =>
    obtain ⟨h1, h2⟩ := List.pairwise_cons.1 hp
    exact List.pairwise_cons.2 ⟨fun s hs => hd s (List.mem_cons_of_mem _ hs) (h1 s hs), h2⟩
  | tail x u ih =>
    obtain ⟨h1, h2⟩ := List.pairwise_cons.1 hp
    refine List.pairwise_cons.2 ⟨fun s hs => ?_, ih h2 fun s hs => hd s (List.mem_cons_of_mem _ hs)⟩
    rcases u.mem' h2 s hs with rfl | ⟨h, _⟩
    · exact (hd x List.mem_cons_self (h1 _ u.mem).symm).symm
    · exact h1 s h

theorem St.init (w : World) : St w w [] := ⟨Below.refl _ _, fun _ h => (List.not_mem_nil h).elim, fun _ h => (List.not_mem_nil h).elim, List.Pairwise.nil⟩
section
variable {w0 w w' : World} {Γ Γ' Δ : List Res} {r r' : Res}
theorem St.get (h : St w0 w Γ) (hm : r ∈ Γ) : r.holds w := h.holds r hm
theorem St.size (h : St w0 w Γ) : w0.heap.size ≤ w.heap.size := h.bel.size
theorem St.call (h : St w0 w Γ) (hb : Below w.heap.size w w') : St w0 w' Γ :=
  ⟨h.bel.trans (hb.mono h.bel.size), h.base, fun r hr => r.stay (h.holds r hr) fun b hf => hb.block b (r.lt (h.holds r hr) hf), h.apart⟩
theorem St.drew (h : St w0 w Γ) : St w0 w.drew Γ := h.call (Below.refl _ _).drew
theorem St.alloc (h : St w0 w Γ) (o : Obj) : St w0 (w.alloc o) Γ := h.call (bel_alloc (Below.refl _ _) o)
/-- What a call has made, beside what was there. -/
theorem St.comp (h : St w0 w Γ) (k : St w w' Δ) : St w0 w' (Δ ++ Γ) := by
  have h' := h.call k.bel
  refine ⟨h'.bel, fun r hr b hf => ?_, fun r hr => ?_, ?_⟩
  · rcases List.mem_append.1 hr with hr | hr
    · exact Nat.le_trans h.bel.size (k.base r hr b hf)
    · exact h.base r hr b hf
  · rcases List.mem_append.1 hr with hr | hr
    · exact k.holds r hr
    · exact h'.holds r hr
  · refine List.pairwise_append.2 ⟨k.apart, h.apart, fun r hr s hs b h1 h2 => ?_⟩
    have := k.base r hr b h1
    have := s.lt (h.holds s hs) h2
    omega
theorem St.new (h : St w0 w Γ) (hb : Below w.heap.size w w') (hr : r.holds w') (hf : ∀ b, r.foot b → w.heap.size ≤ b) : St w0 w' (r :: Γ) :=
  h.comp (Δ := [r]) ⟨hb, fun s hs => by rw [List.mem_singleton.1 hs]; exact hf, fun s hs => by rw [List.mem_singleton.1 hs]; exact hr, List.pairwise_singleton _ _⟩
/-- One of them turned. -/
theorem St.upd (h : St w0 w Γ) (u : Upd Γ r r' Γ') (hc : Chg r.foot w w') (hr : r'.holds w') (hf : ∀ b, r'.foot b → r.foot b ∨ w.heap.size ≤ b) : St w0 w' Γ' := by
  have hm := u.mem' h.apart
  have hb := h.base r u.mem
  refine ⟨h.bel.trans ⟨hc.os, hc.tape, hc.output, hc.size, fun k hk => hc.block k (Nat.lt_of_lt_of_le hk h.bel.size) fun hk' => ?_⟩, fun s hs b hfb => ?_, fun s hs => ?_, ?_⟩
  · have := hb k hk'; omega
  · rcases hm s hs with rfl | ⟨hs', _⟩
    · rcases hf b hfb with h1 | h1
      · exact hb b h1
      · exact Nat.le_trans h.bel.size h1
    · exact h.base s hs' b hfb
  · rcases hm s hs with rfl | ⟨hs', ha⟩
    · exact hr
    · exact s.stay (h.holds s hs') fun b hfb => hc.block b (s.lt (h.holds s hs') hfb) fun h1 => ha b h1 hfb
  · refine u.pair h.apart fun s hs ha b h1 h2 => ?_
    rcases hf b h1 with h3 | h3
    · exact ha b h3 h2
    · have := s.lt (h.holds s hs) h2; omega
theorem St.sub (h : St w0 w Γ) (hs : Γ'.Sublist Γ) : St w0 w Γ' := ⟨h.bel, fun r hr => h.base r (hs.subset hr), fun r hr => h.holds r (hs.subset hr), h.apart.sublist hs⟩
theorem St.perm (h : St w0 w Γ) (hs : Γ'.Perm Γ) : St w0 w Γ' := ⟨h.bel, fun r hr => h.base r (hs.subset hr), fun r hr => h.holds r (hs.subset hr), (hs.pairwise_iff (fun h => Apart.symm h)).2 h.apart⟩
def Res.and (r s : Res) : Res := ⟨fun b => r.foot b ∨ s.foot b, fun w => r.holds w ∧ s.holds w, fun h k => ⟨r.stay h.1 fun b hb => k b (.inl hb), s.stay h.2 fun b hb => k b (.inr hb)⟩, fun h hb => hb.elim (r.lt h.1) (s.lt h.2)⟩
theorem St.merge (h : St w0 w (r :: r' :: Γ)) : St w0 w (r.and r' :: Γ) := by
  obtain ⟨h1, h2⟩ := List.pairwise_cons.1 h.apart
  obtain ⟨h3, h4⟩ := List.pairwise_cons.1 h2
  refine ⟨h.bel, fun s hs b hf => ?_, fun s hs => ?_, List.pairwise_cons.2 ⟨fun s hs b hf h' => ?_, h4⟩⟩
  · rcases List.mem_cons.1 hs with rfl | hs
    · rcases hf with hf | hf
      · exact h.base r List.mem_cons_self b hf
      · exact h.base r' (List.mem_cons_of_mem _ List.mem_cons_self) b hf
    · exact h.base s (List.mem_cons_of_mem _ (List.mem_cons_of_mem _ hs)) b hf
  · rcases List.mem_cons.1 hs with rfl | hs
    · exact ⟨h.holds r List.mem_cons_self, h.holds r' (List.mem_cons_of_mem _ List.mem_cons_self)⟩
    · exact h.holds s (List.mem_cons_of_mem _ (List.mem_cons_of_mem _ hs))
  · rcases hf with hf | hf
    · exact h1 s (List.mem_cons_of_mem _ hs) b hf h'
    · exact h3 s hs b hf h'
def Res.none : Res := ⟨fun _ => False, fun _ => True, fun _ _ => trivial, fun _ h => h.elim⟩
theorem St.addNone (h : St w0 w Γ) : St w0 w (Res.none :: Γ) := h.comp (Δ := [Res.none]) ⟨Below.refl _ _, fun s hs b hf => by rw [List.mem_singleton.1 hs] at hf; exact hf.elim, fun s hs => by rw [List.mem_singleton.1 hs]; trivial, List.pairwise_singleton _ _⟩
/-- A callee's own resources, among which one of ours was handed in and turned. -/
theorem St.turn (h : St w0 w Γ) (u : Upd Γ r r' Γ') (hc : Chg r.foot w w') (hr : r'.holds w') (hf : ∀ b, r'.foot b → r.foot b ∨ w.heap.size ≤ b) : St w0 w' Γ' := h.upd u hc hr hf
end

def Res.blk (b : Nat) (t : TypeId) (cs : Array Value) : Res := ⟨fun k => k = b, fun w => Blk w b t cs, fun h k => (k _ rfl).trans h, fun h e => by subst e; exact h.lt⟩
def Res.map (b : Nat) {κ : Type} (enc : κ → Value) (m : List (κ × Value)) : Res :=
  ⟨fun k => k = b, fun w => MapAt w b enc m, fun ⟨es, c, h, e⟩ k => ⟨es, c, (k _ rfl).trans h, e⟩, fun h e => by subst e; exact h.lt⟩
/-- A row of one's own, at which one may append. -/
def Res.row (e : TypeId) (size : Nat) (v : Value) (n : Nat) (cs : List Value) : Res :=
  ⟨fun k => v.ownBlock = some k, fun w => w.ownsRow 0 e size v n cs, fun h k => by
    obtain ⟨hl, h | ⟨g, cap, cur, rfl, hb, hg, h1⟩⟩ := h
    · exact ⟨hl, .inl h⟩
    · exact ⟨hl, .inr ⟨g, cap, cur, rfl, hb, (k g rfl).trans hg, h1⟩⟩, fun h e => by
    obtain ⟨hl, ⟨rfl, _⟩ | ⟨g, cap, cur, rfl, hb, hg, h1⟩⟩ := h
    · cases e
    · cases e; exact (Array.getElem?_eq_some_iff.1 hg).1⟩
theorem row_none (w : World) (e : TypeId) (size : Nat) : (Res.row e size (.slice none 0 0) 0 []).holds w := World.ownsRow_nil _ _ _ _
theorem St.nilRow {w0 w : World} {Γ : List Res} (h : St w0 w Γ) (e : TypeId) (size : Nat) : St w0 w (Res.row e size (.slice none 0 0) 0 [] :: Γ) :=
  h.new (Below.refl _ _) (row_none w e size) fun b hb => by cases hb
theorem Res.row_reads {w : World} {e : TypeId} {size n : Nat} {v : Value} {cs : List Value} (h : (Res.row e size v n cs).holds w) : Row w size v n cs := row_of_own h
theorem St.rowSlice {w0 w : World} {Γ : List Res} (H : St w0 w Γ) {e : TypeId} {size n : Nat} {v : Value} {cs : List Value} (hm : Res.row e size v n cs ∈ Γ) : ∃ a n c, v = .slice a n c := by
  obtain ⟨_, ⟨rfl, _⟩ | ⟨g, cap, cur, rfl, _⟩⟩ := H.get hm
  · exact ⟨_, _, _, rfl⟩
  · exact ⟨_, _, _, rfl⟩
theorem St.rowRead {w0 w : World} {Γ : List Res} (H : St w0 w Γ) {e : TypeId} {size n : Nat} {v : Value} {cs : List Value} (hm : Res.row e size v n cs ∈ Γ) : Row w size v n cs := Res.row_reads (H.get hm)
/-- What was made since the call, with its base. -/
theorem St.own {w0 w : World} {Γ : List Res} (h : St w0 w Γ) {e : TypeId} {size n : Nat} {v : Value} {cs : List Value} (hm : Res.row e size v n cs ∈ Γ) : w.ownsRow w0.heap.size e size v n cs := by
  have hb := h.base _ hm
  obtain ⟨hl, h1 | ⟨g, cap, cur, rfl, _, h2⟩⟩ := h.holds _ hm
  · exact ⟨hl, .inl h1⟩
  · exact ⟨hl, .inr ⟨g, cap, cur, rfl, hb g rfl, h2⟩⟩
theorem St.rowIn {w0 w : World} {Γ : List Res} (h : St w0 w Γ) {w' : World} {e : TypeId} {size n : Nat} {v : Value} {cs : List Value} (hb : Below w.heap.size w w') (hr : w'.ownsRow w.heap.size e size v n cs) : St w0 w' (Res.row e size v n cs :: Γ) :=
  h.new hb (own_lower hr (Nat.zero_le _)) fun b hf => (hr.lt b hf).1
theorem St.ofRow {w w' : World} {e : TypeId} {size n : Nat} {v : Value} {cs : List Value} (hb : Below w.heap.size w w') (hr : w'.ownsRow w.heap.size e size v n cs) : St w w' [Res.row e size v n cs] := (St.init w).rowIn hb hr

theorem run_append_row_at {P : Program} {w : World} (base : Nat) (t ty e : TypeId) (i : TypeInfo) (z : Value) (size bytes : Nat) (ht : P.underlying t = some (.slice e)) (hi : P.info? e = some i) (hz : i.zero = some z)
    (hsize : i.size = size) (hby : i.bytes = bytes) (hzs : z.cells.size = size) (hsz : 0 < size)
    (v : Value) (n : Nat) (xs : List Value) (hown : w.ownsRow base e size v n xs)
    (x : Value) (m : Nat) (news : List Value) (hx : Row w size x m news) (h1 : ∀ u ∈ news, u.oneCell' = true)
    (h63 : n + m ≤ maxLen) (hbytes : (n + m) * bytes ≤ 140737488355328) (hbase : base ≤ w.heap.size) :
    ∃ v' w', (Builtin.append_ #[t, t] ty #[v, x]).run P w = .ok v' w' ∧ w'.ownsRow base e size v' (n + m) (xs ++ news) ∧ w.grownBy w' v.ownBlock ∧ (v'.ownBlock = v.ownBlock ∨ v'.ownBlock = some w.heap.size) := by
  obtain ⟨hl, a, c, rfl, k1, k2, k3, k4⟩ := hx
  by_cases hm : m = 0
  · subst hm
    have hn : news = [] := by simpa using hl
    subst hn
    simp only [Nat.add_zero, List.append_nil]
    cases a with
    | none =>
      have hc0 := k3 rfl
      subst hc0
      subst hsize
      obtain ⟨hxl, ⟨rfl, rfl⟩ | ⟨g, cap, cur, rfl, hbg, hg, hnc, hcm, hcs, htake⟩⟩ := id hown
      · refine ⟨.slice none 0 0, w, ?_, hown, ⟨rfl, rfl, rfl, Nat.le_refl _, fun _ _ _ => rfl⟩, .inl rfl⟩
        simp [Builtin.append_, run_underlying ht, sizeOf, typeInfo, hi, Builtin.lenOf, Builtin.firstCells, loadCells, loadCellsFrom]
      · have hr := run_append_room_src (P := P) w t t ty e i ht hi g 0 n cap (.slice none 0 0) 0 [] (Src.ofNil w ht 0) (by omega) (by simp) (by simp)
        refine ⟨_, _, hr, ?_, ⟨rfl, rfl, rfl, by simp [World.setCells], fun _ _ _ => by simp [World.setCells]⟩, .inl rfl⟩
        simpa [World.setCells] using hown
    | some ad =>
      obtain ⟨v', w', hr, h2, h3, _, h5⟩ := run_append_own_at (P := P) w base t ty e i z size bytes ht hi hz hsize hby hzs hsz v n xs hown ad 0 c [] (by simp) (by simp) (by simp) (by omega) (by simpa using hbytes) hbase
      exact ⟨v', w', hr, by simpa using h2, h3, h5⟩
  · have hpos : 0 < news.length := by rw [hl]; exact Nat.mul_pos (by omega) hsz
    obtain ⟨b, off, rfl, hc⟩ := k4 hpos
    obtain ⟨v', w', hr, h2, h3, _, h5⟩ := run_append_own_at (P := P) w base t ty e i z size bytes ht hi hz hsize hby hzs hsz v n xs hown ⟨b, off, none⟩ m c news hl
      (fun j u hj => by rw [Addr.add_lit]; exact hc j u hj) h1 h63 hbytes hbase
    exact ⟨v', w', hr, h2, h3, h5⟩

/-! The walk's steps. -/
section
variable {P : Program} {ops : Array Oper} {rest : List Oper} {a : Act} {w0 w : World} {Q : Exit → Act → World → Prop} {Γ Γ' : List Res}
variable {dst : Option Tmp} {ty typ : TypeId} {x y : Operand} {pos : String} {af : Array Edge} {gd : Option (Nat × Bool)}
theorem arm_box (H : St w0 w Γ) {cs : Array Value} (hx : a.eval x = .agg cs)
    (h : ∀ w' b, St w0 w' (Res.blk b ty cs :: Γ) → wpList P ops Q rest (a.put dst (.pointer (some ⟨b, 0, none⟩))) w') : wpList P ops Q (⟨dst, .box ty x, typ, pos, af, none⟩ :: rest) a w :=
  wpList_box_blk rfl ty x rfl dst rfl cs hx fun w' k b s => h w' _ (H.new b k fun _ e => by cases e; exact Nat.le_refl _)
theorem run_box_one (v : Value) (hv : v.cells = #[v]) (ρ : Operand → Value) (o : Oper) (ho : o.op = .box ty x) (hx : ρ x = v) :
    (execOp ρ o).run P w = .ok (.value (.pointer (some ⟨w.heap.size, 0, none⟩))) (w.alloc (.cells #[v] ty)) := by
  unfold execOp
  simp [ho, hx, Instr.box, newVar, newRow, hv]
theorem arm_box1 (H : St w0 w Γ) {v : Value} (hx : a.eval x = v) (hv : v.cells = #[v])
    (h : ∀ w' b, St w0 w' (Res.blk b ty #[v] :: Γ) → wpList P ops Q rest (a.put dst (.pointer (some ⟨b, 0, none⟩))) w') : wpList P ops Q (⟨dst, .box ty x, typ, pos, af, none⟩ :: rest) a w := by
  refine wpList_plain rfl fun K hK => ?_
  unfold Oper.wp
  rw [run_box_one (x := x) (ty := ty) v hv _ _ rfl hx, Oper.upon_value]
  exact hK _ _ (h _ _ (H.new (bel_alloc (Below.refl _ _) _) (Blk.new _ _ _) fun _ e => by cases e; exact Nat.le_refl _))
theorem arm_alloc (H : St w0 w Γ) {z : Value} {cs : Array Value} (hz : (P.info? ty).map (·.zero) = some (some z)) (hcs : z.cells = cs)
    (h : ∀ w' b, St w0 w' (Res.blk b ty cs :: Γ) → wpList P ops Q rest (a.put dst (.pointer (some ⟨b, 0, none⟩))) w') : wpList P ops Q (⟨dst, .alloc ty, typ, pos, af, none⟩ :: rest) a w :=
  wpList_alloc_blk rfl ty rfl dst rfl z cs hz hcs fun w' k b s => h w' _ (H.new b k fun _ e => by cases e; exact Nat.le_refl _)
/-- An aggregate is read. -/
theorem arm_ld (hw : Region.wanted (⟨dst, .load ty x, typ, pos, af, gd⟩ : Oper) (yielded ops a.tmps) = true) {b off : Nat} (hx : a.eval x = .pointer (some ⟨b, off, none⟩)) {cs : Array Value} {d : TypeDesc} (hg : Sub w b off cs)
    (hu : P.underlying ty = some d) (hd : (match d with | .struct _ | .array _ _ => true | _ => false) = true) (hi : (P.info? ty).map (·.size) = some cs.size)
    (h : wpList P ops Q rest (a.put dst (.agg cs)) w) : wpList P ops Q (⟨dst, .load ty x, typ, pos, af, gd⟩ :: rest) a w := wpList_load_sub hw ty x rfl dst rfl b off hx cs d hg hu hd hi h
/-- One cell is read. -/
theorem arm_ld1 (hw : Region.wanted (⟨dst, .load ty x, typ, pos, af, gd⟩ : Oper) (yielded ops a.tmps) = true) {b off : Nat} (hx : a.eval x = .pointer (some ⟨b, off, none⟩)) {v : Value} {d : TypeDesc} (hg : Sub w b off #[v])
    (hu : P.underlying ty = some d) (hd : (match d with | .struct _ | .array _ _ => true | _ => false) = false)
    (h : wpList P ops Q rest (a.put dst v) w) : wpList P ops Q (⟨dst, .load ty x, typ, pos, af, gd⟩ :: rest) a w := wpList_load_one hw ty x rfl dst rfl b off hx v d hg hu hd h
/-- An aggregate is written over a part of a block, or over all of it. -/
theorem arm_st (H : St w0 w Γ) (hw : Region.wanted (⟨dst, .store ty x y, typ, pos, af, gd⟩ : Oper) (yielded ops a.tmps) = true) {b off : Nat} {cells cur new : Array Value} {t : TypeId} (hx : a.eval x = .pointer (some ⟨b, off, none⟩)) (hy : a.eval y = .agg cells)
    (u : Upd Γ (Res.blk b t cur) (Res.blk b t new) Γ') (hi : (P.info? ty).map (·.size) = some cells.size) (hfit : off + cells.size ≤ cur.size) (h1 : cells.all (·.oneCell') = true)
    (hnew : (cur.toList.take off ++ cells.toList ++ cur.toList.drop (off + cells.size)).toArray = new)
    (h : ∀ w', St w0 w' Γ' → wpList P ops Q rest (a.put dst undef) w') : wpList P ops Q (⟨dst, .store ty x y, typ, pos, af, gd⟩ :: rest) a w :=
  wpList_store_part hw ty x y rfl dst rfl b off cells hx hy t cur (H.holds _ u.mem) hi hfit h1 new hnew fun w' k c _ => h w' (H.upd u (Chg.of_but c) k fun _ e => .inl e)
theorem run_store_one {b off : Nat} {v : Value} {t : TypeId} {cur : Array Value} (hg : Blk w b t cur) (hlt : off < cur.size) (hv : v.cells = #[v]) (h1 : v.oneCell' = true) (hi : (P.info? ty).map (·.size) = some 1) :
    (storeVar ty ⟨b, off, none⟩ v).run P w = .ok () (w.setRow b (cur.toList.take off ++ [v] ++ cur.toList.drop (off + 1)).toArray) := by
  have hst := run_storeCells_at (P := P) b off t [v] 0 cur w hg (by simpa using Nat.succ_le_of_lt hlt) (fun u hu => by simp at hu; subst hu; exact h1)
  simp only [Nat.add_zero, List.length_cons, List.length_nil, Nat.zero_add] at hst
  cases hq : P.info? ty with
  | none => simp [hq] at hi
  | some i =>
    have hs : 1 = i.size := by simp [hq] at hi; omega
    simp [storeVar, sizeOf, typeInfo, hq, hv, ← hs]
    rw [List.append_assoc] at hst
    simpa using hst
/-- One cell is written. -/
theorem arm_st1 (H : St w0 w Γ) (hw : Region.wanted (⟨dst, .store ty x y, typ, pos, af, gd⟩ : Oper) (yielded ops a.tmps) = true) {b off : Nat} {v : Value} {cur new : Array Value} {t : TypeId} (hx : a.eval x = .pointer (some ⟨b, off, none⟩)) (hy : a.eval y = v)
    (u : Upd Γ (Res.blk b t cur) (Res.blk b t new) Γ') (hi : (P.info? ty).map (·.size) = some 1) (hfit : off < cur.size) (hv : v.cells = #[v]) (h1 : v.oneCell' = true)
    (hnew : (cur.toList.take off ++ [v] ++ cur.toList.drop (off + 1)).toArray = new)
    (h : ∀ w', St w0 w' Γ' → wpList P ops Q rest (a.put dst undef) w') : wpList P ops Q (⟨dst, .store ty x y, typ, pos, af, gd⟩ :: rest) a w := by
  refine BigFrame.wpList_want hw fun K hK => ?_
  unfold Oper.wp execOp
  have hB : Blk w b t cur := H.holds _ u.mem
  simp only [hx, hy, Instr.storeAt, Instr.sureAddr, Sem.run_bind, Sem.run_pure, Result.andThen_ok, run_store_one hB hfit hv h1 hi]
  rw [hnew]
  exact hK _ _ (h _ (H.upd u (Chg.of_but ((But.refl _ _).setRow _)) (hB.setRow _) fun _ e => .inl e))
/-- Append, from whatever row. -/
theorem arm_append {o : Oper} (H : St w0 w Γ) (hgd : o.guard = none) (s x : Operand) (t : TypeId)
    (ho : o.op = .call { callee := .builtin .append, args := #[s, x], argTypes := #[t, t] })
    (e : TypeId) (z : Value) (size bytes : Nat) (ht : P.underlying t = some (.slice e)) (hinfo : (P.info? e).map (fun i => (i.zero, i.size, i.bytes)) = some (some z, size, bytes))
    (hzs : z.cells.size = size) (hsz : 0 < size)
    (v : Value) (n : Nat) (xs : List Value) (hs : a.eval s = v)
    (xv : Value) (m : Nat) (news : List Value) (hxv : a.eval x = xv) (hx : Row w size xv m news) (h1 : ∀ u ∈ news, u.oneCell' = true)
    (h63 : n + m ≤ maxLen) (hbytes : (n + m) * bytes ≤ 140737488355328)
    {Γ' : Value → List Res} (u : ∀ v', Upd Γ (Res.row e size v n xs) (Res.row e size v' (n + m) (xs ++ news)) (Γ' v'))
    (h : ∀ v' w', St w0 w' (Γ' v') → wpList P ops Q rest (a.put o.dst v') w') : wpList P ops Q (o :: rest) a w := by
  have hr : w.ownsRow 0 e size v n xs := H.holds _ (u undef).mem
  obtain ⟨i, hi, hzz⟩ := Option.map_eq_some_iff.1 hinfo
  simp only [Prod.mk.injEq] at hzz
  obtain ⟨hz, hsi, hby⟩ := hzz
  refine wpList_plain hgd fun K hK => ?_
  obtain ⟨v', w', hrun, h2, h3, h4⟩ := run_append_row_at (P := P) 0 t o.type e i z size bytes ht hi hz hsi hby hzs hsz v n xs hr xv m news hx h1 h63 hbytes (Nat.zero_le _)
  unfold Oper.wp execOp
  simp only [ho, resolve, invoke, builtin, Sem.run_bind, Sem.run_pure, Result.andThen_ok, List.map_toArray, List.map_cons, List.map_nil, hs, hxv, hrun]
  refine hK _ _ (h v' w' (H.upd (u v') (Chg.of_grown h3) h2 fun b hb => ?_))
  rcases h4 with h4 | h4
  · left; show v.ownBlock = some b; rw [← h4]; exact hb
  · right; have hb' : v'.ownBlock = some b := hb; rw [h4] at hb'; cases hb'; exact Nat.le_refl _
theorem arm_app (H : St w0 w Γ) {s : Operand} {t e : TypeId} {z : Value} {size bytes : Nat} (ht : P.underlying t = some (.slice e)) (hinfo : (P.info? e).map (fun i => (i.zero, i.size, i.bytes)) = some (some z, size, bytes))
    (hzs : z.cells.size = size) (hsz : 0 < size)
    {v : Value} {n : Nat} {xs : List Value} (hs : a.eval s = v) {xv : Value} {m : Nat} {news : List Value} (hxv : a.eval x = xv)
    {Γ' : Value → List Res} (u : ∀ v', Upd Γ (Res.row e size v n xs) (Res.row e size v' (n + m) (xs ++ news)) (Γ' v'))
    (hx : Row w size xv m news) (h1 : ∀ u ∈ news, u.oneCell' = true) (h63 : n + m ≤ maxLen) (hbytes : (n + m) * bytes ≤ 140737488355328)
    (h : ∀ w' v', St w0 w' (Γ' v') → wpList P ops Q rest (a.put dst v') w') : wpList P ops Q (⟨dst, .call { callee := .builtin .append, args := #[s, x], argTypes := #[t, t] }, typ, pos, af, none⟩ :: rest) a w :=
  arm_append H rfl s x t rfl e z size bytes ht hinfo hzs hsz v n xs hs xv m news hxv hx h1 h63 hbytes u fun v' w' h' => h w' v' h'
/-- A slice of one element that is written out. -/
theorem arm_bslice1 (H : St w0 w Γ) {t e : TypeId} {v z : Value} {cs : List Value} {size bytes : Nat} (hx : a.eval x = v) (hv : v.cells.toList = cs) (hu : P.underlying t = some (.slice e)) (hinfo : (P.info? e).map (fun i => (i.zero, i.size, i.bytes)) = some (some z, size, bytes))
    (hzs : z.cells.size = size) (hn : cs.length = size) (hsz : 0 < size) (hsm : size ≤ 2 ^ 24)
    (h : ∀ w' b, St w0 w' (Res.row e size (.slice (some ⟨b, 0, none⟩) 1 1) 1 cs :: Γ) → wpList P ops Q rest (a.put dst (.slice (some ⟨b, 0, none⟩) 1 1)) w') : wpList P ops Q (⟨dst, .buildSlice t 1 #[(0, x)], typ, pos, af, none⟩ :: rest) a w := by
  obtain ⟨i, hi, hzz⟩ := Option.map_eq_some_iff.1 hinfo
  simp only [Prod.mk.injEq] at hzz
  obtain ⟨hz, hsi, hby⟩ := hzz
  refine wpList_buildSlice rfl t e 1 #[(0, x)] rfl cs.toArray i z hu hi hz (by rw [hsi]; omega) (by rw [hsi]; omega) ?_ (h _ _ (H.rowIn (bel_alloc (Below.refl _ _) _) ⟨by simpa using hn, .inr ⟨w.heap.size, 1, cs.toArray, rfl, Nat.le_refl _, World.alloc_heap_new w _, Nat.le_refl _, by decide, by simp [hn], by simp [← hn]⟩⟩))
  have hf := Go.Great.fill_whole (s := size) hsz [v] ((Array.range (1 * i.size)).map (z.cells[· % z.cells.size]!)) (fun u hu => by simp at hu; subst hu; rw [← hn, ← hv]; simp) (by simp [hsi])
  rw [hsi] at hf ⊢
  simp only [List.map_toArray, List.map_cons, List.map_nil, hx]
  simpa [hv] using hf
theorem run_makeMap0 (t : TypeId) (w : World) : (Instr.makeMap t none).run P w = .ok (.map (some w.heap.size)) (w.alloc (.map #[] 0)) := rfl
theorem arm_makeMap (H : St w0 w Γ) {κ : Type} (enc : κ → Value)
    (h : ∀ w' b, St w0 w' (Res.map b enc [] :: Γ) → wpList P ops Q rest (a.put dst (.map (some b))) w') : wpList P ops Q (⟨dst, .makeMap ty none, typ, pos, af, none⟩ :: rest) a w := by
  refine wpList_plain rfl fun K hK => ?_
  unfold Oper.wp execOp
  simp only [Option.map_none, Sem.run_bind, run_makeMap0, Result.andThen_ok, Sem.run_pure, Oper.upon_value]
  exact hK _ _ (h _ _ (H.new (bel_alloc (Below.refl _ _) _) (MapAt.new w) fun _ e => by cases e; exact Nat.le_refl _))
section
variable {b : Nat} {κ : Type} [DecidableEq κ] {enc : κ → Value} {m : List (κ × Value)} {K E : TypeId} {z : Operand}
theorem arm_lookup2 (H : St w0 w Γ) (hx : a.eval x = .map (some b)) {k : κ} (hk : a.eval y = enc k) (hm : Res.map b enc m ∈ Γ) (ok : KeyOk P K enc) (ht : P.underlying ty = some (.map K E)) {zv : Value} (hz : ∀ w, (zeroValue E).run P w = .ok zv w)
    (h : wpList P ops Q rest (a.put dst (match gIx m k with | some q => .tuple #[q.2, .bool true] | none => .tuple #[zv, .bool false])) w) : wpList P ops Q (⟨dst, .lookup ty x y true, typ, pos, af, none⟩ :: rest) a w :=
  wpList_lookup_map rfl ty K E x y rfl dst rfl hx k hk (H.get hm) ok ht zv hz h
theorem arm_lookup1 (H : St w0 w Γ) (hx : a.eval x = .map (some b)) {k : κ} (hk : a.eval y = enc k) (hm : Res.map b enc m ∈ Γ) (ok : KeyOk P K enc) (ht : P.underlying ty = some (.map K E)) {zv : Value} (hz : ∀ w, (zeroValue E).run P w = .ok zv w)
    (h : wpList P ops Q rest (a.put dst (match gIx m k with | some q => q.2 | none => zv)) w) : wpList P ops Q (⟨dst, .lookup ty x y false, typ, pos, af, none⟩ :: rest) a w := by
  refine wpList_run rfl _ w ?_ h
  unfold execOp
  simp only [hx, hk, Sem.run_bind, run_lookup_map1 (H.get hm) ok ht (hz w) k, Result.andThen_ok, Sem.run_pure]
  rfl
theorem arm_mapset (H : St w0 w Γ) (hx : a.eval x = .map (some b)) {k : κ} (hk : a.eval y = enc k) {v : Value} (hv : a.eval z = v) (u : Upd Γ (Res.map b enc m) (Res.map b enc (gPut m k v)) Γ') (ok : KeyOk P K enc) (ht : P.underlying ty = some (.map K E))
    (h : ∀ w', St w0 w' Γ' → wpList P ops Q rest (a.put dst undef) w') : wpList P ops Q (⟨dst, .mapUpdate ty x y z, typ, pos, af, none⟩ :: rest) a w :=
  wpList_update_map rfl ty K E x y z rfl dst rfl hx k hk v hv (H.holds _ u.mem) ok ht fun w' hm hb _ => h w' (H.upd u (Chg.of_but hb) hm fun _ e => .inl e)
end
end
end Go.Proofs.Ytgckgbonhbabpaa
/- The walk's steps over records, cells, fields and single variables that a call owns or reads. -/
namespace Go.Proofs.Ytgckgbonhbabpaa
open Go Go.RowKit Go.Deep
set_option linter.unusedVariables false
set_option linter.unusedSimpArgs false
set_option maxRecDepth 100000
theorem Sub.part {w : World} {b o : Nat} {cs ds : Array Value} (h : Sub w b o cs) (k : Nat) (hk : ∀ (j : Nat) (u : Value), ds[j]? = some u → cs[k + j]? = some u) : Sub w b (o + k) ds := fun j u hj => by
  have := h (k + j) u (hk j u hj)
  rwa [← Nat.add_assoc] at this
/-- A record lies here. -/
def RecAt (w : World) (b o : Nat) (r : RD) (s : Value) : Prop := Sub w b o (rA r s) ∧ r.ok
def CelAt (w : World) (b o : Nat) (N R : Int) (S : ByteArray) : Prop := Sub w b o #[.int .i64 N, .int .i64 R, .string S]
def FldAt (w : World) (b o : Nat) (no N R : Int) (S : ByteArray) : Prop := Sub w b o #[.int .i64 no, .int .i64 N, .int .i64 R, .string S]
section
variable {w w' : World} {b o : Nat} {r : RD} {s : Value} {no N R : Int} {S : ByteArray}
theorem RecAt.bel (h : RecAt w b o r s) (hb : Below w.heap.size w w') : RecAt w' b o r s := ⟨h.1.keep hb, h.2⟩
theorem CelAt.bel (h : CelAt w b o N R S) (hb : Below w.heap.size w w') : CelAt w' b o N R S := h.keep hb
theorem FldAt.bel (h : FldAt w b o no N R S) (hb : Below w.heap.size w w') : FldAt w' b o no N R S := h.keep hb
theorem rA_get {r : RD} (hr : r.ok) (s : Value) : (∀ (j : Nat) (u : Value), (idA r)[j]? = some u → (rA r s)[j]? = some u) ∧ (rA r s)[16]? = some (.int .i64 r.N) ∧ (rA r s)[17]? = some (.int .i64 r.R) ∧ (rA r s)[18]? = some s := by
  obtain ⟨h1, h2, h3⟩ := rA_at (s := s) hr
  refine ⟨fun j u hj => ?_, h1, h2, h3⟩
  have hlt := (Array.getElem?_eq_some_iff.1 hj).1
  unfold rA recA
  unfold idA at hj hlt
  rw [Array.getElem?_append, if_pos hlt]; exact hj
theorem RecAt.id (h : RecAt w b o r s) : Sub w b o (idA r) := fun j u hj => h.1 j u ((rA_get h.2 s).1 j u hj)
theorem RecAt.dead (h : RecAt w b o r s) : Sub w b (o + 16) #[.int .i64 r.N, .int .i64 r.R] := h.1.part 16 fun j u hj => by
  obtain ⟨_, h1, h2, h3⟩ := rA_get h.2 s
  match j, hj with
  | 0, hj => simp at hj; subst hj; exact h1
  | 1, hj => simp at hj; subst hj; exact h2
theorem RecAt.F (h : RecAt w b o r s) : Sub w b (o + 18) #[s] := h.1.part 18 fun j u hj => by
  obtain ⟨_, h1, h2, h3⟩ := rA_get h.2 s
  match j, hj with
  | 0, hj => simp at hj; subst hj; exact h3
theorem CelAt.stamp (h : CelAt w b o N R S) : Sub w b o #[.int .i64 N, .int .i64 R] := fun j u hj => h j u (by
  match j, hj with
  | 0, hj => simpa using hj
  | 1, hj => simpa using hj)
theorem CelAt.n (h : CelAt w b o N R S) : Sub w b o #[.int .i64 N] := fun j u hj => h j u (by
  match j, hj with
  | 0, hj => simpa using hj)
theorem CelAt.rep (h : CelAt w b o N R S) : Sub w b (o + 1) #[.int .i64 R] := Sub.part h 1 fun j u hj => by
  match j, hj with
  | 0, hj => simpa using hj
theorem CelAt.str (h : CelAt w b o N R S) : Sub w b (o + 2) #[.string S] := Sub.part h 2 fun j u hj => by
  match j, hj with
  | 0, hj => simpa using hj
theorem FldAt.num (h : FldAt w b o no N R S) : Sub w b o #[.int .i64 no] := fun j u hj => h j u (by
  match j, hj with
  | 0, hj => simpa using hj)
theorem FldAt.cel (h : FldAt w b o no N R S) : CelAt w b (o + 1) N R S := Sub.part h 1 fun j u hj => by
  match j, hj with
  | 0, hj => simpa using hj
  | 1, hj => simpa using hj
  | 2, hj => simpa using hj
theorem FldAt.str (h : FldAt w b o no N R S) : Sub w b (o + 3) #[.string S] := Sub.part h 3 fun j u hj => by
  match j, hj with
  | 0, hj => simpa using hj
end
def Res.rc (b : Nat) (r : RD) (s : Value) : Res := ⟨fun k => k = b, fun w => Blk w b 54 (rA r s) ∧ r.ok, fun h k => ⟨(k _ rfl).trans h.1, h.2⟩, fun h e => by subst e; exact h.1.lt⟩
theorem Res.rc_at {w : World} {b : Nat} {r : RD} {s : Value} (h : (Res.rc b r s).holds w) : RecAt w b 0 r s := ⟨h.1.subA, h.2⟩
section
variable {w0 w : World} {Γ Γ' : List Res} {b : Nat} {r : RD} {s : Value} {no N R : Int} {S : ByteArray} {t : TypeId} {v : Value} {cs : Array Value}
theorem St.rc (H : St w0 w Γ) (hm : Res.rc b r s ∈ Γ) : RecAt w b 0 r s := Res.rc_at (H.get hm)
theorem St.cel (H : St w0 w Γ) (hm : Res.blk b t #[.int .i64 N, .int .i64 R, .string S] ∈ Γ) : CelAt w b 0 N R S := Blk.subA (H.get hm)
theorem St.fld (H : St w0 w Γ) (hm : Res.blk b t #[.int .i64 no, .int .i64 N, .int .i64 R, .string S] ∈ Γ) : FldAt w b 0 no N R S := Blk.subA (H.get hm)
theorem St.one (H : St w0 w Γ) (hm : Res.blk b t #[v] ∈ Γ) : Sub w b 0 #[v] := Blk.subA (H.get hm)
theorem St.arr (H : St w0 w Γ) (hm : Res.blk b t cs ∈ Γ) : Sub w b 0 cs := Blk.subA (H.get hm)
end
section
variable {ops : Array Oper} {rest : List Oper} {a : Act} {w0 w : World} {Q : Exit → Act → World → Prop} {Γ Γ' : List Res}
variable {dst : Option Tmp} {typ : TypeId} {x y : Operand} {pos : String} {af : Array Edge} {gd : Option (Nat × Bool)}
variable {b o : Nat} {r r' : RD} {s s' : Value} {no N R N' R' no' : Int} {S S' : ByteArray} {C : World → Prop} {K : Act → Prop}
theorem ld_rec (hw : Region.wanted (⟨dst, .load 54 x, typ, pos, af, gd⟩ : Oper) (yielded ops a.tmps) = true) (hx : a.eval x = .pointer (some ⟨b, o, none⟩)) (h : RecAt w b o r s) (k : wpList Try.prog ops Q rest (a.put dst (.agg (rA r s))) w) : wpList Try.prog ops Q (⟨dst, .load 54 x, typ, pos, af, gd⟩ :: rest) a w :=
  arm_ld hw hx (h.1) Try.underlying54 rfl (rA_info h.2) k
theorem qd_rec (hx : a.eval x = .pointer (some ⟨b, o, none⟩)) (h : ∀ w', C w' → RecAt w' b o r s) (hok : r.ok) (k : K (a.put dst (.agg (rA r s)))) : (⟨dst, .load 54 x, typ, pos, af, gd⟩ : Oper).quiet Try.prog a C K :=
  quiet_load_sub 54 x rfl dst rfl b _ hx (rA r s) _ (fun w' hw' => by have h := h w' hw'; exact h.1) Try.underlying54 rfl (rA_info hok) k
theorem ld_id (hw : Region.wanted (⟨dst, .load 51 x, typ, pos, af, gd⟩ : Oper) (yielded ops a.tmps) = true) (hx : a.eval x = .pointer (some ⟨b, o, none⟩)) (h : RecAt w b o r s) (k : wpList Try.prog ops Q rest (a.put dst (.agg (idA r))) w) : wpList Try.prog ops Q (⟨dst, .load 51 x, typ, pos, af, gd⟩ :: rest) a w :=
  arm_ld hw hx (h.id) Try.underlying51 rfl (idA_info h.2) k
theorem qd_id (hx : a.eval x = .pointer (some ⟨b, o, none⟩)) (h : ∀ w', C w' → RecAt w' b o r s) (hok : r.ok) (k : K (a.put dst (.agg (idA r)))) : (⟨dst, .load 51 x, typ, pos, af, gd⟩ : Oper).quiet Try.prog a C K :=
  quiet_load_sub 51 x rfl dst rfl b _ hx (idA r) _ (fun w' hw' => by have h := h w' hw'; exact h.id) Try.underlying51 rfl (idA_info hok) k
theorem ld_dead (hw : Region.wanted (⟨dst, .load 23 x, typ, pos, af, gd⟩ : Oper) (yielded ops a.tmps) = true) (hx : a.eval x = .pointer (some ⟨b, o + 16, none⟩)) (h : RecAt w b o r s) (k : wpList Try.prog ops Q rest (a.put dst (.agg #[.int .i64 r.N, .int .i64 r.R])) w) : wpList Try.prog ops Q (⟨dst, .load 23 x, typ, pos, af, gd⟩ :: rest) a w :=
  arm_ld hw hx (h.dead) Try.underlying23 rfl (stamp_info) k
theorem qd_dead (hx : a.eval x = .pointer (some ⟨b, o + 16, none⟩)) (h : ∀ w', C w' → RecAt w' b o r s) (k : K (a.put dst (.agg #[.int .i64 r.N, .int .i64 r.R]))) : (⟨dst, .load 23 x, typ, pos, af, gd⟩ : Oper).quiet Try.prog a C K :=
  quiet_load_sub 23 x rfl dst rfl b _ hx #[.int .i64 r.N, .int .i64 r.R] _ (fun w' hw' => by have h := h w' hw'; exact h.dead) Try.underlying23 rfl (stamp_info) k
theorem ld_F (hw : Region.wanted (⟨dst, .load 52 x, typ, pos, af, gd⟩ : Oper) (yielded ops a.tmps) = true) (hx : a.eval x = .pointer (some ⟨b, o + 18, none⟩)) (h : RecAt w b o r s) (k : wpList Try.prog ops Q rest (a.put dst (s)) w) : wpList Try.prog ops Q (⟨dst, .load 52 x, typ, pos, af, gd⟩ :: rest) a w :=
  arm_ld1 hw hx (h.F) Try.underlying52 rfl k
theorem qd_F (hx : a.eval x = .pointer (some ⟨b, o + 18, none⟩)) (h : ∀ w', C w' → RecAt w' b o r s) (k : K (a.put dst (s))) : (⟨dst, .load 52 x, typ, pos, af, gd⟩ : Oper).quiet Try.prog a C K :=
  quiet_load_one 52 x rfl dst rfl b _ hx _ _ (fun w' hw' => by have h := h w' hw'; exact h.F) Try.underlying52 rfl k
theorem ld_cel (hw : Region.wanted (⟨dst, .load 25 x, typ, pos, af, gd⟩ : Oper) (yielded ops a.tmps) = true) (hx : a.eval x = .pointer (some ⟨b, o, none⟩)) (h : CelAt w b o N R S) (k : wpList Try.prog ops Q rest (a.put dst (.agg #[.int .i64 N, .int .i64 R, .string S])) w) : wpList Try.prog ops Q (⟨dst, .load 25 x, typ, pos, af, gd⟩ :: rest) a w :=
  arm_ld hw hx (h) Try.underlying25 rfl (cell_info) k
theorem qd_cel (hx : a.eval x = .pointer (some ⟨b, o, none⟩)) (h : ∀ w', C w' → CelAt w' b o N R S) (k : K (a.put dst (.agg #[.int .i64 N, .int .i64 R, .string S]))) : (⟨dst, .load 25 x, typ, pos, af, gd⟩ : Oper).quiet Try.prog a C K :=
  quiet_load_sub 25 x rfl dst rfl b _ hx #[.int .i64 N, .int .i64 R, .string S] _ (fun w' hw' => by have h := h w' hw'; exact h) Try.underlying25 rfl (cell_info) k
theorem ld_cstamp (hw : Region.wanted (⟨dst, .load 23 x, typ, pos, af, gd⟩ : Oper) (yielded ops a.tmps) = true) (hx : a.eval x = .pointer (some ⟨b, o, none⟩)) (h : CelAt w b o N R S) (k : wpList Try.prog ops Q rest (a.put dst (.agg #[.int .i64 N, .int .i64 R])) w) : wpList Try.prog ops Q (⟨dst, .load 23 x, typ, pos, af, gd⟩ :: rest) a w :=
  arm_ld hw hx (h.stamp) Try.underlying23 rfl (stamp_info) k
theorem qd_cstamp (hx : a.eval x = .pointer (some ⟨b, o, none⟩)) (h : ∀ w', C w' → CelAt w' b o N R S) (k : K (a.put dst (.agg #[.int .i64 N, .int .i64 R]))) : (⟨dst, .load 23 x, typ, pos, af, gd⟩ : Oper).quiet Try.prog a C K :=
  quiet_load_sub 23 x rfl dst rfl b _ hx #[.int .i64 N, .int .i64 R] _ (fun w' hw' => by have h := h w' hw'; exact h.stamp) Try.underlying23 rfl (stamp_info) k
theorem ld_cn (hw : Region.wanted (⟨dst, .load 3 x, typ, pos, af, gd⟩ : Oper) (yielded ops a.tmps) = true) (hx : a.eval x = .pointer (some ⟨b, o, none⟩)) (h : CelAt w b o N R S) (k : wpList Try.prog ops Q rest (a.put dst (.int .i64 N)) w) : wpList Try.prog ops Q (⟨dst, .load 3 x, typ, pos, af, gd⟩ :: rest) a w :=
  arm_ld1 hw hx (h.n) Try.underlying3 rfl k
theorem qd_cn (hx : a.eval x = .pointer (some ⟨b, o, none⟩)) (h : ∀ w', C w' → CelAt w' b o N R S) (k : K (a.put dst (.int .i64 N))) : (⟨dst, .load 3 x, typ, pos, af, gd⟩ : Oper).quiet Try.prog a C K :=
  quiet_load_one 3 x rfl dst rfl b _ hx _ _ (fun w' hw' => by have h := h w' hw'; exact h.n) Try.underlying3 rfl k
theorem ld_crep (hw : Region.wanted (⟨dst, .load 3 x, typ, pos, af, gd⟩ : Oper) (yielded ops a.tmps) = true) (hx : a.eval x = .pointer (some ⟨b, o + 1, none⟩)) (h : CelAt w b o N R S) (k : wpList Try.prog ops Q rest (a.put dst (.int .i64 R)) w) : wpList Try.prog ops Q (⟨dst, .load 3 x, typ, pos, af, gd⟩ :: rest) a w :=
  arm_ld1 hw hx (h.rep) Try.underlying3 rfl k
theorem qd_crep (hx : a.eval x = .pointer (some ⟨b, o + 1, none⟩)) (h : ∀ w', C w' → CelAt w' b o N R S) (k : K (a.put dst (.int .i64 R))) : (⟨dst, .load 3 x, typ, pos, af, gd⟩ : Oper).quiet Try.prog a C K :=
  quiet_load_one 3 x rfl dst rfl b _ hx _ _ (fun w' hw' => by have h := h w' hw'; exact h.rep) Try.underlying3 rfl k
theorem ld_cstr (hw : Region.wanted (⟨dst, .load 9 x, typ, pos, af, gd⟩ : Oper) (yielded ops a.tmps) = true) (hx : a.eval x = .pointer (some ⟨b, o + 2, none⟩)) (h : CelAt w b o N R S) (k : wpList Try.prog ops Q rest (a.put dst (.string S)) w) : wpList Try.prog ops Q (⟨dst, .load 9 x, typ, pos, af, gd⟩ :: rest) a w :=
  arm_ld1 hw hx (h.str) Try.underlying9 rfl k
theorem qd_cstr (hx : a.eval x = .pointer (some ⟨b, o + 2, none⟩)) (h : ∀ w', C w' → CelAt w' b o N R S) (k : K (a.put dst (.string S))) : (⟨dst, .load 9 x, typ, pos, af, gd⟩ : Oper).quiet Try.prog a C K :=
  quiet_load_one 9 x rfl dst rfl b _ hx _ _ (fun w' hw' => by have h := h w' hw'; exact h.str) Try.underlying9 rfl k
theorem ld_fld (hw : Region.wanted (⟨dst, .load 65 x, typ, pos, af, gd⟩ : Oper) (yielded ops a.tmps) = true) (hx : a.eval x = .pointer (some ⟨b, o, none⟩)) (h : FldAt w b o no N R S) (k : wpList Try.prog ops Q rest (a.put dst (.agg #[.int .i64 no, .int .i64 N, .int .i64 R, .string S])) w) : wpList Try.prog ops Q (⟨dst, .load 65 x, typ, pos, af, gd⟩ :: rest) a w :=
  arm_ld hw hx (h) Try.underlying65 rfl (field_info) k
theorem qd_fld (hx : a.eval x = .pointer (some ⟨b, o, none⟩)) (h : ∀ w', C w' → FldAt w' b o no N R S) (k : K (a.put dst (.agg #[.int .i64 no, .int .i64 N, .int .i64 R, .string S]))) : (⟨dst, .load 65 x, typ, pos, af, gd⟩ : Oper).quiet Try.prog a C K :=
  quiet_load_sub 65 x rfl dst rfl b _ hx #[.int .i64 no, .int .i64 N, .int .i64 R, .string S] _ (fun w' hw' => by have h := h w' hw'; exact h) Try.underlying65 rfl (field_info) k
theorem ld_fno (hw : Region.wanted (⟨dst, .load 3 x, typ, pos, af, gd⟩ : Oper) (yielded ops a.tmps) = true) (hx : a.eval x = .pointer (some ⟨b, o, none⟩)) (h : FldAt w b o no N R S) (k : wpList Try.prog ops Q rest (a.put dst (.int .i64 no)) w) : wpList Try.prog ops Q (⟨dst, .load 3 x, typ, pos, af, gd⟩ :: rest) a w :=
  arm_ld1 hw hx (h.num) Try.underlying3 rfl k
theorem qd_fno (hx : a.eval x = .pointer (some ⟨b, o, none⟩)) (h : ∀ w', C w' → FldAt w' b o no N R S) (k : K (a.put dst (.int .i64 no))) : (⟨dst, .load 3 x, typ, pos, af, gd⟩ : Oper).quiet Try.prog a C K :=
  quiet_load_one 3 x rfl dst rfl b _ hx _ _ (fun w' hw' => by have h := h w' hw'; exact h.num) Try.underlying3 rfl k
theorem ld_fcel (hw : Region.wanted (⟨dst, .load 25 x, typ, pos, af, gd⟩ : Oper) (yielded ops a.tmps) = true) (hx : a.eval x = .pointer (some ⟨b, o + 1, none⟩)) (h : FldAt w b o no N R S) (k : wpList Try.prog ops Q rest (a.put dst (.agg #[.int .i64 N, .int .i64 R, .string S])) w) : wpList Try.prog ops Q (⟨dst, .load 25 x, typ, pos, af, gd⟩ :: rest) a w :=
  arm_ld hw hx (h.cel) Try.underlying25 rfl (cell_info) k
theorem qd_fcel (hx : a.eval x = .pointer (some ⟨b, o + 1, none⟩)) (h : ∀ w', C w' → FldAt w' b o no N R S) (k : K (a.put dst (.agg #[.int .i64 N, .int .i64 R, .string S]))) : (⟨dst, .load 25 x, typ, pos, af, gd⟩ : Oper).quiet Try.prog a C K :=
  quiet_load_sub 25 x rfl dst rfl b _ hx #[.int .i64 N, .int .i64 R, .string S] _ (fun w' hw' => by have h := h w' hw'; exact h.cel) Try.underlying25 rfl (cell_info) k
theorem ld_fstamp (hw : Region.wanted (⟨dst, .load 23 x, typ, pos, af, gd⟩ : Oper) (yielded ops a.tmps) = true) (hx : a.eval x = .pointer (some ⟨b, o + 1, none⟩)) (h : FldAt w b o no N R S) (k : wpList Try.prog ops Q rest (a.put dst (.agg #[.int .i64 N, .int .i64 R])) w) : wpList Try.prog ops Q (⟨dst, .load 23 x, typ, pos, af, gd⟩ :: rest) a w :=
  arm_ld hw hx (h.cel.stamp) Try.underlying23 rfl (stamp_info) k
theorem qd_fstamp (hx : a.eval x = .pointer (some ⟨b, o + 1, none⟩)) (h : ∀ w', C w' → FldAt w' b o no N R S) (k : K (a.put dst (.agg #[.int .i64 N, .int .i64 R]))) : (⟨dst, .load 23 x, typ, pos, af, gd⟩ : Oper).quiet Try.prog a C K :=
  quiet_load_sub 23 x rfl dst rfl b _ hx #[.int .i64 N, .int .i64 R] _ (fun w' hw' => by have h := h w' hw'; exact h.cel.stamp) Try.underlying23 rfl (stamp_info) k
theorem ld_fstr (hw : Region.wanted (⟨dst, .load 9 x, typ, pos, af, gd⟩ : Oper) (yielded ops a.tmps) = true) (hx : a.eval x = .pointer (some ⟨b, o + 3, none⟩)) (h : FldAt w b o no N R S) (k : wpList Try.prog ops Q rest (a.put dst (.string S)) w) : wpList Try.prog ops Q (⟨dst, .load 9 x, typ, pos, af, gd⟩ :: rest) a w :=
  arm_ld1 hw hx (h.str) Try.underlying9 rfl k
theorem qd_fstr (hx : a.eval x = .pointer (some ⟨b, o + 3, none⟩)) (h : ∀ w', C w' → FldAt w' b o no N R S) (k : K (a.put dst (.string S))) : (⟨dst, .load 9 x, typ, pos, af, gd⟩ : Oper).quiet Try.prog a C K :=
  quiet_load_one 9 x rfl dst rfl b _ hx _ _ (fun w' hw' => by have h := h w' hw'; exact h.str) Try.underlying9 rfl k
theorem ld_fstr2 (hw : Region.wanted (⟨dst, .load 9 x, typ, pos, af, gd⟩ : Oper) (yielded ops a.tmps) = true) (hx : a.eval x = .pointer (some ⟨b, o + 1 + 2, none⟩)) (h : FldAt w b o no N R S) (k : wpList Try.prog ops Q rest (a.put dst (.string S)) w) : wpList Try.prog ops Q (⟨dst, .load 9 x, typ, pos, af, gd⟩ :: rest) a w :=
  arm_ld1 hw hx (h.cel.str) Try.underlying9 rfl k
theorem qd_fstr2 (hx : a.eval x = .pointer (some ⟨b, o + 1 + 2, none⟩)) (h : ∀ w', C w' → FldAt w' b o no N R S) (k : K (a.put dst (.string S))) : (⟨dst, .load 9 x, typ, pos, af, gd⟩ : Oper).quiet Try.prog a C K :=
  quiet_load_one 9 x rfl dst rfl b _ hx _ _ (fun w' hw' => by have h := h w' hw'; exact h.cel.str) Try.underlying9 rfl k
theorem bx_rec (H : St w0 w Γ) (hx : a.eval x = .agg (rA r s)) (ok : r.ok)
    (h : ∀ w' b, St w0 w' (Res.rc b r s :: Γ) → wpList Try.prog ops Q rest (a.put dst (.pointer (some ⟨b, 0, none⟩))) w') : wpList Try.prog ops Q (⟨dst, .box 54 x, typ, pos, af, none⟩ :: rest) a w :=
  wpList_box_blk rfl 54 x rfl dst rfl _ hx fun w' k b1 s1 => h w' _ (H.new b1 ⟨k, ok⟩ fun _ e => by cases e; exact Nat.le_refl _)
theorem al_rec (H : St w0 w Γ) (h : ∀ w' b, St w0 w' (Res.rc b noRD (.slice none 0 0) :: Γ) → wpList Try.prog ops Q rest (a.put dst (.pointer (some ⟨b, 0, none⟩))) w') : wpList Try.prog ops Q (⟨dst, .alloc 54, typ, pos, af, none⟩ :: rest) a w :=
  wpList_alloc_blk rfl 54 rfl dst rfl _ _ noA_zero rfl fun w' k b1 s1 => h w' _ (H.new b1 ⟨k, noRD_ok⟩ fun _ e => by cases e; exact Nat.le_refl _)
theorem rA_one' (r : RD) {s : Value} (h : s.oneCell' = true) : (rA r s).all (·.oneCell') = true := recA_one (encU_all _) h
theorem st_rec (H : St w0 w Γ) (hw : Region.wanted (⟨dst, .store 54 x y, typ, pos, af, gd⟩ : Oper) (yielded ops a.tmps) = true) (hx : a.eval x = .pointer (some ⟨b, 0, none⟩)) (hy : a.eval y = .agg (rA r' s'))
    (u : Upd Γ (Res.rc b r s) (Res.rc b r' s') Γ') (ok : r'.ok) (h1 : s'.oneCell' = true) (h : ∀ w', St w0 w' Γ' → wpList Try.prog ops Q rest (a.put dst undef) w') : wpList Try.prog ops Q (⟨dst, .store 54 x y, typ, pos, af, gd⟩ :: rest) a w := by
  have hB := H.holds _ u.mem
  refine wpList_store_part hw 54 x y rfl dst rfl b 0 (rA r' s') hx hy 54 (rA r s) hB.1 (rA_info ok) (by rw [rA_size ok, rA_size hB.2]; exact Nat.le_refl _) (rA_one' r' h1) (rA r' s') ?_ fun w' k c _ => h w' (H.upd u (Chg.of_but c) ⟨k, ok⟩ fun _ e => .inl e)
  rw [List.take_zero, List.nil_append, Nat.zero_add, List.drop_of_length_le (by rw [Array.length_toList, rA_size ok, rA_size hB.2]; exact Nat.le_refl _), List.append_nil]
theorem rA_list (r : RD) (s : Value) : (rA r s).toList = encU r.id ++ [.int .i64 r.N, .int .i64 r.R, s] := by simp [rA, recA]
theorem flds_info : (Try.prog.info? 52).map (·.size) = some 1 := by kernel_rfl
theorem st_F (H : St w0 w Γ) (hw : Region.wanted (⟨dst, .store 52 x y, typ, pos, af, gd⟩ : Oper) (yielded ops a.tmps) = true) (hx : a.eval x = .pointer (some ⟨b, 18, none⟩)) (hy : a.eval y = s')
    (u : Upd Γ (Res.rc b r s) (Res.rc b r s') Γ') (h1 : ∃ ad n c, s' = .slice ad n c) (h : ∀ w', St w0 w' Γ' → wpList Try.prog ops Q rest (a.put dst undef) w') : wpList Try.prog ops Q (⟨dst, .store 52 x y, typ, pos, af, gd⟩ :: rest) a w := by
  have hB : (Res.rc b r s).holds w := H.holds _ u.mem
  have hl : (encU r.id).length = 16 := by rw [encU_length]; exact hB.2
  obtain ⟨ad, n, c, rfl⟩ := h1
  refine BigFrame.wpList_want hw fun K hK => ?_
  unfold Oper.wp execOp
  simp only [hx, hy, Instr.storeAt, Instr.sureAddr, Sem.run_bind, Sem.run_pure, Result.andThen_ok, run_store_one (ty := 52) (off := 18) (v := .slice ad n c) hB.1 (by rw [rA_size hB.2]; decide) rfl rfl flds_info]
  have e : ((rA r s).toList.take 18 ++ [Value.slice ad n c] ++ (rA r s).toList.drop (18 + 1)).toArray = rA r (.slice ad n c) := by
    apply Array.toList_inj.1
    rw [rA_list, rA_list, List.take_append, List.drop_append, hl]
    simp [List.take_of_length_le (show (encU r.id).length ≤ 18 by omega), List.drop_of_length_le (show (encU r.id).length ≤ 19 by omega)]
  rw [e]
  refine hK _ _ (h _ (H.upd u (Chg.of_but ((But.refl _ _).setRow _)) ⟨Blk.setRow hB.1 _, hB.2⟩ fun _ e => .inl e))
theorem st_dead (H : St w0 w Γ) (hw : Region.wanted (⟨dst, .store 23 x y, typ, pos, af, gd⟩ : Oper) (yielded ops a.tmps) = true) (hx : a.eval x = .pointer (some ⟨b, 16, none⟩)) (hy : a.eval y = .agg #[.int .i64 N', .int .i64 R'])
    (u : Upd Γ (Res.rc b r s) (Res.rc b ⟨r.id, N', R', r.f⟩ s) Γ') (h : ∀ w', St w0 w' Γ' → wpList Try.prog ops Q rest (a.put dst undef) w') : wpList Try.prog ops Q (⟨dst, .store 23 x y, typ, pos, af, gd⟩ :: rest) a w := by
  have hB : (Res.rc b r s).holds w := H.holds _ u.mem
  have hl : (encU r.id).length = 16 := by rw [encU_length]; exact hB.2
  refine wpList_store_part hw 23 x y rfl dst rfl b 16 _ hx hy 54 (rA r s) hB.1 stamp_info (by rw [rA_size hB.2]; simp) (by simp [Value.oneCell']) (rA ⟨r.id, N', R', r.f⟩ s) ?_ fun w' k c _ => h w' (H.upd u (Chg.of_but c) ⟨k, hB.2⟩ fun _ e => .inl e)
  apply Array.toList_inj.1
  rw [rA_list, rA_list, List.take_append, List.drop_append, hl]
  simp [List.take_of_length_le (show (encU r.id).length ≤ 16 by omega), List.drop_of_length_le (show (encU r.id).length ≤ 18 by omega)]
theorem st_id (H : St w0 w Γ) (hw : Region.wanted (⟨dst, .store 51 x y, typ, pos, af, gd⟩ : Oper) (yielded ops a.tmps) = true) (hx : a.eval x = .pointer (some ⟨b, 0, none⟩)) (hy : a.eval y = .agg (idA r')) (ok : r'.ok)
    (u : Upd Γ (Res.rc b r s) (Res.rc b ⟨r'.id, r.N, r.R, r.f⟩ s) Γ') (h : ∀ w', St w0 w' Γ' → wpList Try.prog ops Q rest (a.put dst undef) w') : wpList Try.prog ops Q (⟨dst, .store 51 x y, typ, pos, af, gd⟩ :: rest) a w := by
  have hB : (Res.rc b r s).holds w := H.holds _ u.mem
  exact wpList_store_part hw 51 x y rfl dst rfl b 0 _ hx hy 54 (rA r s) hB.1 (idA_info ok) (by rw [rA_size hB.2, idA_size ok]; decide) (idA_one r') _ (rA_named r r' s hB.2 ok) fun w' k c _ => h w' (H.upd u (Chg.of_but c) ⟨k, ok⟩ fun _ e => .inl e)
theorem al_cel (H : St w0 w Γ) (h : ∀ w' b, St w0 w' (Res.blk b 25 #[.int .i64 0, .int .i64 0, .string ⟨#[]⟩] :: Γ) → wpList Try.prog ops Q rest (a.put dst (.pointer (some ⟨b, 0, none⟩))) w') : wpList Try.prog ops Q (⟨dst, .alloc 25, typ, pos, af, none⟩ :: rest) a w := arm_alloc H cell_zero rfl h
theorem fld_zero : (Try.prog.info? 65).map (·.zero) = some (some (.agg #[.int .i64 0, .int .i64 0, .int .i64 0, .string ⟨#[]⟩])) := by kernel_rfl
theorem stp_zero : (Try.prog.info? 23).map (·.zero) = some (some (.agg #[.int .i64 0, .int .i64 0])) := by kernel_rfl
theorem al_fld (H : St w0 w Γ) (h : ∀ w' b, St w0 w' (Res.blk b 65 #[.int .i64 0, .int .i64 0, .int .i64 0, .string ⟨#[]⟩] :: Γ) → wpList Try.prog ops Q rest (a.put dst (.pointer (some ⟨b, 0, none⟩))) w') : wpList Try.prog ops Q (⟨dst, .alloc 65, typ, pos, af, none⟩ :: rest) a w := arm_alloc H fld_zero rfl h
theorem al_stp (H : St w0 w Γ) (h : ∀ w' b, St w0 w' (Res.blk b 23 #[.int .i64 0, .int .i64 0] :: Γ) → wpList Try.prog ops Q rest (a.put dst (.pointer (some ⟨b, 0, none⟩))) w') : wpList Try.prog ops Q (⟨dst, .alloc 23, typ, pos, af, none⟩ :: rest) a w := arm_alloc H stp_zero rfl h
variable {t ty : TypeId} {v v' : Value}
theorem al_one {z : Value} (H : St w0 w Γ) (hz : (Try.prog.info? ty).map (·.zero) = some (some z)) (hc : z.cells = #[z]) (h : ∀ w' b, St w0 w' (Res.blk b ty #[z] :: Γ) → wpList Try.prog ops Q rest (a.put dst (.pointer (some ⟨b, 0, none⟩))) w') : wpList Try.prog ops Q (⟨dst, .alloc ty, typ, pos, af, none⟩ :: rest) a w := arm_alloc H hz hc h
theorem st_cel (H : St w0 w Γ) (hw : Region.wanted (⟨dst, .store 25 x y, typ, pos, af, gd⟩ : Oper) (yielded ops a.tmps) = true) (hx : a.eval x = .pointer (some ⟨b, 0, none⟩)) (hy : a.eval y = .agg #[.int .i64 N', .int .i64 R', .string S'])
    (u : Upd Γ (Res.blk b t #[.int .i64 N, .int .i64 R, .string S]) (Res.blk b t #[.int .i64 N', .int .i64 R', .string S']) Γ') (h : ∀ w', St w0 w' Γ' → wpList Try.prog ops Q rest (a.put dst undef) w') : wpList Try.prog ops Q (⟨dst, .store 25 x y, typ, pos, af, gd⟩ :: rest) a w :=
  arm_st H hw hx hy u cell_info (Nat.le_refl _) cell_one rfl h
theorem st_fld (H : St w0 w Γ) (hw : Region.wanted (⟨dst, .store 65 x y, typ, pos, af, gd⟩ : Oper) (yielded ops a.tmps) = true) (hx : a.eval x = .pointer (some ⟨b, 0, none⟩)) (hy : a.eval y = .agg #[.int .i64 no', .int .i64 N', .int .i64 R', .string S'])
    (u : Upd Γ (Res.blk b t #[.int .i64 no, .int .i64 N, .int .i64 R, .string S]) (Res.blk b t #[.int .i64 no', .int .i64 N', .int .i64 R', .string S']) Γ') (h : ∀ w', St w0 w' Γ' → wpList Try.prog ops Q rest (a.put dst undef) w') : wpList Try.prog ops Q (⟨dst, .store 65 x y, typ, pos, af, gd⟩ :: rest) a w :=
  arm_st H hw hx hy u field_info (Nat.le_refl _) (by simp [Value.oneCell']) rfl h
theorem st_stamp (H : St w0 w Γ) (hw : Region.wanted (⟨dst, .store 23 x y, typ, pos, af, gd⟩ : Oper) (yielded ops a.tmps) = true) (hx : a.eval x = .pointer (some ⟨b, 0, none⟩)) (hy : a.eval y = .agg #[.int .i64 N', .int .i64 R'])
    (u : Upd Γ (Res.blk b t #[.int .i64 N, .int .i64 R]) (Res.blk b t #[.int .i64 N', .int .i64 R']) Γ') (h : ∀ w', St w0 w' Γ' → wpList Try.prog ops Q rest (a.put dst undef) w') : wpList Try.prog ops Q (⟨dst, .store 23 x y, typ, pos, af, gd⟩ :: rest) a w :=
  arm_st H hw hx hy u stamp_info (Nat.le_refl _) (by simp [Value.oneCell']) rfl h
/-- A single variable. -/
theorem st_one (H : St w0 w Γ) (hw : Region.wanted (⟨dst, .store ty x y, typ, pos, af, gd⟩ : Oper) (yielded ops a.tmps) = true) (hx : a.eval x = .pointer (some ⟨b, 0, none⟩)) (hy : a.eval y = v')
    (u : Upd Γ (Res.blk b t #[v]) (Res.blk b t #[v']) Γ') (hi : (Try.prog.info? ty).map (·.size) = some 1) (hv : v'.cells = #[v']) (h1 : v'.oneCell' = true) (h : ∀ w', St w0 w' Γ' → wpList Try.prog ops Q rest (a.put dst undef) w') : wpList Try.prog ops Q (⟨dst, .store ty x y, typ, pos, af, gd⟩ :: rest) a w :=
  arm_st1 H hw hx hy u hi Nat.zero_lt_one hv h1 rfl h
end
section
variable {ops : Array Oper} {md : Region.Mode} {a : Act} {w0 w : World} {Q : Exit → Act → World → Prop} {Γ : List Res} {P : Program}
/-- A region that draws its order, with a new variable that hangs on nothing. -/
theorem wp_float_st (H : St w0 w Γ) {id : Nat} {l : List Oper} (n : Nat) (ty : TypeId) (d : Tmp) (aE : Act) {z : Value} {cs : Array Value} (hm : P.follows .mixedOrders = true)
    (hB : (Region.lexTailB .any (strikeL n l).toArray (n + 1) && oneSlot (strikeL n l).toArray && blindTo l.toArray n && Region.noSelect l.toArray) = true)
    (hon : ((l[n]?).map fun o => (o.op, o.dst)) = some (.alloc ty, some d)) (hz : (P.info? ty).map (·.zero) = some (some z)) (hcs : z.cells = cs)
    (hlex : ∀ T : After w, wpQuiet P (strikeL n l).toArray (fun w' => ∃ x : After T.w, w' = x.w) (fun a' => a' = aE) ((strikeL n l).take (n + 1)) a)
    (hK : ∀ w' b, St w0 w' (Res.blk b ty cs :: Γ) → wpList P l.toArray Q (l.drop (n + 1)) (aE.put (some d) (.pointer (some ⟨b, 0, none⟩))) w') : (Code.region id l.toArray true).wp P Q a w :=
  wp_float_tail n ty d aE hm hB hon hz hcs hlex fun g x hg hb => hK x.w g (H.new x.h hb fun _ e => by cases e; exact hg)
theorem St.recOf {w0 w : World} {Γ : List Res} {b : Nat} {r : RD} {s : Value} (H : St w0 w (Res.blk b 54 (rA r s) :: Γ)) (ok : r.ok) : St w0 w (Res.rc b r s :: Γ) :=
  H.upd (Upd.head _ _ _) ⟨rfl, rfl, rfl, Nat.le_refl _, fun _ _ _ => rfl⟩ ⟨H.get List.mem_cons_self, ok⟩ fun _ e => .inl e
end
end Go.Proofs.Ytgckgbonhbabpaa
/- rolodexref06.Join of two that are joined. -/
namespace Go.Proofs.Ytgckgbonhbabpaa
open Go Go.RowKit Go.Deep
set_option linter.unusedVariables false
set_option linter.unusedSimpArgs false
set_option maxRecDepth 100000
theorem cn_len8 (g : Int → Option C3) (j : Nat) : True := trivial
section
variable {ops : Array Oper} {rest : List Oper} {a : Act} {w : World} {Q : Exit → Act → World → Prop} {dst : Option Tmp} {typ : TypeId} {x y : Operand} {pos : String} {af : Array Edge} {no N R : Int} {S : ByteArray}
theorem built_fld {no N R : Int} {S : ByteArray} : Try.prog.built 65 [(0, .int .i64 no), (1, .agg #[.int .i64 N, .int .i64 R, .string S])] = some #[.int .i64 no, .int .i64 N, .int .i64 R, .string S] := by kernel_rfl
theorem wpList_build_fld (hx : a.eval x = .int .i64 no) (hy : a.eval y = .agg #[.int .i64 N, .int .i64 R, .string S]) (h : wpList Try.prog ops Q rest (a.put dst (.agg #[.int .i64 no, .int .i64 N, .int .i64 R, .string S])) w) :
    wpList Try.prog ops Q (⟨dst, .build 65 #[(0, x), (1, y)], typ, pos, af, none⟩ :: rest) a w :=
  wpList_build_to rfl 65 #[(0, x), (1, y)] rfl dst rfl _ (by simp only [List.map_toArray, List.map_cons, List.map_nil, hx, hy]; exact built_fld) h
end
set_option maxHeartbeats 12800000 in
theorem rfjoin_yes (ra rb : RD) (sa sb : Value) (ha : ra.ok) (hb : rb.ok) (w : World) (hva : Flds w sa ra.f) (hvb : Flds w sb rb.f) (hcan : rCan ra rb = true) : Calls Try.prog 38 #[.agg (rA ra sa), .agg (rA rb sb)] w fun e w' => ∃ s, e = .returned (.tuple #[.agg (rA (rBoth ra rb) s), .bool true]) ∧ St w w' [Res.row 65 4 s (rBoth ra rb).f.length (fieldsL (rBoth ra rb).f)] := by
  obtain ⟨h1, h2, h3⟩ := can_iff.1 hcan
  have hq : ∀ W, (binOp .neq 51 (.agg (idA ra)) (.agg (idA rb))).run Try.prog W = .ok (.bool false) W := fun W => by
    have := neq_id ra.id rb.id ha hb W
    rw [h3, beq_self_eq_true] at this
    unfold idA; rw [h3]; exact this
  have hma := Lib.hid h1; have hmb := Lib.hid h2
  obtain ⟨rj, hrj⟩ : ∃ r, Hid (rBoth ra rb = r) := ⟨_, rfl⟩
  have HokR : Hid rj.ok := Lib.hid (by rw [← hrj.out]; exact ha)
  have Hf : Hid (rj.f = cn (jG ra rb) 0 8) := Lib.hid (by rw [← hrj.out]; exact both_jG h1 h2)
  rw [hrj.out]
  obtain ⟨X, hX⟩ : ∃ X, Hid (mxN ra.N ra.R rb.N rb.R = X) := ⟨_, rfl⟩
  obtain ⟨Y, hY⟩ : ∃ Y, Hid (mxR ra.N ra.R rb.N rb.R = Y) := ⟨_, rfl⟩
  obtain ⟨x0, hx0⟩ : ∃ x : RD, Hid (⟨ra.id, X, Y, []⟩ = x) := ⟨_, rfl⟩
  have Hx0 : Hid x0.ok := Lib.hid (by rw [← hx0.out]; exact ha)
  have Hbx : Hid (Try.prog.built 54 [(0, .agg (idA ra)), (1, .agg #[.int .i64 X, .int .i64 Y])] = some (rA x0 (.slice none 0 0))) := Lib.hid (by rw [← hx0.out]; exact built_id_dead (idA_size ha) X Y)
  have HxN : Hid (x0.N = X ∧ x0.R = Y) := Lib.hid (by rw [← hx0.out]; exact ⟨rfl, rfl⟩)
  have HxA : Hid (∀ s, rA x0 s = rA rj s) := Lib.hid (fun s => by rw [← hx0.out, ← hrj.out, ← hX.out, ← hY.out]; rfl)
  have Ha := Lib.hid ha; have Hb := Lib.hid hb; have Hva := Lib.hid hva; have Hvb := Lib.hid hvb
  clear ha hb hva hvb hcan h1 h2 h3
  have H := St.init w
  go_enter Try.func38, Try.ntmps38
  go_wp2_with (first | go_skip | ((fail_if_success have := kA); (with_reducible apply bx_rec H); rfl; (first | assumption | (refine Hid.out ?_; assumption)); clear H; intro wn kA H) | ((fail_if_success have := kB); (with_reducible apply bx_rec H); rfl; (first | assumption | (refine Hid.out ?_; assumption)); clear H; intro wn kB H) | ((fail_if_success have := kR); (with_reducible apply al_rec H); clear H; intro wn kR H) | ((with_reducible apply ld_rec); rfl; rfl; (first | (focus (apply H.rc; (repeat (first | with_reducible exact List.mem_cons_self | with_reducible apply List.mem_cons_of_mem)); done)) | (apply RecAt.bel (hb := H.bel); assumption))) | ((with_reducible apply ld_id); rfl; rfl; (first | (focus (apply H.rc; (repeat (first | with_reducible exact List.mem_cons_self | with_reducible apply List.mem_cons_of_mem)); done)) | (apply RecAt.bel (hb := H.bel); assumption))) | (go_at_call 40; first | ((with_reducible refine (rfmay_v Ha.out hma.out _ (Hva.out.below H.bel)).mono ?_); rintro e wn ⟨rfl, hb⟩; replace H := H.call hb; clear hb) | ((with_reducible refine (rfmay_v Hb.out hmb.out _ (Hvb.out.below H.bel)).mono ?_); rintro e wn ⟨rfl, hb⟩; replace H := H.call hb; clear hb) ))
  refine' wp_float_st H 8 54 8 _ (by kernel_rfl) (by kernel_rfl) rfl noA_zero rfl ?_ ?_
  case refine'_2 =>
    intro T
    simp only [strikeL, List.take_succ_cons, List.take_zero]
    repeat (first | go_big_quiet_skip | (go_big_quiet_want; (with_reducible apply qd_id); rfl; (rintro _ ⟨x, rfl⟩; have H := (H.call T.h).call x.h; (first | (focus (apply H.rc; (repeat (first | with_reducible exact List.mem_cons_self | with_reducible apply List.mem_cons_of_mem)); done)) | (apply RecAt.bel (hb := H.bel); assumption))); (first | assumption | (refine Hid.out ?_; assumption)); (go_simp; go_big_quiet_on)) | (go_big_quiet_want; (with_reducible apply qd_dead); rfl; (rintro _ ⟨x, rfl⟩; have H := (H.call T.h).call x.h; (first | (focus (apply H.rc; (repeat (first | with_reducible exact List.mem_cons_self | with_reducible apply List.mem_cons_of_mem)); done)) | (apply RecAt.bel (hb := H.bel); assumption))); (go_simp; go_big_quiet_on)) | (go_big_quiet_want; (refine quiet_build_to 54 _ rfl _ rfl (rA x0 (.slice none 0 0)) ?_ ?_; (focus (first | (simp [Act.eval, Hbx.out]; done) | (simp [Act.eval]; exact Hbx.out))); (go_simp; go_big_quiet_on))) | (go_big_quiet_step ((first | (go_at_call 73; with_reducible exact after_call _ (rsmax_v hX.out hY.out _))))))
    refine wpQuiet_nil ?_
    exact rfl
  clear H; intro wn g H
  replace H := H.recOf noRD_ok
  simp only [List.drop_succ_cons, List.drop_zero, Act.put, List.setIfInBounds_toArray, List.set_cons_zero, List.set_cons_succ]
  have HoneS : Hid (Value.oneCell' (.slice none 0 0) = true) := Lib.hid rfl
  go_wp2_with (first | go_skip | ((with_reducible apply st_rec H); rfl; rfl; rfl; (repeat (first | with_reducible apply Upd.head | with_reducible apply Upd.tail)); (first | assumption | (refine Hid.out ?_; assumption)); (first | rfl | assumption | (refine Hid.out ?_; assumption)); clear H; intro wn H))
  replace H := H.nilRow 65 4
  go_loopw [9] (fun i wr => ∃ (j : Nat) (s : Value), j ≤ 8 ∧ i = .int .i64 j ∧ St w wr [Res.row 65 4 s (cn (jG ra rb) 0 j).length (fieldsL (cn (jG ra rb) 0 j)), Res.rc g x0 s, Res.rc kR noRD (.slice none 0 0), Res.rc kB rb sb, Res.rc kA ra sa]) (fun i _ => 8 - (intOf i).toNat)
  case atStart => exact ⟨0, _, by omega, rfl, H⟩
  case round =>
    clear H
    obtain ⟨j, s, hj, rfl, H⟩ := hrel
    by_cases hlt : j < 8
    · obtain ⟨x, hx⟩ : ∃ x, Hid (fFind ra.f (j : Int) = x) := ⟨_, rfl⟩
      obtain ⟨y, hy⟩ : ∃ x, Hid (fFind rb.f (j : Int) = x) := ⟨_, rfl⟩
      have hXY := HxN.out
      obtain ⟨hXN, hXR⟩ := hXY
      have hl0 : ∀ a b l, stLess X Y a b = l → Hid (stLess x0.N x0.R a b = l) := fun a b l h => Lib.hid (by rw [hXN, hXR]; exact h)
      have HXL := Lib.hid hl0; clear hXN hXR hl0
      cases x with
      | none =>
        cases y with
        | none =>
          have hfx : Hid (fFindP ra.f (j : Int) = (0, 0, ⟨#[]⟩, false)) := Lib.hid (by rw [fFindP_eq, hx.out]; rfl)
          have hfy : Hid (fFindP rb.f (j : Int) = (0, 0, ⟨#[]⟩, false)) := Lib.hid (by rw [fFindP_eq, hy.out]; rfl)
          have hn : Hid (cn (jG ra rb) 0 (j + 1) = cn (jG ra rb) 0 j) := Lib.hid (jG_none hx.out hy.out)
          obtain ⟨l, hl1⟩ : ∃ l, Hid (stLess X Y 0 0 = l) := ⟨_, rfl⟩
          have hl := HXL.out _ _ _ hl1.out
          go_wp2_with (first | go_skip | ((fail_if_success have := TFx); go_at_call 36; (with_reducible refine (rffind_v Ha.out hfx.out _ (Hva.out.below H.bel)).mono ?_); rintro e wn ⟨rfl, hb⟩; replace H := H.call hb; clear hb; have TFx := trivial) | ((fail_if_success have := TFy); go_at_call 36; (with_reducible refine (rffind_v Hb.out hfy.out _ (Hvb.out.below H.bel)).mono ?_); rintro e wn ⟨rfl, hb⟩; replace H := H.call hb; clear hb; have TFy := trivial) | ((with_reducible apply al_cel H); clear H; intro wn b H) | ((with_reducible apply st_cel H); rfl; rfl; rfl; (repeat (first | with_reducible apply Upd.head | with_reducible apply Upd.tail)); clear H; intro wn H) | ((with_reducible apply ld_rec); rfl; rfl; (first | (focus (apply H.rc; (repeat (first | with_reducible exact List.mem_cons_self | with_reducible apply List.mem_cons_of_mem)); done)) | (apply RecAt.bel (hb := H.bel); assumption))) | ((with_reducible apply ld_cel); rfl; rfl; (first | (focus (apply H.cel; (repeat (first | with_reducible exact List.mem_cons_self | with_reducible apply List.mem_cons_of_mem)); done)) | (apply CelAt.bel (hb := H.bel); assumption))) | ((with_reducible apply ld_cstamp); rfl; rfl; (first | (focus (apply H.cel; (repeat (first | with_reducible exact List.mem_cons_self | with_reducible apply List.mem_cons_of_mem)); done)) | (apply CelAt.bel (hb := H.bel); assumption))) | ((with_reducible apply ld_dead); rfl; rfl; (first | (focus (apply H.rc; (repeat (first | with_reducible exact List.mem_cons_self | with_reducible apply List.mem_cons_of_mem)); done)) | (apply RecAt.bel (hb := H.bel); assumption))) | (go_at_call 28; (with_reducible refine (rcjoin_cv (a := (xN, xR, xS)) (b := (yN, yR, yS)) (c := (cN, cR, cS)) hcj.out hxs.out hys.out _).mono ?_); rintro e wn ⟨rfl, hb⟩; replace H := H.call hb; clear hb) | (go_at_call 62; (with_reducible refine (rsless_v hl.out _).mono ?_); rintro e wn ⟨rfl, hb⟩; replace H := H.call hb; clear hb))
          go_roundw
          case rel => exact ⟨j + 1, s, by omega, by go_num, by rw [hn.out]; exact H.sub (by (repeat (first | with_reducible exact List.Sublist.refl _ | with_reducible refine List.Sublist.cons_cons _ ?_ | refine List.Sublist.cons _ ?_)))⟩
          case measure => simp [intOf]; omega
        | some c =>
          obtain ⟨yN, yR, yS⟩ := c
          have hfx : Hid (fFindP ra.f (j : Int) = (0, 0, ⟨#[]⟩, false)) := Lib.hid (by rw [fFindP_eq, hx.out]; rfl)
          have hfy : Hid (fFindP rb.f (j : Int) = (yN, yR, yS, true)) := Lib.hid (by rw [fFindP_eq, hy.out]; rfl)
          obtain ⟨l, hl1⟩ : ∃ l, Hid (stLess X Y yN yR = l) := ⟨_, rfl⟩
          have hl := HXL.out _ _ _ hl1.out
          have hn : Hid (cn (jG ra rb) 0 (j + 1) = cn (jG ra rb) 0 j ++ (bif l then [((j : Int), (yN, yR, yS))] else [])) := Lib.hid (jG_some (by rw [hx.out, hy.out]; rfl) (by rw [hX.out, hY.out]; exact hl1.out))
          cases l
          · go_wp2_with (first | go_skip | ((fail_if_success have := TFx); go_at_call 36; (with_reducible refine (rffind_v Ha.out hfx.out _ (Hva.out.below H.bel)).mono ?_); rintro e wn ⟨rfl, hb⟩; replace H := H.call hb; clear hb; have TFx := trivial) | ((fail_if_success have := TFy); go_at_call 36; (with_reducible refine (rffind_v Hb.out hfy.out _ (Hvb.out.below H.bel)).mono ?_); rintro e wn ⟨rfl, hb⟩; replace H := H.call hb; clear hb; have TFy := trivial) | ((with_reducible apply al_cel H); clear H; intro wn b H) | ((with_reducible apply st_cel H); rfl; rfl; rfl; (repeat (first | with_reducible apply Upd.head | with_reducible apply Upd.tail)); clear H; intro wn H) | ((with_reducible apply ld_rec); rfl; rfl; (first | (focus (apply H.rc; (repeat (first | with_reducible exact List.mem_cons_self | with_reducible apply List.mem_cons_of_mem)); done)) | (apply RecAt.bel (hb := H.bel); assumption))) | ((with_reducible apply ld_cel); rfl; rfl; (first | (focus (apply H.cel; (repeat (first | with_reducible exact List.mem_cons_self | with_reducible apply List.mem_cons_of_mem)); done)) | (apply CelAt.bel (hb := H.bel); assumption))) | ((with_reducible apply ld_cstamp); rfl; rfl; (first | (focus (apply H.cel; (repeat (first | with_reducible exact List.mem_cons_self | with_reducible apply List.mem_cons_of_mem)); done)) | (apply CelAt.bel (hb := H.bel); assumption))) | ((with_reducible apply ld_dead); rfl; rfl; (first | (focus (apply H.rc; (repeat (first | with_reducible exact List.mem_cons_self | with_reducible apply List.mem_cons_of_mem)); done)) | (apply RecAt.bel (hb := H.bel); assumption))) | (go_at_call 28; (with_reducible refine (rcjoin_cv (a := (xN, xR, xS)) (b := (yN, yR, yS)) (c := (cN, cR, cS)) hcj.out hxs.out hys.out _).mono ?_); rintro e wn ⟨rfl, hb⟩; replace H := H.call hb; clear hb) | (go_at_call 62; (with_reducible refine (rsless_v hl.out _).mono ?_); rintro e wn ⟨rfl, hb⟩; replace H := H.call hb; clear hb))
            go_roundw
            case rel => exact ⟨j + 1, s, by omega, by go_num, by rw [hn.out]; simp only [cond_false, List.append_nil]; exact H.sub (by (repeat (first | with_reducible exact List.Sublist.refl _ | with_reducible refine List.Sublist.cons_cons _ ?_ | refine List.Sublist.cons _ ?_)))⟩
            case measure => simp [intOf]; omega
          · go_wp2_with (first | go_skip | ((fail_if_success have := TFx); go_at_call 36; (with_reducible refine (rffind_v Ha.out hfx.out _ (Hva.out.below H.bel)).mono ?_); rintro e wn ⟨rfl, hb⟩; replace H := H.call hb; clear hb; have TFx := trivial) | ((fail_if_success have := TFy); go_at_call 36; (with_reducible refine (rffind_v Hb.out hfy.out _ (Hvb.out.below H.bel)).mono ?_); rintro e wn ⟨rfl, hb⟩; replace H := H.call hb; clear hb; have TFy := trivial) | ((with_reducible apply al_cel H); clear H; intro wn b H) | ((with_reducible apply st_cel H); rfl; rfl; rfl; (repeat (first | with_reducible apply Upd.head | with_reducible apply Upd.tail)); clear H; intro wn H) | ((with_reducible apply ld_rec); rfl; rfl; (first | (focus (apply H.rc; (repeat (first | with_reducible exact List.mem_cons_self | with_reducible apply List.mem_cons_of_mem)); done)) | (apply RecAt.bel (hb := H.bel); assumption))) | ((with_reducible apply ld_cel); rfl; rfl; (first | (focus (apply H.cel; (repeat (first | with_reducible exact List.mem_cons_self | with_reducible apply List.mem_cons_of_mem)); done)) | (apply CelAt.bel (hb := H.bel); assumption))) | ((with_reducible apply ld_cstamp); rfl; rfl; (first | (focus (apply H.cel; (repeat (first | with_reducible exact List.mem_cons_self | with_reducible apply List.mem_cons_of_mem)); done)) | (apply CelAt.bel (hb := H.bel); assumption))) | ((with_reducible apply ld_dead); rfl; rfl; (first | (focus (apply H.rc; (repeat (first | with_reducible exact List.mem_cons_self | with_reducible apply List.mem_cons_of_mem)); done)) | (apply RecAt.bel (hb := H.bel); assumption))) | (go_at_call 28; (with_reducible refine (rcjoin_cv (a := (xN, xR, xS)) (b := (yN, yR, yS)) (c := (cN, cR, cS)) hcj.out hxs.out hys.out _).mono ?_); rintro e wn ⟨rfl, hb⟩; replace H := H.call hb; clear hb) | (go_at_call 62; (with_reducible refine (rsless_v hl.out _).mono ?_); rintro e wn ⟨rfl, hb⟩; replace H := H.call hb; clear hb) | ((with_reducible apply ld_F); rfl; rfl; (first | (focus (apply H.rc; (repeat (first | with_reducible exact List.mem_cons_self | with_reducible apply List.mem_cons_of_mem)); done)) | (apply RecAt.bel (hb := H.bel); assumption))) | ((with_reducible apply wpList_build_fld); rfl; rfl) | ((with_reducible apply arm_bslice1 H (hu := Try.underlying52) (hinfo := info_field) (hzs := rfl) (hsz := by decide) (hsm := by decide)); (conv => lhs; whnf); (simp only [Value.cells]; rfl); rfl; clear H; intro wn b H) | ((with_reducible apply arm_app H (ht := Try.underlying52) (hinfo := info_field) (hzs := rfl) (hsz := by decide)); (conv => lhs; whnf); (conv => lhs; whnf); (intro v; (repeat (first | with_reducible apply Upd.head | with_reducible apply Upd.tail))); (focus (apply H.rowRead; (repeat (first | with_reducible exact List.mem_cons_self | with_reducible apply List.mem_cons_of_mem)); done)); (focus (intro u hu; simp only [List.mem_cons, List.not_mem_nil, or_false] at hu; (try (rcases hu with rfl | rfl | rfl | rfl <;> rfl)); (try (subst hu; rfl)); done)); (focus (have h8 := cn_len (jG ra rb) j; unfold maxLen; omega; done)); (focus (have h8 := cn_len (jG ra rb) j; omega; done)); clear H; intro wn vn H) | ((with_reducible apply st_F H); rfl; rfl; (conv => lhs; whnf); (repeat (first | with_reducible apply Upd.head | with_reducible apply Upd.tail)); (first | exact ⟨_, _, _, rfl⟩ | (focus (apply H.rowSlice; (repeat (first | with_reducible exact List.mem_cons_self | with_reducible apply List.mem_cons_of_mem)); done))); clear H; intro wn H))
            go_roundw
            case rel => exact ⟨j + 1, vn, by omega, by go_num, by rw [hn.out]; simp only [cond_true, fieldsL_append, fieldsL, List.length_append, List.length_cons, List.length_nil]; exact H.sub (by (repeat (first | with_reducible exact List.Sublist.refl _ | with_reducible refine List.Sublist.cons_cons _ ?_ | refine List.Sublist.cons _ ?_)))⟩
            case measure => simp [intOf]; omega
      | some c =>
        obtain ⟨xN, xR, xS⟩ := c
        cases y with
        | none =>
          have hfx : Hid (fFindP ra.f (j : Int) = (xN, xR, xS, true)) := Lib.hid (by rw [fFindP_eq, hx.out]; rfl)
          have hfy : Hid (fFindP rb.f (j : Int) = (0, 0, ⟨#[]⟩, false)) := Lib.hid (by rw [fFindP_eq, hy.out]; rfl)
          obtain ⟨l, hl1⟩ : ∃ l, Hid (stLess X Y xN xR = l) := ⟨_, rfl⟩
          have hl := HXL.out _ _ _ hl1.out
          have hn : Hid (cn (jG ra rb) 0 (j + 1) = cn (jG ra rb) 0 j ++ (bif l then [((j : Int), (xN, xR, xS))] else [])) := Lib.hid (jG_some (by rw [hx.out, hy.out]; rfl) (by rw [hX.out, hY.out]; exact hl1.out))
          cases l
          · go_wp2_with (first | go_skip | ((fail_if_success have := TFx); go_at_call 36; (with_reducible refine (rffind_v Ha.out hfx.out _ (Hva.out.below H.bel)).mono ?_); rintro e wn ⟨rfl, hb⟩; replace H := H.call hb; clear hb; have TFx := trivial) | ((fail_if_success have := TFy); go_at_call 36; (with_reducible refine (rffind_v Hb.out hfy.out _ (Hvb.out.below H.bel)).mono ?_); rintro e wn ⟨rfl, hb⟩; replace H := H.call hb; clear hb; have TFy := trivial) | ((with_reducible apply al_cel H); clear H; intro wn b H) | ((with_reducible apply st_cel H); rfl; rfl; rfl; (repeat (first | with_reducible apply Upd.head | with_reducible apply Upd.tail)); clear H; intro wn H) | ((with_reducible apply ld_rec); rfl; rfl; (first | (focus (apply H.rc; (repeat (first | with_reducible exact List.mem_cons_self | with_reducible apply List.mem_cons_of_mem)); done)) | (apply RecAt.bel (hb := H.bel); assumption))) | ((with_reducible apply ld_cel); rfl; rfl; (first | (focus (apply H.cel; (repeat (first | with_reducible exact List.mem_cons_self | with_reducible apply List.mem_cons_of_mem)); done)) | (apply CelAt.bel (hb := H.bel); assumption))) | ((with_reducible apply ld_cstamp); rfl; rfl; (first | (focus (apply H.cel; (repeat (first | with_reducible exact List.mem_cons_self | with_reducible apply List.mem_cons_of_mem)); done)) | (apply CelAt.bel (hb := H.bel); assumption))) | ((with_reducible apply ld_dead); rfl; rfl; (first | (focus (apply H.rc; (repeat (first | with_reducible exact List.mem_cons_self | with_reducible apply List.mem_cons_of_mem)); done)) | (apply RecAt.bel (hb := H.bel); assumption))) | (go_at_call 28; (with_reducible refine (rcjoin_cv (a := (xN, xR, xS)) (b := (yN, yR, yS)) (c := (cN, cR, cS)) hcj.out hxs.out hys.out _).mono ?_); rintro e wn ⟨rfl, hb⟩; replace H := H.call hb; clear hb) | (go_at_call 62; (with_reducible refine (rsless_v hl.out _).mono ?_); rintro e wn ⟨rfl, hb⟩; replace H := H.call hb; clear hb))
            go_roundw
            case rel => exact ⟨j + 1, s, by omega, by go_num, by rw [hn.out]; simp only [cond_false, List.append_nil]; exact H.sub (by (repeat (first | with_reducible exact List.Sublist.refl _ | with_reducible refine List.Sublist.cons_cons _ ?_ | refine List.Sublist.cons _ ?_)))⟩
            case measure => simp [intOf]; omega
          · go_wp2_with (first | go_skip | ((fail_if_success have := TFx); go_at_call 36; (with_reducible refine (rffind_v Ha.out hfx.out _ (Hva.out.below H.bel)).mono ?_); rintro e wn ⟨rfl, hb⟩; replace H := H.call hb; clear hb; have TFx := trivial) | ((fail_if_success have := TFy); go_at_call 36; (with_reducible refine (rffind_v Hb.out hfy.out _ (Hvb.out.below H.bel)).mono ?_); rintro e wn ⟨rfl, hb⟩; replace H := H.call hb; clear hb; have TFy := trivial) | ((with_reducible apply al_cel H); clear H; intro wn b H) | ((with_reducible apply st_cel H); rfl; rfl; rfl; (repeat (first | with_reducible apply Upd.head | with_reducible apply Upd.tail)); clear H; intro wn H) | ((with_reducible apply ld_rec); rfl; rfl; (first | (focus (apply H.rc; (repeat (first | with_reducible exact List.mem_cons_self | with_reducible apply List.mem_cons_of_mem)); done)) | (apply RecAt.bel (hb := H.bel); assumption))) | ((with_reducible apply ld_cel); rfl; rfl; (first | (focus (apply H.cel; (repeat (first | with_reducible exact List.mem_cons_self | with_reducible apply List.mem_cons_of_mem)); done)) | (apply CelAt.bel (hb := H.bel); assumption))) | ((with_reducible apply ld_cstamp); rfl; rfl; (first | (focus (apply H.cel; (repeat (first | with_reducible exact List.mem_cons_self | with_reducible apply List.mem_cons_of_mem)); done)) | (apply CelAt.bel (hb := H.bel); assumption))) | ((with_reducible apply ld_dead); rfl; rfl; (first | (focus (apply H.rc; (repeat (first | with_reducible exact List.mem_cons_self | with_reducible apply List.mem_cons_of_mem)); done)) | (apply RecAt.bel (hb := H.bel); assumption))) | (go_at_call 28; (with_reducible refine (rcjoin_cv (a := (xN, xR, xS)) (b := (yN, yR, yS)) (c := (cN, cR, cS)) hcj.out hxs.out hys.out _).mono ?_); rintro e wn ⟨rfl, hb⟩; replace H := H.call hb; clear hb) | (go_at_call 62; (with_reducible refine (rsless_v hl.out _).mono ?_); rintro e wn ⟨rfl, hb⟩; replace H := H.call hb; clear hb) | ((with_reducible apply ld_F); rfl; rfl; (first | (focus (apply H.rc; (repeat (first | with_reducible exact List.mem_cons_self | with_reducible apply List.mem_cons_of_mem)); done)) | (apply RecAt.bel (hb := H.bel); assumption))) | ((with_reducible apply wpList_build_fld); rfl; rfl) | ((with_reducible apply arm_bslice1 H (hu := Try.underlying52) (hinfo := info_field) (hzs := rfl) (hsz := by decide) (hsm := by decide)); (conv => lhs; whnf); (simp only [Value.cells]; rfl); rfl; clear H; intro wn b H) | ((with_reducible apply arm_app H (ht := Try.underlying52) (hinfo := info_field) (hzs := rfl) (hsz := by decide)); (conv => lhs; whnf); (conv => lhs; whnf); (intro v; (repeat (first | with_reducible apply Upd.head | with_reducible apply Upd.tail))); (focus (apply H.rowRead; (repeat (first | with_reducible exact List.mem_cons_self | with_reducible apply List.mem_cons_of_mem)); done)); (focus (intro u hu; simp only [List.mem_cons, List.not_mem_nil, or_false] at hu; (try (rcases hu with rfl | rfl | rfl | rfl <;> rfl)); (try (subst hu; rfl)); done)); (focus (have h8 := cn_len (jG ra rb) j; unfold maxLen; omega; done)); (focus (have h8 := cn_len (jG ra rb) j; omega; done)); clear H; intro wn vn H) | ((with_reducible apply st_F H); rfl; rfl; (conv => lhs; whnf); (repeat (first | with_reducible apply Upd.head | with_reducible apply Upd.tail)); (first | exact ⟨_, _, _, rfl⟩ | (focus (apply H.rowSlice; (repeat (first | with_reducible exact List.mem_cons_self | with_reducible apply List.mem_cons_of_mem)); done))); clear H; intro wn H))
            go_roundw
            case rel => exact ⟨j + 1, vn, by omega, by go_num, by rw [hn.out]; simp only [cond_true, fieldsL_append, fieldsL, List.length_append, List.length_cons, List.length_nil]; exact H.sub (by (repeat (first | with_reducible exact List.Sublist.refl _ | with_reducible refine List.Sublist.cons_cons _ ?_ | refine List.Sublist.cons _ ?_)))⟩
            case measure => simp [intOf]; omega
        | some c =>
          obtain ⟨yN, yR, yS⟩ := c
          have hfx : Hid (fFindP ra.f (j : Int) = (xN, xR, xS, true)) := Lib.hid (by rw [fFindP_eq, hx.out]; rfl)
          have hfy : Hid (fFindP rb.f (j : Int) = (yN, yR, yS, true)) := Lib.hid (by rw [fFindP_eq, hy.out]; rfl)
          obtain ⟨⟨cN, cR, cS⟩, hcj⟩ : ∃ c : C3, Hid (cJ (xN, xR, xS) (yN, yR, yS) = c) := ⟨_, rfl⟩
          have hxs : Hid (xS.size ≤ 80000) := Lib.hid (recMay_small (N := ra.N) (R := ra.R) hma.out _ (fFind_mem hx.out))
          have hys : Hid (yS.size ≤ 80000) := Lib.hid (recMay_small (N := rb.N) (R := rb.R) hmb.out _ (fFind_mem hy.out))
          obtain ⟨l, hl1⟩ : ∃ l, Hid (stLess X Y cN cR = l) := ⟨_, rfl⟩
          have hl := HXL.out _ _ _ hl1.out
          have hn : Hid (cn (jG ra rb) 0 (j + 1) = cn (jG ra rb) 0 j ++ (bif l then [((j : Int), (cN, cR, cS))] else [])) := Lib.hid (jG_some (by rw [hx.out, hy.out]; show some (cJ _ _) = some _; rw [hcj.out]) (by rw [hX.out, hY.out]; exact hl1.out))
          cases l
          · go_wp2_with (first | go_skip | ((fail_if_success have := TFx); go_at_call 36; (with_reducible refine (rffind_v Ha.out hfx.out _ (Hva.out.below H.bel)).mono ?_); rintro e wn ⟨rfl, hb⟩; replace H := H.call hb; clear hb; have TFx := trivial) | ((fail_if_success have := TFy); go_at_call 36; (with_reducible refine (rffind_v Hb.out hfy.out _ (Hvb.out.below H.bel)).mono ?_); rintro e wn ⟨rfl, hb⟩; replace H := H.call hb; clear hb; have TFy := trivial) | ((with_reducible apply al_cel H); clear H; intro wn b H) | ((with_reducible apply st_cel H); rfl; rfl; rfl; (repeat (first | with_reducible apply Upd.head | with_reducible apply Upd.tail)); clear H; intro wn H) | ((with_reducible apply ld_rec); rfl; rfl; (first | (focus (apply H.rc; (repeat (first | with_reducible exact List.mem_cons_self | with_reducible apply List.mem_cons_of_mem)); done)) | (apply RecAt.bel (hb := H.bel); assumption))) | ((with_reducible apply ld_cel); rfl; rfl; (first | (focus (apply H.cel; (repeat (first | with_reducible exact List.mem_cons_self | with_reducible apply List.mem_cons_of_mem)); done)) | (apply CelAt.bel (hb := H.bel); assumption))) | ((with_reducible apply ld_cstamp); rfl; rfl; (first | (focus (apply H.cel; (repeat (first | with_reducible exact List.mem_cons_self | with_reducible apply List.mem_cons_of_mem)); done)) | (apply CelAt.bel (hb := H.bel); assumption))) | ((with_reducible apply ld_dead); rfl; rfl; (first | (focus (apply H.rc; (repeat (first | with_reducible exact List.mem_cons_self | with_reducible apply List.mem_cons_of_mem)); done)) | (apply RecAt.bel (hb := H.bel); assumption))) | (go_at_call 28; (with_reducible refine (rcjoin_cv (a := (xN, xR, xS)) (b := (yN, yR, yS)) (c := (cN, cR, cS)) hcj.out hxs.out hys.out _).mono ?_); rintro e wn ⟨rfl, hb⟩; replace H := H.call hb; clear hb) | (go_at_call 62; (with_reducible refine (rsless_v hl.out _).mono ?_); rintro e wn ⟨rfl, hb⟩; replace H := H.call hb; clear hb))
            go_roundw
            case rel => exact ⟨j + 1, s, by omega, by go_num, by rw [hn.out]; simp only [cond_false, List.append_nil]; exact H.sub (by (repeat (first | with_reducible exact List.Sublist.refl _ | with_reducible refine List.Sublist.cons_cons _ ?_ | refine List.Sublist.cons _ ?_)))⟩
            case measure => simp [intOf]; omega
          · go_wp2_with (first | go_skip | ((fail_if_success have := TFx); go_at_call 36; (with_reducible refine (rffind_v Ha.out hfx.out _ (Hva.out.below H.bel)).mono ?_); rintro e wn ⟨rfl, hb⟩; replace H := H.call hb; clear hb; have TFx := trivial) | ((fail_if_success have := TFy); go_at_call 36; (with_reducible refine (rffind_v Hb.out hfy.out _ (Hvb.out.below H.bel)).mono ?_); rintro e wn ⟨rfl, hb⟩; replace H := H.call hb; clear hb; have TFy := trivial) | ((with_reducible apply al_cel H); clear H; intro wn b H) | ((with_reducible apply st_cel H); rfl; rfl; rfl; (repeat (first | with_reducible apply Upd.head | with_reducible apply Upd.tail)); clear H; intro wn H) | ((with_reducible apply ld_rec); rfl; rfl; (first | (focus (apply H.rc; (repeat (first | with_reducible exact List.mem_cons_self | with_reducible apply List.mem_cons_of_mem)); done)) | (apply RecAt.bel (hb := H.bel); assumption))) | ((with_reducible apply ld_cel); rfl; rfl; (first | (focus (apply H.cel; (repeat (first | with_reducible exact List.mem_cons_self | with_reducible apply List.mem_cons_of_mem)); done)) | (apply CelAt.bel (hb := H.bel); assumption))) | ((with_reducible apply ld_cstamp); rfl; rfl; (first | (focus (apply H.cel; (repeat (first | with_reducible exact List.mem_cons_self | with_reducible apply List.mem_cons_of_mem)); done)) | (apply CelAt.bel (hb := H.bel); assumption))) | ((with_reducible apply ld_dead); rfl; rfl; (first | (focus (apply H.rc; (repeat (first | with_reducible exact List.mem_cons_self | with_reducible apply List.mem_cons_of_mem)); done)) | (apply RecAt.bel (hb := H.bel); assumption))) | (go_at_call 28; (with_reducible refine (rcjoin_cv (a := (xN, xR, xS)) (b := (yN, yR, yS)) (c := (cN, cR, cS)) hcj.out hxs.out hys.out _).mono ?_); rintro e wn ⟨rfl, hb⟩; replace H := H.call hb; clear hb) | (go_at_call 62; (with_reducible refine (rsless_v hl.out _).mono ?_); rintro e wn ⟨rfl, hb⟩; replace H := H.call hb; clear hb) | ((with_reducible apply ld_F); rfl; rfl; (first | (focus (apply H.rc; (repeat (first | with_reducible exact List.mem_cons_self | with_reducible apply List.mem_cons_of_mem)); done)) | (apply RecAt.bel (hb := H.bel); assumption))) | ((with_reducible apply wpList_build_fld); rfl; rfl) | ((with_reducible apply arm_bslice1 H (hu := Try.underlying52) (hinfo := info_field) (hzs := rfl) (hsz := by decide) (hsm := by decide)); (conv => lhs; whnf); (simp only [Value.cells]; rfl); rfl; clear H; intro wn b H) | ((with_reducible apply arm_app H (ht := Try.underlying52) (hinfo := info_field) (hzs := rfl) (hsz := by decide)); (conv => lhs; whnf); (conv => lhs; whnf); (intro v; (repeat (first | with_reducible apply Upd.head | with_reducible apply Upd.tail))); (focus (apply H.rowRead; (repeat (first | with_reducible exact List.mem_cons_self | with_reducible apply List.mem_cons_of_mem)); done)); (focus (intro u hu; simp only [List.mem_cons, List.not_mem_nil, or_false] at hu; (try (rcases hu with rfl | rfl | rfl | rfl <;> rfl)); (try (subst hu; rfl)); done)); (focus (have h8 := cn_len (jG ra rb) j; unfold maxLen; omega; done)); (focus (have h8 := cn_len (jG ra rb) j; omega; done)); clear H; intro wn vn H) | ((with_reducible apply st_F H); rfl; rfl; (conv => lhs; whnf); (repeat (first | with_reducible apply Upd.head | with_reducible apply Upd.tail)); (first | exact ⟨_, _, _, rfl⟩ | (focus (apply H.rowSlice; (repeat (first | with_reducible exact List.mem_cons_self | with_reducible apply List.mem_cons_of_mem)); done))); clear H; intro wn H))
            go_roundw
            case rel => exact ⟨j + 1, vn, by omega, by go_num, by rw [hn.out]; simp only [cond_true, fieldsL_append, fieldsL, List.length_append, List.length_cons, List.length_nil]; exact H.sub (by (repeat (first | with_reducible exact List.Sublist.refl _ | with_reducible refine List.Sublist.cons_cons _ ?_ | refine List.Sublist.cons _ ?_)))⟩
            case measure => simp [intOf]; omega
    · have hj8 : j = 8 := by omega
      subst hj8
      rw [← Hf.out] at H
      have hone : s.oneCell' = true := by obtain ⟨_, _, _, rfl⟩ := H.rowSlice List.mem_cons_self; rfl
      have Hone := Lib.hid hone; clear hone
      go_wp2_with (first | go_skip | ((with_reducible apply ld_rec); rfl; rfl; (first | (focus (apply H.rc; (repeat (first | with_reducible exact List.mem_cons_self | with_reducible apply List.mem_cons_of_mem)); done)) | (apply RecAt.bel (hb := H.bel); assumption))) | ((with_reducible apply st_rec H); rfl; rfl; rfl; (repeat (first | with_reducible apply Upd.head | with_reducible apply Upd.tail)); (first | assumption | (refine Hid.out ?_; assumption)); (first | rfl | assumption | (refine Hid.out ?_; assumption)); clear H; intro wn H))
      all_goals first | (rw [Exit.noGoto_ret]) | skip
      have hR := (H.rc (b := kR) (r := x0) (s := s) (by (repeat (first | with_reducible exact List.mem_cons_self | with_reducible apply List.mem_cons_of_mem)))).1
      rw [HxA.out s] at hR
      exact bodyPost_ret (results_cell_tmp Try.results38 _ _ kR (rA rj s) _ _ rfl rfl hR Try.underlying54 rfl (rA_info HokR.out)) rfl ⟨s, rfl, H.sub (by (repeat (first | with_reducible exact List.Sublist.refl _ | with_reducible refine List.Sublist.cons_cons _ ?_ | refine List.Sublist.cons _ ?_)))⟩
end Go.Proofs.Ytgckgbonhbabpaa
/- rolodexref06.Join, Leq. -/
namespace Go.Proofs.Ytgckgbonhbabpaa
open Go Go.RowKit Go.Deep
set_option linter.unusedVariables false
set_option linter.unusedSimpArgs false
set_option maxRecDepth 100000
theorem rfjoinS {r r' j : RD} {s s' : Value} {d : Bool} (hr : r.ok) (hr' : r'.ok) (h : rCan r r' = d) (hj : rJoin r r' = j) (w : World) (hv : Flds w s r.f) (hv' : Flds w s' r'.f) :
    Calls Try.prog 38 #[.agg (rA r s), .agg (rA r' s')] w fun e w' => ∃ sj, e = .returned (.tuple #[.agg (rA j sj), .bool d]) ∧ St w w' [Res.row 65 4 sj j.f.length (fieldsL j.f)] := by
  subst hj
  cases d with
  | true =>
    have e : rJoin r r' = rBoth r r' := by unfold rJoin; rw [if_pos h]
    rw [e]; exact rfjoin_yes r r' s s' hr hr' w hv hv' h
  | false =>
    have e : rJoin r r' = noRD := by unfold rJoin; rw [if_neg (by rw [h]; simp)]
    rw [e]
    refine (rfjoin_no r r' s s' hr hr' w hv hv' h).mono fun e w' ⟨he, hb⟩ => ⟨.slice none 0 0, he, ?_⟩
    exact ((St.init w).call hb).nilRow 65 4
theorem rjoinS {r r' j : RD} {s s' : Value} {d : Bool} (hr : r.ok) (hr' : r'.ok) (h : rCan r r' = d) (hj : rJoin r r' = j) (w : World) (hv : Flds w s r.f) (hv' : Flds w s' r'.f) :
    Calls Try.prog 37 #[.agg (rA r s), .agg (rA r' s')] w fun e w' => ∃ sj, e = .returned (.tuple #[.agg (rA j sj), .bool d]) ∧ St w w' [Res.row 65 4 sj j.f.length (fieldsL j.f)] :=
  (rjoinO hr hr' h hj w hv hv').mono fun e w' ⟨s, h1, h2, h3⟩ => ⟨s, h1, St.ofRow h3 h2⟩
set_option maxHeartbeats 1600000 in
theorem rfleq_c (r r' : RD) (hr : r.ok) (hr' : r'.ok) (s s' : Value) (w : World) (hv : Flds w s r.f) (hv' : Flds w s' r'.f) : Calls Try.prog 41 #[.agg (rA r s), .agg (rA r' s')] w fun e w' => e = .returned (.bool (rLeq r r')) ∧ Below w.heap.size w w' := by
  obtain ⟨d, hd⟩ : ∃ d, Hid (rCan r r' = d) := ⟨_, rfl⟩
  obtain ⟨j, hj⟩ : ∃ j, Hid (rJoin r r' = j) := ⟨_, rfl⟩
  obtain ⟨q, hq⟩ : ∃ q, Hid (rSame j r' = q) := ⟨_, rfl⟩
  have Hjo : Hid j.ok := Lib.hid (by rw [← hj.out]; exact rJoin_ok hr)
  have hE : Hid (rLeq r r' = (d && q)) := Lib.hid (by unfold rLeq; rw [hj.out, hd.out, hq.out])
  have Ha := Lib.hid hr; have Hb := Lib.hid hr'; have Hva := Lib.hid hv; have Hvb := Lib.hid hv'
  clear hr hr' hv hv'
  have H := St.init w
  cases d
  all_goals
    go_enter Try.func41, Try.ntmps41
    go_wp2_with (first | go_skip | ((fail_if_success have := kA); (with_reducible apply bx_rec H); rfl; (first | assumption | (refine Hid.out ?_; assumption)); clear H; intro wn kA H) | ((fail_if_success have := kB); (with_reducible apply bx_rec H); rfl; (first | assumption | (refine Hid.out ?_; assumption)); clear H; intro wn kB H) | ((fail_if_success have := kR); (with_reducible apply al_rec H); clear H; intro wn kR H) | ((with_reducible apply ld_rec); rfl; rfl; (first | (focus (apply H.rc; (repeat (first | with_reducible exact List.mem_cons_self | with_reducible apply List.mem_cons_of_mem)); done)) | (apply RecAt.bel (hb := H.bel); assumption))) | (go_at_call 38; (with_reducible refine (rfjoinS Ha.out Hb.out hd.out hj.out _ (Hva.out.below H.bel) (Hvb.out.below H.bel)).mono ?_); rintro e wn ⟨sj, rfl, hs⟩; replace H := H.comp hs; clear hs; simp only [List.cons_append, List.nil_append] at H; have hone : Hid (sj.oneCell' = true) := Lib.hid (by obtain ⟨_, _, _, rfl⟩ := H.rowSlice List.mem_cons_self; rfl)) | ((with_reducible apply st_rec H); rfl; rfl; rfl; (repeat (first | with_reducible apply Upd.head | with_reducible apply Upd.tail)); (first | assumption | (refine Hid.out ?_; assumption)); (first | rfl | assumption | (refine Hid.out ?_; assumption)); clear H; intro wn H) | (go_at_call 39; (with_reducible refine (rfsame_v Hjo.out Hb.out hq.out _ ?_ (Hvb.out.below H.bel)).mono ?_); (focus (apply H.rowRead; (repeat (first | with_reducible exact List.mem_cons_self | with_reducible apply List.mem_cons_of_mem)); done)); rintro e wn ⟨rfl, hb⟩; replace H := H.call hb; clear hb))
    all_goals first | (rw [Exit.noGoto_ret]; go_ret) | go_ret
    exact ⟨by rw [hE.out]; rfl, H.bel⟩
theorem rfleq_v {r r' : RD} {s s' : Value} {b : Bool} (hr : r.ok) (hr' : r'.ok) (h : rLeq r r' = b) (w : World) (hv : Flds w s r.f) (hv' : Flds w s' r'.f) : Calls Try.prog 41 #[.agg (rA r s), .agg (rA r' s')] w fun e w' => e = .returned (.bool b) ∧ Below w.heap.size w w' := by
  subst h; exact rfleq_c r r' hr hr' s s' w hv hv'
end Go.Proofs.Ytgckgbonhbabpaa
/- The walk of RecTells. -/
namespace Go.Proofs.Ytgckgbonhbabpaa
open Go Go.RowKit Go.Deep
set_option linter.unusedVariables false
set_option linter.unusedSimpArgs false
set_option maxRecDepth 100000
set_option maxHeartbeats 6400000 in
theorem recTells_walk (ra : RD) (sa : Value) (ha : ra.ok) (rb : RD) (sb : Value) (hb : rb.ok) (no : Int) (w : World) (hva : Flds w sa ra.f) (hvb : Flds w sb rb.f) : Calls Try.prog 10 #[.agg (rA ra sa), .agg (rA rb sb), .int .i64 no] w fun e w' => e = .returned (.bool true) ∧ Below w.heap.size w w' := by
  have Ha := Lib.hid ha; have Hva := Lib.hid hva; clear ha hva
  have Hb := Lib.hid hb; have Hvb := Lib.hid hvb; clear hb hvb
  obtain ⟨p, hfa⟩ : ∃ p, Hid (rFew ra = p) := ⟨_, rfl⟩
  obtain ⟨q, hfb⟩ : ∃ q, Hid (rFew rb = q) := ⟨_, rfl⟩
  have H := St.init w
  have hcase : (p = false ∨ p = true ∧ q = false) ∨ (p = true ∧ q = true) := by cases p <;> cases q <;> simp
  rcases hcase with (rfl | ⟨rfl, rfl⟩) | ⟨rfl, rfl⟩
  iterate 2
    · go_enter Try.func10, Try.ntmps10
      go_wp2_with (first | go_skip | ((fail_if_success have := kA); (with_reducible apply bx_rec H); rfl; (first | assumption | (refine Hid.out ?_; assumption)); clear H; intro wn kA H) | ((fail_if_success have := kB); (with_reducible apply bx_rec H); rfl; (first | assumption | (refine Hid.out ?_; assumption)); clear H; intro wn kB H) | ((with_reducible apply ld_rec); rfl; rfl; (first | (focus (apply H.rc; (repeat (first | with_reducible exact List.mem_cons_self | with_reducible apply List.mem_cons_of_mem)); done)) | (apply RecAt.bel (hb := H.bel); assumption))) | (go_at_call 33; (with_reducible refine (awake6_c _).mono ?_); rintro e wn ⟨rfl, hb⟩; replace H := H.call hb; clear hb) | (go_at_call 34; first | ((with_reducible refine (few6_v Ha.out hfa.out _ (Hva.out.below H.bel)).mono ?_); rintro e wn ⟨rfl, hb⟩; replace H := H.call hb; clear hb) | ((with_reducible refine (few6_v Hb.out hfb.out _ (Hvb.out.below H.bel)).mono ?_); rintro e wn ⟨rfl, hb⟩; replace H := H.call hb; clear hb)))
      all_goals first | (rw [Exit.noGoto_ret]; go_ret) | go_ret
      all_goals exact ⟨rfl, H.bel⟩
  · obtain ⟨⟨fN, fR, fS, d⟩, hf⟩ : ∃ x, Hid (fFindP ra.f no = x) := ⟨_, rfl⟩
    obtain ⟨dj, hd⟩ : ∃ x, Hid (rCan ra rb = x) := ⟨_, rfl⟩
    obtain ⟨j, hj⟩ : ∃ x, Hid (rJoin ra rb = x) := ⟨_, rfl⟩
    have Hjo : Hid j.ok := Lib.hid (by rw [← hj.out]; exact rJoin_ok Ha.out)
    have hjj : Hid (rSame j j = true) := Lib.hid ((rSame_iff j j).2 rfl)
    obtain ⟨ma, hma⟩ : ∃ x, Hid (rMay ra = x) := ⟨_, rfl⟩
    obtain ⟨sm, hsm⟩ : ∃ x, Hid (rSame ra rb = x) := ⟨_, rfl⟩
    obtain ⟨lq, hlq⟩ : ∃ x, Hid (rLeq ra rb = x) := ⟨_, rfl⟩
    have heq : ∀ W, (binOp .eql 25 (.agg #[.int .i64 fN, .int .i64 fR, .string fS]) (.agg #[.int .i64 fN, .int .i64 fR, .string fS])).run Try.prog W = .ok (.bool true) W := fun W => by rw [eql_cell, (cEq_iff fN fR fS fN fR fS).2 ⟨rfl, rfl, rfl⟩]
    go_enter Try.func10, Try.ntmps10
    go_wp2_with (first | go_skip | ((fail_if_success have := kA); (with_reducible apply bx_rec H); rfl; (first | assumption | (refine Hid.out ?_; assumption)); clear H; intro wn kA H) | ((fail_if_success have := kB); (with_reducible apply bx_rec H); rfl; (first | assumption | (refine Hid.out ?_; assumption)); clear H; intro wn kB H) | ((with_reducible apply ld_rec); rfl; rfl; (first | (focus (apply H.rc; (repeat (first | with_reducible exact List.mem_cons_self | with_reducible apply List.mem_cons_of_mem)); done)) | (apply RecAt.bel (hb := H.bel); assumption))) | (go_at_call 33; (with_reducible refine (awake6_c _).mono ?_); rintro e wn ⟨rfl, hb⟩; replace H := H.call hb; clear hb) | (go_at_call 34; first | ((with_reducible refine (few6_v Ha.out hfa.out _ (Hva.out.below H.bel)).mono ?_); rintro e wn ⟨rfl, hb⟩; replace H := H.call hb; clear hb) | ((with_reducible refine (few6_v Hb.out hfb.out _ (Hvb.out.below H.bel)).mono ?_); rintro e wn ⟨rfl, hb⟩; replace H := H.call hb; clear hb)) | (go_at_call 35; (with_reducible refine (rfindD Ha.out hf.out _ (Hva.out.below H.bel)).mono ?_); rintro e wn ⟨rfl, hb⟩; replace H := H.call hb; clear hb) | (go_at_call 36; (with_reducible refine (rffind_v Ha.out hf.out _ (Hva.out.below H.bel)).mono ?_); rintro e wn ⟨rfl, hb⟩; replace H := H.call hb; clear hb) | ((fail_if_success have := Tsx); go_at_call 37; (with_reducible refine (rjoinS Ha.out Hb.out hd.out hj.out _ (Hva.out.below H.bel) (Hvb.out.below H.bel)).mono ?_); rintro e wn ⟨sx, rfl, hs⟩; replace H := H.comp hs; clear hs; simp only [List.cons_append, List.nil_append] at H; have Tsx : Hid (sx.oneCell' = true) := Lib.hid (by obtain ⟨_, _, _, rfl⟩ := H.rowSlice List.mem_cons_self; rfl)) | ((fail_if_success have := Tsy); go_at_call 38; (with_reducible refine (rfjoinS Ha.out Hb.out hd.out hj.out _ (Hva.out.below H.bel) (Hvb.out.below H.bel)).mono ?_); rintro e wn ⟨sy, rfl, hs⟩; replace H := H.comp hs; clear hs; simp only [List.cons_append, List.nil_append] at H; have Tsy : Hid (sy.oneCell' = true) := Lib.hid (by obtain ⟨_, _, _, rfl⟩ := H.rowSlice List.mem_cons_self; rfl)) | ((with_reducible apply al_cel H); clear H; intro wn b H) | ((with_reducible apply st_cel H); rfl; rfl; rfl; (repeat (first | with_reducible apply Upd.head | with_reducible apply Upd.tail)); clear H; intro wn H) | ((with_reducible apply al_rec H); clear H; intro wn b H) | ((with_reducible apply st_rec H); rfl; rfl; rfl; (repeat (first | with_reducible apply Upd.head | with_reducible apply Upd.tail)); (first | assumption | (refine Hid.out ?_; assumption)); (first | rfl | assumption | (refine Hid.out ?_; assumption)); clear H; intro wn H) | ((fail_if_success have := TS); go_at_call 39; (with_reducible refine (rfsame_v Hjo.out Hjo.out hjj.out _ ?_ ?_).mono ?_); (focus (apply H.rowRead; (repeat (first | with_reducible exact List.mem_cons_self | with_reducible apply List.mem_cons_of_mem)); done)); (focus (apply H.rowRead; (repeat (first | with_reducible exact List.mem_cons_self | with_reducible apply List.mem_cons_of_mem)); done)); rintro e wn ⟨rfl, hb⟩; replace H := H.call hb; clear hb; have TS := trivial) | (go_at_call 39; (with_reducible refine (rfsame_v Ha.out Hb.out hsm.out _ (Hva.out.below H.bel) (Hvb.out.below H.bel)).mono ?_); rintro e wn ⟨rfl, hb⟩; replace H := H.call hb; clear hb) | (go_at_call 43; (with_reducible refine (rsameD Ha.out Hb.out hsm.out _ (Hva.out.below H.bel) (Hvb.out.below H.bel)).mono ?_); rintro e wn ⟨rfl, hb⟩; replace H := H.call hb; clear hb) | (go_at_call 41; (with_reducible refine (rfleq_v Ha.out Hb.out hlq.out _ (Hva.out.below H.bel) (Hvb.out.below H.bel)).mono ?_); rintro e wn ⟨rfl, hb⟩; replace H := H.call hb; clear hb) | (go_at_call 44; (with_reducible refine (rleqD Ha.out Hb.out hlq.out _ (Hva.out.below H.bel) (Hvb.out.below H.bel)).mono ?_); rintro e wn ⟨rfl, hb⟩; replace H := H.call hb; clear hb) | (go_at_call 40; (with_reducible refine (rfmay_v Ha.out hma.out _ (Hva.out.below H.bel)).mono ?_); rintro e wn ⟨rfl, hb⟩; replace H := H.call hb; clear hb) | (go_at_call 42; (with_reducible refine (rmayD Ha.out hma.out _ (Hva.out.below H.bel)).mono ?_); rintro e wn ⟨rfl, hb⟩; replace H := H.call hb; clear hb) | ((with_reducible apply ld_cel); rfl; rfl; (first | (focus (apply H.cel; (repeat (first | with_reducible exact List.mem_cons_self | with_reducible apply List.mem_cons_of_mem)); done)) | (apply CelAt.bel (hb := H.bel); assumption))))
    all_goals first | (rw [Exit.noGoto_ret]; go_ret) | go_ret
    all_goals exact ⟨rfl, H.bel⟩
end Go.Proofs.Ytgckgbonhbabpaa
