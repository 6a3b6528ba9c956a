/- Rows of cells that are read, rows that a call owns, and append from whatever row. No program. -/
import Derived.Test.YtgckgbonhbabpaaBase
import Derived.Deep.AppendSrc
import Derived.Deep.OwnRows
import Derived.Lib.AppendStr
import Derived.Lib.ConvBytes
import Derived.Laws.OwnMore
import Derived.Laws.BytesArg
import Derived.Lib.Strings
namespace Go.Proofs.Ytgckgbonhbabpaa
open Go Go.RowKit Go.Deep
set_option linter.unusedVariables false
set_option linter.unusedSimpArgs false

/-- A slice of n elements of so many cells, whose cells read cs. -/
def Row (w : World) (size : Nat) (v : Value) (n : Nat) (cs : List Value) : Prop :=
  cs.length = n * size ∧ ∃ a c, v = .slice a n c ∧ n ≤ c ∧ c ≤ maxLen ∧ (a = none → c = 0) ∧
    (0 < cs.length → ∃ b off, a = some ⟨b, off, none⟩ ∧ ∀ j u, cs[j]? = some u → w.cell? ⟨b, off + j, none⟩ = some u)

theorem Row.keep {w w' : World} {size n : Nat} {v : Value} {cs : List Value} (h : Row w size v n cs) (hk : ∀ b o u, w.cell? ⟨b, o, none⟩ = some u → w'.cell? ⟨b, o, none⟩ = some u) : Row w' size v n cs := by
  obtain ⟨hl, a, c, rfl, h1, h2, h3, h4⟩ := h
  refine ⟨hl, a, c, rfl, h1, h2, h3, fun hp => ?_⟩
  obtain ⟨b, off, rfl, hc⟩ := h4 hp
  exact ⟨b, off, rfl, fun j u hj => hk _ _ _ (hc j u hj)⟩
theorem cell_below {w w' : World} (h : Below w.heap.size w w') (b o : Nat) (u : Value) (hc : w.cell? ⟨b, o, none⟩ = some u) : w'.cell? ⟨b, o, none⟩ = some u :=
  (h.cell (p := ⟨b, o, none⟩) (World.block_lt_of_cell? w _ hc)).trans hc
theorem Row.below {w w' : World} {size n : Nat} {v : Value} {cs : List Value} (h : Row w size v n cs) (hb : Below w.heap.size w w') : Row w' size v n cs := h.keep (cell_below hb)
theorem Row.after {w : World} {size n : Nat} {v : Value} {cs : List Value} (h : Row w size v n cs) (x : After w) : Row x.w size v n cs := h.below x.h
theorem Row.alloc {w : World} {size n : Nat} {v : Value} {cs : List Value} (h : Row w size v n cs) (o : Obj) : Row (w.alloc o) size v n cs := h.below (bel_alloc (Below.refl _ _) o)
theorem Row.drew {w : World} {size n : Nat} {v : Value} {cs : List Value} (h : Row w size v n cs) : Row w.drew size v n cs := h
theorem Row.nil (w : World) (size : Nat) : Row w size (.slice none 0 0) 0 [] := ⟨by simp, none, 0, rfl, Nat.le_refl _, by decide, fun _ => rfl, fun h => by simp at h⟩
theorem Row.len_le {w : World} {size n : Nat} {v : Value} {cs : List Value} (h : Row w size v n cs) : n ≤ maxLen := by obtain ⟨_, a, c, _, h1, h2, _⟩ := h; omega

theorem row_of_own {w : World} {base size n : Nat} {e : TypeId} {v : Value} {cs : List Value} (h : w.ownsRow base e size v n cs) : Row w size v n cs := by
  have hc := fun g => h.cells (g := g)
  obtain ⟨hl, ⟨rfl, rfl⟩ | ⟨g, cap, cur, rfl, hb, hg, h1, h2, h3, h4⟩⟩ := h
  · have : cs = [] := by simpa using hl
    subst this
    exact Row.nil w size
  · refine ⟨hl, some ⟨g, 0, none⟩, cap, rfl, h1, h2, (fun h => by cases h), fun _ => ⟨g, 0, rfl, fun j u hj => ?_⟩⟩
    have := hc g rfl j u hj
    rw [Addr.add_lit] at this
    exact this

/-- What an append can take: a row, or nil. -/
theorem run_append_row {P : Program} {w : World} (base : Nat) (t ty e : TypeId) (i : TypeInfo) (z : Value) (size bytes : Nat) (ht : P.underlying t = some (.slice e)) (hi : P.info? e = some i) (hz : i.zero = some z)
    (hsize : i.size = size) (hby : i.bytes = bytes) (hzs : z.cells.size = size) (hsz : 0 < size)
    (v : Value) (n : Nat) (xs : List Value) (hown : w.ownsRow base e size v n xs)
    (x : Value) (m : Nat) (news : List Value) (hx : Row w size x m news) (h1 : ∀ u ∈ news, u.oneCell' = true)
    (h63 : n + m ≤ maxLen) (hbytes : (n + m) * bytes ≤ 140737488355328) (hbase : base ≤ w.heap.size) :
    ∃ v' w', (Builtin.append_ #[t, t] ty #[v, x]).run P w = .ok v' w' ∧ w'.ownsRow base e size v' (n + m) (xs ++ news) ∧ w.grownBy w' v.ownBlock := by
  obtain ⟨hl, a, c, rfl, k1, k2, k3, k4⟩ := hx
  by_cases hm : m = 0
  · subst hm
    have hn : news = [] := by simpa using hl
    subst hn
    simp only [Nat.add_zero, List.append_nil]
    cases a with
    | none =>
      have hc0 := k3 rfl
      subst hc0
      subst hsize
      obtain ⟨hxl, ⟨rfl, rfl⟩ | ⟨g, cap, cur, rfl, hbg, hg, hnc, hcm, hcs, htake⟩⟩ := id hown
      · refine ⟨.slice none 0 0, w, ?_, hown, ⟨rfl, rfl, rfl, Nat.le_refl _, fun _ _ _ => rfl⟩⟩
        simp [Builtin.append_, run_underlying ht, sizeOf, typeInfo, hi, Builtin.lenOf, Builtin.firstCells, loadCells, loadCellsFrom]
      · have hr := run_append_room_src (P := P) w t t ty e i ht hi g 0 n cap (.slice none 0 0) 0 [] (Src.ofNil w ht 0) (by omega) (by simp) (by simp)
        refine ⟨_, _, hr, ?_, ⟨rfl, rfl, rfl, by simp [World.setCells], fun _ _ _ => by simp [World.setCells]⟩⟩
        simpa [World.setCells] using hown
    | some ad =>
      obtain ⟨v', w', hr, h2, h3, _⟩ := run_append_own (P := P) w base t ty e i z size bytes ht hi hz hsize hby hzs hsz v n xs hown ad 0 c [] (by simp) (by simp) (by simp) (by omega) (by simpa using hbytes) hbase
      exact ⟨v', w', hr, by simpa using h2, h3⟩
  · have hpos : 0 < news.length := by rw [hl]; exact Nat.mul_pos (by omega) hsz
    obtain ⟨b, off, rfl, hc⟩ := k4 hpos
    obtain ⟨v', w', hr, h2, h3, _⟩ := run_append_own (P := P) w base t ty e i z size bytes ht hi hz hsize hby hzs hsz v n xs hown ⟨b, off, none⟩ m c news hl
      (fun j u hj => by rw [Addr.add_lit]; exact hc j u hj) h1 h63 hbytes hbase
    exact ⟨v', w', hr, h2, h3⟩

/-- THE OPERATION, for the walk. -/
theorem wpList_append_row {P : Program} {w : World} {ops : Array Oper} {rest : List Oper} {o : Oper} {a : Act} {Q : Exit → Act → World → Prop} (hgd : o.guard = none) (s x : Operand) (t : TypeId)
    (ho : o.op = .call { callee := .builtin .append, args := #[s, x], argTypes := #[t, t] })
    (base : Nat) (e : TypeId) (z : Value) (size bytes : Nat) (ht : P.underlying t = some (.slice e)) (hinfo : (P.info? e).map (fun i => (i.zero, i.size, i.bytes)) = some (some z, size, bytes))
    (hzs : z.cells.size = size) (hsz : 0 < size)
    (v : Value) (n : Nat) (xs : List Value) (hs : a.eval s = v) (hown : w.ownsRow base e size v n xs)
    (xv : Value) (m : Nat) (news : List Value) (hxv : a.eval x = xv) (hx : Row w size xv m news) (h1 : ∀ u ∈ news, u.oneCell' = true)
    (h63 : n + m ≤ maxLen) (hbytes : (n + m) * bytes ≤ 140737488355328) (hbase : base ≤ w.heap.size)
    (h : ∀ v' w', w'.ownsRow base e size v' (n + m) (xs ++ news) → w.grownBy w' v.ownBlock → wpList P ops Q rest (a.put o.dst v') w') : wpList P ops Q (o :: rest) a w := by
  obtain ⟨i, hi, hzz⟩ := Option.map_eq_some_iff.1 hinfo
  simp only [Prod.mk.injEq] at hzz
  obtain ⟨hz, hsi, hby⟩ := hzz
  refine wpList_plain hgd fun K hK => ?_
  obtain ⟨v', w', hr, h2, h3⟩ := run_append_row (P := P) base t o.type e i z size bytes ht hi hz hsi hby hzs hsz v n xs hown xv m news hx h1 h63 hbytes hbase
  unfold Oper.wp execOp
  simp only [ho, resolve, invoke, builtin, Sem.run_bind, Sem.run_pure, Result.andThen_ok, List.map_toArray, List.map_cons, List.map_nil, hs, hxv, hr]
  exact hK _ _ (h v' w' h2 h3)

/-- What has grown at a row of the call's own, seen from the call's base. -/
theorem bel_grown {w0 w w' : World} {base size n : Nat} {e : TypeId} {v : Value} {xs : List Value} (h : Below w0.heap.size w0 w) (hown : w.ownsRow w0.heap.size e size v n xs) (hg : w.grownBy w' v.ownBlock) : Below w0.heap.size w0 w' :=
  h.grown hg h.size fun k hk => (hown.lt k hk).1

theorem own_lower {w : World} {base base' size n : Nat} {e : TypeId} {v : Value} {xs : List Value} (h : w.ownsRow base e size v n xs) (hb : base' ≤ base) : w.ownsRow base' e size v n xs := by
  obtain ⟨hl, h | ⟨g, cap, cur, rfl, h0, h1⟩⟩ := h
  · exact ⟨hl, .inl h⟩
  · exact ⟨hl, .inr ⟨g, cap, cur, rfl, by omega, h1⟩⟩
theorem own_below {w w' : World} {base size n : Nat} {e : TypeId} {v : Value} {xs : List Value} (h : w.ownsRow base e size v n xs) (hb : Below w.heap.size w w') : w'.ownsRow base e size v n xs := by
  obtain ⟨hl, h | ⟨g, cap, cur, rfl, h0, h1, h2⟩⟩ := h
  · exact ⟨hl, .inl h⟩
  · have hg : g < w.heap.size := (Array.getElem?_eq_some_iff.1 h1).1
    exact ⟨hl, .inr ⟨g, cap, cur, rfl, h0, by rw [hb.block g hg]; exact h1, h2⟩⟩

/-! Bytes -/
def encU (bs : List UInt8) : List Value := bs.map fun b => .int .u8 (b.toNat : Int)
theorem encU_length (bs : List UInt8) : (encU bs).length = bs.length := by simp [encU]
theorem encU_append (a b : List UInt8) : encU (a ++ b) = encU a ++ encU b := by simp [encU]
theorem encU_get (bs : List UInt8) (j : Nat) : (encU bs)[j]? = (bs[j]?).map fun b => .int .u8 (b.toNat : Int) := by simp [encU]
theorem encU_one (bs : List UInt8) : ∀ u ∈ encU bs, u.oneCell' = true := by
  intro u hu
  obtain ⟨b, _, rfl⟩ := List.mem_map.1 hu
  rfl
theorem encU_strCells (s : ByteArray) : Lib.strCells s = encU s.data.toList := rfl
def Byt (w : World) (v : Value) (bs : List UInt8) : Prop := Row w 1 v bs.length (encU bs)
theorem Byt.row {w : World} {v : Value} {bs : List UInt8} (h : Byt w v bs) : Row w 1 v bs.length (encU bs) := h
theorem Byt.open_ {w : World} {v : Value} {bs : List UInt8} (h : Byt w v bs) : ∃ a c, v = .slice a bs.length c ∧ bs.length ≤ c ∧ c ≤ maxLen ∧ (a = none → c = 0) ∧
    (0 < bs.length → ∃ b off, a = some ⟨b, off, none⟩ ∧ ∀ j, j < bs.length → w.cell? ⟨b, off + j, none⟩ = some (.int .u8 ((bs.getD j 0).toNat : Int))) := by
  obtain ⟨hl, a, c, rfl, h1, h2, h3, h4⟩ := h
  refine ⟨a, c, rfl, h1, h2, h3, fun hp => ?_⟩
  obtain ⟨b, off, rfl, hc⟩ := h4 (by simpa [encU] using hp)
  refine ⟨b, off, rfl, fun j hj => hc j _ ?_⟩
  rw [encU_get, List.getElem?_eq_getElem hj]
  simp [List.getD_eq_getElem?_getD, List.getElem?_eq_getElem hj]
theorem Byt.below {w w' : World} {v : Value} {bs : List UInt8} (h : Byt w v bs) (hb : Below w.heap.size w w') : Byt w' v bs := Row.below h hb
theorem Byt.after {w : World} {v : Value} {bs : List UInt8} (h : Byt w v bs) (x : After w) : Byt x.w v bs := Row.after h x
theorem Byt.alloc {w : World} {v : Value} {bs : List UInt8} (h : Byt w v bs) (o : Obj) : Byt (w.alloc o) v bs := Row.alloc h o
theorem Byt.drew {w : World} {v : Value} {bs : List UInt8} (h : Byt w v bs) : Byt w.drew v bs := h

/-- A slice of bytes that the call owns. -/
def OwnU (base : Nat) (w : World) (e : TypeId) (v : Value) (bs : List UInt8) : Prop := w.ownsRow base e 1 v bs.length (encU bs)
theorem OwnU.byt {base : Nat} {w : World} {e : TypeId} {v : Value} {bs : List UInt8} (h : OwnU base w e v bs) : Byt w v bs := row_of_own h
/-- What a maker of bytes leaves. -/
def MadeU (e : TypeId) (bs : List UInt8) (w : World) (x : Ending) (w' : World) : Prop := ∃ v, x = .returned v ∧ OwnU w.heap.size w' e v bs ∧ Below w.heap.size w w'


/-- A list of bytes as a text. -/
def bstr (bs : List UInt8) : ByteArray := ⟨bs.toArray⟩
theorem bstr_toList (bs : List UInt8) : (bstr bs).toList = bs := by rw [ByteArray.toList_eq]; rfl
theorem bstr_data (bs : List UInt8) : (bstr bs).data.toList = bs := rfl
theorem bstr_size (bs : List UInt8) : (bstr bs).size = bs.length := rfl
theorem bstr_inj {a b : List UInt8} (h : bstr a = bstr b) : a = b := by have := congrArg ByteArray.toList h; rwa [bstr_toList, bstr_toList] at this
theorem bstr_of (s : ByteArray) : bstr s.data.toList = s := rfl

theorem conv_bytes {P : Program} {w : World} (src dst e : TypeId) (hs : P.underlying src = some (.slice e)) (he : P.underlying e = some (.int .u8)) (hd : P.underlying dst = some .string)
    {v : Value} {bs : List UInt8} (h : Byt w v bs) : (convert src dst v).run P w = .ok (.string (bstr bs)) w := by
  obtain ⟨a, c, rfl, h1, h2, h3, h4⟩ := h.open_
  cases a with
  | none =>
    have hc := h3 rfl
    have hb : bs = [] := List.eq_nil_of_length_eq_zero (by omega)
    subst hb
    exact run_convert_bytes_nil w src e hs he _ _ dst hd
  | some ad =>
    by_cases hp : 0 < bs.length
    · obtain ⟨b, off, he', hc⟩ := h4 hp
      cases he'
      have := run_convert_bytes_arg w src e hs he b off bs.length c (bs.map fun b => (b.toNat : Int)) (by simp) (fun i hi => by
        rw [hc i hi]
        congr 2
        simp [List.getD_eq_getElem?_getD, List.getElem?_eq_getElem hi]) dst hd
      rw [this]
      congr 2
      have e : ((fun n : Int => UInt8.ofNat n.toNat) ∘ fun b : UInt8 => (b.toNat : Int)) = id := by funext b; simp
      simp [strOfNums, bstr, e]
    · have hb : bs = [] := List.eq_nil_of_length_eq_zero (by omega)
      subst hb
      rw [run_convert_bytes_string w src dst e _ _ _ hs he hd, run_bytesToString w ad _ c [] (by simp [loadCells, loadCellsFrom])]
      rfl

theorem Byt.take {w : World} {a : Option Addr} {c : Nat} {bs : List UInt8} (h : Byt w (.slice a bs.length c) bs) (k : Nat) (hk : k ≤ bs.length) : Byt w (.slice a k c) (bs.take k) := by
  obtain ⟨a', c', he, h1, h2, h3, h4⟩ := Byt.open_ h
  injection he with e1 e2 e3
  subst e1; subst e3
  have hl : (bs.take k).length = k := by simp; omega
  refine ⟨by simp [encU_length], a, c, by rw [hl], by rw [hl]; omega, h2, h3, fun hp => ?_⟩
  have hp' : 0 < bs.length := by rw [encU_length, hl] at hp; omega
  obtain ⟨b, off, rfl, hc⟩ := h4 hp'
  refine ⟨b, off, rfl, fun j u hj => ?_⟩
  rw [encU_get, List.getElem?_take] at hj
  split at hj
  · rename_i hjk
    rw [hc j (by omega)]
    rw [List.getElem?_eq_getElem (by omega)] at hj
    simp at hj
    rw [← hj, List.getD_eq_getElem?_getD, List.getElem?_eq_getElem (by omega)]; rfl
  · cases hj

end Go.Proofs.Ytgckgbonhbabpaa
