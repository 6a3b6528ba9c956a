/-
  No cell of these rows narrows 'for every input' (looked for: loops, veiled, ifaces, maps, wideKeys, modest, calm, conditions, laid).
  DERIVED. THE GIVEN ROWS OF THIS SEAT. 4 by the template 'for every input the law returns true; each argument reads behind the call as it read before'; 0 by the template 'total and deterministic' (their statements: YtolbmemogoojhaaGreatTotals.lean).
  GIVEN WITH THE SEED: the statements are not yours to turn. If you find one false, say at which input.
  Laid BY PROGRAM, IN A SANDBOX (cutbox-rows.mjs): the forced cells as the released guide's own fill.sh prints them over the translation bc0e73ccd16da0ae… (all of the seat's roots in one cut). By AI agents, Wed Nov 11 2026. No macro, syntax, notation, axiom, sorry.
-/
import Derived.Test.YtolbmemogoojhaaGreatChecked
import GoSem.Claim
import GoSem.ClaimJoined
import GoSem.ClaimMapViews
import Derived.JoinedTies
import Derived.KernelRfl
namespace Go.Proofs.YtolbmemogoojhaaGreat
/- THE CELL 'sum', in the pinned program and in every row, IS THE sha256 OF THE DUMP (.gsa) THAT YtolbmemogoojhaaGreatProg.lean LOADS. Nothing in Lean hashes anything: it is a label: what it is worth is what the hold of that sum in a sandbox is worth. -/
noncomputable def Tryz.pinned : Pinned := { name := "ytolbmemogoojhaagreat", sum := "bc0e73ccd16da0ae1c600901a3f0fe41df5ccd710d39b124c536cfedf5a47537", checked := Tryz.checked }
namespace Rows
def none {H : Type} : Left H := { results := [], args := [] }

/-- 'rolodexlaw07.BookTells': WHATEVER THE INPUT: true; the input reads as it did. -/
def bookTellsSpec : ChangeSpec := { name := "bookTells", fn := fun _ => fun
  | [d1, d2, d3, d4] => { results := [.lit (.bool true)], args := [d1, d2, d3, d4] }
  | _ => none }
def bookTellsRow : OpenClaim := { program := "ytolbmemogoojhaagreat", sum := "bc0e73ccd16da0ae1c600901a3f0fe41df5ccd710d39b124c536cfedf5a47537", func := "rolodex/rolodexlaw07.BookTells", spec := "bookTells", inPlace := ["internal/bytealg.Compare"], unfollowed := true, recurses := true, plainKeys := false, apart := false }
def BookTellsSaid : Prop := bookTellsRow.holds Tryz.pinned (OpenSpec.ofChange bookTellsSpec)

/-- ITS FALSE NEIGHBOUR: 'it returns false'. Refute it at one input. -/
def bookTellsWrong : ChangeSpec := { name := "bookTells", fn := fun _ => fun
  | [d1, d2, d3, d4] => { results := [.lit (.bool false)], args := [d1, d2, d3, d4] }
  | _ => none }
def BookTellsWrongFalsely : Prop := bookTellsRow.holds Tryz.pinned (OpenSpec.ofChange bookTellsWrong)

/-- 'rolodexlaw07.BookWrites': WHATEVER THE INPUT: true; the input reads as it did. -/
def bookWritesSpec : ChangeSpec := { name := "bookWrites", fn := fun _ => fun
  | [d1, d2, d3, d4, d5] => { results := [.lit (.bool true)], args := [d1, d2, d3, d4, d5] }
  | _ => none }
def bookWritesRow : OpenClaim := { program := "ytolbmemogoojhaagreat", sum := "bc0e73ccd16da0ae1c600901a3f0fe41df5ccd710d39b124c536cfedf5a47537", func := "rolodex/rolodexlaw07.BookWrites", spec := "bookWrites", inPlace := ["internal/bytealg.Compare"], unfollowed := true, recurses := true, plainKeys := false, apart := false }
def BookWritesSaid : Prop := bookWritesRow.holds Tryz.pinned (OpenSpec.ofChange bookWritesSpec)

/-- ITS FALSE NEIGHBOUR: 'it returns false'. Refute it at one input. -/
def bookWritesWrong : ChangeSpec := { name := "bookWrites", fn := fun _ => fun
  | [d1, d2, d3, d4, d5] => { results := [.lit (.bool false)], args := [d1, d2, d3, d4, d5] }
  | _ => none }
def BookWritesWrongFalsely : Prop := bookWritesRow.holds Tryz.pinned (OpenSpec.ofChange bookWritesWrong)

/-- 'rolodexlaw22.AuditTells': WHATEVER THE INPUT: true; the input reads as it did. -/
def auditTellsSpec : ChangeSpec := { name := "auditTells", fn := fun _ => fun
  | [d1, d2, d3] => { results := [.lit (.bool true)], args := [d1, d2, d3] }
  | _ => none }
def auditTellsRow : OpenClaim := { program := "ytolbmemogoojhaagreat", sum := "bc0e73ccd16da0ae1c600901a3f0fe41df5ccd710d39b124c536cfedf5a47537", func := "rolodex/rolodexlaw22.AuditTells", spec := "auditTells", inPlace := ["internal/bytealg.Compare"], unfollowed := true, recurses := true, plainKeys := false, apart := false }
def AuditTellsSaid : Prop := auditTellsRow.holds Tryz.pinned (OpenSpec.ofChange auditTellsSpec)

/-- ITS FALSE NEIGHBOUR: 'it returns false'. Refute it at one input. -/
def auditTellsWrong : ChangeSpec := { name := "auditTells", fn := fun _ => fun
  | [d1, d2, d3] => { results := [.lit (.bool false)], args := [d1, d2, d3] }
  | _ => none }
def AuditTellsWrongFalsely : Prop := auditTellsRow.holds Tryz.pinned (OpenSpec.ofChange auditTellsWrong)

/-- 'rolodexlaw08.CanonTells': WHATEVER THE INPUT: true; the input reads as it did. -/
def canonTellsSpec : ChangeSpec := { name := "canonTells", fn := fun _ => fun
  | [d1, d2] => { results := [.lit (.bool true)], args := [d1, d2] }
  | _ => none }
def canonTellsRow : OpenClaim := { program := "ytolbmemogoojhaagreat", sum := "bc0e73ccd16da0ae1c600901a3f0fe41df5ccd710d39b124c536cfedf5a47537", func := "rolodex/rolodexlaw08.CanonTells", spec := "canonTells", inPlace := ["internal/bytealg.Compare"], unfollowed := true, recurses := true, plainKeys := false, apart := false }
def CanonTellsSaid : Prop := canonTellsRow.holds Tryz.pinned (OpenSpec.ofChange canonTellsSpec)

/-- ITS FALSE NEIGHBOUR: 'it returns false'. Refute it at one input. -/
def canonTellsWrong : ChangeSpec := { name := "canonTells", fn := fun _ => fun
  | [d1, d2] => { results := [.lit (.bool false)], args := [d1, d2] }
  | _ => none }
def CanonTellsWrongFalsely : Prop := canonTellsRow.holds Tryz.pinned (OpenSpec.ofChange canonTellsWrong)

/- THE SECOND FORM. 'bulk': how many values and letters a reading holds, each counted each time it is reached (what is shared counts as often as it is met; a slice's spare places count too). A statement '..UptoSaid' is the law's where the arguments, and the package variables that the reading takes, are together of bulk at most 1048576: NARROWER than '..Said'. Prove '..Said' where nothing that the law and all that it calls make is longer than what came in: it says more and counts as full. Else prove '..UptoSaid'. A law counts once. -/
mutual
def uptoBulk {H : Type} : DataW H → Nat
  | .lit (.string bytes) => bytes.length + 1
  | .lit _ => 1
  | .nil => 1
  | .ptr d => uptoBulk d + 1
  | .slice elems spare => uptoBulkAll elems + uptoBulkAll spare + 1
  | .agg parts => uptoBulkAll parts + 1
  | .iface _ d => uptoBulk d + 1
  | .map entries => uptoBulkEntries entries + 1
  | .held _ => 1
def uptoBulkAll {H : Type} : List (DataW H) → Nat
  | [] => 0
  | d :: r => uptoBulk d + uptoBulkAll r
def uptoBulkEntries {H : Type} : List (Lit × DataW H) → Nat
  | [] => 0
  | x :: r => uptoBulkEntry x + uptoBulkEntries r
def uptoBulkEntry {H : Type} : Lit × DataW H → Nat
  | (.string bytes, d) => bytes.length + uptoBulk d + 1
  | (_, d) => uptoBulk d + 1
 end
def uptoSmall : (H : Type) → List (DataW H) → Bool := fun _ ds => decide (uptoBulkAll ds ≤ 1048576)
def OpenSpec.upto (s : _root_.Go.ChangeSpec) : _root_.Go.OpenSpec := { _root_.Go.OpenSpec.ofChange s with cond := some uptoSmall }

/-- 'rolodexlaw07.BookTells', WHERE WHAT IT READS IS OF BULK AT MOST 1048576: true; the input reads as it did. -/
def bookTellsUptoRow : OpenClaim := { program := "ytolbmemogoojhaagreat", sum := "bc0e73ccd16da0ae1c600901a3f0fe41df5ccd710d39b124c536cfedf5a47537", func := "rolodex/rolodexlaw07.BookTells", spec := "bookTells", inPlace := ["internal/bytealg.Compare"], unfollowed := true, recurses := true, plainKeys := false, apart := false, narrowed := true }
def BookTellsUptoSaid : Prop := bookTellsUptoRow.holds Tryz.pinned (OpenSpec.upto bookTellsSpec)

/-- 'rolodexlaw07.BookWrites', WHERE WHAT IT READS IS OF BULK AT MOST 1048576: true; the input reads as it did. -/
def bookWritesUptoRow : OpenClaim := { program := "ytolbmemogoojhaagreat", sum := "bc0e73ccd16da0ae1c600901a3f0fe41df5ccd710d39b124c536cfedf5a47537", func := "rolodex/rolodexlaw07.BookWrites", spec := "bookWrites", inPlace := ["internal/bytealg.Compare"], unfollowed := true, recurses := true, plainKeys := false, apart := false, narrowed := true }
def BookWritesUptoSaid : Prop := bookWritesUptoRow.holds Tryz.pinned (OpenSpec.upto bookWritesSpec)

/-- 'rolodexlaw22.AuditTells', WHERE WHAT IT READS IS OF BULK AT MOST 1048576: true; the input reads as it did. -/
def auditTellsUptoRow : OpenClaim := { program := "ytolbmemogoojhaagreat", sum := "bc0e73ccd16da0ae1c600901a3f0fe41df5ccd710d39b124c536cfedf5a47537", func := "rolodex/rolodexlaw22.AuditTells", spec := "auditTells", inPlace := ["internal/bytealg.Compare"], unfollowed := true, recurses := true, plainKeys := false, apart := false, narrowed := true }
def AuditTellsUptoSaid : Prop := auditTellsUptoRow.holds Tryz.pinned (OpenSpec.upto auditTellsSpec)

/-- 'rolodexlaw08.CanonTells', WHERE WHAT IT READS IS OF BULK AT MOST 1048576: true; the input reads as it did. -/
def canonTellsUptoRow : OpenClaim := { program := "ytolbmemogoojhaagreat", sum := "bc0e73ccd16da0ae1c600901a3f0fe41df5ccd710d39b124c536cfedf5a47537", func := "rolodex/rolodexlaw08.CanonTells", spec := "canonTells", inPlace := ["internal/bytealg.Compare"], unfollowed := true, recurses := true, plainKeys := false, apart := false, narrowed := true }
def CanonTellsUptoSaid : Prop := canonTellsUptoRow.holds Tryz.pinned (OpenSpec.upto canonTellsSpec)

end Rows
end Go.Proofs.YtolbmemogoojhaaGreat
