/-
  No cell of these rows narrows 'for every input' (looked for: loops, veiled, ifaces, maps, wideKeys, modest, calm, conditions, laid).
  DERIVED. THE GIVEN ROWS OF THIS SEAT. 14 by the template 'for every input the law returns true; each argument reads behind the call as it read before'; 0 by the template 'total and deterministic' (their statements: YtgckgbonhbabpaaTotals.lean).
  GIVEN WITH THE SEED: the statements are not yours to turn. If you find one false, say at which input.
  Laid BY PROGRAM, IN A SANDBOX (cutbox-rows.mjs): the forced cells as the released guide's own fill.sh prints them over the translation fd21b06791b00b11… (all of the seat's roots in one cut). By AI agents, Wed Nov 11 2026. No macro, syntax, notation, axiom, sorry.
-/
import Derived.Test.YtgckgbonhbabpaaChecked
import GoSem.Claim
import GoSem.ClaimJoined
import GoSem.ClaimMapViews
import Derived.JoinedTies
import Derived.KernelRfl
namespace Go.Proofs.Ytgckgbonhbabpaa
/- THE CELL 'sum', in the pinned program and in every row, IS THE sha256 OF THE DUMP (.gsa) THAT YtgckgbonhbabpaaProg.lean LOADS. Nothing in Lean hashes anything: it is a label: what it is worth is what the hold of that sum in a sandbox is worth. -/
noncomputable def Try.pinned : Pinned := { name := "ytgckgbonhbabpaa", sum := "fd21b06791b00b11d76601a25e2381400205dd58cf21f3c36757fbf5f3fce7e8", checked := Try.checked }
namespace Rows
def none {H : Type} : Left H := { results := [], args := [] }

/-- 'rolodexlaw05.CellTells': WHATEVER THE INPUT: true; the input reads as it did. -/
def cellTellsSpec : ChangeSpec := { name := "cellTells", fn := fun _ => fun
  | [d1, d2, d3] => { results := [.lit (.bool true)], args := [d1, d2, d3] }
  | _ => none }
def cellTellsRow : OpenClaim := { program := "ytgckgbonhbabpaa", sum := "fd21b06791b00b11d76601a25e2381400205dd58cf21f3c36757fbf5f3fce7e8", func := "rolodex/rolodexlaw05.CellTells", spec := "cellTells", inPlace := ["internal/bytealg.Compare"], unfollowed := true, recurses := true, apart := false }
def CellTellsSaid : Prop := cellTellsRow.holds Try.pinned (OpenSpec.ofChange cellTellsSpec)

/-- ITS FALSE NEIGHBOUR: 'it returns false'. Refute it at one input. -/
def cellTellsWrong : ChangeSpec := { name := "cellTells", fn := fun _ => fun
  | [d1, d2, d3] => { results := [.lit (.bool false)], args := [d1, d2, d3] }
  | _ => none }
def CellTellsWrongFalsely : Prop := cellTellsRow.holds Try.pinned (OpenSpec.ofChange cellTellsWrong)

/-- 'rolodexlaw05.CellJoins': WHATEVER THE INPUT: true; the input reads as it did. -/
def cellJoinsSpec : ChangeSpec := { name := "cellJoins", fn := fun _ => fun
  | [d1, d2, d3] => { results := [.lit (.bool true)], args := [d1, d2, d3] }
  | _ => none }
def cellJoinsRow : OpenClaim := { program := "ytgckgbonhbabpaa", sum := "fd21b06791b00b11d76601a25e2381400205dd58cf21f3c36757fbf5f3fce7e8", func := "rolodex/rolodexlaw05.CellJoins", spec := "cellJoins", inPlace := ["internal/bytealg.Compare"], unfollowed := true, recurses := true, apart := false }
def CellJoinsSaid : Prop := cellJoinsRow.holds Try.pinned (OpenSpec.ofChange cellJoinsSpec)

/-- ITS FALSE NEIGHBOUR: 'it returns false'. Refute it at one input. -/
def cellJoinsWrong : ChangeSpec := { name := "cellJoins", fn := fun _ => fun
  | [d1, d2, d3] => { results := [.lit (.bool false)], args := [d1, d2, d3] }
  | _ => none }
def CellJoinsWrongFalsely : Prop := cellJoinsRow.holds Try.pinned (OpenSpec.ofChange cellJoinsWrong)

/-- 'rolodexlaw05.CellOrder': WHATEVER THE INPUT: true; the input reads as it did. -/
def cellOrderSpec : ChangeSpec := { name := "cellOrder", fn := fun _ => fun
  | [d1, d2, d3] => { results := [.lit (.bool true)], args := [d1, d2, d3] }
  | _ => none }
def cellOrderRow : OpenClaim := { program := "ytgckgbonhbabpaa", sum := "fd21b06791b00b11d76601a25e2381400205dd58cf21f3c36757fbf5f3fce7e8", func := "rolodex/rolodexlaw05.CellOrder", spec := "cellOrder", inPlace := ["internal/bytealg.Compare"], unfollowed := true, recurses := true, apart := false }
def CellOrderSaid : Prop := cellOrderRow.holds Try.pinned (OpenSpec.ofChange cellOrderSpec)

/-- ITS FALSE NEIGHBOUR: 'it returns false'. Refute it at one input. -/
def cellOrderWrong : ChangeSpec := { name := "cellOrder", fn := fun _ => fun
  | [d1, d2, d3] => { results := [.lit (.bool false)], args := [d1, d2, d3] }
  | _ => none }
def CellOrderWrongFalsely : Prop := cellOrderRow.holds Try.pinned (OpenSpec.ofChange cellOrderWrong)

/-- 'rolodexlaw05.CellBack': WHATEVER THE INPUT: true; the input reads as it did. -/
def cellBackSpec : ChangeSpec := { name := "cellBack", fn := fun _ => fun
  | [d1, d2] => { results := [.lit (.bool true)], args := [d1, d2] }
  | _ => none }
def cellBackRow : OpenClaim := { program := "ytgckgbonhbabpaa", sum := "fd21b06791b00b11d76601a25e2381400205dd58cf21f3c36757fbf5f3fce7e8", func := "rolodex/rolodexlaw05.CellBack", spec := "cellBack", inPlace := ["internal/bytealg.Compare"], unfollowed := true, recurses := true, apart := false }
def CellBackSaid : Prop := cellBackRow.holds Try.pinned (OpenSpec.ofChange cellBackSpec)

/-- ITS FALSE NEIGHBOUR: 'it returns false'. Refute it at one input. -/
def cellBackWrong : ChangeSpec := { name := "cellBack", fn := fun _ => fun
  | [d1, d2] => { results := [.lit (.bool false)], args := [d1, d2] }
  | _ => none }
def CellBackWrongFalsely : Prop := cellBackRow.holds Try.pinned (OpenSpec.ofChange cellBackWrong)

/-- 'rolodexlaw05.CellCut': WHATEVER THE INPUT: true; the input reads as it did. -/
def cellCutSpec : ChangeSpec := { name := "cellCut", fn := fun _ => fun
  | [d1, d2] => { results := [.lit (.bool true)], args := [d1, d2] }
  | _ => none }
def cellCutRow : OpenClaim := { program := "ytgckgbonhbabpaa", sum := "fd21b06791b00b11d76601a25e2381400205dd58cf21f3c36757fbf5f3fce7e8", func := "rolodex/rolodexlaw05.CellCut", spec := "cellCut", inPlace := ["internal/bytealg.Compare"], unfollowed := true, recurses := true, apart := false }
def CellCutSaid : Prop := cellCutRow.holds Try.pinned (OpenSpec.ofChange cellCutSpec)

/-- ITS FALSE NEIGHBOUR: 'it returns false'. Refute it at one input. -/
def cellCutWrong : ChangeSpec := { name := "cellCut", fn := fun _ => fun
  | [d1, d2] => { results := [.lit (.bool false)], args := [d1, d2] }
  | _ => none }
def CellCutWrongFalsely : Prop := cellCutRow.holds Try.pinned (OpenSpec.ofChange cellCutWrong)

/-- 'rolodexlaw05.CellLists': WHATEVER THE INPUT: true; the input reads as it did. -/
def cellListsSpec : ChangeSpec := { name := "cellLists", fn := fun _ => fun
  | [d] => { results := [.lit (.bool true)], args := [d] }
  | _ => none }
def cellListsRow : OpenClaim := { program := "ytgckgbonhbabpaa", sum := "fd21b06791b00b11d76601a25e2381400205dd58cf21f3c36757fbf5f3fce7e8", func := "rolodex/rolodexlaw05.CellLists", spec := "cellLists", inPlace := ["internal/bytealg.Compare"], unfollowed := true, recurses := true, apart := false }
def CellListsSaid : Prop := cellListsRow.holds Try.pinned (OpenSpec.ofChange cellListsSpec)

/-- ITS FALSE NEIGHBOUR: 'it returns false'. Refute it at one input. -/
def cellListsWrong : ChangeSpec := { name := "cellLists", fn := fun _ => fun
  | [d] => { results := [.lit (.bool false)], args := [d] }
  | _ => none }
def CellListsWrongFalsely : Prop := cellListsRow.holds Try.pinned (OpenSpec.ofChange cellListsWrong)

/-- 'rolodexlaw05.CellLater': WHATEVER THE INPUT: true; the input reads as it did. -/
def cellLaterSpec : ChangeSpec := { name := "cellLater", fn := fun _ => fun
  | [d1, d2, d3] => { results := [.lit (.bool true)], args := [d1, d2, d3] }
  | _ => none }
def cellLaterRow : OpenClaim := { program := "ytgckgbonhbabpaa", sum := "fd21b06791b00b11d76601a25e2381400205dd58cf21f3c36757fbf5f3fce7e8", func := "rolodex/rolodexlaw05.CellLater", spec := "cellLater", inPlace := ["internal/bytealg.Compare"], unfollowed := true, recurses := true, apart := false }
def CellLaterSaid : Prop := cellLaterRow.holds Try.pinned (OpenSpec.ofChange cellLaterSpec)

/-- ITS FALSE NEIGHBOUR: 'it returns false'. Refute it at one input. -/
def cellLaterWrong : ChangeSpec := { name := "cellLater", fn := fun _ => fun
  | [d1, d2, d3] => { results := [.lit (.bool false)], args := [d1, d2, d3] }
  | _ => none }
def CellLaterWrongFalsely : Prop := cellLaterRow.holds Try.pinned (OpenSpec.ofChange cellLaterWrong)

/-- 'rolodexlaw06.RecTells': WHATEVER THE INPUT: true; the input reads as it did. -/
def recTellsSpec : ChangeSpec := { name := "recTells", fn := fun _ => fun
  | [d1, d2, d3] => { results := [.lit (.bool true)], args := [d1, d2, d3] }
  | _ => none }
def recTellsRow : OpenClaim := { program := "ytgckgbonhbabpaa", sum := "fd21b06791b00b11d76601a25e2381400205dd58cf21f3c36757fbf5f3fce7e8", func := "rolodex/rolodexlaw06.RecTells", spec := "recTells", inPlace := ["internal/bytealg.Compare"], unfollowed := true, recurses := true, apart := false }
def RecTellsSaid : Prop := recTellsRow.holds Try.pinned (OpenSpec.ofChange recTellsSpec)

/-- ITS FALSE NEIGHBOUR: 'it returns false'. Refute it at one input. -/
def recTellsWrong : ChangeSpec := { name := "recTells", fn := fun _ => fun
  | [d1, d2, d3] => { results := [.lit (.bool false)], args := [d1, d2, d3] }
  | _ => none }
def RecTellsWrongFalsely : Prop := recTellsRow.holds Try.pinned (OpenSpec.ofChange recTellsWrong)

/-- 'rolodexlaw06.RecJoins': WHATEVER THE INPUT: true; the input reads as it did. -/
def recJoinsSpec : ChangeSpec := { name := "recJoins", fn := fun _ => fun
  | [d1, d2, d3] => { results := [.lit (.bool true)], args := [d1, d2, d3] }
  | _ => none }
def recJoinsRow : OpenClaim := { program := "ytgckgbonhbabpaa", sum := "fd21b06791b00b11d76601a25e2381400205dd58cf21f3c36757fbf5f3fce7e8", func := "rolodex/rolodexlaw06.RecJoins", spec := "recJoins", inPlace := ["internal/bytealg.Compare"], unfollowed := true, recurses := true, apart := false }
def RecJoinsSaid : Prop := recJoinsRow.holds Try.pinned (OpenSpec.ofChange recJoinsSpec)

/-- ITS FALSE NEIGHBOUR: 'it returns false'. Refute it at one input. -/
def recJoinsWrong : ChangeSpec := { name := "recJoins", fn := fun _ => fun
  | [d1, d2, d3] => { results := [.lit (.bool false)], args := [d1, d2, d3] }
  | _ => none }
def RecJoinsWrongFalsely : Prop := recJoinsRow.holds Try.pinned (OpenSpec.ofChange recJoinsWrong)

/-- 'rolodexlaw06.RecOrder': WHATEVER THE INPUT: true; the input reads as it did. -/
def recOrderSpec : ChangeSpec := { name := "recOrder", fn := fun _ => fun
  | [d1, d2, d3] => { results := [.lit (.bool true)], args := [d1, d2, d3] }
  | _ => none }
def recOrderRow : OpenClaim := { program := "ytgckgbonhbabpaa", sum := "fd21b06791b00b11d76601a25e2381400205dd58cf21f3c36757fbf5f3fce7e8", func := "rolodex/rolodexlaw06.RecOrder", spec := "recOrder", inPlace := ["internal/bytealg.Compare"], unfollowed := true, recurses := true, apart := false }
def RecOrderSaid : Prop := recOrderRow.holds Try.pinned (OpenSpec.ofChange recOrderSpec)

/-- ITS FALSE NEIGHBOUR: 'it returns false'. Refute it at one input. -/
def recOrderWrong : ChangeSpec := { name := "recOrder", fn := fun _ => fun
  | [d1, d2, d3] => { results := [.lit (.bool false)], args := [d1, d2, d3] }
  | _ => none }
def RecOrderWrongFalsely : Prop := recOrderRow.holds Try.pinned (OpenSpec.ofChange recOrderWrong)

/-- 'rolodexlaw06.RecCells': WHATEVER THE INPUT: true; the input reads as it did. -/
def recCellsSpec : ChangeSpec := { name := "recCells", fn := fun _ => fun
  | [d1, d2, d3] => { results := [.lit (.bool true)], args := [d1, d2, d3] }
  | _ => none }
def recCellsRow : OpenClaim := { program := "ytgckgbonhbabpaa", sum := "fd21b06791b00b11d76601a25e2381400205dd58cf21f3c36757fbf5f3fce7e8", func := "rolodex/rolodexlaw06.RecCells", spec := "recCells", inPlace := ["internal/bytealg.Compare"], unfollowed := true, recurses := true, apart := false }
def RecCellsSaid : Prop := recCellsRow.holds Try.pinned (OpenSpec.ofChange recCellsSpec)

/-- ITS FALSE NEIGHBOUR: 'it returns false'. Refute it at one input. -/
def recCellsWrong : ChangeSpec := { name := "recCells", fn := fun _ => fun
  | [d1, d2, d3] => { results := [.lit (.bool false)], args := [d1, d2, d3] }
  | _ => none }
def RecCellsWrongFalsely : Prop := recCellsRow.holds Try.pinned (OpenSpec.ofChange recCellsWrong)

/-- 'rolodexlaw06.RecDead': WHATEVER THE INPUT: true; the input reads as it did. -/
def recDeadSpec : ChangeSpec := { name := "recDead", fn := fun _ => fun
  | [d1, d2, d3] => { results := [.lit (.bool true)], args := [d1, d2, d3] }
  | _ => none }
def recDeadRow : OpenClaim := { program := "ytgckgbonhbabpaa", sum := "fd21b06791b00b11d76601a25e2381400205dd58cf21f3c36757fbf5f3fce7e8", func := "rolodex/rolodexlaw06.RecDead", spec := "recDead", inPlace := ["internal/bytealg.Compare"], unfollowed := true, recurses := true, apart := false }
def RecDeadSaid : Prop := recDeadRow.holds Try.pinned (OpenSpec.ofChange recDeadSpec)

/-- ITS FALSE NEIGHBOUR: 'it returns false'. Refute it at one input. -/
def recDeadWrong : ChangeSpec := { name := "recDead", fn := fun _ => fun
  | [d1, d2, d3] => { results := [.lit (.bool false)], args := [d1, d2, d3] }
  | _ => none }
def RecDeadWrongFalsely : Prop := recDeadRow.holds Try.pinned (OpenSpec.ofChange recDeadWrong)

/-- 'rolodexlaw06.RecOnly': WHATEVER THE INPUT: true; the input reads as it did. -/
def recOnlySpec : ChangeSpec := { name := "recOnly", fn := fun _ => fun
  | [d] => { results := [.lit (.bool true)], args := [d] }
  | _ => none }
def recOnlyRow : OpenClaim := { program := "ytgckgbonhbabpaa", sum := "fd21b06791b00b11d76601a25e2381400205dd58cf21f3c36757fbf5f3fce7e8", func := "rolodex/rolodexlaw06.RecOnly", spec := "recOnly", inPlace := ["internal/bytealg.Compare"], unfollowed := true, recurses := true, apart := false }
def RecOnlySaid : Prop := recOnlyRow.holds Try.pinned (OpenSpec.ofChange recOnlySpec)

/-- ITS FALSE NEIGHBOUR: 'it returns false'. Refute it at one input. -/
def recOnlyWrong : ChangeSpec := { name := "recOnly", fn := fun _ => fun
  | [d] => { results := [.lit (.bool false)], args := [d] }
  | _ => none }
def RecOnlyWrongFalsely : Prop := recOnlyRow.holds Try.pinned (OpenSpec.ofChange recOnlyWrong)

/-- 'rolodexlaw06.RecWrong': WHATEVER THE INPUT: true; the input reads as it did. -/
def recWrongSpec : ChangeSpec := { name := "recWrong", fn := fun _ => fun
  | [d1, d2] => { results := [.lit (.bool true)], args := [d1, d2] }
  | _ => none }
def recWrongRow : OpenClaim := { program := "ytgckgbonhbabpaa", sum := "fd21b06791b00b11d76601a25e2381400205dd58cf21f3c36757fbf5f3fce7e8", func := "rolodex/rolodexlaw06.RecWrong", spec := "recWrong", inPlace := ["internal/bytealg.Compare"], unfollowed := true, recurses := true, apart := false }
def RecWrongSaid : Prop := recWrongRow.holds Try.pinned (OpenSpec.ofChange recWrongSpec)

/-- ITS FALSE NEIGHBOUR: 'it returns false'. Refute it at one input. -/
def recWrongWrong : ChangeSpec := { name := "recWrong", fn := fun _ => fun
  | [d1, d2] => { results := [.lit (.bool false)], args := [d1, d2] }
  | _ => none }
def RecWrongWrongFalsely : Prop := recWrongRow.holds Try.pinned (OpenSpec.ofChange recWrongWrong)

/- THE SECOND FORM. 'bulk': how many values and letters a reading holds, each counted each time it is reached (what is shared counts as often as it is met; a slice's spare places count too). A statement '..UptoSaid' is the law's where the arguments, and the package variables that the reading takes, are together of bulk at most 1048576: NARROWER than '..Said'. Prove '..Said' where nothing that the law and all that it calls make is longer than what came in: it says more and counts as full. Else prove '..UptoSaid'. A law counts once. -/
mutual
def uptoBulk {H : Type} : DataW H → Nat
  | .lit (.string bytes) => bytes.length + 1
  | .lit _ => 1
  | .nil => 1
  | .ptr d => uptoBulk d + 1
  | .slice elems spare => uptoBulkAll elems + uptoBulkAll spare + 1
  | .agg parts => uptoBulkAll parts + 1
  | .iface _ d => uptoBulk d + 1
  | .map entries => uptoBulkEntries entries + 1
  | .held _ => 1
def uptoBulkAll {H : Type} : List (DataW H) → Nat
  | [] => 0
  | d :: r => uptoBulk d + uptoBulkAll r
def uptoBulkEntries {H : Type} : List (Lit × DataW H) → Nat
  | [] => 0
  | x :: r => uptoBulkEntry x + uptoBulkEntries r
def uptoBulkEntry {H : Type} : Lit × DataW H → Nat
  | (.string bytes, d) => bytes.length + uptoBulk d + 1
  | (_, d) => uptoBulk d + 1
 end
def uptoSmall : (H : Type) → List (DataW H) → Bool := fun _ ds => decide (uptoBulkAll ds ≤ 1048576)
def OpenSpec.upto (s : _root_.Go.ChangeSpec) : _root_.Go.OpenSpec := { _root_.Go.OpenSpec.ofChange s with cond := some uptoSmall }

/-- 'rolodexlaw05.CellTells', WHERE WHAT IT READS IS OF BULK AT MOST 1048576: true; the input reads as it did. -/
def cellTellsUptoRow : OpenClaim := { program := "ytgckgbonhbabpaa", sum := "fd21b06791b00b11d76601a25e2381400205dd58cf21f3c36757fbf5f3fce7e8", func := "rolodex/rolodexlaw05.CellTells", spec := "cellTells", inPlace := ["internal/bytealg.Compare"], unfollowed := true, recurses := true, apart := false, narrowed := true }
def CellTellsUptoSaid : Prop := cellTellsUptoRow.holds Try.pinned (OpenSpec.upto cellTellsSpec)

/-- 'rolodexlaw05.CellJoins', WHERE WHAT IT READS IS OF BULK AT MOST 1048576: true; the input reads as it did. -/
def cellJoinsUptoRow : OpenClaim := { program := "ytgckgbonhbabpaa", sum := "fd21b06791b00b11d76601a25e2381400205dd58cf21f3c36757fbf5f3fce7e8", func := "rolodex/rolodexlaw05.CellJoins", spec := "cellJoins", inPlace := ["internal/bytealg.Compare"], unfollowed := true, recurses := true, apart := false, narrowed := true }
def CellJoinsUptoSaid : Prop := cellJoinsUptoRow.holds Try.pinned (OpenSpec.upto cellJoinsSpec)

/-- 'rolodexlaw05.CellOrder', WHERE WHAT IT READS IS OF BULK AT MOST 1048576: true; the input reads as it did. -/
def cellOrderUptoRow : OpenClaim := { program := "ytgckgbonhbabpaa", sum := "fd21b06791b00b11d76601a25e2381400205dd58cf21f3c36757fbf5f3fce7e8", func := "rolodex/rolodexlaw05.CellOrder", spec := "cellOrder", inPlace := ["internal/bytealg.Compare"], unfollowed := true, recurses := true, apart := false, narrowed := true }
def CellOrderUptoSaid : Prop := cellOrderUptoRow.holds Try.pinned (OpenSpec.upto cellOrderSpec)

/-- 'rolodexlaw05.CellBack', WHERE WHAT IT READS IS OF BULK AT MOST 1048576: true; the input reads as it did. -/
def cellBackUptoRow : OpenClaim := { program := "ytgckgbonhbabpaa", sum := "fd21b06791b00b11d76601a25e2381400205dd58cf21f3c36757fbf5f3fce7e8", func := "rolodex/rolodexlaw05.CellBack", spec := "cellBack", inPlace := ["internal/bytealg.Compare"], unfollowed := true, recurses := true, apart := false, narrowed := true }
def CellBackUptoSaid : Prop := cellBackUptoRow.holds Try.pinned (OpenSpec.upto cellBackSpec)

/-- 'rolodexlaw05.CellCut', WHERE WHAT IT READS IS OF BULK AT MOST 1048576: true; the input reads as it did. -/
def cellCutUptoRow : OpenClaim := { program := "ytgckgbonhbabpaa", sum := "fd21b06791b00b11d76601a25e2381400205dd58cf21f3c36757fbf5f3fce7e8", func := "rolodex/rolodexlaw05.CellCut", spec := "cellCut", inPlace := ["internal/bytealg.Compare"], unfollowed := true, recurses := true, apart := false, narrowed := true }
def CellCutUptoSaid : Prop := cellCutUptoRow.holds Try.pinned (OpenSpec.upto cellCutSpec)

/-- 'rolodexlaw05.CellLists', WHERE WHAT IT READS IS OF BULK AT MOST 1048576: true; the input reads as it did. -/
def cellListsUptoRow : OpenClaim := { program := "ytgckgbonhbabpaa", sum := "fd21b06791b00b11d76601a25e2381400205dd58cf21f3c36757fbf5f3fce7e8", func := "rolodex/rolodexlaw05.CellLists", spec := "cellLists", inPlace := ["internal/bytealg.Compare"], unfollowed := true, recurses := true, apart := false, narrowed := true }
def CellListsUptoSaid : Prop := cellListsUptoRow.holds Try.pinned (OpenSpec.upto cellListsSpec)

/-- 'rolodexlaw05.CellLater', WHERE WHAT IT READS IS OF BULK AT MOST 1048576: true; the input reads as it did. -/
def cellLaterUptoRow : OpenClaim := { program := "ytgckgbonhbabpaa", sum := "fd21b06791b00b11d76601a25e2381400205dd58cf21f3c36757fbf5f3fce7e8", func := "rolodex/rolodexlaw05.CellLater", spec := "cellLater", inPlace := ["internal/bytealg.Compare"], unfollowed := true, recurses := true, apart := false, narrowed := true }
def CellLaterUptoSaid : Prop := cellLaterUptoRow.holds Try.pinned (OpenSpec.upto cellLaterSpec)

/-- 'rolodexlaw06.RecTells', WHERE WHAT IT READS IS OF BULK AT MOST 1048576: true; the input reads as it did. -/
def recTellsUptoRow : OpenClaim := { program := "ytgckgbonhbabpaa", sum := "fd21b06791b00b11d76601a25e2381400205dd58cf21f3c36757fbf5f3fce7e8", func := "rolodex/rolodexlaw06.RecTells", spec := "recTells", inPlace := ["internal/bytealg.Compare"], unfollowed := true, recurses := true, apart := false, narrowed := true }
def RecTellsUptoSaid : Prop := recTellsUptoRow.holds Try.pinned (OpenSpec.upto recTellsSpec)

/-- 'rolodexlaw06.RecJoins', WHERE WHAT IT READS IS OF BULK AT MOST 1048576: true; the input reads as it did. -/
def recJoinsUptoRow : OpenClaim := { program := "ytgckgbonhbabpaa", sum := "fd21b06791b00b11d76601a25e2381400205dd58cf21f3c36757fbf5f3fce7e8", func := "rolodex/rolodexlaw06.RecJoins", spec := "recJoins", inPlace := ["internal/bytealg.Compare"], unfollowed := true, recurses := true, apart := false, narrowed := true }
def RecJoinsUptoSaid : Prop := recJoinsUptoRow.holds Try.pinned (OpenSpec.upto recJoinsSpec)

/-- 'rolodexlaw06.RecOrder', WHERE WHAT IT READS IS OF BULK AT MOST 1048576: true; the input reads as it did. -/
def recOrderUptoRow : OpenClaim := { program := "ytgckgbonhbabpaa", sum := "fd21b06791b00b11d76601a25e2381400205dd58cf21f3c36757fbf5f3fce7e8", func := "rolodex/rolodexlaw06.RecOrder", spec := "recOrder", inPlace := ["internal/bytealg.Compare"], unfollowed := true, recurses := true, apart := false, narrowed := true }
def RecOrderUptoSaid : Prop := recOrderUptoRow.holds Try.pinned (OpenSpec.upto recOrderSpec)

/-- 'rolodexlaw06.RecCells', WHERE WHAT IT READS IS OF BULK AT MOST 1048576: true; the input reads as it did. -/
def recCellsUptoRow : OpenClaim := { program := "ytgckgbonhbabpaa", sum := "fd21b06791b00b11d76601a25e2381400205dd58cf21f3c36757fbf5f3fce7e8", func := "rolodex/rolodexlaw06.RecCells", spec := "recCells", inPlace := ["internal/bytealg.Compare"], unfollowed := true, recurses := true, apart := false, narrowed := true }
def RecCellsUptoSaid : Prop := recCellsUptoRow.holds Try.pinned (OpenSpec.upto recCellsSpec)

/-- 'rolodexlaw06.RecDead', WHERE WHAT IT READS IS OF BULK AT MOST 1048576: true; the input reads as it did. -/
def recDeadUptoRow : OpenClaim := { program := "ytgckgbonhbabpaa", sum := "fd21b06791b00b11d76601a25e2381400205dd58cf21f3c36757fbf5f3fce7e8", func := "rolodex/rolodexlaw06.RecDead", spec := "recDead", inPlace := ["internal/bytealg.Compare"], unfollowed := true, recurses := true, apart := false, narrowed := true }
def RecDeadUptoSaid : Prop := recDeadUptoRow.holds Try.pinned (OpenSpec.upto recDeadSpec)

/-- 'rolodexlaw06.RecOnly', WHERE WHAT IT READS IS OF BULK AT MOST 1048576: true; the input reads as it did. -/
def recOnlyUptoRow : OpenClaim := { program := "ytgckgbonhbabpaa", sum := "fd21b06791b00b11d76601a25e2381400205dd58cf21f3c36757fbf5f3fce7e8", func := "rolodex/rolodexlaw06.RecOnly", spec := "recOnly", inPlace := ["internal/bytealg.Compare"], unfollowed := true, recurses := true, apart := false, narrowed := true }
def RecOnlyUptoSaid : Prop := recOnlyUptoRow.holds Try.pinned (OpenSpec.upto recOnlySpec)

/-- 'rolodexlaw06.RecWrong', WHERE WHAT IT READS IS OF BULK AT MOST 1048576: true; the input reads as it did. -/
def recWrongUptoRow : OpenClaim := { program := "ytgckgbonhbabpaa", sum := "fd21b06791b00b11d76601a25e2381400205dd58cf21f3c36757fbf5f3fce7e8", func := "rolodex/rolodexlaw06.RecWrong", spec := "recWrong", inPlace := ["internal/bytealg.Compare"], unfollowed := true, recurses := true, apart := false, narrowed := true }
def RecWrongUptoSaid : Prop := recWrongUptoRow.holds Try.pinned (OpenSpec.upto recWrongSpec)

end Rows
end Go.Proofs.Ytgckgbonhbabpaa
