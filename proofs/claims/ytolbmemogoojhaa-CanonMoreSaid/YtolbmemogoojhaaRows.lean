/-
  No cell of these rows narrows 'for every input' (looked for: loops, veiled, ifaces, maps, wideKeys, modest, calm, conditions, laid).
  DERIVED. THE GIVEN ROWS OF THIS SEAT. 17 by the template 'for every input the law returns true; each argument reads behind the call as it read before'; 0 by the template 'total and deterministic' (their statements: YtolbmemogoojhaaTotals.lean).
  GIVEN WITH THE SEED: the statements are not yours to turn. If you find one false, say at which input.
  Laid BY PROGRAM, IN A SANDBOX (cutbox-rows.mjs): the forced cells as the released guide's own fill.sh prints them over the translation 638c1c195fb92271… (all of the seat's roots in one cut). By AI agents, Wed Nov 11 2026. No macro, syntax, notation, axiom, sorry.
-/
import Derived.Test.YtolbmemogoojhaaChecked
import GoSem.Claim
import GoSem.ClaimJoined
import GoSem.ClaimMapViews
import Derived.JoinedTies
import Derived.KernelRfl
namespace Go.Proofs.Ytolbmemogoojhaa
/- THE CELL 'sum', in the pinned program and in every row, IS THE sha256 OF THE DUMP (.gsa) THAT YtolbmemogoojhaaProg.lean LOADS. Nothing in Lean hashes anything: it is a label: what it is worth is what the hold of that sum in a sandbox is worth. -/
noncomputable def Try.pinned : Pinned := { name := "ytolbmemogoojhaa", sum := "638c1c195fb92271164806629290955fecab4ea5f9f8c5a6e83c4c8f6ecec418", checked := Try.checked }
namespace Rows
def none {H : Type} : Left H := { results := [], args := [] }

/-- 'rolodexlaw07.BookJoins': WHATEVER THE INPUT: true; the input reads as it did. -/
def bookJoinsSpec : ChangeSpec := { name := "bookJoins", fn := fun _ => fun
  | [d1, d2, d3] => { results := [.lit (.bool true)], args := [d1, d2, d3] }
  | _ => none }
def bookJoinsRow : OpenClaim := { program := "ytolbmemogoojhaa", sum := "638c1c195fb92271164806629290955fecab4ea5f9f8c5a6e83c4c8f6ecec418", func := "rolodex/rolodexlaw07.BookJoins", spec := "bookJoins", inPlace := ["internal/bytealg.Compare"], unfollowed := true, recurses := true, plainKeys := false, apart := false }
def BookJoinsSaid : Prop := bookJoinsRow.holds Try.pinned (OpenSpec.ofChange bookJoinsSpec)

/-- ITS FALSE NEIGHBOUR: 'it returns false'. Refute it at one input. -/
def bookJoinsWrong : ChangeSpec := { name := "bookJoins", fn := fun _ => fun
  | [d1, d2, d3] => { results := [.lit (.bool false)], args := [d1, d2, d3] }
  | _ => none }
def BookJoinsWrongFalsely : Prop := bookJoinsRow.holds Try.pinned (OpenSpec.ofChange bookJoinsWrong)

/-- 'rolodexlaw07.BookOrder': WHATEVER THE INPUT: true; the input reads as it did. -/
def bookOrderSpec : ChangeSpec := { name := "bookOrder", fn := fun _ => fun
  | [d1, d2, d3] => { results := [.lit (.bool true)], args := [d1, d2, d3] }
  | _ => none }
def bookOrderRow : OpenClaim := { program := "ytolbmemogoojhaa", sum := "638c1c195fb92271164806629290955fecab4ea5f9f8c5a6e83c4c8f6ecec418", func := "rolodex/rolodexlaw07.BookOrder", spec := "bookOrder", inPlace := ["internal/bytealg.Compare"], unfollowed := true, recurses := true, plainKeys := false, apart := false }
def BookOrderSaid : Prop := bookOrderRow.holds Try.pinned (OpenSpec.ofChange bookOrderSpec)

/-- ITS FALSE NEIGHBOUR: 'it returns false'. Refute it at one input. -/
def bookOrderWrong : ChangeSpec := { name := "bookOrder", fn := fun _ => fun
  | [d1, d2, d3] => { results := [.lit (.bool false)], args := [d1, d2, d3] }
  | _ => none }
def BookOrderWrongFalsely : Prop := bookOrderRow.holds Try.pinned (OpenSpec.ofChange bookOrderWrong)

/-- 'rolodexlaw07.BookFinds': WHATEVER THE INPUT: true; the input reads as it did. -/
def bookFindsSpec : ChangeSpec := { name := "bookFinds", fn := fun _ => fun
  | [d1, d2, d3] => { results := [.lit (.bool true)], args := [d1, d2, d3] }
  | _ => none }
def bookFindsRow : OpenClaim := { program := "ytolbmemogoojhaa", sum := "638c1c195fb92271164806629290955fecab4ea5f9f8c5a6e83c4c8f6ecec418", func := "rolodex/rolodexlaw07.BookFinds", spec := "bookFinds", inPlace := ["internal/bytealg.Compare"], unfollowed := true, recurses := true, plainKeys := false, apart := false }
def BookFindsSaid : Prop := bookFindsRow.holds Try.pinned (OpenSpec.ofChange bookFindsSpec)

/-- ITS FALSE NEIGHBOUR: 'it returns false'. Refute it at one input. -/
def bookFindsWrong : ChangeSpec := { name := "bookFinds", fn := fun _ => fun
  | [d1, d2, d3] => { results := [.lit (.bool false)], args := [d1, d2, d3] }
  | _ => none }
def BookFindsWrongFalsely : Prop := bookFindsRow.holds Try.pinned (OpenSpec.ofChange bookFindsWrong)

/-- 'rolodexlaw07.BookNew': WHATEVER THE INPUT: true; the input reads as it did. -/
def bookNewSpec : ChangeSpec := { name := "bookNew", fn := fun _ => fun
  | [d1, d2, d3, d4, d5] => { results := [.lit (.bool true)], args := [d1, d2, d3, d4, d5] }
  | _ => none }
def bookNewRow : OpenClaim := { program := "ytolbmemogoojhaa", sum := "638c1c195fb92271164806629290955fecab4ea5f9f8c5a6e83c4c8f6ecec418", func := "rolodex/rolodexlaw07.BookNew", spec := "bookNew", inPlace := ["internal/bytealg.Compare"], unfollowed := true, recurses := true, plainKeys := false, apart := false }
def BookNewSaid : Prop := bookNewRow.holds Try.pinned (OpenSpec.ofChange bookNewSpec)

/-- ITS FALSE NEIGHBOUR: 'it returns false'. Refute it at one input. -/
def bookNewWrong : ChangeSpec := { name := "bookNew", fn := fun _ => fun
  | [d1, d2, d3, d4, d5] => { results := [.lit (.bool false)], args := [d1, d2, d3, d4, d5] }
  | _ => none }
def BookNewWrongFalsely : Prop := bookNewRow.holds Try.pinned (OpenSpec.ofChange bookNewWrong)

/-- 'rolodexlaw07.BookKills': WHATEVER THE INPUT: true; the input reads as it did. -/
def bookKillsSpec : ChangeSpec := { name := "bookKills", fn := fun _ => fun
  | [d1, d2, d3, d4] => { results := [.lit (.bool true)], args := [d1, d2, d3, d4] }
  | _ => none }
def bookKillsRow : OpenClaim := { program := "ytolbmemogoojhaa", sum := "638c1c195fb92271164806629290955fecab4ea5f9f8c5a6e83c4c8f6ecec418", func := "rolodex/rolodexlaw07.BookKills", spec := "bookKills", inPlace := ["internal/bytealg.Compare"], unfollowed := true, recurses := true, plainKeys := false, apart := false }
def BookKillsSaid : Prop := bookKillsRow.holds Try.pinned (OpenSpec.ofChange bookKillsSpec)

/-- ITS FALSE NEIGHBOUR: 'it returns false'. Refute it at one input. -/
def bookKillsWrong : ChangeSpec := { name := "bookKills", fn := fun _ => fun
  | [d1, d2, d3, d4] => { results := [.lit (.bool false)], args := [d1, d2, d3, d4] }
  | _ => none }
def BookKillsWrongFalsely : Prop := bookKillsRow.holds Try.pinned (OpenSpec.ofChange bookKillsWrong)

/-- 'rolodexlaw07.BookParts': WHATEVER THE INPUT: true; the input reads as it did. -/
def bookPartsSpec : ChangeSpec := { name := "bookParts", fn := fun _ => fun
  | [d1, d2] => { results := [.lit (.bool true)], args := [d1, d2] }
  | _ => none }
def bookPartsRow : OpenClaim := { program := "ytolbmemogoojhaa", sum := "638c1c195fb92271164806629290955fecab4ea5f9f8c5a6e83c4c8f6ecec418", func := "rolodex/rolodexlaw07.BookParts", spec := "bookParts", inPlace := ["internal/bytealg.Compare"], unfollowed := true, recurses := true, plainKeys := false, apart := false }
def BookPartsSaid : Prop := bookPartsRow.holds Try.pinned (OpenSpec.ofChange bookPartsSpec)

/-- ITS FALSE NEIGHBOUR: 'it returns false'. Refute it at one input. -/
def bookPartsWrong : ChangeSpec := { name := "bookParts", fn := fun _ => fun
  | [d1, d2] => { results := [.lit (.bool false)], args := [d1, d2] }
  | _ => none }
def BookPartsWrongFalsely : Prop := bookPartsRow.holds Try.pinned (OpenSpec.ofChange bookPartsWrong)

/-- 'rolodexlaw07.BookNames': WHATEVER THE INPUT: true; the input reads as it did. -/
def bookNamesSpec : ChangeSpec := { name := "bookNames", fn := fun _ => fun
  | [d1, d2, d3, d4] => { results := [.lit (.bool true)], args := [d1, d2, d3, d4] }
  | _ => none }
def bookNamesRow : OpenClaim := { program := "ytolbmemogoojhaa", sum := "638c1c195fb92271164806629290955fecab4ea5f9f8c5a6e83c4c8f6ecec418", func := "rolodex/rolodexlaw07.BookNames", spec := "bookNames", inPlace := ["internal/bytealg.Compare"], unfollowed := true, recurses := true, plainKeys := false, apart := false }
def BookNamesSaid : Prop := bookNamesRow.holds Try.pinned (OpenSpec.ofChange bookNamesSpec)

/-- ITS FALSE NEIGHBOUR: 'it returns false'. Refute it at one input. -/
def bookNamesWrong : ChangeSpec := { name := "bookNames", fn := fun _ => fun
  | [d1, d2, d3, d4] => { results := [.lit (.bool false)], args := [d1, d2, d3, d4] }
  | _ => none }
def BookNamesWrongFalsely : Prop := bookNamesRow.holds Try.pinned (OpenSpec.ofChange bookNamesWrong)

/-- 'rolodexlaw22.AuditValues': WHATEVER THE INPUT: true; the input reads as it did. -/
def auditValuesSpec : ChangeSpec := { name := "auditValues", fn := fun _ => fun
  | [d] => { results := [.lit (.bool true)], args := [d] }
  | _ => none }
def auditValuesRow : OpenClaim := { program := "ytolbmemogoojhaa", sum := "638c1c195fb92271164806629290955fecab4ea5f9f8c5a6e83c4c8f6ecec418", func := "rolodex/rolodexlaw22.AuditValues", spec := "auditValues", inPlace := ["internal/bytealg.Compare"], unfollowed := true, recurses := true, plainKeys := false, apart := false }
def AuditValuesSaid : Prop := auditValuesRow.holds Try.pinned (OpenSpec.ofChange auditValuesSpec)

/-- ITS FALSE NEIGHBOUR: 'it returns false'. Refute it at one input. -/
def auditValuesWrong : ChangeSpec := { name := "auditValues", fn := fun _ => fun
  | [d] => { results := [.lit (.bool false)], args := [d] }
  | _ => none }
def AuditValuesWrongFalsely : Prop := auditValuesRow.holds Try.pinned (OpenSpec.ofChange auditValuesWrong)

/-- 'rolodexlaw22.AuditParts': WHATEVER THE INPUT: true; the input reads as it did. -/
def auditPartsSpec : ChangeSpec := { name := "auditParts", fn := fun _ => fun
  | [d] => { results := [.lit (.bool true)], args := [d] }
  | _ => none }
def auditPartsRow : OpenClaim := { program := "ytolbmemogoojhaa", sum := "638c1c195fb92271164806629290955fecab4ea5f9f8c5a6e83c4c8f6ecec418", func := "rolodex/rolodexlaw22.AuditParts", spec := "auditParts", inPlace := ["internal/bytealg.Compare"], unfollowed := true, recurses := true, plainKeys := false, apart := false }
def AuditPartsSaid : Prop := auditPartsRow.holds Try.pinned (OpenSpec.ofChange auditPartsSpec)

/-- ITS FALSE NEIGHBOUR: 'it returns false'. Refute it at one input. -/
def auditPartsWrong : ChangeSpec := { name := "auditParts", fn := fun _ => fun
  | [d] => { results := [.lit (.bool false)], args := [d] }
  | _ => none }
def AuditPartsWrongFalsely : Prop := auditPartsRow.holds Try.pinned (OpenSpec.ofChange auditPartsWrong)

/-- 'rolodexlaw22.AuditNone': WHATEVER THE INPUT: true; the input reads as it did. -/
def auditNoneSpec : ChangeSpec := { name := "auditNone", fn := fun _ => fun
  | [d1, d2] => { results := [.lit (.bool true)], args := [d1, d2] }
  | _ => none }
def auditNoneRow : OpenClaim := { program := "ytolbmemogoojhaa", sum := "638c1c195fb92271164806629290955fecab4ea5f9f8c5a6e83c4c8f6ecec418", func := "rolodex/rolodexlaw22.AuditNone", spec := "auditNone", inPlace := ["internal/bytealg.Compare"], unfollowed := true, recurses := true, plainKeys := false, apart := false }
def AuditNoneSaid : Prop := auditNoneRow.holds Try.pinned (OpenSpec.ofChange auditNoneSpec)

/-- ITS FALSE NEIGHBOUR: 'it returns false'. Refute it at one input. -/
def auditNoneWrong : ChangeSpec := { name := "auditNone", fn := fun _ => fun
  | [d1, d2] => { results := [.lit (.bool false)], args := [d1, d2] }
  | _ => none }
def AuditNoneWrongFalsely : Prop := auditNoneRow.holds Try.pinned (OpenSpec.ofChange auditNoneWrong)

/-- 'rolodexlaw22.AuditJoin': WHATEVER THE INPUT: true; the input reads as it did. -/
def auditJoinSpec : ChangeSpec := { name := "auditJoin", fn := fun _ => fun
  | [d1, d2] => { results := [.lit (.bool true)], args := [d1, d2] }
  | _ => none }
def auditJoinRow : OpenClaim := { program := "ytolbmemogoojhaa", sum := "638c1c195fb92271164806629290955fecab4ea5f9f8c5a6e83c4c8f6ecec418", func := "rolodex/rolodexlaw22.AuditJoin", spec := "auditJoin", inPlace := ["internal/bytealg.Compare"], unfollowed := true, recurses := true, plainKeys := false, apart := false }
def AuditJoinSaid : Prop := auditJoinRow.holds Try.pinned (OpenSpec.ofChange auditJoinSpec)

/-- ITS FALSE NEIGHBOUR: 'it returns false'. Refute it at one input. -/
def auditJoinWrong : ChangeSpec := { name := "auditJoin", fn := fun _ => fun
  | [d1, d2] => { results := [.lit (.bool false)], args := [d1, d2] }
  | _ => none }
def AuditJoinWrongFalsely : Prop := auditJoinRow.holds Try.pinned (OpenSpec.ofChange auditJoinWrong)

/-- 'rolodexlaw22.AuditAlike': WHATEVER THE INPUT: true; the input reads as it did. -/
def auditAlikeSpec : ChangeSpec := { name := "auditAlike", fn := fun _ => fun
  | [d] => { results := [.lit (.bool true)], args := [d] }
  | _ => none }
def auditAlikeRow : OpenClaim := { program := "ytolbmemogoojhaa", sum := "638c1c195fb92271164806629290955fecab4ea5f9f8c5a6e83c4c8f6ecec418", func := "rolodex/rolodexlaw22.AuditAlike", spec := "auditAlike", inPlace := ["internal/bytealg.Compare"], unfollowed := true, recurses := true, plainKeys := false, apart := false }
def AuditAlikeSaid : Prop := auditAlikeRow.holds Try.pinned (OpenSpec.ofChange auditAlikeSpec)

/-- ITS FALSE NEIGHBOUR: 'it returns false'. Refute it at one input. -/
def auditAlikeWrong : ChangeSpec := { name := "auditAlike", fn := fun _ => fun
  | [d] => { results := [.lit (.bool false)], args := [d] }
  | _ => none }
def AuditAlikeWrongFalsely : Prop := auditAlikeRow.holds Try.pinned (OpenSpec.ofChange auditAlikeWrong)

/-- 'rolodexlaw08.CanonBack': WHATEVER THE INPUT: true; the input reads as it did. -/
def canonBackSpec : ChangeSpec := { name := "canonBack", fn := fun _ => fun
  | [d1, d2] => { results := [.lit (.bool true)], args := [d1, d2] }
  | _ => none }
def canonBackRow : OpenClaim := { program := "ytolbmemogoojhaa", sum := "638c1c195fb92271164806629290955fecab4ea5f9f8c5a6e83c4c8f6ecec418", func := "rolodex/rolodexlaw08.CanonBack", spec := "canonBack", inPlace := ["internal/bytealg.Compare"], unfollowed := true, recurses := true, plainKeys := false, apart := false }
def CanonBackSaid : Prop := canonBackRow.holds Try.pinned (OpenSpec.ofChange canonBackSpec)

/-- ITS FALSE NEIGHBOUR: 'it returns false'. Refute it at one input. -/
def canonBackWrong : ChangeSpec := { name := "canonBack", fn := fun _ => fun
  | [d1, d2] => { results := [.lit (.bool false)], args := [d1, d2] }
  | _ => none }
def CanonBackWrongFalsely : Prop := canonBackRow.holds Try.pinned (OpenSpec.ofChange canonBackWrong)

/-- 'rolodexlaw08.CanonMore': WHATEVER THE INPUT: true; the input reads as it did. -/
def canonMoreSpec : ChangeSpec := { name := "canonMore", fn := fun _ => fun
  | [d1, d2, d3] => { results := [.lit (.bool true)], args := [d1, d2, d3] }
  | _ => none }
def canonMoreRow : OpenClaim := { program := "ytolbmemogoojhaa", sum := "638c1c195fb92271164806629290955fecab4ea5f9f8c5a6e83c4c8f6ecec418", func := "rolodex/rolodexlaw08.CanonMore", spec := "canonMore", inPlace := ["internal/bytealg.Compare"], unfollowed := true, recurses := true, plainKeys := false, apart := false }
def CanonMoreSaid : Prop := canonMoreRow.holds Try.pinned (OpenSpec.ofChange canonMoreSpec)

/-- ITS FALSE NEIGHBOUR: 'it returns false'. Refute it at one input. -/
def canonMoreWrong : ChangeSpec := { name := "canonMore", fn := fun _ => fun
  | [d1, d2, d3] => { results := [.lit (.bool false)], args := [d1, d2, d3] }
  | _ => none }
def CanonMoreWrongFalsely : Prop := canonMoreRow.holds Try.pinned (OpenSpec.ofChange canonMoreWrong)

/-- 'rolodexlaw08.CanonSame': WHATEVER THE INPUT: true; the input reads as it did. -/
def canonSameSpec : ChangeSpec := { name := "canonSame", fn := fun _ => fun
  | [d1, d2] => { results := [.lit (.bool true)], args := [d1, d2] }
  | _ => none }
def canonSameRow : OpenClaim := { program := "ytolbmemogoojhaa", sum := "638c1c195fb92271164806629290955fecab4ea5f9f8c5a6e83c4c8f6ecec418", func := "rolodex/rolodexlaw08.CanonSame", spec := "canonSame", inPlace := ["internal/bytealg.Compare"], unfollowed := true, recurses := true, plainKeys := false, apart := false }
def CanonSameSaid : Prop := canonSameRow.holds Try.pinned (OpenSpec.ofChange canonSameSpec)

/-- ITS FALSE NEIGHBOUR: 'it returns false'. Refute it at one input. -/
def canonSameWrong : ChangeSpec := { name := "canonSame", fn := fun _ => fun
  | [d1, d2] => { results := [.lit (.bool false)], args := [d1, d2] }
  | _ => none }
def CanonSameWrongFalsely : Prop := canonSameRow.holds Try.pinned (OpenSpec.ofChange canonSameWrong)

/-- 'rolodexlaw08.CanonLong': WHATEVER THE INPUT: true; the input reads as it did. -/
def canonLongSpec : ChangeSpec := { name := "canonLong", fn := fun _ => fun
  | [d] => { results := [.lit (.bool true)], args := [d] }
  | _ => none }
def canonLongRow : OpenClaim := { program := "ytolbmemogoojhaa", sum := "638c1c195fb92271164806629290955fecab4ea5f9f8c5a6e83c4c8f6ecec418", func := "rolodex/rolodexlaw08.CanonLong", spec := "canonLong", inPlace := ["internal/bytealg.Compare"], unfollowed := true, recurses := true, plainKeys := false, apart := false }
def CanonLongSaid : Prop := canonLongRow.holds Try.pinned (OpenSpec.ofChange canonLongSpec)

/-- ITS FALSE NEIGHBOUR: 'it returns false'. Refute it at one input. -/
def canonLongWrong : ChangeSpec := { name := "canonLong", fn := fun _ => fun
  | [d] => { results := [.lit (.bool false)], args := [d] }
  | _ => none }
def CanonLongWrongFalsely : Prop := canonLongRow.holds Try.pinned (OpenSpec.ofChange canonLongWrong)

/-- 'rolodexlaw08.CanonDigest': WHATEVER THE INPUT: true; the input reads as it did. -/
def canonDigestSpec : ChangeSpec := { name := "canonDigest", fn := fun _ => fun
  | [d] => { results := [.lit (.bool true)], args := [d] }
  | _ => none }
def canonDigestRow : OpenClaim := { program := "ytolbmemogoojhaa", sum := "638c1c195fb92271164806629290955fecab4ea5f9f8c5a6e83c4c8f6ecec418", func := "rolodex/rolodexlaw08.CanonDigest", spec := "canonDigest", inPlace := ["internal/bytealg.Compare"], unfollowed := true, recurses := true, plainKeys := false, apart := false }
def CanonDigestSaid : Prop := canonDigestRow.holds Try.pinned (OpenSpec.ofChange canonDigestSpec)

/-- ITS FALSE NEIGHBOUR: 'it returns false'. Refute it at one input. -/
def canonDigestWrong : ChangeSpec := { name := "canonDigest", fn := fun _ => fun
  | [d] => { results := [.lit (.bool false)], args := [d] }
  | _ => none }
def CanonDigestWrongFalsely : Prop := canonDigestRow.holds Try.pinned (OpenSpec.ofChange canonDigestWrong)

/- THE SECOND FORM. 'bulk': how many values and letters a reading holds, each counted each time it is reached (what is shared counts as often as it is met; a slice's spare places count too). A statement '..UptoSaid' is the law's where the arguments, and the package variables that the reading takes, are together of bulk at most 1048576: NARROWER than '..Said'. Prove '..Said' where nothing that the law and all that it calls make is longer than what came in: it says more and counts as full. Else prove '..UptoSaid'. A law counts once. -/
mutual
def uptoBulk {H : Type} : DataW H → Nat
  | .lit (.string bytes) => bytes.length + 1
  | .lit _ => 1
  | .nil => 1
  | .ptr d => uptoBulk d + 1
  | .slice elems spare => uptoBulkAll elems + uptoBulkAll spare + 1
  | .agg parts => uptoBulkAll parts + 1
  | .iface _ d => uptoBulk d + 1
  | .map entries => uptoBulkEntries entries + 1
  | .held _ => 1
def uptoBulkAll {H : Type} : List (DataW H) → Nat
  | [] => 0
  | d :: r => uptoBulk d + uptoBulkAll r
def uptoBulkEntries {H : Type} : List (Lit × DataW H) → Nat
  | [] => 0
  | x :: r => uptoBulkEntry x + uptoBulkEntries r
def uptoBulkEntry {H : Type} : Lit × DataW H → Nat
  | (.string bytes, d) => bytes.length + uptoBulk d + 1
  | (_, d) => uptoBulk d + 1
 end
def uptoSmall : (H : Type) → List (DataW H) → Bool := fun _ ds => decide (uptoBulkAll ds ≤ 1048576)
def OpenSpec.upto (s : _root_.Go.ChangeSpec) : _root_.Go.OpenSpec := { _root_.Go.OpenSpec.ofChange s with cond := some uptoSmall }

/-- 'rolodexlaw07.BookJoins', WHERE WHAT IT READS IS OF BULK AT MOST 1048576: true; the input reads as it did. -/
def bookJoinsUptoRow : OpenClaim := { program := "ytolbmemogoojhaa", sum := "638c1c195fb92271164806629290955fecab4ea5f9f8c5a6e83c4c8f6ecec418", func := "rolodex/rolodexlaw07.BookJoins", spec := "bookJoins", inPlace := ["internal/bytealg.Compare"], unfollowed := true, recurses := true, plainKeys := false, apart := false, narrowed := true }
def BookJoinsUptoSaid : Prop := bookJoinsUptoRow.holds Try.pinned (OpenSpec.upto bookJoinsSpec)

/-- 'rolodexlaw07.BookOrder', WHERE WHAT IT READS IS OF BULK AT MOST 1048576: true; the input reads as it did. -/
def bookOrderUptoRow : OpenClaim := { program := "ytolbmemogoojhaa", sum := "638c1c195fb92271164806629290955fecab4ea5f9f8c5a6e83c4c8f6ecec418", func := "rolodex/rolodexlaw07.BookOrder", spec := "bookOrder", inPlace := ["internal/bytealg.Compare"], unfollowed := true, recurses := true, plainKeys := false, apart := false, narrowed := true }
def BookOrderUptoSaid : Prop := bookOrderUptoRow.holds Try.pinned (OpenSpec.upto bookOrderSpec)

/-- 'rolodexlaw07.BookFinds', WHERE WHAT IT READS IS OF BULK AT MOST 1048576: true; the input reads as it did. -/
def bookFindsUptoRow : OpenClaim := { program := "ytolbmemogoojhaa", sum := "638c1c195fb92271164806629290955fecab4ea5f9f8c5a6e83c4c8f6ecec418", func := "rolodex/rolodexlaw07.BookFinds", spec := "bookFinds", inPlace := ["internal/bytealg.Compare"], unfollowed := true, recurses := true, plainKeys := false, apart := false, narrowed := true }
def BookFindsUptoSaid : Prop := bookFindsUptoRow.holds Try.pinned (OpenSpec.upto bookFindsSpec)

/-- 'rolodexlaw07.BookNew', WHERE WHAT IT READS IS OF BULK AT MOST 1048576: true; the input reads as it did. -/
def bookNewUptoRow : OpenClaim := { program := "ytolbmemogoojhaa", sum := "638c1c195fb92271164806629290955fecab4ea5f9f8c5a6e83c4c8f6ecec418", func := "rolodex/rolodexlaw07.BookNew", spec := "bookNew", inPlace := ["internal/bytealg.Compare"], unfollowed := true, recurses := true, plainKeys := false, apart := false, narrowed := true }
def BookNewUptoSaid : Prop := bookNewUptoRow.holds Try.pinned (OpenSpec.upto bookNewSpec)

/-- 'rolodexlaw07.BookKills', WHERE WHAT IT READS IS OF BULK AT MOST 1048576: true; the input reads as it did. -/
def bookKillsUptoRow : OpenClaim := { program := "ytolbmemogoojhaa", sum := "638c1c195fb92271164806629290955fecab4ea5f9f8c5a6e83c4c8f6ecec418", func := "rolodex/rolodexlaw07.BookKills", spec := "bookKills", inPlace := ["internal/bytealg.Compare"], unfollowed := true, recurses := true, plainKeys := false, apart := false, narrowed := true }
def BookKillsUptoSaid : Prop := bookKillsUptoRow.holds Try.pinned (OpenSpec.upto bookKillsSpec)

/-- 'rolodexlaw07.BookParts', WHERE WHAT IT READS IS OF BULK AT MOST 1048576: true; the input reads as it did. -/
def bookPartsUptoRow : OpenClaim := { program := "ytolbmemogoojhaa", sum := "638c1c195fb92271164806629290955fecab4ea5f9f8c5a6e83c4c8f6ecec418", func := "rolodex/rolodexlaw07.BookParts", spec := "bookParts", inPlace := ["internal/bytealg.Compare"], unfollowed := true, recurses := true, plainKeys := false, apart := false, narrowed := true }
def BookPartsUptoSaid : Prop := bookPartsUptoRow.holds Try.pinned (OpenSpec.upto bookPartsSpec)

/-- 'rolodexlaw07.BookNames', WHERE WHAT IT READS IS OF BULK AT MOST 1048576: true; the input reads as it did. -/
def bookNamesUptoRow : OpenClaim := { program := "ytolbmemogoojhaa", sum := "638c1c195fb92271164806629290955fecab4ea5f9f8c5a6e83c4c8f6ecec418", func := "rolodex/rolodexlaw07.BookNames", spec := "bookNames", inPlace := ["internal/bytealg.Compare"], unfollowed := true, recurses := true, plainKeys := false, apart := false, narrowed := true }
def BookNamesUptoSaid : Prop := bookNamesUptoRow.holds Try.pinned (OpenSpec.upto bookNamesSpec)

/-- 'rolodexlaw22.AuditValues', WHERE WHAT IT READS IS OF BULK AT MOST 1048576: true; the input reads as it did. -/
def auditValuesUptoRow : OpenClaim := { program := "ytolbmemogoojhaa", sum := "638c1c195fb92271164806629290955fecab4ea5f9f8c5a6e83c4c8f6ecec418", func := "rolodex/rolodexlaw22.AuditValues", spec := "auditValues", inPlace := ["internal/bytealg.Compare"], unfollowed := true, recurses := true, plainKeys := false, apart := false, narrowed := true }
def AuditValuesUptoSaid : Prop := auditValuesUptoRow.holds Try.pinned (OpenSpec.upto auditValuesSpec)

/-- 'rolodexlaw22.AuditParts', WHERE WHAT IT READS IS OF BULK AT MOST 1048576: true; the input reads as it did. -/
def auditPartsUptoRow : OpenClaim := { program := "ytolbmemogoojhaa", sum := "638c1c195fb92271164806629290955fecab4ea5f9f8c5a6e83c4c8f6ecec418", func := "rolodex/rolodexlaw22.AuditParts", spec := "auditParts", inPlace := ["internal/bytealg.Compare"], unfollowed := true, recurses := true, plainKeys := false, apart := false, narrowed := true }
def AuditPartsUptoSaid : Prop := auditPartsUptoRow.holds Try.pinned (OpenSpec.upto auditPartsSpec)

/-- 'rolodexlaw22.AuditNone', WHERE WHAT IT READS IS OF BULK AT MOST 1048576: true; the input reads as it did. -/
def auditNoneUptoRow : OpenClaim := { program := "ytolbmemogoojhaa", sum := "638c1c195fb92271164806629290955fecab4ea5f9f8c5a6e83c4c8f6ecec418", func := "rolodex/rolodexlaw22.AuditNone", spec := "auditNone", inPlace := ["internal/bytealg.Compare"], unfollowed := true, recurses := true, plainKeys := false, apart := false, narrowed := true }
def AuditNoneUptoSaid : Prop := auditNoneUptoRow.holds Try.pinned (OpenSpec.upto auditNoneSpec)

/-- 'rolodexlaw22.AuditJoin', WHERE WHAT IT READS IS OF BULK AT MOST 1048576: true; the input reads as it did. -/
def auditJoinUptoRow : OpenClaim := { program := "ytolbmemogoojhaa", sum := "638c1c195fb92271164806629290955fecab4ea5f9f8c5a6e83c4c8f6ecec418", func := "rolodex/rolodexlaw22.AuditJoin", spec := "auditJoin", inPlace := ["internal/bytealg.Compare"], unfollowed := true, recurses := true, plainKeys := false, apart := false, narrowed := true }
def AuditJoinUptoSaid : Prop := auditJoinUptoRow.holds Try.pinned (OpenSpec.upto auditJoinSpec)

/-- 'rolodexlaw22.AuditAlike', WHERE WHAT IT READS IS OF BULK AT MOST 1048576: true; the input reads as it did. -/
def auditAlikeUptoRow : OpenClaim := { program := "ytolbmemogoojhaa", sum := "638c1c195fb92271164806629290955fecab4ea5f9f8c5a6e83c4c8f6ecec418", func := "rolodex/rolodexlaw22.AuditAlike", spec := "auditAlike", inPlace := ["internal/bytealg.Compare"], unfollowed := true, recurses := true, plainKeys := false, apart := false, narrowed := true }
def AuditAlikeUptoSaid : Prop := auditAlikeUptoRow.holds Try.pinned (OpenSpec.upto auditAlikeSpec)

/-- 'rolodexlaw08.CanonBack', WHERE WHAT IT READS IS OF BULK AT MOST 1048576: true; the input reads as it did. -/
def canonBackUptoRow : OpenClaim := { program := "ytolbmemogoojhaa", sum := "638c1c195fb92271164806629290955fecab4ea5f9f8c5a6e83c4c8f6ecec418", func := "rolodex/rolodexlaw08.CanonBack", spec := "canonBack", inPlace := ["internal/bytealg.Compare"], unfollowed := true, recurses := true, plainKeys := false, apart := false, narrowed := true }
def CanonBackUptoSaid : Prop := canonBackUptoRow.holds Try.pinned (OpenSpec.upto canonBackSpec)

/-- 'rolodexlaw08.CanonMore', WHERE WHAT IT READS IS OF BULK AT MOST 1048576: true; the input reads as it did. -/
def canonMoreUptoRow : OpenClaim := { program := "ytolbmemogoojhaa", sum := "638c1c195fb92271164806629290955fecab4ea5f9f8c5a6e83c4c8f6ecec418", func := "rolodex/rolodexlaw08.CanonMore", spec := "canonMore", inPlace := ["internal/bytealg.Compare"], unfollowed := true, recurses := true, plainKeys := false, apart := false, narrowed := true }
def CanonMoreUptoSaid : Prop := canonMoreUptoRow.holds Try.pinned (OpenSpec.upto canonMoreSpec)

/-- 'rolodexlaw08.CanonSame', WHERE WHAT IT READS IS OF BULK AT MOST 1048576: true; the input reads as it did. -/
def canonSameUptoRow : OpenClaim := { program := "ytolbmemogoojhaa", sum := "638c1c195fb92271164806629290955fecab4ea5f9f8c5a6e83c4c8f6ecec418", func := "rolodex/rolodexlaw08.CanonSame", spec := "canonSame", inPlace := ["internal/bytealg.Compare"], unfollowed := true, recurses := true, plainKeys := false, apart := false, narrowed := true }
def CanonSameUptoSaid : Prop := canonSameUptoRow.holds Try.pinned (OpenSpec.upto canonSameSpec)

/-- 'rolodexlaw08.CanonLong', WHERE WHAT IT READS IS OF BULK AT MOST 1048576: true; the input reads as it did. -/
def canonLongUptoRow : OpenClaim := { program := "ytolbmemogoojhaa", sum := "638c1c195fb92271164806629290955fecab4ea5f9f8c5a6e83c4c8f6ecec418", func := "rolodex/rolodexlaw08.CanonLong", spec := "canonLong", inPlace := ["internal/bytealg.Compare"], unfollowed := true, recurses := true, plainKeys := false, apart := false, narrowed := true }
def CanonLongUptoSaid : Prop := canonLongUptoRow.holds Try.pinned (OpenSpec.upto canonLongSpec)

/-- 'rolodexlaw08.CanonDigest', WHERE WHAT IT READS IS OF BULK AT MOST 1048576: true; the input reads as it did. -/
def canonDigestUptoRow : OpenClaim := { program := "ytolbmemogoojhaa", sum := "638c1c195fb92271164806629290955fecab4ea5f9f8c5a6e83c4c8f6ecec418", func := "rolodex/rolodexlaw08.CanonDigest", spec := "canonDigest", inPlace := ["internal/bytealg.Compare"], unfollowed := true, recurses := true, plainKeys := false, apart := false, narrowed := true }
def CanonDigestUptoSaid : Prop := canonDigestUptoRow.holds Try.pinned (OpenSpec.upto canonDigestSpec)

end Rows
end Go.Proofs.Ytolbmemogoojhaa
