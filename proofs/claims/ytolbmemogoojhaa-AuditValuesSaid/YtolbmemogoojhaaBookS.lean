/- The chapter's example of books. -/
import Derived.Test.YtolbmemogoojhaaBookR
namespace Go.Proofs.Ytolbmemogoojhaa
open Go Go.RowKit Go.Deep
set_option linter.unusedVariables false
set_option linter.unusedSimpArgs false
set_option maxRecDepth 100000
def k7 : IDK := ⟨[7, 0, 0, 0, 0, 0, 0, 0, 0, 0, 0, 0, 0, 0, 0, 0], rfl⟩
def aw71 : RD := ⟨k7.1, 0, 0, [(2, 1, 1, ⟨#[120]⟩)]⟩
def aw72 : RD := ⟨k7.1, 2, 3, []⟩
theorem aw71_ok : aw71.ok := rfl
theorem aw7M1 : rMay aw71 = true := by decide +kernel
theorem aw7M2 : rMay aw72 = true := by decide +kernel
theorem aw7Mb1 : bMay [aw71] = true := by unfold bMay bMayL bMayL; rw [aw7M1]; rfl
theorem aw7Mb2 : bMay [aw72] = true := by unfold bMay bMayL bMayL; rw [aw7M2]; rfl
theorem aw7W : bWrite [] k7 2 1 ⟨#[120]⟩ = (0, [aw71]) := by
  have h1 : bLast [] = (0, 0) := rfl
  have h2 : stNext 0 0 1 = (1, 1, 0) := by decide +kernel
  have h3 : rW k7 2 ⟨#[120]⟩ 1 1 = aw71 := rfl
  have h4 : bBoth [] [aw71] = [aw71] := rfl
  have h5 : bCan [] [aw71] = 0 := bCan_ok.2 ⟨rfl, aw7Mb1, by rw [h4]; decide⟩
  have h6 : bJ [] [aw71] = [aw71] := by unfold bJ; rw [if_pos h5, h4]
  unfold bWrite
  rw [if_pos ⟨rfl, by decide, by decide, by decide⟩]
  unfold bWithP
  rw [h1]
  dsimp only
  rw [h2]
  dsimp only
  rw [h3, if_pos rfl, if_pos rfl, h5, h6]
theorem aw7C7 : rCan aw71 aw72 = true := by decide +kernel
theorem aw7J7 : rJoin aw71 aw72 = aw72 := by
  unfold rJoin; rw [if_pos aw7C7]; rfl
theorem aw7Both : bBoth [aw71] [aw72] = [aw72] := by
  show bPut [aw71] aw72 = _
  unfold bPut
  rw [show aw71.id = aw72.id from rfl]
  simp only [idl_irrefl, if_false, if_true]
  rw [aw7J7]
theorem aw7Can12 : bCan [aw71] [aw72] = 0 := bCan_ok.2 ⟨aw7Mb1, aw7Mb2, by rw [aw7Both]; decide⟩
theorem aw7J12 : bJ [aw71] [aw72] = [aw72] := by unfold bJ; rw [if_pos aw7Can12, aw7Both]
theorem aw7F7 : bFindP [aw71] k7.1 = (aw71, true) := rfl
theorem aw7K : bKill [aw71] k7 3 = (0, [aw72]) := by
  have h1 : bLast [aw71] = (1, 1) := by decide +kernel
  have h2 : stNext 1 1 3 = (2, 3, 0) := by decide +kernel
  have h3 : rK k7 2 3 = aw72 := rfl
  unfold bKill
  rw [if_pos ⟨aw7Mb1, by decide, by decide⟩, aw7F7, if_pos rfl]
  unfold bWithP
  rw [h1]
  dsimp only
  rw [h2]
  dsimp only
  rw [h3, if_pos rfl, if_pos rfl, aw7Can12, aw7J12]
theorem aw7L7 : bLeq [aw71] [aw72] = true := by
  unfold bLeq; rw [aw7Can12, aw7J12, (bSame_iff _ _).2 rfl]; rfl
theorem aw7S7 : bSame [aw71] [aw72] = false := by decide +kernel
theorem aw7FF : fFindP aw71.f 2 = (1, 1, ⟨#[120]⟩, true) := rfl
end Go.Proofs.Ytolbmemogoojhaa
