/-
  No cell of these rows narrows 'for every input' (looked for: loops, veiled, ifaces, maps, wideKeys, modest, calm, conditions, laid).
  DERIVED. THE GIVEN ROWS OF THIS SEAT. 22 by the template 'for every input the law returns true; each argument reads behind the call as it read before'; 0 by the template 'total and deterministic' (their statements: YtefpbljekfkefaaGreatTotals.lean).
  GIVEN WITH THE SEED: the statements are not yours to turn. If you find one false, say at which input.
  Laid BY PROGRAM, IN A SANDBOX (cutbox-rows.mjs): the forced cells as the released guide's own fill.sh prints them over the translation 70767f6ce0493278… (all of the seat's roots in one cut). By AI agents, Wed Nov 11 2026. No macro, syntax, notation, axiom, sorry.
-/
import Derived.Test.YtefpbljekfkefaaGreatChecked
import GoSem.Claim
import GoSem.ClaimJoined
import GoSem.ClaimMapViews
import Derived.JoinedTies
import Derived.KernelRfl
namespace Go.Proofs.YtefpbljekfkefaaGreat
/- THE CELL 'sum', in the pinned program and in every row, IS THE sha256 OF THE DUMP (.gsa) THAT YtefpbljekfkefaaGreatProg.lean LOADS. Nothing in Lean hashes anything: it is a label: what it is worth is what the hold of that sum in a sandbox is worth. -/
noncomputable def Tryz.pinned : Pinned := { name := "ytefpbljekfkefaagreat", sum := "70767f6ce0493278abe58905b87f0883758af3f31cffbc34f7533189c94186bd", checked := Tryz.checked }
namespace Rows
def none {H : Type} : Left H := { results := [], args := [] }

/-- 'carracklaw11.ReleaseCuts': WHATEVER THE INPUT: true; the input reads as it did. -/
def releaseCutsSpec : ChangeSpec := { name := "releaseCuts", fn := fun _ => fun
  | [d1, d2, d3] => { results := [.lit (.bool true)], args := [d1, d2, d3] }
  | _ => none }
def releaseCutsRow : OpenClaim := { program := "ytefpbljekfkefaagreat", sum := "70767f6ce0493278abe58905b87f0883758af3f31cffbc34f7533189c94186bd", func := "carrack/carracklaw11.ReleaseCuts", spec := "releaseCuts", inPlace := ["math/bits.Add64"], unfollowed := true, recurses := true, apart := false }
def ReleaseCutsSaid : Prop := releaseCutsRow.holds Tryz.pinned (OpenSpec.ofChange releaseCutsSpec)

/-- ITS FALSE NEIGHBOUR: 'it returns false'. Refute it at one input. -/
def releaseCutsWrong : ChangeSpec := { name := "releaseCuts", fn := fun _ => fun
  | [d1, d2, d3] => { results := [.lit (.bool false)], args := [d1, d2, d3] }
  | _ => none }
def ReleaseCutsWrongFalsely : Prop := releaseCutsRow.holds Tryz.pinned (OpenSpec.ofChange releaseCutsWrong)

/-- 'carracklaw11.ReleaseMerged': WHATEVER THE INPUT: true; the input reads as it did. -/
def releaseMergedSpec : ChangeSpec := { name := "releaseMerged", fn := fun _ => fun
  | [d] => { results := [.lit (.bool true)], args := [d] }
  | _ => none }
def releaseMergedRow : OpenClaim := { program := "ytefpbljekfkefaagreat", sum := "70767f6ce0493278abe58905b87f0883758af3f31cffbc34f7533189c94186bd", func := "carrack/carracklaw11.ReleaseMerged", spec := "releaseMerged", inPlace := ["math/bits.Add64"], unfollowed := true, recurses := true, apart := false }
def ReleaseMergedSaid : Prop := releaseMergedRow.holds Tryz.pinned (OpenSpec.ofChange releaseMergedSpec)

/-- ITS FALSE NEIGHBOUR: 'it returns false'. Refute it at one input. -/
def releaseMergedWrong : ChangeSpec := { name := "releaseMerged", fn := fun _ => fun
  | [d] => { results := [.lit (.bool false)], args := [d] }
  | _ => none }
def ReleaseMergedWrongFalsely : Prop := releaseMergedRow.holds Tryz.pinned (OpenSpec.ofChange releaseMergedWrong)

/-- 'carracklaw12.ResizeKeeps': WHATEVER THE INPUT: true; the input reads as it did. -/
def resizeKeepsSpec : ChangeSpec := { name := "resizeKeeps", fn := fun _ => fun
  | [d1, d2, d3] => { results := [.lit (.bool true)], args := [d1, d2, d3] }
  | _ => none }
def resizeKeepsRow : OpenClaim := { program := "ytefpbljekfkefaagreat", sum := "70767f6ce0493278abe58905b87f0883758af3f31cffbc34f7533189c94186bd", func := "carrack/carracklaw12.ResizeKeeps", spec := "resizeKeeps", inPlace := ["math/bits.Add64"], unfollowed := true, recurses := true, apart := false }
def ResizeKeepsSaid : Prop := resizeKeepsRow.holds Tryz.pinned (OpenSpec.ofChange resizeKeepsSpec)

/-- ITS FALSE NEIGHBOUR: 'it returns false'. Refute it at one input. -/
def resizeKeepsWrong : ChangeSpec := { name := "resizeKeeps", fn := fun _ => fun
  | [d1, d2, d3] => { results := [.lit (.bool false)], args := [d1, d2, d3] }
  | _ => none }
def ResizeKeepsWrongFalsely : Prop := resizeKeepsRow.holds Tryz.pinned (OpenSpec.ofChange resizeKeepsWrong)

/-- 'carracklaw12.ResizeBack': WHATEVER THE INPUT: true; the input reads as it did. -/
def resizeBackSpec : ChangeSpec := { name := "resizeBack", fn := fun _ => fun
  | [d1, d2, d3] => { results := [.lit (.bool true)], args := [d1, d2, d3] }
  | _ => none }
def resizeBackRow : OpenClaim := { program := "ytefpbljekfkefaagreat", sum := "70767f6ce0493278abe58905b87f0883758af3f31cffbc34f7533189c94186bd", func := "carrack/carracklaw12.ResizeBack", spec := "resizeBack", inPlace := ["math/bits.Add64"], unfollowed := true, recurses := true, apart := false }
def ResizeBackSaid : Prop := resizeBackRow.holds Tryz.pinned (OpenSpec.ofChange resizeBackSpec)

/-- ITS FALSE NEIGHBOUR: 'it returns false'. Refute it at one input. -/
def resizeBackWrong : ChangeSpec := { name := "resizeBack", fn := fun _ => fun
  | [d1, d2, d3] => { results := [.lit (.bool false)], args := [d1, d2, d3] }
  | _ => none }
def ResizeBackWrongFalsely : Prop := resizeBackRow.holds Tryz.pinned (OpenSpec.ofChange resizeBackWrong)

/-- 'carracklaw12.ResizeRoom': WHATEVER THE INPUT: true; the input reads as it did. -/
def resizeRoomSpec : ChangeSpec := { name := "resizeRoom", fn := fun _ => fun
  | [d1, d2] => { results := [.lit (.bool true)], args := [d1, d2] }
  | _ => none }
def resizeRoomRow : OpenClaim := { program := "ytefpbljekfkefaagreat", sum := "70767f6ce0493278abe58905b87f0883758af3f31cffbc34f7533189c94186bd", func := "carrack/carracklaw12.ResizeRoom", spec := "resizeRoom", inPlace := ["math/bits.Add64"], unfollowed := true, recurses := true, apart := false }
def ResizeRoomSaid : Prop := resizeRoomRow.holds Tryz.pinned (OpenSpec.ofChange resizeRoomSpec)

/-- ITS FALSE NEIGHBOUR: 'it returns false'. Refute it at one input. -/
def resizeRoomWrong : ChangeSpec := { name := "resizeRoom", fn := fun _ => fun
  | [d1, d2] => { results := [.lit (.bool false)], args := [d1, d2] }
  | _ => none }
def ResizeRoomWrongFalsely : Prop := resizeRoomRow.holds Tryz.pinned (OpenSpec.ofChange resizeRoomWrong)

/-- 'carracklaw07.TreeTurns': WHATEVER THE INPUT: true; the input reads as it did. -/
def treeTurnsSpec : ChangeSpec := { name := "treeTurns", fn := fun _ => fun
  | [d1, d2] => { results := [.lit (.bool true)], args := [d1, d2] }
  | _ => none }
def treeTurnsRow : OpenClaim := { program := "ytefpbljekfkefaagreat", sum := "70767f6ce0493278abe58905b87f0883758af3f31cffbc34f7533189c94186bd", func := "carrack/carracklaw07.TreeTurns", spec := "treeTurns", unfollowed := true, recurses := true, apart := false }
def TreeTurnsSaid : Prop := treeTurnsRow.holds Tryz.pinned (OpenSpec.ofChange treeTurnsSpec)

/-- ITS FALSE NEIGHBOUR: 'it returns false'. Refute it at one input. -/
def treeTurnsWrong : ChangeSpec := { name := "treeTurns", fn := fun _ => fun
  | [d1, d2] => { results := [.lit (.bool false)], args := [d1, d2] }
  | _ => none }
def TreeTurnsWrongFalsely : Prop := treeTurnsRow.holds Tryz.pinned (OpenSpec.ofChange treeTurnsWrong)

/-- 'carracklaw07.TreeMixed': WHATEVER THE INPUT: true; the input reads as it did. -/
def treeMixedSpec : ChangeSpec := { name := "treeMixed", fn := fun _ => fun
  | [d1, d2] => { results := [.lit (.bool true)], args := [d1, d2] }
  | _ => none }
def treeMixedRow : OpenClaim := { program := "ytefpbljekfkefaagreat", sum := "70767f6ce0493278abe58905b87f0883758af3f31cffbc34f7533189c94186bd", func := "carrack/carracklaw07.TreeMixed", spec := "treeMixed", unfollowed := true, recurses := true, apart := false }
def TreeMixedSaid : Prop := treeMixedRow.holds Tryz.pinned (OpenSpec.ofChange treeMixedSpec)

/-- ITS FALSE NEIGHBOUR: 'it returns false'. Refute it at one input. -/
def treeMixedWrong : ChangeSpec := { name := "treeMixed", fn := fun _ => fun
  | [d1, d2] => { results := [.lit (.bool false)], args := [d1, d2] }
  | _ => none }
def TreeMixedWrongFalsely : Prop := treeMixedRow.holds Tryz.pinned (OpenSpec.ofChange treeMixedWrong)

/-- 'carracklaw07.TreeGoes': WHATEVER THE INPUT: true; the input reads as it did. -/
def treeGoesSpec : ChangeSpec := { name := "treeGoes", fn := fun _ => fun
  | [d1, d2] => { results := [.lit (.bool true)], args := [d1, d2] }
  | _ => none }
def treeGoesRow : OpenClaim := { program := "ytefpbljekfkefaagreat", sum := "70767f6ce0493278abe58905b87f0883758af3f31cffbc34f7533189c94186bd", func := "carrack/carracklaw07.TreeGoes", spec := "treeGoes", unfollowed := true, recurses := true, apart := false }
def TreeGoesSaid : Prop := treeGoesRow.holds Tryz.pinned (OpenSpec.ofChange treeGoesSpec)

/-- ITS FALSE NEIGHBOUR: 'it returns false'. Refute it at one input. -/
def treeGoesWrong : ChangeSpec := { name := "treeGoes", fn := fun _ => fun
  | [d1, d2] => { results := [.lit (.bool false)], args := [d1, d2] }
  | _ => none }
def TreeGoesWrongFalsely : Prop := treeGoesRow.holds Tryz.pinned (OpenSpec.ofChange treeGoesWrong)

/-- 'carracklaw07.TreeAfter': WHATEVER THE INPUT: true; the input reads as it did. -/
def treeAfterSpec : ChangeSpec := { name := "treeAfter", fn := fun _ => fun
  | [d1, d2, d3] => { results := [.lit (.bool true)], args := [d1, d2, d3] }
  | _ => none }
def treeAfterRow : OpenClaim := { program := "ytefpbljekfkefaagreat", sum := "70767f6ce0493278abe58905b87f0883758af3f31cffbc34f7533189c94186bd", func := "carrack/carracklaw07.TreeAfter", spec := "treeAfter", unfollowed := true, recurses := true, apart := false }
def TreeAfterSaid : Prop := treeAfterRow.holds Tryz.pinned (OpenSpec.ofChange treeAfterSpec)

/-- ITS FALSE NEIGHBOUR: 'it returns false'. Refute it at one input. -/
def treeAfterWrong : ChangeSpec := { name := "treeAfter", fn := fun _ => fun
  | [d1, d2, d3] => { results := [.lit (.bool false)], args := [d1, d2, d3] }
  | _ => none }
def TreeAfterWrongFalsely : Prop := treeAfterRow.holds Tryz.pinned (OpenSpec.ofChange treeAfterWrong)

/-- 'carracklaw07.TreeSteps': WHATEVER THE INPUT: true; the input reads as it did. -/
def treeStepsSpec : ChangeSpec := { name := "treeSteps", fn := fun _ => fun
  | [d] => { results := [.lit (.bool true)], args := [d] }
  | _ => none }
def treeStepsRow : OpenClaim := { program := "ytefpbljekfkefaagreat", sum := "70767f6ce0493278abe58905b87f0883758af3f31cffbc34f7533189c94186bd", func := "carrack/carracklaw07.TreeSteps", spec := "treeSteps", unfollowed := true, recurses := true, apart := false }
def TreeStepsSaid : Prop := treeStepsRow.holds Tryz.pinned (OpenSpec.ofChange treeStepsSpec)

/-- ITS FALSE NEIGHBOUR: 'it returns false'. Refute it at one input. -/
def treeStepsWrong : ChangeSpec := { name := "treeSteps", fn := fun _ => fun
  | [d] => { results := [.lit (.bool false)], args := [d] }
  | _ => none }
def TreeStepsWrongFalsely : Prop := treeStepsRow.holds Tryz.pinned (OpenSpec.ofChange treeStepsWrong)

/-- 'carracklaw10.CarveFits': WHATEVER THE INPUT: true; the input reads as it did. -/
def carveFitsSpec : ChangeSpec := { name := "carveFits", fn := fun _ => fun
  | [d1, d2, d3] => { results := [.lit (.bool true)], args := [d1, d2, d3] }
  | _ => none }
def carveFitsRow : OpenClaim := { program := "ytefpbljekfkefaagreat", sum := "70767f6ce0493278abe58905b87f0883758af3f31cffbc34f7533189c94186bd", func := "carrack/carracklaw10.CarveFits", spec := "carveFits", inPlace := ["math/bits.Add64"], unfollowed := true, recurses := true, apart := false }
def CarveFitsSaid : Prop := carveFitsRow.holds Tryz.pinned (OpenSpec.ofChange carveFitsSpec)

/-- ITS FALSE NEIGHBOUR: 'it returns false'. Refute it at one input. -/
def carveFitsWrong : ChangeSpec := { name := "carveFits", fn := fun _ => fun
  | [d1, d2, d3] => { results := [.lit (.bool false)], args := [d1, d2, d3] }
  | _ => none }
def CarveFitsWrongFalsely : Prop := carveFitsRow.holds Tryz.pinned (OpenSpec.ofChange carveFitsWrong)

/-- 'carracklaw10.CarveTakes': WHATEVER THE INPUT: true; the input reads as it did. -/
def carveTakesSpec : ChangeSpec := { name := "carveTakes", fn := fun _ => fun
  | [d1, d2, d3] => { results := [.lit (.bool true)], args := [d1, d2, d3] }
  | _ => none }
def carveTakesRow : OpenClaim := { program := "ytefpbljekfkefaagreat", sum := "70767f6ce0493278abe58905b87f0883758af3f31cffbc34f7533189c94186bd", func := "carrack/carracklaw10.CarveTakes", spec := "carveTakes", inPlace := ["math/bits.Add64"], unfollowed := true, recurses := true, apart := false }
def CarveTakesSaid : Prop := carveTakesRow.holds Tryz.pinned (OpenSpec.ofChange carveTakesSpec)

/-- ITS FALSE NEIGHBOUR: 'it returns false'. Refute it at one input. -/
def carveTakesWrong : ChangeSpec := { name := "carveTakes", fn := fun _ => fun
  | [d1, d2, d3] => { results := [.lit (.bool false)], args := [d1, d2, d3] }
  | _ => none }
def CarveTakesWrongFalsely : Prop := carveTakesRow.holds Tryz.pinned (OpenSpec.ofChange carveTakesWrong)

/-- 'carracklaw10.CarveBest': WHATEVER THE INPUT: true; the input reads as it did. -/
def carveBestSpec : ChangeSpec := { name := "carveBest", fn := fun _ => fun
  | [d1, d2] => { results := [.lit (.bool true)], args := [d1, d2] }
  | _ => none }
def carveBestRow : OpenClaim := { program := "ytefpbljekfkefaagreat", sum := "70767f6ce0493278abe58905b87f0883758af3f31cffbc34f7533189c94186bd", func := "carrack/carracklaw10.CarveBest", spec := "carveBest", inPlace := ["math/bits.Add64"], unfollowed := true, recurses := true, apart := false }
def CarveBestSaid : Prop := carveBestRow.holds Tryz.pinned (OpenSpec.ofChange carveBestSpec)

/-- ITS FALSE NEIGHBOUR: 'it returns false'. Refute it at one input. -/
def carveBestWrong : ChangeSpec := { name := "carveBest", fn := fun _ => fun
  | [d1, d2] => { results := [.lit (.bool false)], args := [d1, d2] }
  | _ => none }
def CarveBestWrongFalsely : Prop := carveBestRow.holds Tryz.pinned (OpenSpec.ofChange carveBestWrong)

/-- 'carracklaw10.CarveNone': WHATEVER THE INPUT: true; the input reads as it did. -/
def carveNoneSpec : ChangeSpec := { name := "carveNone", fn := fun _ => fun
  | [d1, d2, d3] => { results := [.lit (.bool true)], args := [d1, d2, d3] }
  | _ => none }
def carveNoneRow : OpenClaim := { program := "ytefpbljekfkefaagreat", sum := "70767f6ce0493278abe58905b87f0883758af3f31cffbc34f7533189c94186bd", func := "carrack/carracklaw10.CarveNone", spec := "carveNone", inPlace := ["math/bits.Add64"], unfollowed := true, recurses := true, apart := false }
def CarveNoneSaid : Prop := carveNoneRow.holds Tryz.pinned (OpenSpec.ofChange carveNoneSpec)

/-- ITS FALSE NEIGHBOUR: 'it returns false'. Refute it at one input. -/
def carveNoneWrong : ChangeSpec := { name := "carveNone", fn := fun _ => fun
  | [d1, d2, d3] => { results := [.lit (.bool false)], args := [d1, d2, d3] }
  | _ => none }
def CarveNoneWrongFalsely : Prop := carveNoneRow.holds Tryz.pinned (OpenSpec.ofChange carveNoneWrong)

/-- 'carracklaw10.CarveZeros': WHATEVER THE INPUT: true; the input reads as it did. -/
def carveZerosSpec : ChangeSpec := { name := "carveZeros", fn := fun _ => fun
  | [d1, d2] => { results := [.lit (.bool true)], args := [d1, d2] }
  | _ => none }
def carveZerosRow : OpenClaim := { program := "ytefpbljekfkefaagreat", sum := "70767f6ce0493278abe58905b87f0883758af3f31cffbc34f7533189c94186bd", func := "carrack/carracklaw10.CarveZeros", spec := "carveZeros", inPlace := ["math/bits.Add64"], unfollowed := true, recurses := true, apart := false }
def CarveZerosSaid : Prop := carveZerosRow.holds Tryz.pinned (OpenSpec.ofChange carveZerosSpec)

/-- ITS FALSE NEIGHBOUR: 'it returns false'. Refute it at one input. -/
def carveZerosWrong : ChangeSpec := { name := "carveZeros", fn := fun _ => fun
  | [d1, d2] => { results := [.lit (.bool false)], args := [d1, d2] }
  | _ => none }
def CarveZerosWrongFalsely : Prop := carveZerosRow.holds Tryz.pinned (OpenSpec.ofChange carveZerosWrong)

/-- 'carracklaw10.CarveStays': WHATEVER THE INPUT: true; the input reads as it did. -/
def carveStaysSpec : ChangeSpec := { name := "carveStays", fn := fun _ => fun
  | [d1, d2] => { results := [.lit (.bool true)], args := [d1, d2] }
  | _ => none }
def carveStaysRow : OpenClaim := { program := "ytefpbljekfkefaagreat", sum := "70767f6ce0493278abe58905b87f0883758af3f31cffbc34f7533189c94186bd", func := "carrack/carracklaw10.CarveStays", spec := "carveStays", inPlace := ["math/bits.Add64"], unfollowed := true, recurses := true, apart := false }
def CarveStaysSaid : Prop := carveStaysRow.holds Tryz.pinned (OpenSpec.ofChange carveStaysSpec)

/-- ITS FALSE NEIGHBOUR: 'it returns false'. Refute it at one input. -/
def carveStaysWrong : ChangeSpec := { name := "carveStays", fn := fun _ => fun
  | [d1, d2] => { results := [.lit (.bool false)], args := [d1, d2] }
  | _ => none }
def CarveStaysWrongFalsely : Prop := carveStaysRow.holds Tryz.pinned (OpenSpec.ofChange carveStaysWrong)

/-- 'carracklaw11.ReleasePlays': WHATEVER THE INPUT: true; the input reads as it did. -/
def releasePlaysSpec : ChangeSpec := { name := "releasePlays", fn := fun _ => fun
  | [d1, d2, d3] => { results := [.lit (.bool true)], args := [d1, d2, d3] }
  | _ => none }
def releasePlaysRow : OpenClaim := { program := "ytefpbljekfkefaagreat", sum := "70767f6ce0493278abe58905b87f0883758af3f31cffbc34f7533189c94186bd", func := "carrack/carracklaw11.ReleasePlays", spec := "releasePlays", inPlace := ["math/bits.Add64"], unfollowed := true, recurses := true, apart := false }
def ReleasePlaysSaid : Prop := releasePlaysRow.holds Tryz.pinned (OpenSpec.ofChange releasePlaysSpec)

/-- ITS FALSE NEIGHBOUR: 'it returns false'. Refute it at one input. -/
def releasePlaysWrong : ChangeSpec := { name := "releasePlays", fn := fun _ => fun
  | [d1, d2, d3] => { results := [.lit (.bool false)], args := [d1, d2, d3] }
  | _ => none }
def ReleasePlaysWrongFalsely : Prop := releasePlaysRow.holds Tryz.pinned (OpenSpec.ofChange releasePlaysWrong)

/-- 'carracklaw11.ReleaseUndoes': WHATEVER THE INPUT: true; the input reads as it did. -/
def releaseUndoesSpec : ChangeSpec := { name := "releaseUndoes", fn := fun _ => fun
  | [d1, d2, d3] => { results := [.lit (.bool true)], args := [d1, d2, d3] }
  | _ => none }
def releaseUndoesRow : OpenClaim := { program := "ytefpbljekfkefaagreat", sum := "70767f6ce0493278abe58905b87f0883758af3f31cffbc34f7533189c94186bd", func := "carrack/carracklaw11.ReleaseUndoes", spec := "releaseUndoes", inPlace := ["math/bits.Add64"], unfollowed := true, recurses := true, apart := false }
def ReleaseUndoesSaid : Prop := releaseUndoesRow.holds Tryz.pinned (OpenSpec.ofChange releaseUndoesSpec)

/-- ITS FALSE NEIGHBOUR: 'it returns false'. Refute it at one input. -/
def releaseUndoesWrong : ChangeSpec := { name := "releaseUndoes", fn := fun _ => fun
  | [d1, d2, d3] => { results := [.lit (.bool false)], args := [d1, d2, d3] }
  | _ => none }
def ReleaseUndoesWrongFalsely : Prop := releaseUndoesRow.holds Tryz.pinned (OpenSpec.ofChange releaseUndoesWrong)

/-- 'carracklaw11.ReleaseAll': WHATEVER THE INPUT: true; the input reads as it did. -/
def releaseAllSpec : ChangeSpec := { name := "releaseAll", fn := fun _ => fun
  | [d1, d2] => { results := [.lit (.bool true)], args := [d1, d2] }
  | _ => none }
def releaseAllRow : OpenClaim := { program := "ytefpbljekfkefaagreat", sum := "70767f6ce0493278abe58905b87f0883758af3f31cffbc34f7533189c94186bd", func := "carrack/carracklaw11.ReleaseAll", spec := "releaseAll", inPlace := ["math/bits.Add64"], unfollowed := true, recurses := true, apart := false }
def ReleaseAllSaid : Prop := releaseAllRow.holds Tryz.pinned (OpenSpec.ofChange releaseAllSpec)

/-- ITS FALSE NEIGHBOUR: 'it returns false'. Refute it at one input. -/
def releaseAllWrong : ChangeSpec := { name := "releaseAll", fn := fun _ => fun
  | [d1, d2] => { results := [.lit (.bool false)], args := [d1, d2] }
  | _ => none }
def ReleaseAllWrongFalsely : Prop := releaseAllRow.holds Tryz.pinned (OpenSpec.ofChange releaseAllWrong)

/-- 'carracklaw11.ReleaseNone': WHATEVER THE INPUT: true; the input reads as it did. -/
def releaseNoneSpec : ChangeSpec := { name := "releaseNone", fn := fun _ => fun
  | [d1, d2] => { results := [.lit (.bool true)], args := [d1, d2] }
  | _ => none }
def releaseNoneRow : OpenClaim := { program := "ytefpbljekfkefaagreat", sum := "70767f6ce0493278abe58905b87f0883758af3f31cffbc34f7533189c94186bd", func := "carrack/carracklaw11.ReleaseNone", spec := "releaseNone", inPlace := ["math/bits.Add64"], unfollowed := true, recurses := true, apart := false }
def ReleaseNoneSaid : Prop := releaseNoneRow.holds Tryz.pinned (OpenSpec.ofChange releaseNoneSpec)

/-- ITS FALSE NEIGHBOUR: 'it returns false'. Refute it at one input. -/
def releaseNoneWrong : ChangeSpec := { name := "releaseNone", fn := fun _ => fun
  | [d1, d2] => { results := [.lit (.bool false)], args := [d1, d2] }
  | _ => none }
def ReleaseNoneWrongFalsely : Prop := releaseNoneRow.holds Tryz.pinned (OpenSpec.ofChange releaseNoneWrong)

/-- 'carracklaw12.ResizeTells': WHATEVER THE INPUT: true; the input reads as it did. -/
def resizeTellsSpec : ChangeSpec := { name := "resizeTells", fn := fun _ => fun
  | [d1, d2, d3] => { results := [.lit (.bool true)], args := [d1, d2, d3] }
  | _ => none }
def resizeTellsRow : OpenClaim := { program := "ytefpbljekfkefaagreat", sum := "70767f6ce0493278abe58905b87f0883758af3f31cffbc34f7533189c94186bd", func := "carrack/carracklaw12.ResizeTells", spec := "resizeTells", inPlace := ["math/bits.Add64"], unfollowed := true, recurses := true, apart := false }
def ResizeTellsSaid : Prop := resizeTellsRow.holds Tryz.pinned (OpenSpec.ofChange resizeTellsSpec)

/-- ITS FALSE NEIGHBOUR: 'it returns false'. Refute it at one input. -/
def resizeTellsWrong : ChangeSpec := { name := "resizeTells", fn := fun _ => fun
  | [d1, d2, d3] => { results := [.lit (.bool false)], args := [d1, d2, d3] }
  | _ => none }
def ResizeTellsWrongFalsely : Prop := resizeTellsRow.holds Tryz.pinned (OpenSpec.ofChange resizeTellsWrong)

/-- 'carracklaw12.ResizeNone': WHATEVER THE INPUT: true; the input reads as it did. -/
def resizeNoneSpec : ChangeSpec := { name := "resizeNone", fn := fun _ => fun
  | [d1, d2, d3] => { results := [.lit (.bool true)], args := [d1, d2, d3] }
  | _ => none }
def resizeNoneRow : OpenClaim := { program := "ytefpbljekfkefaagreat", sum := "70767f6ce0493278abe58905b87f0883758af3f31cffbc34f7533189c94186bd", func := "carrack/carracklaw12.ResizeNone", spec := "resizeNone", inPlace := ["math/bits.Add64"], unfollowed := true, recurses := true, apart := false }
def ResizeNoneSaid : Prop := resizeNoneRow.holds Tryz.pinned (OpenSpec.ofChange resizeNoneSpec)

/-- ITS FALSE NEIGHBOUR: 'it returns false'. Refute it at one input. -/
def resizeNoneWrong : ChangeSpec := { name := "resizeNone", fn := fun _ => fun
  | [d1, d2, d3] => { results := [.lit (.bool false)], args := [d1, d2, d3] }
  | _ => none }
def ResizeNoneWrongFalsely : Prop := resizeNoneRow.holds Tryz.pinned (OpenSpec.ofChange resizeNoneWrong)

/- THE SECOND FORM. 'bulk': how many values and letters a reading holds, each counted each time it is reached (what is shared counts as often as it is met; a slice's spare places count too). A statement '..UptoSaid' is the law's where the arguments, and the package variables that the reading takes, are together of bulk at most 1048576: NARROWER than '..Said'. Prove '..Said' where nothing that the law and all that it calls make is longer than what came in: it says more and counts as full. Else prove '..UptoSaid'. A law counts once. -/
mutual
def uptoBulk {H : Type} : DataW H → Nat
  | .lit (.string bytes) => bytes.length + 1
  | .lit _ => 1
  | .nil => 1
  | .ptr d => uptoBulk d + 1
  | .slice elems spare => uptoBulkAll elems + uptoBulkAll spare + 1
  | .agg parts => uptoBulkAll parts + 1
  | .iface _ d => uptoBulk d + 1
  | .map entries => uptoBulkEntries entries + 1
  | .held _ => 1
def uptoBulkAll {H : Type} : List (DataW H) → Nat
  | [] => 0
  | d :: r => uptoBulk d + uptoBulkAll r
def uptoBulkEntries {H : Type} : List (Lit × DataW H) → Nat
  | [] => 0
  | x :: r => uptoBulkEntry x + uptoBulkEntries r
def uptoBulkEntry {H : Type} : Lit × DataW H → Nat
  | (.string bytes, d) => bytes.length + uptoBulk d + 1
  | (_, d) => uptoBulk d + 1
 end
def uptoSmall : (H : Type) → List (DataW H) → Bool := fun _ ds => decide (uptoBulkAll ds ≤ 1048576)
def OpenSpec.upto (s : _root_.Go.ChangeSpec) : _root_.Go.OpenSpec := { _root_.Go.OpenSpec.ofChange s with cond := some uptoSmall }

/-- 'carracklaw11.ReleaseCuts', WHERE WHAT IT READS IS OF BULK AT MOST 1048576: true; the input reads as it did. -/
def releaseCutsUptoRow : OpenClaim := { program := "ytefpbljekfkefaagreat", sum := "70767f6ce0493278abe58905b87f0883758af3f31cffbc34f7533189c94186bd", func := "carrack/carracklaw11.ReleaseCuts", spec := "releaseCuts", inPlace := ["math/bits.Add64"], unfollowed := true, recurses := true, apart := false, narrowed := true }
def ReleaseCutsUptoSaid : Prop := releaseCutsUptoRow.holds Tryz.pinned (OpenSpec.upto releaseCutsSpec)

/-- 'carracklaw11.ReleaseMerged', WHERE WHAT IT READS IS OF BULK AT MOST 1048576: true; the input reads as it did. -/
def releaseMergedUptoRow : OpenClaim := { program := "ytefpbljekfkefaagreat", sum := "70767f6ce0493278abe58905b87f0883758af3f31cffbc34f7533189c94186bd", func := "carrack/carracklaw11.ReleaseMerged", spec := "releaseMerged", inPlace := ["math/bits.Add64"], unfollowed := true, recurses := true, apart := false, narrowed := true }
def ReleaseMergedUptoSaid : Prop := releaseMergedUptoRow.holds Tryz.pinned (OpenSpec.upto releaseMergedSpec)

/-- 'carracklaw12.ResizeKeeps', WHERE WHAT IT READS IS OF BULK AT MOST 1048576: true; the input reads as it did. -/
def resizeKeepsUptoRow : OpenClaim := { program := "ytefpbljekfkefaagreat", sum := "70767f6ce0493278abe58905b87f0883758af3f31cffbc34f7533189c94186bd", func := "carrack/carracklaw12.ResizeKeeps", spec := "resizeKeeps", inPlace := ["math/bits.Add64"], unfollowed := true, recurses := true, apart := false, narrowed := true }
def ResizeKeepsUptoSaid : Prop := resizeKeepsUptoRow.holds Tryz.pinned (OpenSpec.upto resizeKeepsSpec)

/-- 'carracklaw12.ResizeBack', WHERE WHAT IT READS IS OF BULK AT MOST 1048576: true; the input reads as it did. -/
def resizeBackUptoRow : OpenClaim := { program := "ytefpbljekfkefaagreat", sum := "70767f6ce0493278abe58905b87f0883758af3f31cffbc34f7533189c94186bd", func := "carrack/carracklaw12.ResizeBack", spec := "resizeBack", inPlace := ["math/bits.Add64"], unfollowed := true, recurses := true, apart := false, narrowed := true }
def ResizeBackUptoSaid : Prop := resizeBackUptoRow.holds Tryz.pinned (OpenSpec.upto resizeBackSpec)

/-- 'carracklaw12.ResizeRoom', WHERE WHAT IT READS IS OF BULK AT MOST 1048576: true; the input reads as it did. -/
def resizeRoomUptoRow : OpenClaim := { program := "ytefpbljekfkefaagreat", sum := "70767f6ce0493278abe58905b87f0883758af3f31cffbc34f7533189c94186bd", func := "carrack/carracklaw12.ResizeRoom", spec := "resizeRoom", inPlace := ["math/bits.Add64"], unfollowed := true, recurses := true, apart := false, narrowed := true }
def ResizeRoomUptoSaid : Prop := resizeRoomUptoRow.holds Tryz.pinned (OpenSpec.upto resizeRoomSpec)

/-- 'carracklaw07.TreeTurns', WHERE WHAT IT READS IS OF BULK AT MOST 1048576: true; the input reads as it did. -/
def treeTurnsUptoRow : OpenClaim := { program := "ytefpbljekfkefaagreat", sum := "70767f6ce0493278abe58905b87f0883758af3f31cffbc34f7533189c94186bd", func := "carrack/carracklaw07.TreeTurns", spec := "treeTurns", unfollowed := true, recurses := true, apart := false, narrowed := true }
def TreeTurnsUptoSaid : Prop := treeTurnsUptoRow.holds Tryz.pinned (OpenSpec.upto treeTurnsSpec)

/-- 'carracklaw07.TreeMixed', WHERE WHAT IT READS IS OF BULK AT MOST 1048576: true; the input reads as it did. -/
def treeMixedUptoRow : OpenClaim := { program := "ytefpbljekfkefaagreat", sum := "70767f6ce0493278abe58905b87f0883758af3f31cffbc34f7533189c94186bd", func := "carrack/carracklaw07.TreeMixed", spec := "treeMixed", unfollowed := true, recurses := true, apart := false, narrowed := true }
def TreeMixedUptoSaid : Prop := treeMixedUptoRow.holds Tryz.pinned (OpenSpec.upto treeMixedSpec)

/-- 'carracklaw07.TreeGoes', WHERE WHAT IT READS IS OF BULK AT MOST 1048576: true; the input reads as it did. -/
def treeGoesUptoRow : OpenClaim := { program := "ytefpbljekfkefaagreat", sum := "70767f6ce0493278abe58905b87f0883758af3f31cffbc34f7533189c94186bd", func := "carrack/carracklaw07.TreeGoes", spec := "treeGoes", unfollowed := true, recurses := true, apart := false, narrowed := true }
def TreeGoesUptoSaid : Prop := treeGoesUptoRow.holds Tryz.pinned (OpenSpec.upto treeGoesSpec)

/-- 'carracklaw07.TreeAfter', WHERE WHAT IT READS IS OF BULK AT MOST 1048576: true; the input reads as it did. -/
def treeAfterUptoRow : OpenClaim := { program := "ytefpbljekfkefaagreat", sum := "70767f6ce0493278abe58905b87f0883758af3f31cffbc34f7533189c94186bd", func := "carrack/carracklaw07.TreeAfter", spec := "treeAfter", unfollowed := true, recurses := true, apart := false, narrowed := true }
def TreeAfterUptoSaid : Prop := treeAfterUptoRow.holds Tryz.pinned (OpenSpec.upto treeAfterSpec)

/-- 'carracklaw07.TreeSteps', WHERE WHAT IT READS IS OF BULK AT MOST 1048576: true; the input reads as it did. -/
def treeStepsUptoRow : OpenClaim := { program := "ytefpbljekfkefaagreat", sum := "70767f6ce0493278abe58905b87f0883758af3f31cffbc34f7533189c94186bd", func := "carrack/carracklaw07.TreeSteps", spec := "treeSteps", unfollowed := true, recurses := true, apart := false, narrowed := true }
def TreeStepsUptoSaid : Prop := treeStepsUptoRow.holds Tryz.pinned (OpenSpec.upto treeStepsSpec)

/-- 'carracklaw10.CarveFits', WHERE WHAT IT READS IS OF BULK AT MOST 1048576: true; the input reads as it did. -/
def carveFitsUptoRow : OpenClaim := { program := "ytefpbljekfkefaagreat", sum := "70767f6ce0493278abe58905b87f0883758af3f31cffbc34f7533189c94186bd", func := "carrack/carracklaw10.CarveFits", spec := "carveFits", inPlace := ["math/bits.Add64"], unfollowed := true, recurses := true, apart := false, narrowed := true }
def CarveFitsUptoSaid : Prop := carveFitsUptoRow.holds Tryz.pinned (OpenSpec.upto carveFitsSpec)

/-- 'carracklaw10.CarveTakes', WHERE WHAT IT READS IS OF BULK AT MOST 1048576: true; the input reads as it did. -/
def carveTakesUptoRow : OpenClaim := { program := "ytefpbljekfkefaagreat", sum := "70767f6ce0493278abe58905b87f0883758af3f31cffbc34f7533189c94186bd", func := "carrack/carracklaw10.CarveTakes", spec := "carveTakes", inPlace := ["math/bits.Add64"], unfollowed := true, recurses := true, apart := false, narrowed := true }
def CarveTakesUptoSaid : Prop := carveTakesUptoRow.holds Tryz.pinned (OpenSpec.upto carveTakesSpec)

/-- 'carracklaw10.CarveBest', WHERE WHAT IT READS IS OF BULK AT MOST 1048576: true; the input reads as it did. -/
def carveBestUptoRow : OpenClaim := { program := "ytefpbljekfkefaagreat", sum := "70767f6ce0493278abe58905b87f0883758af3f31cffbc34f7533189c94186bd", func := "carrack/carracklaw10.CarveBest", spec := "carveBest", inPlace := ["math/bits.Add64"], unfollowed := true, recurses := true, apart := false, narrowed := true }
def CarveBestUptoSaid : Prop := carveBestUptoRow.holds Tryz.pinned (OpenSpec.upto carveBestSpec)

/-- 'carracklaw10.CarveNone', WHERE WHAT IT READS IS OF BULK AT MOST 1048576: true; the input reads as it did. -/
def carveNoneUptoRow : OpenClaim := { program := "ytefpbljekfkefaagreat", sum := "70767f6ce0493278abe58905b87f0883758af3f31cffbc34f7533189c94186bd", func := "carrack/carracklaw10.CarveNone", spec := "carveNone", inPlace := ["math/bits.Add64"], unfollowed := true, recurses := true, apart := false, narrowed := true }
def CarveNoneUptoSaid : Prop := carveNoneUptoRow.holds Tryz.pinned (OpenSpec.upto carveNoneSpec)

/-- 'carracklaw10.CarveZeros', WHERE WHAT IT READS IS OF BULK AT MOST 1048576: true; the input reads as it did. -/
def carveZerosUptoRow : OpenClaim := { program := "ytefpbljekfkefaagreat", sum := "70767f6ce0493278abe58905b87f0883758af3f31cffbc34f7533189c94186bd", func := "carrack/carracklaw10.CarveZeros", spec := "carveZeros", inPlace := ["math/bits.Add64"], unfollowed := true, recurses := true, apart := false, narrowed := true }
def CarveZerosUptoSaid : Prop := carveZerosUptoRow.holds Tryz.pinned (OpenSpec.upto carveZerosSpec)

/-- 'carracklaw10.CarveStays', WHERE WHAT IT READS IS OF BULK AT MOST 1048576: true; the input reads as it did. -/
def carveStaysUptoRow : OpenClaim := { program := "ytefpbljekfkefaagreat", sum := "70767f6ce0493278abe58905b87f0883758af3f31cffbc34f7533189c94186bd", func := "carrack/carracklaw10.CarveStays", spec := "carveStays", inPlace := ["math/bits.Add64"], unfollowed := true, recurses := true, apart := false, narrowed := true }
def CarveStaysUptoSaid : Prop := carveStaysUptoRow.holds Tryz.pinned (OpenSpec.upto carveStaysSpec)

/-- 'carracklaw11.ReleasePlays', WHERE WHAT IT READS IS OF BULK AT MOST 1048576: true; the input reads as it did. -/
def releasePlaysUptoRow : OpenClaim := { program := "ytefpbljekfkefaagreat", sum := "70767f6ce0493278abe58905b87f0883758af3f31cffbc34f7533189c94186bd", func := "carrack/carracklaw11.ReleasePlays", spec := "releasePlays", inPlace := ["math/bits.Add64"], unfollowed := true, recurses := true, apart := false, narrowed := true }
def ReleasePlaysUptoSaid : Prop := releasePlaysUptoRow.holds Tryz.pinned (OpenSpec.upto releasePlaysSpec)

/-- 'carracklaw11.ReleaseUndoes', WHERE WHAT IT READS IS OF BULK AT MOST 1048576: true; the input reads as it did. -/
def releaseUndoesUptoRow : OpenClaim := { program := "ytefpbljekfkefaagreat", sum := "70767f6ce0493278abe58905b87f0883758af3f31cffbc34f7533189c94186bd", func := "carrack/carracklaw11.ReleaseUndoes", spec := "releaseUndoes", inPlace := ["math/bits.Add64"], unfollowed := true, recurses := true, apart := false, narrowed := true }
def ReleaseUndoesUptoSaid : Prop := releaseUndoesUptoRow.holds Tryz.pinned (OpenSpec.upto releaseUndoesSpec)

/-- 'carracklaw11.ReleaseAll', WHERE WHAT IT READS IS OF BULK AT MOST 1048576: true; the input reads as it did. -/
def releaseAllUptoRow : OpenClaim := { program := "ytefpbljekfkefaagreat", sum := "70767f6ce0493278abe58905b87f0883758af3f31cffbc34f7533189c94186bd", func := "carrack/carracklaw11.ReleaseAll", spec := "releaseAll", inPlace := ["math/bits.Add64"], unfollowed := true, recurses := true, apart := false, narrowed := true }
def ReleaseAllUptoSaid : Prop := releaseAllUptoRow.holds Tryz.pinned (OpenSpec.upto releaseAllSpec)

/-- 'carracklaw11.ReleaseNone', WHERE WHAT IT READS IS OF BULK AT MOST 1048576: true; the input reads as it did. -/
def releaseNoneUptoRow : OpenClaim := { program := "ytefpbljekfkefaagreat", sum := "70767f6ce0493278abe58905b87f0883758af3f31cffbc34f7533189c94186bd", func := "carrack/carracklaw11.ReleaseNone", spec := "releaseNone", inPlace := ["math/bits.Add64"], unfollowed := true, recurses := true, apart := false, narrowed := true }
def ReleaseNoneUptoSaid : Prop := releaseNoneUptoRow.holds Tryz.pinned (OpenSpec.upto releaseNoneSpec)

/-- 'carracklaw12.ResizeTells', WHERE WHAT IT READS IS OF BULK AT MOST 1048576: true; the input reads as it did. -/
def resizeTellsUptoRow : OpenClaim := { program := "ytefpbljekfkefaagreat", sum := "70767f6ce0493278abe58905b87f0883758af3f31cffbc34f7533189c94186bd", func := "carrack/carracklaw12.ResizeTells", spec := "resizeTells", inPlace := ["math/bits.Add64"], unfollowed := true, recurses := true, apart := false, narrowed := true }
def ResizeTellsUptoSaid : Prop := resizeTellsUptoRow.holds Tryz.pinned (OpenSpec.upto resizeTellsSpec)

/-- 'carracklaw12.ResizeNone', WHERE WHAT IT READS IS OF BULK AT MOST 1048576: true; the input reads as it did. -/
def resizeNoneUptoRow : OpenClaim := { program := "ytefpbljekfkefaagreat", sum := "70767f6ce0493278abe58905b87f0883758af3f31cffbc34f7533189c94186bd", func := "carrack/carracklaw12.ResizeNone", spec := "resizeNone", inPlace := ["math/bits.Add64"], unfollowed := true, recurses := true, apart := false, narrowed := true }
def ResizeNoneUptoSaid : Prop := resizeNoneUptoRow.holds Tryz.pinned (OpenSpec.upto resizeNoneSpec)

end Rows
end Go.Proofs.YtefpbljekfkefaaGreat
