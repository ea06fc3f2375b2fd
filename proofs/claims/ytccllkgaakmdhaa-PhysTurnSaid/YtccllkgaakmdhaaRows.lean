/-
  No cell of these rows narrows 'for every input' (looked for: loops, veiled, ifaces, maps, wideKeys, modest, calm, conditions, laid).
  DERIVED. THE GIVEN ROWS OF THIS SEAT. 23 by the template 'for every input the law returns true; each argument reads behind the call as it read before'; 0 by the template 'total and deterministic' (their statements: YtccllkgaakmdhaaTotals.lean).
  GIVEN WITH THE SEED: the statements are not yours to turn. If you find one false, say at which input.
  Laid BY PROGRAM, IN A SANDBOX (cutbox-rows.mjs): the forced cells as the released guide's own fill.sh prints them over the translation df7bd34fb8579975… (all of the seat's roots in one cut). By AI agents, Wed Nov 11 2026. No macro, syntax, notation, axiom, sorry.
-/
import Derived.Test.YtccllkgaakmdhaaChecked
import GoSem.Claim
import GoSem.ClaimJoined
import GoSem.ClaimMapViews
import Derived.JoinedTies
import Derived.KernelRfl
namespace Go.Proofs.Ytccllkgaakmdhaa
/- THE CELL 'sum', in the pinned program and in every row, IS THE sha256 OF THE DUMP (.gsa) THAT YtccllkgaakmdhaaProg.lean LOADS. Nothing in Lean hashes anything: it is a label: what it is worth is what the hold of that sum in a sandbox is worth. -/
noncomputable def Try.pinned : Pinned := { name := "ytccllkgaakmdhaa", sum := "df7bd34fb85799757485968d653791d4f28c877ad9020515ce65134e2c8b3144", checked := Try.checked }
namespace Rows
def none {H : Type} : Left H := { results := [], args := [] }

/-- 'carracklaw03.TxApplies': WHATEVER THE INPUT: true; the input reads as it did. -/
def txAppliesSpec : ChangeSpec := { name := "txApplies", fn := fun _ => fun
  | [d1, d2] => { results := [.lit (.bool true)], args := [d1, d2] }
  | _ => none }
def txAppliesRow : OpenClaim := { program := "ytccllkgaakmdhaa", sum := "df7bd34fb85799757485968d653791d4f28c877ad9020515ce65134e2c8b3144", func := "carrack/carracklaw03.TxApplies", spec := "txApplies", unfollowed := true, recurses := true, apart := false }
def TxAppliesSaid : Prop := txAppliesRow.holds Try.pinned (OpenSpec.ofChange txAppliesSpec)

/-- ITS FALSE NEIGHBOUR: 'it returns false'. Refute it at one input. -/
def txAppliesWrong : ChangeSpec := { name := "txApplies", fn := fun _ => fun
  | [d1, d2] => { results := [.lit (.bool false)], args := [d1, d2] }
  | _ => none }
def TxAppliesWrongFalsely : Prop := txAppliesRow.holds Try.pinned (OpenSpec.ofChange txAppliesWrong)

/-- 'carracklaw03.TxLater': WHATEVER THE INPUT: true; the input reads as it did. -/
def txLaterSpec : ChangeSpec := { name := "txLater", fn := fun _ => fun
  | [d1, d2] => { results := [.lit (.bool true)], args := [d1, d2] }
  | _ => none }
def txLaterRow : OpenClaim := { program := "ytccllkgaakmdhaa", sum := "df7bd34fb85799757485968d653791d4f28c877ad9020515ce65134e2c8b3144", func := "carrack/carracklaw03.TxLater", spec := "txLater", unfollowed := true, recurses := true, apart := false }
def TxLaterSaid : Prop := txLaterRow.holds Try.pinned (OpenSpec.ofChange txLaterSpec)

/-- ITS FALSE NEIGHBOUR: 'it returns false'. Refute it at one input. -/
def txLaterWrong : ChangeSpec := { name := "txLater", fn := fun _ => fun
  | [d1, d2] => { results := [.lit (.bool false)], args := [d1, d2] }
  | _ => none }
def TxLaterWrongFalsely : Prop := txLaterRow.holds Try.pinned (OpenSpec.ofChange txLaterWrong)

/-- 'carracklaw04.HeadFormats': WHATEVER THE INPUT: true; the input reads as it did. -/
def headFormatsSpec : ChangeSpec := { name := "headFormats", fn := fun _ => fun
  | [d1, d2] => { results := [.lit (.bool true)], args := [d1, d2] }
  | _ => none }
def headFormatsRow : OpenClaim := { program := "ytccllkgaakmdhaa", sum := "df7bd34fb85799757485968d653791d4f28c877ad9020515ce65134e2c8b3144", func := "carrack/carracklaw04.HeadFormats", spec := "headFormats", unfollowed := true, recurses := true, apart := false }
def HeadFormatsSaid : Prop := headFormatsRow.holds Try.pinned (OpenSpec.ofChange headFormatsSpec)

/-- ITS FALSE NEIGHBOUR: 'it returns false'. Refute it at one input. -/
def headFormatsWrong : ChangeSpec := { name := "headFormats", fn := fun _ => fun
  | [d1, d2] => { results := [.lit (.bool false)], args := [d1, d2] }
  | _ => none }
def HeadFormatsWrongFalsely : Prop := headFormatsRow.holds Try.pinned (OpenSpec.ofChange headFormatsWrong)

/-- 'carracklaw03.TxJoins': WHATEVER THE INPUT: true; the input reads as it did. -/
def txJoinsSpec : ChangeSpec := { name := "txJoins", fn := fun _ => fun
  | [d1, d2, d3] => { results := [.lit (.bool true)], args := [d1, d2, d3] }
  | _ => none }
def txJoinsRow : OpenClaim := { program := "ytccllkgaakmdhaa", sum := "df7bd34fb85799757485968d653791d4f28c877ad9020515ce65134e2c8b3144", func := "carrack/carracklaw03.TxJoins", spec := "txJoins", unfollowed := true, recurses := true, apart := false }
def TxJoinsSaid : Prop := txJoinsRow.holds Try.pinned (OpenSpec.ofChange txJoinsSpec)

/-- ITS FALSE NEIGHBOUR: 'it returns false'. Refute it at one input. -/
def txJoinsWrong : ChangeSpec := { name := "txJoins", fn := fun _ => fun
  | [d1, d2, d3] => { results := [.lit (.bool false)], args := [d1, d2, d3] }
  | _ => none }
def TxJoinsWrongFalsely : Prop := txJoinsRow.holds Try.pinned (OpenSpec.ofChange txJoinsWrong)

/-- 'carracklaw03.TxNobody': WHATEVER THE INPUT: true; the input reads as it did. -/
def txNobodySpec : ChangeSpec := { name := "txNobody", fn := fun _ => fun
  | [d] => { results := [.lit (.bool true)], args := [d] }
  | _ => none }
def txNobodyRow : OpenClaim := { program := "ytccllkgaakmdhaa", sum := "df7bd34fb85799757485968d653791d4f28c877ad9020515ce65134e2c8b3144", func := "carrack/carracklaw03.TxNobody", spec := "txNobody", unfollowed := true, recurses := true, apart := false }
def TxNobodySaid : Prop := txNobodyRow.holds Try.pinned (OpenSpec.ofChange txNobodySpec)

/-- ITS FALSE NEIGHBOUR: 'it returns false'. Refute it at one input. -/
def txNobodyWrong : ChangeSpec := { name := "txNobody", fn := fun _ => fun
  | [d] => { results := [.lit (.bool false)], args := [d] }
  | _ => none }
def TxNobodyWrongFalsely : Prop := txNobodyRow.holds Try.pinned (OpenSpec.ofChange txNobodyWrong)

/-- 'carracklaw04.HeadOdd': WHATEVER THE INPUT: true; the input reads as it did. -/
def headOddSpec : ChangeSpec := { name := "headOdd", fn := fun _ => fun
  | [d1, d2, d3] => { results := [.lit (.bool true)], args := [d1, d2, d3] }
  | _ => none }
def headOddRow : OpenClaim := { program := "ytccllkgaakmdhaa", sum := "df7bd34fb85799757485968d653791d4f28c877ad9020515ce65134e2c8b3144", func := "carrack/carracklaw04.HeadOdd", spec := "headOdd", unfollowed := true, recurses := true, apart := false }
def HeadOddSaid : Prop := headOddRow.holds Try.pinned (OpenSpec.ofChange headOddSpec)

/-- ITS FALSE NEIGHBOUR: 'it returns false'. Refute it at one input. -/
def headOddWrong : ChangeSpec := { name := "headOdd", fn := fun _ => fun
  | [d1, d2, d3] => { results := [.lit (.bool false)], args := [d1, d2, d3] }
  | _ => none }
def HeadOddWrongFalsely : Prop := headOddRow.holds Try.pinned (OpenSpec.ofChange headOddWrong)

/-- 'carracklaw04.HeadNobody': WHATEVER THE INPUT: true; the input reads as it did. -/
def headNobodySpec : ChangeSpec := { name := "headNobody", fn := fun _ => fun
  | [d1, d2] => { results := [.lit (.bool true)], args := [d1, d2] }
  | _ => none }
def headNobodyRow : OpenClaim := { program := "ytccllkgaakmdhaa", sum := "df7bd34fb85799757485968d653791d4f28c877ad9020515ce65134e2c8b3144", func := "carrack/carracklaw04.HeadNobody", spec := "headNobody", unfollowed := true, recurses := true, apart := false }
def HeadNobodySaid : Prop := headNobodyRow.holds Try.pinned (OpenSpec.ofChange headNobodySpec)

/-- ITS FALSE NEIGHBOUR: 'it returns false'. Refute it at one input. -/
def headNobodyWrong : ChangeSpec := { name := "headNobody", fn := fun _ => fun
  | [d1, d2] => { results := [.lit (.bool false)], args := [d1, d2] }
  | _ => none }
def HeadNobodyWrongFalsely : Prop := headNobodyRow.holds Try.pinned (OpenSpec.ofChange headNobodyWrong)

/-- 'carracklaw03.TxPlays': WHATEVER THE INPUT: true; the input reads as it did. -/
def txPlaysSpec : ChangeSpec := { name := "txPlays", fn := fun _ => fun
  | [d1, d2, d3] => { results := [.lit (.bool true)], args := [d1, d2, d3] }
  | _ => none }
def txPlaysRow : OpenClaim := { program := "ytccllkgaakmdhaa", sum := "df7bd34fb85799757485968d653791d4f28c877ad9020515ce65134e2c8b3144", func := "carrack/carracklaw03.TxPlays", spec := "txPlays", unfollowed := true, recurses := true, apart := false }
def TxPlaysSaid : Prop := txPlaysRow.holds Try.pinned (OpenSpec.ofChange txPlaysSpec)

/-- ITS FALSE NEIGHBOUR: 'it returns false'. Refute it at one input. -/
def txPlaysWrong : ChangeSpec := { name := "txPlays", fn := fun _ => fun
  | [d1, d2, d3] => { results := [.lit (.bool false)], args := [d1, d2, d3] }
  | _ => none }
def TxPlaysWrongFalsely : Prop := txPlaysRow.holds Try.pinned (OpenSpec.ofChange txPlaysWrong)

/-- 'carracklaw03.TxOnce': WHATEVER THE INPUT: true; the input reads as it did. -/
def txOnceSpec : ChangeSpec := { name := "txOnce", fn := fun _ => fun
  | [d1, d2] => { results := [.lit (.bool true)], args := [d1, d2] }
  | _ => none }
def txOnceRow : OpenClaim := { program := "ytccllkgaakmdhaa", sum := "df7bd34fb85799757485968d653791d4f28c877ad9020515ce65134e2c8b3144", func := "carrack/carracklaw03.TxOnce", spec := "txOnce", unfollowed := true, recurses := true, apart := false }
def TxOnceSaid : Prop := txOnceRow.holds Try.pinned (OpenSpec.ofChange txOnceSpec)

/-- ITS FALSE NEIGHBOUR: 'it returns false'. Refute it at one input. -/
def txOnceWrong : ChangeSpec := { name := "txOnce", fn := fun _ => fun
  | [d1, d2] => { results := [.lit (.bool false)], args := [d1, d2] }
  | _ => none }
def TxOnceWrongFalsely : Prop := txOnceRow.holds Try.pinned (OpenSpec.ofChange txOnceWrong)

/-- 'carracklaw04.HeadAgain': WHATEVER THE INPUT: true; the input reads as it did. -/
def headAgainSpec : ChangeSpec := { name := "headAgain", fn := fun _ => fun
  | [d1, d2] => { results := [.lit (.bool true)], args := [d1, d2] }
  | _ => none }
def headAgainRow : OpenClaim := { program := "ytccllkgaakmdhaa", sum := "df7bd34fb85799757485968d653791d4f28c877ad9020515ce65134e2c8b3144", func := "carrack/carracklaw04.HeadAgain", spec := "headAgain", unfollowed := true, recurses := true, apart := false }
def HeadAgainSaid : Prop := headAgainRow.holds Try.pinned (OpenSpec.ofChange headAgainSpec)

/-- ITS FALSE NEIGHBOUR: 'it returns false'. Refute it at one input. -/
def headAgainWrong : ChangeSpec := { name := "headAgain", fn := fun _ => fun
  | [d1, d2] => { results := [.lit (.bool false)], args := [d1, d2] }
  | _ => none }
def HeadAgainWrongFalsely : Prop := headAgainRow.holds Try.pinned (OpenSpec.ofChange headAgainWrong)

/-- 'carracklaw04.HeadChecks': WHATEVER THE INPUT: true; the input reads as it did. -/
def headChecksSpec : ChangeSpec := { name := "headChecks", fn := fun _ => fun
  | [d1, d2] => { results := [.lit (.bool true)], args := [d1, d2] }
  | _ => none }
def headChecksRow : OpenClaim := { program := "ytccllkgaakmdhaa", sum := "df7bd34fb85799757485968d653791d4f28c877ad9020515ce65134e2c8b3144", func := "carrack/carracklaw04.HeadChecks", spec := "headChecks", unfollowed := true, recurses := true, apart := false }
def HeadChecksSaid : Prop := headChecksRow.holds Try.pinned (OpenSpec.ofChange headChecksSpec)

/-- ITS FALSE NEIGHBOUR: 'it returns false'. Refute it at one input. -/
def headChecksWrong : ChangeSpec := { name := "headChecks", fn := fun _ => fun
  | [d1, d2] => { results := [.lit (.bool false)], args := [d1, d2] }
  | _ => none }
def HeadChecksWrongFalsely : Prop := headChecksRow.holds Try.pinned (OpenSpec.ofChange headChecksWrong)

/-- 'carracklaw05.TagTells': WHATEVER THE INPUT: true; the input reads as it did. -/
def tagTellsSpec : ChangeSpec := { name := "tagTells", fn := fun _ => fun
  | [d1, d2] => { results := [.lit (.bool true)], args := [d1, d2] }
  | _ => none }
def tagTellsRow : OpenClaim := { program := "ytccllkgaakmdhaa", sum := "df7bd34fb85799757485968d653791d4f28c877ad9020515ce65134e2c8b3144", func := "carrack/carracklaw05.TagTells", spec := "tagTells", unfollowed := true, recurses := true, apart := false }
def TagTellsSaid : Prop := tagTellsRow.holds Try.pinned (OpenSpec.ofChange tagTellsSpec)

/-- ITS FALSE NEIGHBOUR: 'it returns false'. Refute it at one input. -/
def tagTellsWrong : ChangeSpec := { name := "tagTells", fn := fun _ => fun
  | [d1, d2] => { results := [.lit (.bool false)], args := [d1, d2] }
  | _ => none }
def TagTellsWrongFalsely : Prop := tagTellsRow.holds Try.pinned (OpenSpec.ofChange tagTellsWrong)

/-- 'carracklaw05.TagBack': WHATEVER THE INPUT: true; the input reads as it did. -/
def tagBackSpec : ChangeSpec := { name := "tagBack", fn := fun _ => fun
  | [d1, d2, d3] => { results := [.lit (.bool true)], args := [d1, d2, d3] }
  | _ => none }
def tagBackRow : OpenClaim := { program := "ytccllkgaakmdhaa", sum := "df7bd34fb85799757485968d653791d4f28c877ad9020515ce65134e2c8b3144", func := "carrack/carracklaw05.TagBack", spec := "tagBack", unfollowed := true, recurses := true, apart := false }
def TagBackSaid : Prop := tagBackRow.holds Try.pinned (OpenSpec.ofChange tagBackSpec)

/-- ITS FALSE NEIGHBOUR: 'it returns false'. Refute it at one input. -/
def tagBackWrong : ChangeSpec := { name := "tagBack", fn := fun _ => fun
  | [d1, d2, d3] => { results := [.lit (.bool false)], args := [d1, d2, d3] }
  | _ => none }
def TagBackWrongFalsely : Prop := tagBackRow.holds Try.pinned (OpenSpec.ofChange tagBackWrong)

/-- 'carracklaw05.TagReads': WHATEVER THE INPUT: true; the input reads as it did. -/
def tagReadsSpec : ChangeSpec := { name := "tagReads", fn := fun _ => fun
  | [d1, d2, d3] => { results := [.lit (.bool true)], args := [d1, d2, d3] }
  | _ => none }
def tagReadsRow : OpenClaim := { program := "ytccllkgaakmdhaa", sum := "df7bd34fb85799757485968d653791d4f28c877ad9020515ce65134e2c8b3144", func := "carrack/carracklaw05.TagReads", spec := "tagReads", unfollowed := true, recurses := true, apart := false }
def TagReadsSaid : Prop := tagReadsRow.holds Try.pinned (OpenSpec.ofChange tagReadsSpec)

/-- ITS FALSE NEIGHBOUR: 'it returns false'. Refute it at one input. -/
def tagReadsWrong : ChangeSpec := { name := "tagReads", fn := fun _ => fun
  | [d1, d2, d3] => { results := [.lit (.bool false)], args := [d1, d2, d3] }
  | _ => none }
def TagReadsWrongFalsely : Prop := tagReadsRow.holds Try.pinned (OpenSpec.ofChange tagReadsWrong)

/-- 'carracklaw05.TagFirst': WHATEVER THE INPUT: true; the input reads as it did. -/
def tagFirstSpec : ChangeSpec := { name := "tagFirst", fn := fun _ => fun
  | [d] => { results := [.lit (.bool true)], args := [d] }
  | _ => none }
def tagFirstRow : OpenClaim := { program := "ytccllkgaakmdhaa", sum := "df7bd34fb85799757485968d653791d4f28c877ad9020515ce65134e2c8b3144", func := "carrack/carracklaw05.TagFirst", spec := "tagFirst", unfollowed := true, recurses := true, apart := false }
def TagFirstSaid : Prop := tagFirstRow.holds Try.pinned (OpenSpec.ofChange tagFirstSpec)

/-- ITS FALSE NEIGHBOUR: 'it returns false'. Refute it at one input. -/
def tagFirstWrong : ChangeSpec := { name := "tagFirst", fn := fun _ => fun
  | [d] => { results := [.lit (.bool false)], args := [d] }
  | _ => none }
def TagFirstWrongFalsely : Prop := tagFirstRow.holds Try.pinned (OpenSpec.ofChange tagFirstWrong)

/-- 'carracklaw04.HeadMoves': WHATEVER THE INPUT: true; the input reads as it did. -/
def headMovesSpec : ChangeSpec := { name := "headMoves", fn := fun _ => fun
  | [d1, d2, d3] => { results := [.lit (.bool true)], args := [d1, d2, d3] }
  | _ => none }
def headMovesRow : OpenClaim := { program := "ytccllkgaakmdhaa", sum := "df7bd34fb85799757485968d653791d4f28c877ad9020515ce65134e2c8b3144", func := "carrack/carracklaw04.HeadMoves", spec := "headMoves", unfollowed := true, recurses := true, apart := false }
def HeadMovesSaid : Prop := headMovesRow.holds Try.pinned (OpenSpec.ofChange headMovesSpec)

/-- ITS FALSE NEIGHBOUR: 'it returns false'. Refute it at one input. -/
def headMovesWrong : ChangeSpec := { name := "headMoves", fn := fun _ => fun
  | [d1, d2, d3] => { results := [.lit (.bool false)], args := [d1, d2, d3] }
  | _ => none }
def HeadMovesWrongFalsely : Prop := headMovesRow.holds Try.pinned (OpenSpec.ofChange headMovesWrong)

/-- 'carracklaw05.TagStands': WHATEVER THE INPUT: true; the input reads as it did. -/
def tagStandsSpec : ChangeSpec := { name := "tagStands", fn := fun _ => fun
  | [d1, d2, d3] => { results := [.lit (.bool true)], args := [d1, d2, d3] }
  | _ => none }
def tagStandsRow : OpenClaim := { program := "ytccllkgaakmdhaa", sum := "df7bd34fb85799757485968d653791d4f28c877ad9020515ce65134e2c8b3144", func := "carrack/carracklaw05.TagStands", spec := "tagStands", unfollowed := true, recurses := true, apart := false }
def TagStandsSaid : Prop := tagStandsRow.holds Try.pinned (OpenSpec.ofChange tagStandsSpec)

/-- ITS FALSE NEIGHBOUR: 'it returns false'. Refute it at one input. -/
def tagStandsWrong : ChangeSpec := { name := "tagStands", fn := fun _ => fun
  | [d1, d2, d3] => { results := [.lit (.bool false)], args := [d1, d2, d3] }
  | _ => none }
def TagStandsWrongFalsely : Prop := tagStandsRow.holds Try.pinned (OpenSpec.ofChange tagStandsWrong)

/-- 'carracklaw06.PhysRaw': WHATEVER THE INPUT: true; the input reads as it did. -/
def physRawSpec : ChangeSpec := { name := "physRaw", fn := fun _ => fun
  | [d1, d2] => { results := [.lit (.bool true)], args := [d1, d2] }
  | _ => none }
def physRawRow : OpenClaim := { program := "ytccllkgaakmdhaa", sum := "df7bd34fb85799757485968d653791d4f28c877ad9020515ce65134e2c8b3144", func := "carrack/carracklaw06.PhysRaw", spec := "physRaw", inPlace := ["math/bits.Add64"], unfollowed := true, recurses := true, apart := false }
def PhysRawSaid : Prop := physRawRow.holds Try.pinned (OpenSpec.ofChange physRawSpec)

/-- ITS FALSE NEIGHBOUR: 'it returns false'. Refute it at one input. -/
def physRawWrong : ChangeSpec := { name := "physRaw", fn := fun _ => fun
  | [d1, d2] => { results := [.lit (.bool false)], args := [d1, d2] }
  | _ => none }
def PhysRawWrongFalsely : Prop := physRawRow.holds Try.pinned (OpenSpec.ofChange physRawWrong)

/-- 'carracklaw06.PhysSums': WHATEVER THE INPUT: true; the input reads as it did. -/
def physSumsSpec : ChangeSpec := { name := "physSums", fn := fun _ => fun
  | [d] => { results := [.lit (.bool true)], args := [d] }
  | _ => none }
def physSumsRow : OpenClaim := { program := "ytccllkgaakmdhaa", sum := "df7bd34fb85799757485968d653791d4f28c877ad9020515ce65134e2c8b3144", func := "carrack/carracklaw06.PhysSums", spec := "physSums", inPlace := ["math/bits.Add64"], unfollowed := true, recurses := true, apart := false }
def PhysSumsSaid : Prop := physSumsRow.holds Try.pinned (OpenSpec.ofChange physSumsSpec)

/-- ITS FALSE NEIGHBOUR: 'it returns false'. Refute it at one input. -/
def physSumsWrong : ChangeSpec := { name := "physSums", fn := fun _ => fun
  | [d] => { results := [.lit (.bool false)], args := [d] }
  | _ => none }
def PhysSumsWrongFalsely : Prop := physSumsRow.holds Try.pinned (OpenSpec.ofChange physSumsWrong)

/-- 'carracklaw06.PhysWalks': WHATEVER THE INPUT: true; the input reads as it did. -/
def physWalksSpec : ChangeSpec := { name := "physWalks", fn := fun _ => fun
  | [d1, d2, d3] => { results := [.lit (.bool true)], args := [d1, d2, d3] }
  | _ => none }
def physWalksRow : OpenClaim := { program := "ytccllkgaakmdhaa", sum := "df7bd34fb85799757485968d653791d4f28c877ad9020515ce65134e2c8b3144", func := "carrack/carracklaw06.PhysWalks", spec := "physWalks", inPlace := ["math/bits.Add64"], unfollowed := true, recurses := true, apart := false }
def PhysWalksSaid : Prop := physWalksRow.holds Try.pinned (OpenSpec.ofChange physWalksSpec)

/-- ITS FALSE NEIGHBOUR: 'it returns false'. Refute it at one input. -/
def physWalksWrong : ChangeSpec := { name := "physWalks", fn := fun _ => fun
  | [d1, d2, d3] => { results := [.lit (.bool false)], args := [d1, d2, d3] }
  | _ => none }
def PhysWalksWrongFalsely : Prop := physWalksRow.holds Try.pinned (OpenSpec.ofChange physWalksWrong)

/-- 'carracklaw06.PhysFinds': WHATEVER THE INPUT: true; the input reads as it did. -/
def physFindsSpec : ChangeSpec := { name := "physFinds", fn := fun _ => fun
  | [d1, d2] => { results := [.lit (.bool true)], args := [d1, d2] }
  | _ => none }
def physFindsRow : OpenClaim := { program := "ytccllkgaakmdhaa", sum := "df7bd34fb85799757485968d653791d4f28c877ad9020515ce65134e2c8b3144", func := "carrack/carracklaw06.PhysFinds", spec := "physFinds", inPlace := ["math/bits.Add64"], unfollowed := true, recurses := true, apart := false }
def PhysFindsSaid : Prop := physFindsRow.holds Try.pinned (OpenSpec.ofChange physFindsSpec)

/-- ITS FALSE NEIGHBOUR: 'it returns false'. Refute it at one input. -/
def physFindsWrong : ChangeSpec := { name := "physFinds", fn := fun _ => fun
  | [d1, d2] => { results := [.lit (.bool false)], args := [d1, d2] }
  | _ => none }
def PhysFindsWrongFalsely : Prop := physFindsRow.holds Try.pinned (OpenSpec.ofChange physFindsWrong)

/-- 'carracklaw06.PhysBeside': WHATEVER THE INPUT: true; the input reads as it did. -/
def physBesideSpec : ChangeSpec := { name := "physBeside", fn := fun _ => fun
  | [d1, d2] => { results := [.lit (.bool true)], args := [d1, d2] }
  | _ => none }
def physBesideRow : OpenClaim := { program := "ytccllkgaakmdhaa", sum := "df7bd34fb85799757485968d653791d4f28c877ad9020515ce65134e2c8b3144", func := "carrack/carracklaw06.PhysBeside", spec := "physBeside", inPlace := ["math/bits.Add64"], unfollowed := true, recurses := true, apart := false }
def PhysBesideSaid : Prop := physBesideRow.holds Try.pinned (OpenSpec.ofChange physBesideSpec)

/-- ITS FALSE NEIGHBOUR: 'it returns false'. Refute it at one input. -/
def physBesideWrong : ChangeSpec := { name := "physBeside", fn := fun _ => fun
  | [d1, d2] => { results := [.lit (.bool false)], args := [d1, d2] }
  | _ => none }
def PhysBesideWrongFalsely : Prop := physBesideRow.holds Try.pinned (OpenSpec.ofChange physBesideWrong)

/-- 'carracklaw06.PhysTurn': WHATEVER THE INPUT: true; the input reads as it did. -/
def physTurnSpec : ChangeSpec := { name := "physTurn", fn := fun _ => fun
  | [d] => { results := [.lit (.bool true)], args := [d] }
  | _ => none }
def physTurnRow : OpenClaim := { program := "ytccllkgaakmdhaa", sum := "df7bd34fb85799757485968d653791d4f28c877ad9020515ce65134e2c8b3144", func := "carrack/carracklaw06.PhysTurn", spec := "physTurn", inPlace := ["math/bits.Add64"], unfollowed := true, recurses := true, apart := false }
def PhysTurnSaid : Prop := physTurnRow.holds Try.pinned (OpenSpec.ofChange physTurnSpec)

/-- ITS FALSE NEIGHBOUR: 'it returns false'. Refute it at one input. -/
def physTurnWrong : ChangeSpec := { name := "physTurn", fn := fun _ => fun
  | [d] => { results := [.lit (.bool false)], args := [d] }
  | _ => none }
def PhysTurnWrongFalsely : Prop := physTurnRow.holds Try.pinned (OpenSpec.ofChange physTurnWrong)

/- THE SECOND FORM. 'bulk': how many values and letters a reading holds, each counted each time it is reached (what is shared counts as often as it is met; a slice's spare places count too). A statement '..UptoSaid' is the law's where the arguments, and the package variables that the reading takes, are together of bulk at most 1048576: NARROWER than '..Said'. Prove '..Said' where nothing that the law and all that it calls make is longer than what came in: it says more and counts as full. Else prove '..UptoSaid'. A law counts once. -/
mutual
def uptoBulk {H : Type} : DataW H → Nat
  | .lit (.string bytes) => bytes.length + 1
  | .lit _ => 1
  | .nil => 1
  | .ptr d => uptoBulk d + 1
  | .slice elems spare => uptoBulkAll elems + uptoBulkAll spare + 1
  | .agg parts => uptoBulkAll parts + 1
  | .iface _ d => uptoBulk d + 1
  | .map entries => uptoBulkEntries entries + 1
  | .held _ => 1
def uptoBulkAll {H : Type} : List (DataW H) → Nat
  | [] => 0
  | d :: r => uptoBulk d + uptoBulkAll r
def uptoBulkEntries {H : Type} : List (Lit × DataW H) → Nat
  | [] => 0
  | x :: r => uptoBulkEntry x + uptoBulkEntries r
def uptoBulkEntry {H : Type} : Lit × DataW H → Nat
  | (.string bytes, d) => bytes.length + uptoBulk d + 1
  | (_, d) => uptoBulk d + 1
 end
def uptoSmall : (H : Type) → List (DataW H) → Bool := fun _ ds => decide (uptoBulkAll ds ≤ 1048576)
def OpenSpec.upto (s : _root_.Go.ChangeSpec) : _root_.Go.OpenSpec := { _root_.Go.OpenSpec.ofChange s with cond := some uptoSmall }

/-- 'carracklaw03.TxApplies', WHERE WHAT IT READS IS OF BULK AT MOST 1048576: true; the input reads as it did. -/
def txAppliesUptoRow : OpenClaim := { program := "ytccllkgaakmdhaa", sum := "df7bd34fb85799757485968d653791d4f28c877ad9020515ce65134e2c8b3144", func := "carrack/carracklaw03.TxApplies", spec := "txApplies", unfollowed := true, recurses := true, apart := false, narrowed := true }
def TxAppliesUptoSaid : Prop := txAppliesUptoRow.holds Try.pinned (OpenSpec.upto txAppliesSpec)

/-- 'carracklaw03.TxLater', WHERE WHAT IT READS IS OF BULK AT MOST 1048576: true; the input reads as it did. -/
def txLaterUptoRow : OpenClaim := { program := "ytccllkgaakmdhaa", sum := "df7bd34fb85799757485968d653791d4f28c877ad9020515ce65134e2c8b3144", func := "carrack/carracklaw03.TxLater", spec := "txLater", unfollowed := true, recurses := true, apart := false, narrowed := true }
def TxLaterUptoSaid : Prop := txLaterUptoRow.holds Try.pinned (OpenSpec.upto txLaterSpec)

/-- 'carracklaw04.HeadFormats', WHERE WHAT IT READS IS OF BULK AT MOST 1048576: true; the input reads as it did. -/
def headFormatsUptoRow : OpenClaim := { program := "ytccllkgaakmdhaa", sum := "df7bd34fb85799757485968d653791d4f28c877ad9020515ce65134e2c8b3144", func := "carrack/carracklaw04.HeadFormats", spec := "headFormats", unfollowed := true, recurses := true, apart := false, narrowed := true }
def HeadFormatsUptoSaid : Prop := headFormatsUptoRow.holds Try.pinned (OpenSpec.upto headFormatsSpec)

/-- 'carracklaw03.TxJoins', WHERE WHAT IT READS IS OF BULK AT MOST 1048576: true; the input reads as it did. -/
def txJoinsUptoRow : OpenClaim := { program := "ytccllkgaakmdhaa", sum := "df7bd34fb85799757485968d653791d4f28c877ad9020515ce65134e2c8b3144", func := "carrack/carracklaw03.TxJoins", spec := "txJoins", unfollowed := true, recurses := true, apart := false, narrowed := true }
def TxJoinsUptoSaid : Prop := txJoinsUptoRow.holds Try.pinned (OpenSpec.upto txJoinsSpec)

/-- 'carracklaw03.TxNobody', WHERE WHAT IT READS IS OF BULK AT MOST 1048576: true; the input reads as it did. -/
def txNobodyUptoRow : OpenClaim := { program := "ytccllkgaakmdhaa", sum := "df7bd34fb85799757485968d653791d4f28c877ad9020515ce65134e2c8b3144", func := "carrack/carracklaw03.TxNobody", spec := "txNobody", unfollowed := true, recurses := true, apart := false, narrowed := true }
def TxNobodyUptoSaid : Prop := txNobodyUptoRow.holds Try.pinned (OpenSpec.upto txNobodySpec)

/-- 'carracklaw04.HeadOdd', WHERE WHAT IT READS IS OF BULK AT MOST 1048576: true; the input reads as it did. -/
def headOddUptoRow : OpenClaim := { program := "ytccllkgaakmdhaa", sum := "df7bd34fb85799757485968d653791d4f28c877ad9020515ce65134e2c8b3144", func := "carrack/carracklaw04.HeadOdd", spec := "headOdd", unfollowed := true, recurses := true, apart := false, narrowed := true }
def HeadOddUptoSaid : Prop := headOddUptoRow.holds Try.pinned (OpenSpec.upto headOddSpec)

/-- 'carracklaw04.HeadNobody', WHERE WHAT IT READS IS OF BULK AT MOST 1048576: true; the input reads as it did. -/
def headNobodyUptoRow : OpenClaim := { program := "ytccllkgaakmdhaa", sum := "df7bd34fb85799757485968d653791d4f28c877ad9020515ce65134e2c8b3144", func := "carrack/carracklaw04.HeadNobody", spec := "headNobody", unfollowed := true, recurses := true, apart := false, narrowed := true }
def HeadNobodyUptoSaid : Prop := headNobodyUptoRow.holds Try.pinned (OpenSpec.upto headNobodySpec)

/-- 'carracklaw03.TxPlays', WHERE WHAT IT READS IS OF BULK AT MOST 1048576: true; the input reads as it did. -/
def txPlaysUptoRow : OpenClaim := { program := "ytccllkgaakmdhaa", sum := "df7bd34fb85799757485968d653791d4f28c877ad9020515ce65134e2c8b3144", func := "carrack/carracklaw03.TxPlays", spec := "txPlays", unfollowed := true, recurses := true, apart := false, narrowed := true }
def TxPlaysUptoSaid : Prop := txPlaysUptoRow.holds Try.pinned (OpenSpec.upto txPlaysSpec)

/-- 'carracklaw03.TxOnce', WHERE WHAT IT READS IS OF BULK AT MOST 1048576: true; the input reads as it did. -/
def txOnceUptoRow : OpenClaim := { program := "ytccllkgaakmdhaa", sum := "df7bd34fb85799757485968d653791d4f28c877ad9020515ce65134e2c8b3144", func := "carrack/carracklaw03.TxOnce", spec := "txOnce", unfollowed := true, recurses := true, apart := false, narrowed := true }
def TxOnceUptoSaid : Prop := txOnceUptoRow.holds Try.pinned (OpenSpec.upto txOnceSpec)

/-- 'carracklaw04.HeadAgain', WHERE WHAT IT READS IS OF BULK AT MOST 1048576: true; the input reads as it did. -/
def headAgainUptoRow : OpenClaim := { program := "ytccllkgaakmdhaa", sum := "df7bd34fb85799757485968d653791d4f28c877ad9020515ce65134e2c8b3144", func := "carrack/carracklaw04.HeadAgain", spec := "headAgain", unfollowed := true, recurses := true, apart := false, narrowed := true }
def HeadAgainUptoSaid : Prop := headAgainUptoRow.holds Try.pinned (OpenSpec.upto headAgainSpec)

/-- 'carracklaw04.HeadChecks', WHERE WHAT IT READS IS OF BULK AT MOST 1048576: true; the input reads as it did. -/
def headChecksUptoRow : OpenClaim := { program := "ytccllkgaakmdhaa", sum := "df7bd34fb85799757485968d653791d4f28c877ad9020515ce65134e2c8b3144", func := "carrack/carracklaw04.HeadChecks", spec := "headChecks", unfollowed := true, recurses := true, apart := false, narrowed := true }
def HeadChecksUptoSaid : Prop := headChecksUptoRow.holds Try.pinned (OpenSpec.upto headChecksSpec)

/-- 'carracklaw05.TagTells', WHERE WHAT IT READS IS OF BULK AT MOST 1048576: true; the input reads as it did. -/
def tagTellsUptoRow : OpenClaim := { program := "ytccllkgaakmdhaa", sum := "df7bd34fb85799757485968d653791d4f28c877ad9020515ce65134e2c8b3144", func := "carrack/carracklaw05.TagTells", spec := "tagTells", unfollowed := true, recurses := true, apart := false, narrowed := true }
def TagTellsUptoSaid : Prop := tagTellsUptoRow.holds Try.pinned (OpenSpec.upto tagTellsSpec)

/-- 'carracklaw05.TagBack', WHERE WHAT IT READS IS OF BULK AT MOST 1048576: true; the input reads as it did. -/
def tagBackUptoRow : OpenClaim := { program := "ytccllkgaakmdhaa", sum := "df7bd34fb85799757485968d653791d4f28c877ad9020515ce65134e2c8b3144", func := "carrack/carracklaw05.TagBack", spec := "tagBack", unfollowed := true, recurses := true, apart := false, narrowed := true }
def TagBackUptoSaid : Prop := tagBackUptoRow.holds Try.pinned (OpenSpec.upto tagBackSpec)

/-- 'carracklaw05.TagReads', WHERE WHAT IT READS IS OF BULK AT MOST 1048576: true; the input reads as it did. -/
def tagReadsUptoRow : OpenClaim := { program := "ytccllkgaakmdhaa", sum := "df7bd34fb85799757485968d653791d4f28c877ad9020515ce65134e2c8b3144", func := "carrack/carracklaw05.TagReads", spec := "tagReads", unfollowed := true, recurses := true, apart := false, narrowed := true }
def TagReadsUptoSaid : Prop := tagReadsUptoRow.holds Try.pinned (OpenSpec.upto tagReadsSpec)

/-- 'carracklaw05.TagFirst', WHERE WHAT IT READS IS OF BULK AT MOST 1048576: true; the input reads as it did. -/
def tagFirstUptoRow : OpenClaim := { program := "ytccllkgaakmdhaa", sum := "df7bd34fb85799757485968d653791d4f28c877ad9020515ce65134e2c8b3144", func := "carrack/carracklaw05.TagFirst", spec := "tagFirst", unfollowed := true, recurses := true, apart := false, narrowed := true }
def TagFirstUptoSaid : Prop := tagFirstUptoRow.holds Try.pinned (OpenSpec.upto tagFirstSpec)

/-- 'carracklaw04.HeadMoves', WHERE WHAT IT READS IS OF BULK AT MOST 1048576: true; the input reads as it did. -/
def headMovesUptoRow : OpenClaim := { program := "ytccllkgaakmdhaa", sum := "df7bd34fb85799757485968d653791d4f28c877ad9020515ce65134e2c8b3144", func := "carrack/carracklaw04.HeadMoves", spec := "headMoves", unfollowed := true, recurses := true, apart := false, narrowed := true }
def HeadMovesUptoSaid : Prop := headMovesUptoRow.holds Try.pinned (OpenSpec.upto headMovesSpec)

/-- 'carracklaw05.TagStands', WHERE WHAT IT READS IS OF BULK AT MOST 1048576: true; the input reads as it did. -/
def tagStandsUptoRow : OpenClaim := { program := "ytccllkgaakmdhaa", sum := "df7bd34fb85799757485968d653791d4f28c877ad9020515ce65134e2c8b3144", func := "carrack/carracklaw05.TagStands", spec := "tagStands", unfollowed := true, recurses := true, apart := false, narrowed := true }
def TagStandsUptoSaid : Prop := tagStandsUptoRow.holds Try.pinned (OpenSpec.upto tagStandsSpec)

/-- 'carracklaw06.PhysRaw', WHERE WHAT IT READS IS OF BULK AT MOST 1048576: true; the input reads as it did. -/
def physRawUptoRow : OpenClaim := { program := "ytccllkgaakmdhaa", sum := "df7bd34fb85799757485968d653791d4f28c877ad9020515ce65134e2c8b3144", func := "carrack/carracklaw06.PhysRaw", spec := "physRaw", inPlace := ["math/bits.Add64"], unfollowed := true, recurses := true, apart := false, narrowed := true }
def PhysRawUptoSaid : Prop := physRawUptoRow.holds Try.pinned (OpenSpec.upto physRawSpec)

/-- 'carracklaw06.PhysSums', WHERE WHAT IT READS IS OF BULK AT MOST 1048576: true; the input reads as it did. -/
def physSumsUptoRow : OpenClaim := { program := "ytccllkgaakmdhaa", sum := "df7bd34fb85799757485968d653791d4f28c877ad9020515ce65134e2c8b3144", func := "carrack/carracklaw06.PhysSums", spec := "physSums", inPlace := ["math/bits.Add64"], unfollowed := true, recurses := true, apart := false, narrowed := true }
def PhysSumsUptoSaid : Prop := physSumsUptoRow.holds Try.pinned (OpenSpec.upto physSumsSpec)

/-- 'carracklaw06.PhysWalks', WHERE WHAT IT READS IS OF BULK AT MOST 1048576: true; the input reads as it did. -/
def physWalksUptoRow : OpenClaim := { program := "ytccllkgaakmdhaa", sum := "df7bd34fb85799757485968d653791d4f28c877ad9020515ce65134e2c8b3144", func := "carrack/carracklaw06.PhysWalks", spec := "physWalks", inPlace := ["math/bits.Add64"], unfollowed := true, recurses := true, apart := false, narrowed := true }
def PhysWalksUptoSaid : Prop := physWalksUptoRow.holds Try.pinned (OpenSpec.upto physWalksSpec)

/-- 'carracklaw06.PhysFinds', WHERE WHAT IT READS IS OF BULK AT MOST 1048576: true; the input reads as it did. -/
def physFindsUptoRow : OpenClaim := { program := "ytccllkgaakmdhaa", sum := "df7bd34fb85799757485968d653791d4f28c877ad9020515ce65134e2c8b3144", func := "carrack/carracklaw06.PhysFinds", spec := "physFinds", inPlace := ["math/bits.Add64"], unfollowed := true, recurses := true, apart := false, narrowed := true }
def PhysFindsUptoSaid : Prop := physFindsUptoRow.holds Try.pinned (OpenSpec.upto physFindsSpec)

/-- 'carracklaw06.PhysBeside', WHERE WHAT IT READS IS OF BULK AT MOST 1048576: true; the input reads as it did. -/
def physBesideUptoRow : OpenClaim := { program := "ytccllkgaakmdhaa", sum := "df7bd34fb85799757485968d653791d4f28c877ad9020515ce65134e2c8b3144", func := "carrack/carracklaw06.PhysBeside", spec := "physBeside", inPlace := ["math/bits.Add64"], unfollowed := true, recurses := true, apart := false, narrowed := true }
def PhysBesideUptoSaid : Prop := physBesideUptoRow.holds Try.pinned (OpenSpec.upto physBesideSpec)

/-- 'carracklaw06.PhysTurn', WHERE WHAT IT READS IS OF BULK AT MOST 1048576: true; the input reads as it did. -/
def physTurnUptoRow : OpenClaim := { program := "ytccllkgaakmdhaa", sum := "df7bd34fb85799757485968d653791d4f28c877ad9020515ce65134e2c8b3144", func := "carrack/carracklaw06.PhysTurn", spec := "physTurn", inPlace := ["math/bits.Add64"], unfollowed := true, recurses := true, apart := false, narrowed := true }
def PhysTurnUptoSaid : Prop := physTurnUptoRow.holds Try.pinned (OpenSpec.upto physTurnSpec)

end Rows
end Go.Proofs.Ytccllkgaakmdhaa
