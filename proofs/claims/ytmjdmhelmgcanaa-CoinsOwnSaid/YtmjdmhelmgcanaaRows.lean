/-
  No cell of these rows narrows 'for every input' (looked for: loops, veiled, ifaces, maps, wideKeys, modest, calm, conditions, laid).
  DERIVED. THE GIVEN ROWS OF THIS SEAT. 28 by the template 'for every input the law returns true; each argument reads behind the call as it read before'; 0 by the template 'total and deterministic' (their statements: YtmjdmhelmgcanaaTotals.lean).
  GIVEN WITH THE SEED: the statements are not yours to turn. If you find one false, say at which input.
  Laid BY PROGRAM, IN A SANDBOX (cutbox-rows.mjs): the forced cells as the released guide's own fill.sh prints them over the translation 3f03a0fd21036a5f… (all of the seat's roots in one cut). By AI agents, Wed Nov 11 2026. No macro, syntax, notation, axiom, sorry.
-/
import Derived.Test.YtmjdmhelmgcanaaChecked
import GoSem.Claim
import GoSem.ClaimJoined
import GoSem.ClaimMapViews
import Derived.JoinedTies
import Derived.KernelRfl
namespace Go.Proofs.Ytmjdmhelmgcanaa
/- THE CELL 'sum', in the pinned program and in every row, IS THE sha256 OF THE DUMP (.gsa) THAT YtmjdmhelmgcanaaProg.lean LOADS. Nothing in Lean hashes anything: it is a label: what it is worth is what the hold of that sum in a sandbox is worth. -/
noncomputable def Try.pinned : Pinned := { name := "ytmjdmhelmgcanaa", sum := "3f03a0fd21036a5f2f7773fe3c45724a0b9acff62cb46caa139dd6da9e755ee7", checked := Try.checked }
namespace Rows
def none {H : Type} : Left H := { results := [], args := [] }

/-- 'jointurelaw02.CoinsRights': WHATEVER THE INPUT: true; the input reads as it did. -/
def coinsRightsSpec : ChangeSpec := { name := "coinsRights", fn := fun _ => fun
  | [d] => { results := [.lit (.bool true)], args := [d] }
  | _ => none }
def coinsRightsRow : OpenClaim := { program := "ytmjdmhelmgcanaa", sum := "3f03a0fd21036a5f2f7773fe3c45724a0b9acff62cb46caa139dd6da9e755ee7", func := "jointure/jointurelaw02.CoinsRights", spec := "coinsRights", inPlace := ["math/bits.Sub64"], unfollowed := true, recurses := true, apart := false }
def CoinsRightsSaid : Prop := coinsRightsRow.holds Try.pinned (OpenSpec.ofChange coinsRightsSpec)

/-- ITS FALSE NEIGHBOUR: 'it returns false'. Refute it at one input. -/
def coinsRightsWrong : ChangeSpec := { name := "coinsRights", fn := fun _ => fun
  | [d] => { results := [.lit (.bool false)], args := [d] }
  | _ => none }
def CoinsRightsWrongFalsely : Prop := coinsRightsRow.holds Try.pinned (OpenSpec.ofChange coinsRightsWrong)

/-- 'jointurelaw02.CoinsAmounts': WHATEVER THE INPUT: true; the input reads as it did. -/
def coinsAmountsSpec : ChangeSpec := { name := "coinsAmounts", fn := fun _ => fun
  | [d1, d2, d3] => { results := [.lit (.bool true)], args := [d1, d2, d3] }
  | _ => none }
def coinsAmountsRow : OpenClaim := { program := "ytmjdmhelmgcanaa", sum := "3f03a0fd21036a5f2f7773fe3c45724a0b9acff62cb46caa139dd6da9e755ee7", func := "jointure/jointurelaw02.CoinsAmounts", spec := "coinsAmounts", inPlace := ["math/bits.Sub64"], unfollowed := true, recurses := true, apart := false }
def CoinsAmountsSaid : Prop := coinsAmountsRow.holds Try.pinned (OpenSpec.ofChange coinsAmountsSpec)

/-- ITS FALSE NEIGHBOUR: 'it returns false'. Refute it at one input. -/
def coinsAmountsWrong : ChangeSpec := { name := "coinsAmounts", fn := fun _ => fun
  | [d1, d2, d3] => { results := [.lit (.bool false)], args := [d1, d2, d3] }
  | _ => none }
def CoinsAmountsWrongFalsely : Prop := coinsAmountsRow.holds Try.pinned (OpenSpec.ofChange coinsAmountsWrong)

/-- 'jointurelaw02.CoinsAdds': WHATEVER THE INPUT: true; the input reads as it did. -/
def coinsAddsSpec : ChangeSpec := { name := "coinsAdds", fn := fun _ => fun
  | [d1, d2] => { results := [.lit (.bool true)], args := [d1, d2] }
  | _ => none }
def coinsAddsRow : OpenClaim := { program := "ytmjdmhelmgcanaa", sum := "3f03a0fd21036a5f2f7773fe3c45724a0b9acff62cb46caa139dd6da9e755ee7", func := "jointure/jointurelaw02.CoinsAdds", spec := "coinsAdds", inPlace := ["math/bits.Sub64", "math/bits.Add64"], unfollowed := true, recurses := true, apart := false }
def CoinsAddsSaid : Prop := coinsAddsRow.holds Try.pinned (OpenSpec.ofChange coinsAddsSpec)

/-- ITS FALSE NEIGHBOUR: 'it returns false'. Refute it at one input. -/
def coinsAddsWrong : ChangeSpec := { name := "coinsAdds", fn := fun _ => fun
  | [d1, d2] => { results := [.lit (.bool false)], args := [d1, d2] }
  | _ => none }
def CoinsAddsWrongFalsely : Prop := coinsAddsRow.holds Try.pinned (OpenSpec.ofChange coinsAddsWrong)

/-- 'jointurelaw02.CoinsBack': WHATEVER THE INPUT: true; the input reads as it did. -/
def coinsBackSpec : ChangeSpec := { name := "coinsBack", fn := fun _ => fun
  | [d1, d2] => { results := [.lit (.bool true)], args := [d1, d2] }
  | _ => none }
def coinsBackRow : OpenClaim := { program := "ytmjdmhelmgcanaa", sum := "3f03a0fd21036a5f2f7773fe3c45724a0b9acff62cb46caa139dd6da9e755ee7", func := "jointure/jointurelaw02.CoinsBack", spec := "coinsBack", inPlace := ["math/bits.Sub64", "math/bits.Add64"], unfollowed := true, recurses := true, apart := false }
def CoinsBackSaid : Prop := coinsBackRow.holds Try.pinned (OpenSpec.ofChange coinsBackSpec)

/-- ITS FALSE NEIGHBOUR: 'it returns false'. Refute it at one input. -/
def coinsBackWrong : ChangeSpec := { name := "coinsBack", fn := fun _ => fun
  | [d1, d2] => { results := [.lit (.bool false)], args := [d1, d2] }
  | _ => none }
def CoinsBackWrongFalsely : Prop := coinsBackRow.holds Try.pinned (OpenSpec.ofChange coinsBackWrong)

/-- 'jointurelaw07.HoldTracks': WHATEVER THE INPUT: true; the input reads as it did. -/
def holdTracksSpec : ChangeSpec := { name := "holdTracks", fn := fun _ => fun
  | [d1, d2, d3] => { results := [.lit (.bool true)], args := [d1, d2, d3] }
  | _ => none }
def holdTracksRow : OpenClaim := { program := "ytmjdmhelmgcanaa", sum := "3f03a0fd21036a5f2f7773fe3c45724a0b9acff62cb46caa139dd6da9e755ee7", func := "jointure/jointurelaw07.HoldTracks", spec := "holdTracks", inPlace := ["math/bits.Sub64", "math/bits.Add64"], unfollowed := true, recurses := true, apart := false }
def HoldTracksSaid : Prop := holdTracksRow.holds Try.pinned (OpenSpec.ofChange holdTracksSpec)

/-- ITS FALSE NEIGHBOUR: 'it returns false'. Refute it at one input. -/
def holdTracksWrong : ChangeSpec := { name := "holdTracks", fn := fun _ => fun
  | [d1, d2, d3] => { results := [.lit (.bool false)], args := [d1, d2, d3] }
  | _ => none }
def HoldTracksWrongFalsely : Prop := holdTracksRow.holds Try.pinned (OpenSpec.ofChange holdTracksWrong)

/-- 'jointurelaw07.HoldBacks': WHATEVER THE INPUT: true; the input reads as it did. -/
def holdBacksSpec : ChangeSpec := { name := "holdBacks", fn := fun _ => fun
  | [d1, d2] => { results := [.lit (.bool true)], args := [d1, d2] }
  | _ => none }
def holdBacksRow : OpenClaim := { program := "ytmjdmhelmgcanaa", sum := "3f03a0fd21036a5f2f7773fe3c45724a0b9acff62cb46caa139dd6da9e755ee7", func := "jointure/jointurelaw07.HoldBacks", spec := "holdBacks", inPlace := ["math/bits.Sub64", "math/bits.Add64"], unfollowed := true, recurses := true, apart := false }
def HoldBacksSaid : Prop := holdBacksRow.holds Try.pinned (OpenSpec.ofChange holdBacksSpec)

/-- ITS FALSE NEIGHBOUR: 'it returns false'. Refute it at one input. -/
def holdBacksWrong : ChangeSpec := { name := "holdBacks", fn := fun _ => fun
  | [d1, d2] => { results := [.lit (.bool false)], args := [d1, d2] }
  | _ => none }
def HoldBacksWrongFalsely : Prop := holdBacksRow.holds Try.pinned (OpenSpec.ofChange holdBacksWrong)

/-- 'jointurelaw07.HoldSpends': WHATEVER THE INPUT: true; the input reads as it did. -/
def holdSpendsSpec : ChangeSpec := { name := "holdSpends", fn := fun _ => fun
  | [d1, d2, d3] => { results := [.lit (.bool true)], args := [d1, d2, d3] }
  | _ => none }
def holdSpendsRow : OpenClaim := { program := "ytmjdmhelmgcanaa", sum := "3f03a0fd21036a5f2f7773fe3c45724a0b9acff62cb46caa139dd6da9e755ee7", func := "jointure/jointurelaw07.HoldSpends", spec := "holdSpends", inPlace := ["math/bits.Sub64", "math/bits.Add64"], unfollowed := true, recurses := true, apart := false }
def HoldSpendsSaid : Prop := holdSpendsRow.holds Try.pinned (OpenSpec.ofChange holdSpendsSpec)

/-- ITS FALSE NEIGHBOUR: 'it returns false'. Refute it at one input. -/
def holdSpendsWrong : ChangeSpec := { name := "holdSpends", fn := fun _ => fun
  | [d1, d2, d3] => { results := [.lit (.bool false)], args := [d1, d2, d3] }
  | _ => none }
def HoldSpendsWrongFalsely : Prop := holdSpendsRow.holds Try.pinned (OpenSpec.ofChange holdSpendsWrong)

/-- 'jointurelaw07.HoldAll': WHATEVER THE INPUT: true; the input reads as it did. -/
def holdAllSpec : ChangeSpec := { name := "holdAll", fn := fun _ => fun
  | [d1, d2, d3] => { results := [.lit (.bool true)], args := [d1, d2, d3] }
  | _ => none }
def holdAllRow : OpenClaim := { program := "ytmjdmhelmgcanaa", sum := "3f03a0fd21036a5f2f7773fe3c45724a0b9acff62cb46caa139dd6da9e755ee7", func := "jointure/jointurelaw07.HoldAll", spec := "holdAll", inPlace := ["math/bits.Sub64", "math/bits.Add64"], unfollowed := true, recurses := true, apart := false }
def HoldAllSaid : Prop := holdAllRow.holds Try.pinned (OpenSpec.ofChange holdAllSpec)

/-- ITS FALSE NEIGHBOUR: 'it returns false'. Refute it at one input. -/
def holdAllWrong : ChangeSpec := { name := "holdAll", fn := fun _ => fun
  | [d1, d2, d3] => { results := [.lit (.bool false)], args := [d1, d2, d3] }
  | _ => none }
def HoldAllWrongFalsely : Prop := holdAllRow.holds Try.pinned (OpenSpec.ofChange holdAllWrong)

/-- 'jointurelaw07.HoldHolds': WHATEVER THE INPUT: true; the input reads as it did. -/
def holdHoldsSpec : ChangeSpec := { name := "holdHolds", fn := fun _ => fun
  | [d1, d2, d3, d4] => { results := [.lit (.bool true)], args := [d1, d2, d3, d4] }
  | _ => none }
def holdHoldsRow : OpenClaim := { program := "ytmjdmhelmgcanaa", sum := "3f03a0fd21036a5f2f7773fe3c45724a0b9acff62cb46caa139dd6da9e755ee7", func := "jointure/jointurelaw07.HoldHolds", spec := "holdHolds", inPlace := ["math/bits.Sub64", "math/bits.Add64"], unfollowed := true, recurses := true, apart := false }
def HoldHoldsSaid : Prop := holdHoldsRow.holds Try.pinned (OpenSpec.ofChange holdHoldsSpec)

/-- ITS FALSE NEIGHBOUR: 'it returns false'. Refute it at one input. -/
def holdHoldsWrong : ChangeSpec := { name := "holdHolds", fn := fun _ => fun
  | [d1, d2, d3, d4] => { results := [.lit (.bool false)], args := [d1, d2, d3, d4] }
  | _ => none }
def HoldHoldsWrongFalsely : Prop := holdHoldsRow.holds Try.pinned (OpenSpec.ofChange holdHoldsWrong)

/-- 'jointurelaw02.CoinsTakes': WHATEVER THE INPUT: true; the input reads as it did. -/
def coinsTakesSpec : ChangeSpec := { name := "coinsTakes", fn := fun _ => fun
  | [d1, d2] => { results := [.lit (.bool true)], args := [d1, d2] }
  | _ => none }
def coinsTakesRow : OpenClaim := { program := "ytmjdmhelmgcanaa", sum := "3f03a0fd21036a5f2f7773fe3c45724a0b9acff62cb46caa139dd6da9e755ee7", func := "jointure/jointurelaw02.CoinsTakes", spec := "coinsTakes", inPlace := ["math/bits.Sub64"], unfollowed := true, recurses := true, apart := false }
def CoinsTakesSaid : Prop := coinsTakesRow.holds Try.pinned (OpenSpec.ofChange coinsTakesSpec)

/-- ITS FALSE NEIGHBOUR: 'it returns false'. Refute it at one input. -/
def coinsTakesWrong : ChangeSpec := { name := "coinsTakes", fn := fun _ => fun
  | [d1, d2] => { results := [.lit (.bool false)], args := [d1, d2] }
  | _ => none }
def CoinsTakesWrongFalsely : Prop := coinsTakesRow.holds Try.pinned (OpenSpec.ofChange coinsTakesWrong)

/-- 'jointurelaw02.CoinsParts': WHATEVER THE INPUT: true; the input reads as it did. -/
def coinsPartsSpec : ChangeSpec := { name := "coinsParts", fn := fun _ => fun
  | [d1, d2] => { results := [.lit (.bool true)], args := [d1, d2] }
  | _ => none }
def coinsPartsRow : OpenClaim := { program := "ytmjdmhelmgcanaa", sum := "3f03a0fd21036a5f2f7773fe3c45724a0b9acff62cb46caa139dd6da9e755ee7", func := "jointure/jointurelaw02.CoinsParts", spec := "coinsParts", inPlace := ["math/bits.Sub64", "math/bits.Add64"], unfollowed := true, recurses := true, apart := false }
def CoinsPartsSaid : Prop := coinsPartsRow.holds Try.pinned (OpenSpec.ofChange coinsPartsSpec)

/-- ITS FALSE NEIGHBOUR: 'it returns false'. Refute it at one input. -/
def coinsPartsWrong : ChangeSpec := { name := "coinsParts", fn := fun _ => fun
  | [d1, d2] => { results := [.lit (.bool false)], args := [d1, d2] }
  | _ => none }
def CoinsPartsWrongFalsely : Prop := coinsPartsRow.holds Try.pinned (OpenSpec.ofChange coinsPartsWrong)

/-- 'jointurelaw02.CoinsOwn': WHATEVER THE INPUT: true; the input reads as it did. -/
def coinsOwnSpec : ChangeSpec := { name := "coinsOwn", fn := fun _ => fun
  | [d1, d2, d3] => { results := [.lit (.bool true)], args := [d1, d2, d3] }
  | _ => none }
def coinsOwnRow : OpenClaim := { program := "ytmjdmhelmgcanaa", sum := "3f03a0fd21036a5f2f7773fe3c45724a0b9acff62cb46caa139dd6da9e755ee7", func := "jointure/jointurelaw02.CoinsOwn", spec := "coinsOwn", inPlace := ["math/bits.Sub64", "math/bits.Add64"], unfollowed := true, recurses := true, apart := false }
def CoinsOwnSaid : Prop := coinsOwnRow.holds Try.pinned (OpenSpec.ofChange coinsOwnSpec)

/-- ITS FALSE NEIGHBOUR: 'it returns false'. Refute it at one input. -/
def coinsOwnWrong : ChangeSpec := { name := "coinsOwn", fn := fun _ => fun
  | [d1, d2, d3] => { results := [.lit (.bool false)], args := [d1, d2, d3] }
  | _ => none }
def CoinsOwnWrongFalsely : Prop := coinsOwnRow.holds Try.pinned (OpenSpec.ofChange coinsOwnWrong)

/-- 'jointurelaw08.ShareWorths': WHATEVER THE INPUT: true; the input reads as it did. -/
def shareWorthsSpec : ChangeSpec := { name := "shareWorths", fn := fun _ => fun
  | [d1, d2, d3] => { results := [.lit (.bool true)], args := [d1, d2, d3] }
  | _ => none }
def shareWorthsRow : OpenClaim := { program := "ytmjdmhelmgcanaa", sum := "3f03a0fd21036a5f2f7773fe3c45724a0b9acff62cb46caa139dd6da9e755ee7", func := "jointure/jointurelaw08.ShareWorths", spec := "shareWorths", inPlace := ["math/bits.Add64", "math/bits.Sub64"], unfollowed := true, recurses := true, apart := false }
def ShareWorthsSaid : Prop := shareWorthsRow.holds Try.pinned (OpenSpec.ofChange shareWorthsSpec)

/-- ITS FALSE NEIGHBOUR: 'it returns false'. Refute it at one input. -/
def shareWorthsWrong : ChangeSpec := { name := "shareWorths", fn := fun _ => fun
  | [d1, d2, d3] => { results := [.lit (.bool false)], args := [d1, d2, d3] }
  | _ => none }
def ShareWorthsWrongFalsely : Prop := shareWorthsRow.holds Try.pinned (OpenSpec.ofChange shareWorthsWrong)

/-- 'jointurelaw08.ShareFewests': WHATEVER THE INPUT: true; the input reads as it did. -/
def shareFewestsSpec : ChangeSpec := { name := "shareFewests", fn := fun _ => fun
  | [d1, d2, d3] => { results := [.lit (.bool true)], args := [d1, d2, d3] }
  | _ => none }
def shareFewestsRow : OpenClaim := { program := "ytmjdmhelmgcanaa", sum := "3f03a0fd21036a5f2f7773fe3c45724a0b9acff62cb46caa139dd6da9e755ee7", func := "jointure/jointurelaw08.ShareFewests", spec := "shareFewests", inPlace := ["math/bits.Add64", "math/bits.Sub64"], unfollowed := true, recurses := true, apart := false }
def ShareFewestsSaid : Prop := shareFewestsRow.holds Try.pinned (OpenSpec.ofChange shareFewestsSpec)

/-- ITS FALSE NEIGHBOUR: 'it returns false'. Refute it at one input. -/
def shareFewestsWrong : ChangeSpec := { name := "shareFewests", fn := fun _ => fun
  | [d1, d2, d3] => { results := [.lit (.bool false)], args := [d1, d2, d3] }
  | _ => none }
def ShareFewestsWrongFalsely : Prop := shareFewestsRow.holds Try.pinned (OpenSpec.ofChange shareFewestsWrong)

/-- 'jointurelaw08.ShareParts': WHATEVER THE INPUT: true; the input reads as it did. -/
def sharePartsSpec : ChangeSpec := { name := "shareParts", fn := fun _ => fun
  | [d1, d2, d3] => { results := [.lit (.bool true)], args := [d1, d2, d3] }
  | _ => none }
def sharePartsRow : OpenClaim := { program := "ytmjdmhelmgcanaa", sum := "3f03a0fd21036a5f2f7773fe3c45724a0b9acff62cb46caa139dd6da9e755ee7", func := "jointure/jointurelaw08.ShareParts", spec := "shareParts", inPlace := ["math/bits.Add64", "math/bits.Sub64"], unfollowed := true, recurses := true, apart := false }
def SharePartsSaid : Prop := sharePartsRow.holds Try.pinned (OpenSpec.ofChange sharePartsSpec)

/-- ITS FALSE NEIGHBOUR: 'it returns false'. Refute it at one input. -/
def sharePartsWrong : ChangeSpec := { name := "shareParts", fn := fun _ => fun
  | [d1, d2, d3] => { results := [.lit (.bool false)], args := [d1, d2, d3] }
  | _ => none }
def SharePartsWrongFalsely : Prop := sharePartsRow.holds Try.pinned (OpenSpec.ofChange sharePartsWrong)

/-- 'jointurelaw08.ShareSplits': WHATEVER THE INPUT: true; the input reads as it did. -/
def shareSplitsSpec : ChangeSpec := { name := "shareSplits", fn := fun _ => fun
  | [d1, d2, d3, d4] => { results := [.lit (.bool true)], args := [d1, d2, d3, d4] }
  | _ => none }
def shareSplitsRow : OpenClaim := { program := "ytmjdmhelmgcanaa", sum := "3f03a0fd21036a5f2f7773fe3c45724a0b9acff62cb46caa139dd6da9e755ee7", func := "jointure/jointurelaw08.ShareSplits", spec := "shareSplits", inPlace := ["math/bits.Add64", "math/bits.Sub64"], unfollowed := true, recurses := true, apart := false }
def ShareSplitsSaid : Prop := shareSplitsRow.holds Try.pinned (OpenSpec.ofChange shareSplitsSpec)

/-- ITS FALSE NEIGHBOUR: 'it returns false'. Refute it at one input. -/
def shareSplitsWrong : ChangeSpec := { name := "shareSplits", fn := fun _ => fun
  | [d1, d2, d3, d4] => { results := [.lit (.bool false)], args := [d1, d2, d3, d4] }
  | _ => none }
def ShareSplitsWrongFalsely : Prop := shareSplitsRow.holds Try.pinned (OpenSpec.ofChange shareSplitsWrong)

/-- 'jointurelaw08.ShareRest': WHATEVER THE INPUT: true; the input reads as it did. -/
def shareRestSpec : ChangeSpec := { name := "shareRest", fn := fun _ => fun
  | [d1, d2, d3, d4] => { results := [.lit (.bool true)], args := [d1, d2, d3, d4] }
  | _ => none }
def shareRestRow : OpenClaim := { program := "ytmjdmhelmgcanaa", sum := "3f03a0fd21036a5f2f7773fe3c45724a0b9acff62cb46caa139dd6da9e755ee7", func := "jointure/jointurelaw08.ShareRest", spec := "shareRest", inPlace := ["math/bits.Add64", "math/bits.Sub64"], unfollowed := true, recurses := true, apart := false }
def ShareRestSaid : Prop := shareRestRow.holds Try.pinned (OpenSpec.ofChange shareRestSpec)

/-- ITS FALSE NEIGHBOUR: 'it returns false'. Refute it at one input. -/
def shareRestWrong : ChangeSpec := { name := "shareRest", fn := fun _ => fun
  | [d1, d2, d3, d4] => { results := [.lit (.bool false)], args := [d1, d2, d3, d4] }
  | _ => none }
def ShareRestWrongFalsely : Prop := shareRestRow.holds Try.pinned (OpenSpec.ofChange shareRestWrong)

/-- 'jointurelaw08.ShareNews': WHATEVER THE INPUT: true; the input reads as it did. -/
def shareNewsSpec : ChangeSpec := { name := "shareNews", fn := fun _ => fun
  | [d1, d2, d3] => { results := [.lit (.bool true)], args := [d1, d2, d3] }
  | _ => none }
def shareNewsRow : OpenClaim := { program := "ytmjdmhelmgcanaa", sum := "3f03a0fd21036a5f2f7773fe3c45724a0b9acff62cb46caa139dd6da9e755ee7", func := "jointure/jointurelaw08.ShareNews", spec := "shareNews", inPlace := ["math/bits.Add64", "math/bits.Sub64"], unfollowed := true, recurses := true, apart := false }
def ShareNewsSaid : Prop := shareNewsRow.holds Try.pinned (OpenSpec.ofChange shareNewsSpec)

/-- ITS FALSE NEIGHBOUR: 'it returns false'. Refute it at one input. -/
def shareNewsWrong : ChangeSpec := { name := "shareNews", fn := fun _ => fun
  | [d1, d2, d3] => { results := [.lit (.bool false)], args := [d1, d2, d3] }
  | _ => none }
def ShareNewsWrongFalsely : Prop := shareNewsRow.holds Try.pinned (OpenSpec.ofChange shareNewsWrong)

/-- 'jointurelaw08.ShareLoss': WHATEVER THE INPUT: true; the input reads as it did. -/
def shareLossSpec : ChangeSpec := { name := "shareLoss", fn := fun _ => fun
  | [d1, d2, d3] => { results := [.lit (.bool true)], args := [d1, d2, d3] }
  | _ => none }
def shareLossRow : OpenClaim := { program := "ytmjdmhelmgcanaa", sum := "3f03a0fd21036a5f2f7773fe3c45724a0b9acff62cb46caa139dd6da9e755ee7", func := "jointure/jointurelaw08.ShareLoss", spec := "shareLoss", inPlace := ["math/bits.Add64", "math/bits.Sub64"], unfollowed := true, recurses := true, apart := false }
def ShareLossSaid : Prop := shareLossRow.holds Try.pinned (OpenSpec.ofChange shareLossSpec)

/-- ITS FALSE NEIGHBOUR: 'it returns false'. Refute it at one input. -/
def shareLossWrong : ChangeSpec := { name := "shareLoss", fn := fun _ => fun
  | [d1, d2, d3] => { results := [.lit (.bool false)], args := [d1, d2, d3] }
  | _ => none }
def ShareLossWrongFalsely : Prop := shareLossRow.holds Try.pinned (OpenSpec.ofChange shareLossWrong)

/-- 'jointurelaw01.NumOrders': WHATEVER THE INPUT: true; the input reads as it did. -/
def numOrdersSpec : ChangeSpec := { name := "numOrders", fn := fun _ => fun
  | [d1, d2, d3] => { results := [.lit (.bool true)], args := [d1, d2, d3] }
  | _ => none }
def numOrdersRow : OpenClaim := { program := "ytmjdmhelmgcanaa", sum := "3f03a0fd21036a5f2f7773fe3c45724a0b9acff62cb46caa139dd6da9e755ee7", func := "jointure/jointurelaw01.NumOrders", spec := "numOrders", inPlace := ["math/bits.Add64", "math/bits.Sub64"], unfollowed := true, recurses := true, apart := false }
def NumOrdersSaid : Prop := numOrdersRow.holds Try.pinned (OpenSpec.ofChange numOrdersSpec)

/-- ITS FALSE NEIGHBOUR: 'it returns false'. Refute it at one input. -/
def numOrdersWrong : ChangeSpec := { name := "numOrders", fn := fun _ => fun
  | [d1, d2, d3] => { results := [.lit (.bool false)], args := [d1, d2, d3] }
  | _ => none }
def NumOrdersWrongFalsely : Prop := numOrdersRow.holds Try.pinned (OpenSpec.ofChange numOrdersWrong)

/-- 'jointurelaw01.NumProducts': WHATEVER THE INPUT: true; the input reads as it did. -/
def numProductsSpec : ChangeSpec := { name := "numProducts", fn := fun _ => fun
  | [d1, d2] => { results := [.lit (.bool true)], args := [d1, d2] }
  | _ => none }
def numProductsRow : OpenClaim := { program := "ytmjdmhelmgcanaa", sum := "3f03a0fd21036a5f2f7773fe3c45724a0b9acff62cb46caa139dd6da9e755ee7", func := "jointure/jointurelaw01.NumProducts", spec := "numProducts", inPlace := ["math/bits.Add64", "math/bits.Sub64"], unfollowed := true, recurses := true, apart := false }
def NumProductsSaid : Prop := numProductsRow.holds Try.pinned (OpenSpec.ofChange numProductsSpec)

/-- ITS FALSE NEIGHBOUR: 'it returns false'. Refute it at one input. -/
def numProductsWrong : ChangeSpec := { name := "numProducts", fn := fun _ => fun
  | [d1, d2] => { results := [.lit (.bool false)], args := [d1, d2] }
  | _ => none }
def NumProductsWrongFalsely : Prop := numProductsRow.holds Try.pinned (OpenSpec.ofChange numProductsWrong)

/-- 'jointurelaw01.NumParts': WHATEVER THE INPUT: true; the input reads as it did. -/
def numPartsSpec : ChangeSpec := { name := "numParts", fn := fun _ => fun
  | [d1, d2, d3, d4] => { results := [.lit (.bool true)], args := [d1, d2, d3, d4] }
  | _ => none }
def numPartsRow : OpenClaim := { program := "ytmjdmhelmgcanaa", sum := "3f03a0fd21036a5f2f7773fe3c45724a0b9acff62cb46caa139dd6da9e755ee7", func := "jointure/jointurelaw01.NumParts", spec := "numParts", inPlace := ["math/bits.Add64", "math/bits.Sub64"], unfollowed := true, recurses := true, apart := false }
def NumPartsSaid : Prop := numPartsRow.holds Try.pinned (OpenSpec.ofChange numPartsSpec)

/-- ITS FALSE NEIGHBOUR: 'it returns false'. Refute it at one input. -/
def numPartsWrong : ChangeSpec := { name := "numParts", fn := fun _ => fun
  | [d1, d2, d3, d4] => { results := [.lit (.bool false)], args := [d1, d2, d3, d4] }
  | _ => none }
def NumPartsWrongFalsely : Prop := numPartsRow.holds Try.pinned (OpenSpec.ofChange numPartsWrong)

/-- 'jointurelaw01.NumFloors': WHATEVER THE INPUT: true; the input reads as it did. -/
def numFloorsSpec : ChangeSpec := { name := "numFloors", fn := fun _ => fun
  | [d1, d2, d3] => { results := [.lit (.bool true)], args := [d1, d2, d3] }
  | _ => none }
def numFloorsRow : OpenClaim := { program := "ytmjdmhelmgcanaa", sum := "3f03a0fd21036a5f2f7773fe3c45724a0b9acff62cb46caa139dd6da9e755ee7", func := "jointure/jointurelaw01.NumFloors", spec := "numFloors", inPlace := ["math/bits.Add64", "math/bits.Sub64"], unfollowed := true, recurses := true, apart := false }
def NumFloorsSaid : Prop := numFloorsRow.holds Try.pinned (OpenSpec.ofChange numFloorsSpec)

/-- ITS FALSE NEIGHBOUR: 'it returns false'. Refute it at one input. -/
def numFloorsWrong : ChangeSpec := { name := "numFloors", fn := fun _ => fun
  | [d1, d2, d3] => { results := [.lit (.bool false)], args := [d1, d2, d3] }
  | _ => none }
def NumFloorsWrongFalsely : Prop := numFloorsRow.holds Try.pinned (OpenSpec.ofChange numFloorsWrong)

/-- 'jointurelaw01.NumWhole': WHATEVER THE INPUT: true; the input reads as it did. -/
def numWholeSpec : ChangeSpec := { name := "numWhole", fn := fun _ => fun
  | [d1, d2, d3] => { results := [.lit (.bool true)], args := [d1, d2, d3] }
  | _ => none }
def numWholeRow : OpenClaim := { program := "ytmjdmhelmgcanaa", sum := "3f03a0fd21036a5f2f7773fe3c45724a0b9acff62cb46caa139dd6da9e755ee7", func := "jointure/jointurelaw01.NumWhole", spec := "numWhole", inPlace := ["math/bits.Add64", "math/bits.Sub64"], unfollowed := true, recurses := true, apart := false }
def NumWholeSaid : Prop := numWholeRow.holds Try.pinned (OpenSpec.ofChange numWholeSpec)

/-- ITS FALSE NEIGHBOUR: 'it returns false'. Refute it at one input. -/
def numWholeWrong : ChangeSpec := { name := "numWhole", fn := fun _ => fun
  | [d1, d2, d3] => { results := [.lit (.bool false)], args := [d1, d2, d3] }
  | _ => none }
def NumWholeWrongFalsely : Prop := numWholeRow.holds Try.pinned (OpenSpec.ofChange numWholeWrong)

/-- 'jointurelaw01.NumBack': WHATEVER THE INPUT: true; the input reads as it did. -/
def numBackSpec : ChangeSpec := { name := "numBack", fn := fun _ => fun
  | [d1, d2] => { results := [.lit (.bool true)], args := [d1, d2] }
  | _ => none }
def numBackRow : OpenClaim := { program := "ytmjdmhelmgcanaa", sum := "3f03a0fd21036a5f2f7773fe3c45724a0b9acff62cb46caa139dd6da9e755ee7", func := "jointure/jointurelaw01.NumBack", spec := "numBack", inPlace := ["math/bits.Add64", "math/bits.Sub64"], unfollowed := true, recurses := true, apart := false }
def NumBackSaid : Prop := numBackRow.holds Try.pinned (OpenSpec.ofChange numBackSpec)

/-- ITS FALSE NEIGHBOUR: 'it returns false'. Refute it at one input. -/
def numBackWrong : ChangeSpec := { name := "numBack", fn := fun _ => fun
  | [d1, d2] => { results := [.lit (.bool false)], args := [d1, d2] }
  | _ => none }
def NumBackWrongFalsely : Prop := numBackRow.holds Try.pinned (OpenSpec.ofChange numBackWrong)

/-- 'jointurelaw01.NumBytes': WHATEVER THE INPUT: true; the input reads as it did. -/
def numBytesSpec : ChangeSpec := { name := "numBytes", fn := fun _ => fun
  | [d] => { results := [.lit (.bool true)], args := [d] }
  | _ => none }
def numBytesRow : OpenClaim := { program := "ytmjdmhelmgcanaa", sum := "3f03a0fd21036a5f2f7773fe3c45724a0b9acff62cb46caa139dd6da9e755ee7", func := "jointure/jointurelaw01.NumBytes", spec := "numBytes", inPlace := ["math/bits.Add64", "math/bits.Sub64"], unfollowed := true, recurses := true, apart := false }
def NumBytesSaid : Prop := numBytesRow.holds Try.pinned (OpenSpec.ofChange numBytesSpec)

/-- ITS FALSE NEIGHBOUR: 'it returns false'. Refute it at one input. -/
def numBytesWrong : ChangeSpec := { name := "numBytes", fn := fun _ => fun
  | [d] => { results := [.lit (.bool false)], args := [d] }
  | _ => none }
def NumBytesWrongFalsely : Prop := numBytesRow.holds Try.pinned (OpenSpec.ofChange numBytesWrong)

/-- 'jointurelaw01.NumReads': WHATEVER THE INPUT: true; the input reads as it did. -/
def numReadsSpec : ChangeSpec := { name := "numReads", fn := fun _ => fun
  | [d] => { results := [.lit (.bool true)], args := [d] }
  | _ => none }
def numReadsRow : OpenClaim := { program := "ytmjdmhelmgcanaa", sum := "3f03a0fd21036a5f2f7773fe3c45724a0b9acff62cb46caa139dd6da9e755ee7", func := "jointure/jointurelaw01.NumReads", spec := "numReads", inPlace := ["math/bits.Add64", "math/bits.Sub64"], unfollowed := true, recurses := true, apart := false }
def NumReadsSaid : Prop := numReadsRow.holds Try.pinned (OpenSpec.ofChange numReadsSpec)

/-- ITS FALSE NEIGHBOUR: 'it returns false'. Refute it at one input. -/
def numReadsWrong : ChangeSpec := { name := "numReads", fn := fun _ => fun
  | [d] => { results := [.lit (.bool false)], args := [d] }
  | _ => none }
def NumReadsWrongFalsely : Prop := numReadsRow.holds Try.pinned (OpenSpec.ofChange numReadsWrong)

/-- 'jointurelaw01.NumSums': WHATEVER THE INPUT: true; the input reads as it did. -/
def numSumsSpec : ChangeSpec := { name := "numSums", fn := fun _ => fun
  | [d1, d2] => { results := [.lit (.bool true)], args := [d1, d2] }
  | _ => none }
def numSumsRow : OpenClaim := { program := "ytmjdmhelmgcanaa", sum := "3f03a0fd21036a5f2f7773fe3c45724a0b9acff62cb46caa139dd6da9e755ee7", func := "jointure/jointurelaw01.NumSums", spec := "numSums", inPlace := ["math/bits.Add64", "math/bits.Sub64"], unfollowed := true, recurses := true, apart := false }
def NumSumsSaid : Prop := numSumsRow.holds Try.pinned (OpenSpec.ofChange numSumsSpec)

/-- ITS FALSE NEIGHBOUR: 'it returns false'. Refute it at one input. -/
def numSumsWrong : ChangeSpec := { name := "numSums", fn := fun _ => fun
  | [d1, d2] => { results := [.lit (.bool false)], args := [d1, d2] }
  | _ => none }
def NumSumsWrongFalsely : Prop := numSumsRow.holds Try.pinned (OpenSpec.ofChange numSumsWrong)

/- THE SECOND FORM. 'bulk': how many values and letters a reading holds, each counted each time it is reached (what is shared counts as often as it is met; a slice's spare places count too). A statement '..UptoSaid' is the law's where the arguments, and the package variables that the reading takes, are together of bulk at most 1048576: NARROWER than '..Said'. Prove '..Said' where nothing that the law and all that it calls make is longer than what came in: it says more and counts as full. Else prove '..UptoSaid'. A law counts once. -/
mutual
def uptoBulk {H : Type} : DataW H → Nat
  | .lit (.string bytes) => bytes.length + 1
  | .lit _ => 1
  | .nil => 1
  | .ptr d => uptoBulk d + 1
  | .slice elems spare => uptoBulkAll elems + uptoBulkAll spare + 1
  | .agg parts => uptoBulkAll parts + 1
  | .iface _ d => uptoBulk d + 1
  | .map entries => uptoBulkEntries entries + 1
  | .held _ => 1
def uptoBulkAll {H : Type} : List (DataW H) → Nat
  | [] => 0
  | d :: r => uptoBulk d + uptoBulkAll r
def uptoBulkEntries {H : Type} : List (Lit × DataW H) → Nat
  | [] => 0
  | x :: r => uptoBulkEntry x + uptoBulkEntries r
def uptoBulkEntry {H : Type} : Lit × DataW H → Nat
  | (.string bytes, d) => bytes.length + uptoBulk d + 1
  | (_, d) => uptoBulk d + 1
 end
def uptoSmall : (H : Type) → List (DataW H) → Bool := fun _ ds => decide (uptoBulkAll ds ≤ 1048576)
def OpenSpec.upto (s : _root_.Go.ChangeSpec) : _root_.Go.OpenSpec := { _root_.Go.OpenSpec.ofChange s with cond := some uptoSmall }

/-- 'jointurelaw02.CoinsRights', WHERE WHAT IT READS IS OF BULK AT MOST 1048576: true; the input reads as it did. -/
def coinsRightsUptoRow : OpenClaim := { program := "ytmjdmhelmgcanaa", sum := "3f03a0fd21036a5f2f7773fe3c45724a0b9acff62cb46caa139dd6da9e755ee7", func := "jointure/jointurelaw02.CoinsRights", spec := "coinsRights", inPlace := ["math/bits.Sub64"], unfollowed := true, recurses := true, apart := false, narrowed := true }
def CoinsRightsUptoSaid : Prop := coinsRightsUptoRow.holds Try.pinned (OpenSpec.upto coinsRightsSpec)

/-- 'jointurelaw02.CoinsAmounts', WHERE WHAT IT READS IS OF BULK AT MOST 1048576: true; the input reads as it did. -/
def coinsAmountsUptoRow : OpenClaim := { program := "ytmjdmhelmgcanaa", sum := "3f03a0fd21036a5f2f7773fe3c45724a0b9acff62cb46caa139dd6da9e755ee7", func := "jointure/jointurelaw02.CoinsAmounts", spec := "coinsAmounts", inPlace := ["math/bits.Sub64"], unfollowed := true, recurses := true, apart := false, narrowed := true }
def CoinsAmountsUptoSaid : Prop := coinsAmountsUptoRow.holds Try.pinned (OpenSpec.upto coinsAmountsSpec)

/-- 'jointurelaw02.CoinsAdds', WHERE WHAT IT READS IS OF BULK AT MOST 1048576: true; the input reads as it did. -/
def coinsAddsUptoRow : OpenClaim := { program := "ytmjdmhelmgcanaa", sum := "3f03a0fd21036a5f2f7773fe3c45724a0b9acff62cb46caa139dd6da9e755ee7", func := "jointure/jointurelaw02.CoinsAdds", spec := "coinsAdds", inPlace := ["math/bits.Sub64", "math/bits.Add64"], unfollowed := true, recurses := true, apart := false, narrowed := true }
def CoinsAddsUptoSaid : Prop := coinsAddsUptoRow.holds Try.pinned (OpenSpec.upto coinsAddsSpec)

/-- 'jointurelaw02.CoinsBack', WHERE WHAT IT READS IS OF BULK AT MOST 1048576: true; the input reads as it did. -/
def coinsBackUptoRow : OpenClaim := { program := "ytmjdmhelmgcanaa", sum := "3f03a0fd21036a5f2f7773fe3c45724a0b9acff62cb46caa139dd6da9e755ee7", func := "jointure/jointurelaw02.CoinsBack", spec := "coinsBack", inPlace := ["math/bits.Sub64", "math/bits.Add64"], unfollowed := true, recurses := true, apart := false, narrowed := true }
def CoinsBackUptoSaid : Prop := coinsBackUptoRow.holds Try.pinned (OpenSpec.upto coinsBackSpec)

/-- 'jointurelaw07.HoldTracks', WHERE WHAT IT READS IS OF BULK AT MOST 1048576: true; the input reads as it did. -/
def holdTracksUptoRow : OpenClaim := { program := "ytmjdmhelmgcanaa", sum := "3f03a0fd21036a5f2f7773fe3c45724a0b9acff62cb46caa139dd6da9e755ee7", func := "jointure/jointurelaw07.HoldTracks", spec := "holdTracks", inPlace := ["math/bits.Sub64", "math/bits.Add64"], unfollowed := true, recurses := true, apart := false, narrowed := true }
def HoldTracksUptoSaid : Prop := holdTracksUptoRow.holds Try.pinned (OpenSpec.upto holdTracksSpec)

/-- 'jointurelaw07.HoldBacks', WHERE WHAT IT READS IS OF BULK AT MOST 1048576: true; the input reads as it did. -/
def holdBacksUptoRow : OpenClaim := { program := "ytmjdmhelmgcanaa", sum := "3f03a0fd21036a5f2f7773fe3c45724a0b9acff62cb46caa139dd6da9e755ee7", func := "jointure/jointurelaw07.HoldBacks", spec := "holdBacks", inPlace := ["math/bits.Sub64", "math/bits.Add64"], unfollowed := true, recurses := true, apart := false, narrowed := true }
def HoldBacksUptoSaid : Prop := holdBacksUptoRow.holds Try.pinned (OpenSpec.upto holdBacksSpec)

/-- 'jointurelaw07.HoldSpends', WHERE WHAT IT READS IS OF BULK AT MOST 1048576: true; the input reads as it did. -/
def holdSpendsUptoRow : OpenClaim := { program := "ytmjdmhelmgcanaa", sum := "3f03a0fd21036a5f2f7773fe3c45724a0b9acff62cb46caa139dd6da9e755ee7", func := "jointure/jointurelaw07.HoldSpends", spec := "holdSpends", inPlace := ["math/bits.Sub64", "math/bits.Add64"], unfollowed := true, recurses := true, apart := false, narrowed := true }
def HoldSpendsUptoSaid : Prop := holdSpendsUptoRow.holds Try.pinned (OpenSpec.upto holdSpendsSpec)

/-- 'jointurelaw07.HoldAll', WHERE WHAT IT READS IS OF BULK AT MOST 1048576: true; the input reads as it did. -/
def holdAllUptoRow : OpenClaim := { program := "ytmjdmhelmgcanaa", sum := "3f03a0fd21036a5f2f7773fe3c45724a0b9acff62cb46caa139dd6da9e755ee7", func := "jointure/jointurelaw07.HoldAll", spec := "holdAll", inPlace := ["math/bits.Sub64", "math/bits.Add64"], unfollowed := true, recurses := true, apart := false, narrowed := true }
def HoldAllUptoSaid : Prop := holdAllUptoRow.holds Try.pinned (OpenSpec.upto holdAllSpec)

/-- 'jointurelaw07.HoldHolds', WHERE WHAT IT READS IS OF BULK AT MOST 1048576: true; the input reads as it did. -/
def holdHoldsUptoRow : OpenClaim := { program := "ytmjdmhelmgcanaa", sum := "3f03a0fd21036a5f2f7773fe3c45724a0b9acff62cb46caa139dd6da9e755ee7", func := "jointure/jointurelaw07.HoldHolds", spec := "holdHolds", inPlace := ["math/bits.Sub64", "math/bits.Add64"], unfollowed := true, recurses := true, apart := false, narrowed := true }
def HoldHoldsUptoSaid : Prop := holdHoldsUptoRow.holds Try.pinned (OpenSpec.upto holdHoldsSpec)

/-- 'jointurelaw02.CoinsTakes', WHERE WHAT IT READS IS OF BULK AT MOST 1048576: true; the input reads as it did. -/
def coinsTakesUptoRow : OpenClaim := { program := "ytmjdmhelmgcanaa", sum := "3f03a0fd21036a5f2f7773fe3c45724a0b9acff62cb46caa139dd6da9e755ee7", func := "jointure/jointurelaw02.CoinsTakes", spec := "coinsTakes", inPlace := ["math/bits.Sub64"], unfollowed := true, recurses := true, apart := false, narrowed := true }
def CoinsTakesUptoSaid : Prop := coinsTakesUptoRow.holds Try.pinned (OpenSpec.upto coinsTakesSpec)

/-- 'jointurelaw02.CoinsParts', WHERE WHAT IT READS IS OF BULK AT MOST 1048576: true; the input reads as it did. -/
def coinsPartsUptoRow : OpenClaim := { program := "ytmjdmhelmgcanaa", sum := "3f03a0fd21036a5f2f7773fe3c45724a0b9acff62cb46caa139dd6da9e755ee7", func := "jointure/jointurelaw02.CoinsParts", spec := "coinsParts", inPlace := ["math/bits.Sub64", "math/bits.Add64"], unfollowed := true, recurses := true, apart := false, narrowed := true }
def CoinsPartsUptoSaid : Prop := coinsPartsUptoRow.holds Try.pinned (OpenSpec.upto coinsPartsSpec)

/-- 'jointurelaw02.CoinsOwn', WHERE WHAT IT READS IS OF BULK AT MOST 1048576: true; the input reads as it did. -/
def coinsOwnUptoRow : OpenClaim := { program := "ytmjdmhelmgcanaa", sum := "3f03a0fd21036a5f2f7773fe3c45724a0b9acff62cb46caa139dd6da9e755ee7", func := "jointure/jointurelaw02.CoinsOwn", spec := "coinsOwn", inPlace := ["math/bits.Sub64", "math/bits.Add64"], unfollowed := true, recurses := true, apart := false, narrowed := true }
def CoinsOwnUptoSaid : Prop := coinsOwnUptoRow.holds Try.pinned (OpenSpec.upto coinsOwnSpec)

/-- 'jointurelaw08.ShareWorths', WHERE WHAT IT READS IS OF BULK AT MOST 1048576: true; the input reads as it did. -/
def shareWorthsUptoRow : OpenClaim := { program := "ytmjdmhelmgcanaa", sum := "3f03a0fd21036a5f2f7773fe3c45724a0b9acff62cb46caa139dd6da9e755ee7", func := "jointure/jointurelaw08.ShareWorths", spec := "shareWorths", inPlace := ["math/bits.Add64", "math/bits.Sub64"], unfollowed := true, recurses := true, apart := false, narrowed := true }
def ShareWorthsUptoSaid : Prop := shareWorthsUptoRow.holds Try.pinned (OpenSpec.upto shareWorthsSpec)

/-- 'jointurelaw08.ShareFewests', WHERE WHAT IT READS IS OF BULK AT MOST 1048576: true; the input reads as it did. -/
def shareFewestsUptoRow : OpenClaim := { program := "ytmjdmhelmgcanaa", sum := "3f03a0fd21036a5f2f7773fe3c45724a0b9acff62cb46caa139dd6da9e755ee7", func := "jointure/jointurelaw08.ShareFewests", spec := "shareFewests", inPlace := ["math/bits.Add64", "math/bits.Sub64"], unfollowed := true, recurses := true, apart := false, narrowed := true }
def ShareFewestsUptoSaid : Prop := shareFewestsUptoRow.holds Try.pinned (OpenSpec.upto shareFewestsSpec)

/-- 'jointurelaw08.ShareParts', WHERE WHAT IT READS IS OF BULK AT MOST 1048576: true; the input reads as it did. -/
def sharePartsUptoRow : OpenClaim := { program := "ytmjdmhelmgcanaa", sum := "3f03a0fd21036a5f2f7773fe3c45724a0b9acff62cb46caa139dd6da9e755ee7", func := "jointure/jointurelaw08.ShareParts", spec := "shareParts", inPlace := ["math/bits.Add64", "math/bits.Sub64"], unfollowed := true, recurses := true, apart := false, narrowed := true }
def SharePartsUptoSaid : Prop := sharePartsUptoRow.holds Try.pinned (OpenSpec.upto sharePartsSpec)

/-- 'jointurelaw08.ShareSplits', WHERE WHAT IT READS IS OF BULK AT MOST 1048576: true; the input reads as it did. -/
def shareSplitsUptoRow : OpenClaim := { program := "ytmjdmhelmgcanaa", sum := "3f03a0fd21036a5f2f7773fe3c45724a0b9acff62cb46caa139dd6da9e755ee7", func := "jointure/jointurelaw08.ShareSplits", spec := "shareSplits", inPlace := ["math/bits.Add64", "math/bits.Sub64"], unfollowed := true, recurses := true, apart := false, narrowed := true }
def ShareSplitsUptoSaid : Prop := shareSplitsUptoRow.holds Try.pinned (OpenSpec.upto shareSplitsSpec)

/-- 'jointurelaw08.ShareRest', WHERE WHAT IT READS IS OF BULK AT MOST 1048576: true; the input reads as it did. -/
def shareRestUptoRow : OpenClaim := { program := "ytmjdmhelmgcanaa", sum := "3f03a0fd21036a5f2f7773fe3c45724a0b9acff62cb46caa139dd6da9e755ee7", func := "jointure/jointurelaw08.ShareRest", spec := "shareRest", inPlace := ["math/bits.Add64", "math/bits.Sub64"], unfollowed := true, recurses := true, apart := false, narrowed := true }
def ShareRestUptoSaid : Prop := shareRestUptoRow.holds Try.pinned (OpenSpec.upto shareRestSpec)

/-- 'jointurelaw08.ShareNews', WHERE WHAT IT READS IS OF BULK AT MOST 1048576: true; the input reads as it did. -/
def shareNewsUptoRow : OpenClaim := { program := "ytmjdmhelmgcanaa", sum := "3f03a0fd21036a5f2f7773fe3c45724a0b9acff62cb46caa139dd6da9e755ee7", func := "jointure/jointurelaw08.ShareNews", spec := "shareNews", inPlace := ["math/bits.Add64", "math/bits.Sub64"], unfollowed := true, recurses := true, apart := false, narrowed := true }
def ShareNewsUptoSaid : Prop := shareNewsUptoRow.holds Try.pinned (OpenSpec.upto shareNewsSpec)

/-- 'jointurelaw08.ShareLoss', WHERE WHAT IT READS IS OF BULK AT MOST 1048576: true; the input reads as it did. -/
def shareLossUptoRow : OpenClaim := { program := "ytmjdmhelmgcanaa", sum := "3f03a0fd21036a5f2f7773fe3c45724a0b9acff62cb46caa139dd6da9e755ee7", func := "jointure/jointurelaw08.ShareLoss", spec := "shareLoss", inPlace := ["math/bits.Add64", "math/bits.Sub64"], unfollowed := true, recurses := true, apart := false, narrowed := true }
def ShareLossUptoSaid : Prop := shareLossUptoRow.holds Try.pinned (OpenSpec.upto shareLossSpec)

/-- 'jointurelaw01.NumOrders', WHERE WHAT IT READS IS OF BULK AT MOST 1048576: true; the input reads as it did. -/
def numOrdersUptoRow : OpenClaim := { program := "ytmjdmhelmgcanaa", sum := "3f03a0fd21036a5f2f7773fe3c45724a0b9acff62cb46caa139dd6da9e755ee7", func := "jointure/jointurelaw01.NumOrders", spec := "numOrders", inPlace := ["math/bits.Add64", "math/bits.Sub64"], unfollowed := true, recurses := true, apart := false, narrowed := true }
def NumOrdersUptoSaid : Prop := numOrdersUptoRow.holds Try.pinned (OpenSpec.upto numOrdersSpec)

/-- 'jointurelaw01.NumProducts', WHERE WHAT IT READS IS OF BULK AT MOST 1048576: true; the input reads as it did. -/
def numProductsUptoRow : OpenClaim := { program := "ytmjdmhelmgcanaa", sum := "3f03a0fd21036a5f2f7773fe3c45724a0b9acff62cb46caa139dd6da9e755ee7", func := "jointure/jointurelaw01.NumProducts", spec := "numProducts", inPlace := ["math/bits.Add64", "math/bits.Sub64"], unfollowed := true, recurses := true, apart := false, narrowed := true }
def NumProductsUptoSaid : Prop := numProductsUptoRow.holds Try.pinned (OpenSpec.upto numProductsSpec)

/-- 'jointurelaw01.NumParts', WHERE WHAT IT READS IS OF BULK AT MOST 1048576: true; the input reads as it did. -/
def numPartsUptoRow : OpenClaim := { program := "ytmjdmhelmgcanaa", sum := "3f03a0fd21036a5f2f7773fe3c45724a0b9acff62cb46caa139dd6da9e755ee7", func := "jointure/jointurelaw01.NumParts", spec := "numParts", inPlace := ["math/bits.Add64", "math/bits.Sub64"], unfollowed := true, recurses := true, apart := false, narrowed := true }
def NumPartsUptoSaid : Prop := numPartsUptoRow.holds Try.pinned (OpenSpec.upto numPartsSpec)

/-- 'jointurelaw01.NumFloors', WHERE WHAT IT READS IS OF BULK AT MOST 1048576: true; the input reads as it did. -/
def numFloorsUptoRow : OpenClaim := { program := "ytmjdmhelmgcanaa", sum := "3f03a0fd21036a5f2f7773fe3c45724a0b9acff62cb46caa139dd6da9e755ee7", func := "jointure/jointurelaw01.NumFloors", spec := "numFloors", inPlace := ["math/bits.Add64", "math/bits.Sub64"], unfollowed := true, recurses := true, apart := false, narrowed := true }
def NumFloorsUptoSaid : Prop := numFloorsUptoRow.holds Try.pinned (OpenSpec.upto numFloorsSpec)

/-- 'jointurelaw01.NumWhole', WHERE WHAT IT READS IS OF BULK AT MOST 1048576: true; the input reads as it did. -/
def numWholeUptoRow : OpenClaim := { program := "ytmjdmhelmgcanaa", sum := "3f03a0fd21036a5f2f7773fe3c45724a0b9acff62cb46caa139dd6da9e755ee7", func := "jointure/jointurelaw01.NumWhole", spec := "numWhole", inPlace := ["math/bits.Add64", "math/bits.Sub64"], unfollowed := true, recurses := true, apart := false, narrowed := true }
def NumWholeUptoSaid : Prop := numWholeUptoRow.holds Try.pinned (OpenSpec.upto numWholeSpec)

/-- 'jointurelaw01.NumBack', WHERE WHAT IT READS IS OF BULK AT MOST 1048576: true; the input reads as it did. -/
def numBackUptoRow : OpenClaim := { program := "ytmjdmhelmgcanaa", sum := "3f03a0fd21036a5f2f7773fe3c45724a0b9acff62cb46caa139dd6da9e755ee7", func := "jointure/jointurelaw01.NumBack", spec := "numBack", inPlace := ["math/bits.Add64", "math/bits.Sub64"], unfollowed := true, recurses := true, apart := false, narrowed := true }
def NumBackUptoSaid : Prop := numBackUptoRow.holds Try.pinned (OpenSpec.upto numBackSpec)

/-- 'jointurelaw01.NumBytes', WHERE WHAT IT READS IS OF BULK AT MOST 1048576: true; the input reads as it did. -/
def numBytesUptoRow : OpenClaim := { program := "ytmjdmhelmgcanaa", sum := "3f03a0fd21036a5f2f7773fe3c45724a0b9acff62cb46caa139dd6da9e755ee7", func := "jointure/jointurelaw01.NumBytes", spec := "numBytes", inPlace := ["math/bits.Add64", "math/bits.Sub64"], unfollowed := true, recurses := true, apart := false, narrowed := true }
def NumBytesUptoSaid : Prop := numBytesUptoRow.holds Try.pinned (OpenSpec.upto numBytesSpec)

/-- 'jointurelaw01.NumReads', WHERE WHAT IT READS IS OF BULK AT MOST 1048576: true; the input reads as it did. -/
def numReadsUptoRow : OpenClaim := { program := "ytmjdmhelmgcanaa", sum := "3f03a0fd21036a5f2f7773fe3c45724a0b9acff62cb46caa139dd6da9e755ee7", func := "jointure/jointurelaw01.NumReads", spec := "numReads", inPlace := ["math/bits.Add64", "math/bits.Sub64"], unfollowed := true, recurses := true, apart := false, narrowed := true }
def NumReadsUptoSaid : Prop := numReadsUptoRow.holds Try.pinned (OpenSpec.upto numReadsSpec)

/-- 'jointurelaw01.NumSums', WHERE WHAT IT READS IS OF BULK AT MOST 1048576: true; the input reads as it did. -/
def numSumsUptoRow : OpenClaim := { program := "ytmjdmhelmgcanaa", sum := "3f03a0fd21036a5f2f7773fe3c45724a0b9acff62cb46caa139dd6da9e755ee7", func := "jointure/jointurelaw01.NumSums", spec := "numSums", inPlace := ["math/bits.Add64", "math/bits.Sub64"], unfollowed := true, recurses := true, apart := false, narrowed := true }
def NumSumsUptoSaid : Prop := numSumsUptoRow.holds Try.pinned (OpenSpec.upto numSumsSpec)

end Rows
end Go.Proofs.Ytmjdmhelmgcanaa
