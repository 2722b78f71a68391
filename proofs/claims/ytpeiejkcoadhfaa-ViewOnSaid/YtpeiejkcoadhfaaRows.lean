/-
  No cell of these rows narrows 'for every input' (looked for: loops, veiled, ifaces, maps, wideKeys, modest, calm, conditions, laid).
  DERIVED. THE GIVEN ROWS OF THIS SEAT. 24 by the template 'for every input the law returns true; each argument reads behind the call as it read before'; 0 by the template 'total and deterministic' (their statements: YtpeiejkcoadhfaaTotals.lean).
  GIVEN WITH THE SEED: the statements are not yours to turn. If you find one false, say at which input.
  Laid BY PROGRAM, IN A SANDBOX (cutbox-rows.mjs): the forced cells as the released guide's own fill.sh prints them over the translation bb9b389b4a6970d2… (all of the seat's roots in one cut). By AI agents, Wed Nov 11 2026. No macro, syntax, notation, axiom, sorry.
-/
import Derived.Test.YtpeiejkcoadhfaaChecked
import GoSem.Claim
import GoSem.ClaimJoined
import GoSem.ClaimMapViews
import Derived.JoinedTies
import Derived.KernelRfl
namespace Go.Proofs.Ytpeiejkcoadhfaa
/- THE CELL 'sum', in the pinned program and in every row, IS THE sha256 OF THE DUMP (.gsa) THAT YtpeiejkcoadhfaaProg.lean LOADS. Nothing in Lean hashes anything: it is a label: what it is worth is what the hold of that sum in a sandbox is worth. -/
noncomputable def Try.pinned : Pinned := { name := "ytpeiejkcoadhfaa", sum := "bb9b389b4a6970d25a7e8db9d0c699bfb4c6d3bac7a09c8c53234c29eea5d6f2", checked := Try.checked }
namespace Rows
def none {H : Type} : Left H := { results := [], args := [] }

/-- 'shamrocklaw01.GfPows': WHATEVER THE INPUT: true; the input reads as it did. -/
def gfPowsSpec : ChangeSpec := { name := "gfPows", fn := fun _ => fun
  | [d1, d2] => { results := [.lit (.bool true)], args := [d1, d2] }
  | _ => none }
def gfPowsRow : OpenClaim := { program := "ytpeiejkcoadhfaa", sum := "bb9b389b4a6970d25a7e8db9d0c699bfb4c6d3bac7a09c8c53234c29eea5d6f2", func := "shamrock/shamrocklaw01.GfPows", spec := "gfPows", unfollowed := true, recurses := true, apart := false }
def GfPowsSaid : Prop := gfPowsRow.holds Try.pinned (OpenSpec.ofChange gfPowsSpec)

/-- ITS FALSE NEIGHBOUR: 'it returns false'. Refute it at one input. -/
def gfPowsWrong : ChangeSpec := { name := "gfPows", fn := fun _ => fun
  | [d1, d2] => { results := [.lit (.bool false)], args := [d1, d2] }
  | _ => none }
def GfPowsWrongFalsely : Prop := gfPowsRow.holds Try.pinned (OpenSpec.ofChange gfPowsWrong)

/-- 'shamrocklaw01.GfLaws': WHATEVER THE INPUT: true; the input reads as it did. -/
def gfLawsSpec : ChangeSpec := { name := "gfLaws", fn := fun _ => fun
  | [d1, d2, d3] => { results := [.lit (.bool true)], args := [d1, d2, d3] }
  | _ => none }
def gfLawsRow : OpenClaim := { program := "ytpeiejkcoadhfaa", sum := "bb9b389b4a6970d25a7e8db9d0c699bfb4c6d3bac7a09c8c53234c29eea5d6f2", func := "shamrock/shamrocklaw01.GfLaws", spec := "gfLaws", unfollowed := true, recurses := true, apart := false }
def GfLawsSaid : Prop := gfLawsRow.holds Try.pinned (OpenSpec.ofChange gfLawsSpec)

/-- ITS FALSE NEIGHBOUR: 'it returns false'. Refute it at one input. -/
def gfLawsWrong : ChangeSpec := { name := "gfLaws", fn := fun _ => fun
  | [d1, d2, d3] => { results := [.lit (.bool false)], args := [d1, d2, d3] }
  | _ => none }
def GfLawsWrongFalsely : Prop := gfLawsRow.holds Try.pinned (OpenSpec.ofChange gfLawsWrong)

/-- 'shamrocklaw01.GfOrder': WHATEVER THE INPUT: true; the input reads as it did. -/
def gfOrderSpec : ChangeSpec := { name := "gfOrder", fn := fun _ => fun
  | [d1, d2, d3] => { results := [.lit (.bool true)], args := [d1, d2, d3] }
  | _ => none }
def gfOrderRow : OpenClaim := { program := "ytpeiejkcoadhfaa", sum := "bb9b389b4a6970d25a7e8db9d0c699bfb4c6d3bac7a09c8c53234c29eea5d6f2", func := "shamrock/shamrocklaw01.GfOrder", spec := "gfOrder", unfollowed := true, recurses := true, apart := false }
def GfOrderSaid : Prop := gfOrderRow.holds Try.pinned (OpenSpec.ofChange gfOrderSpec)

/-- ITS FALSE NEIGHBOUR: 'it returns false'. Refute it at one input. -/
def gfOrderWrong : ChangeSpec := { name := "gfOrder", fn := fun _ => fun
  | [d1, d2, d3] => { results := [.lit (.bool false)], args := [d1, d2, d3] }
  | _ => none }
def GfOrderWrongFalsely : Prop := gfOrderRow.holds Try.pinned (OpenSpec.ofChange gfOrderWrong)

/-- 'shamrocklaw01.GfMuls': WHATEVER THE INPUT: true; the input reads as it did. -/
def gfMulsSpec : ChangeSpec := { name := "gfMuls", fn := fun _ => fun
  | [d1, d2] => { results := [.lit (.bool true)], args := [d1, d2] }
  | _ => none }
def gfMulsRow : OpenClaim := { program := "ytpeiejkcoadhfaa", sum := "bb9b389b4a6970d25a7e8db9d0c699bfb4c6d3bac7a09c8c53234c29eea5d6f2", func := "shamrock/shamrocklaw01.GfMuls", spec := "gfMuls", unfollowed := true, recurses := true, apart := false }
def GfMulsSaid : Prop := gfMulsRow.holds Try.pinned (OpenSpec.ofChange gfMulsSpec)

/-- ITS FALSE NEIGHBOUR: 'it returns false'. Refute it at one input. -/
def gfMulsWrong : ChangeSpec := { name := "gfMuls", fn := fun _ => fun
  | [d1, d2] => { results := [.lit (.bool false)], args := [d1, d2] }
  | _ => none }
def GfMulsWrongFalsely : Prop := gfMulsRow.holds Try.pinned (OpenSpec.ofChange gfMulsWrong)

/-- 'shamrocklaw01.GfUnlike': WHATEVER THE INPUT: true; the input reads as it did. -/
def gfUnlikeSpec : ChangeSpec := { name := "gfUnlike", fn := fun _ => fun
  | [d1, d2, d3] => { results := [.lit (.bool true)], args := [d1, d2, d3] }
  | _ => none }
def gfUnlikeRow : OpenClaim := { program := "ytpeiejkcoadhfaa", sum := "bb9b389b4a6970d25a7e8db9d0c699bfb4c6d3bac7a09c8c53234c29eea5d6f2", func := "shamrock/shamrocklaw01.GfUnlike", spec := "gfUnlike", unfollowed := true, recurses := true, apart := false }
def GfUnlikeSaid : Prop := gfUnlikeRow.holds Try.pinned (OpenSpec.ofChange gfUnlikeSpec)

/-- ITS FALSE NEIGHBOUR: 'it returns false'. Refute it at one input. -/
def gfUnlikeWrong : ChangeSpec := { name := "gfUnlike", fn := fun _ => fun
  | [d1, d2, d3] => { results := [.lit (.bool false)], args := [d1, d2, d3] }
  | _ => none }
def GfUnlikeWrongFalsely : Prop := gfUnlikeRow.holds Try.pinned (OpenSpec.ofChange gfUnlikeWrong)

/-- 'shamrocklaw09.StripeSplits': WHATEVER THE INPUT: true; the input reads as it did. -/
def stripeSplitsSpec : ChangeSpec := { name := "stripeSplits", fn := fun _ => fun
  | [d1, d2] => { results := [.lit (.bool true)], args := [d1, d2] }
  | _ => none }
def stripeSplitsRow : OpenClaim := { program := "ytpeiejkcoadhfaa", sum := "bb9b389b4a6970d25a7e8db9d0c699bfb4c6d3bac7a09c8c53234c29eea5d6f2", func := "shamrock/shamrocklaw09.StripeSplits", spec := "stripeSplits", unfollowed := true, recurses := true, apart := false }
def StripeSplitsSaid : Prop := stripeSplitsRow.holds Try.pinned (OpenSpec.ofChange stripeSplitsSpec)

/-- ITS FALSE NEIGHBOUR: 'it returns false'. Refute it at one input. -/
def stripeSplitsWrong : ChangeSpec := { name := "stripeSplits", fn := fun _ => fun
  | [d1, d2] => { results := [.lit (.bool false)], args := [d1, d2] }
  | _ => none }
def StripeSplitsWrongFalsely : Prop := stripeSplitsRow.holds Try.pinned (OpenSpec.ofChange stripeSplitsWrong)

/-- 'shamrocklaw09.StripeCounts': WHATEVER THE INPUT: true; the input reads as it did. -/
def stripeCountsSpec : ChangeSpec := { name := "stripeCounts", fn := fun _ => fun
  | [d1, d2] => { results := [.lit (.bool true)], args := [d1, d2] }
  | _ => none }
def stripeCountsRow : OpenClaim := { program := "ytpeiejkcoadhfaa", sum := "bb9b389b4a6970d25a7e8db9d0c699bfb4c6d3bac7a09c8c53234c29eea5d6f2", func := "shamrock/shamrocklaw09.StripeCounts", spec := "stripeCounts", unfollowed := true, recurses := true, apart := false }
def StripeCountsSaid : Prop := stripeCountsRow.holds Try.pinned (OpenSpec.ofChange stripeCountsSpec)

/-- ITS FALSE NEIGHBOUR: 'it returns false'. Refute it at one input. -/
def stripeCountsWrong : ChangeSpec := { name := "stripeCounts", fn := fun _ => fun
  | [d1, d2] => { results := [.lit (.bool false)], args := [d1, d2] }
  | _ => none }
def StripeCountsWrongFalsely : Prop := stripeCountsRow.holds Try.pinned (OpenSpec.ofChange stripeCountsWrong)

/-- 'shamrocklaw09.StripeJoins': WHATEVER THE INPUT: true; the input reads as it did. -/
def stripeJoinsSpec : ChangeSpec := { name := "stripeJoins", fn := fun _ => fun
  | [d1, d2, d3] => { results := [.lit (.bool true)], args := [d1, d2, d3] }
  | _ => none }
def stripeJoinsRow : OpenClaim := { program := "ytpeiejkcoadhfaa", sum := "bb9b389b4a6970d25a7e8db9d0c699bfb4c6d3bac7a09c8c53234c29eea5d6f2", func := "shamrock/shamrocklaw09.StripeJoins", spec := "stripeJoins", unfollowed := true, recurses := true, apart := false }
def StripeJoinsSaid : Prop := stripeJoinsRow.holds Try.pinned (OpenSpec.ofChange stripeJoinsSpec)

/-- ITS FALSE NEIGHBOUR: 'it returns false'. Refute it at one input. -/
def stripeJoinsWrong : ChangeSpec := { name := "stripeJoins", fn := fun _ => fun
  | [d1, d2, d3] => { results := [.lit (.bool false)], args := [d1, d2, d3] }
  | _ => none }
def StripeJoinsWrongFalsely : Prop := stripeJoinsRow.holds Try.pinned (OpenSpec.ofChange stripeJoinsWrong)

/-- 'shamrocklaw09.StripeOwn': WHATEVER THE INPUT: true; the input reads as it did. -/
def stripeOwnSpec : ChangeSpec := { name := "stripeOwn", fn := fun _ => fun
  | [d1, d2] => { results := [.lit (.bool true)], args := [d1, d2] }
  | _ => none }
def stripeOwnRow : OpenClaim := { program := "ytpeiejkcoadhfaa", sum := "bb9b389b4a6970d25a7e8db9d0c699bfb4c6d3bac7a09c8c53234c29eea5d6f2", func := "shamrock/shamrocklaw09.StripeOwn", spec := "stripeOwn", unfollowed := true, recurses := true, apart := false }
def StripeOwnSaid : Prop := stripeOwnRow.holds Try.pinned (OpenSpec.ofChange stripeOwnSpec)

/-- ITS FALSE NEIGHBOUR: 'it returns false'. Refute it at one input. -/
def stripeOwnWrong : ChangeSpec := { name := "stripeOwn", fn := fun _ => fun
  | [d1, d2] => { results := [.lit (.bool false)], args := [d1, d2] }
  | _ => none }
def StripeOwnWrongFalsely : Prop := stripeOwnRow.holds Try.pinned (OpenSpec.ofChange stripeOwnWrong)

/-- 'shamrocklaw09.StripeEnds': WHATEVER THE INPUT: true; the input reads as it did. -/
def stripeEndsSpec : ChangeSpec := { name := "stripeEnds", fn := fun _ => fun
  | [d1, d2, d3] => { results := [.lit (.bool true)], args := [d1, d2, d3] }
  | _ => none }
def stripeEndsRow : OpenClaim := { program := "ytpeiejkcoadhfaa", sum := "bb9b389b4a6970d25a7e8db9d0c699bfb4c6d3bac7a09c8c53234c29eea5d6f2", func := "shamrock/shamrocklaw09.StripeEnds", spec := "stripeEnds", unfollowed := true, recurses := true, apart := false }
def StripeEndsSaid : Prop := stripeEndsRow.holds Try.pinned (OpenSpec.ofChange stripeEndsSpec)

/-- ITS FALSE NEIGHBOUR: 'it returns false'. Refute it at one input. -/
def stripeEndsWrong : ChangeSpec := { name := "stripeEnds", fn := fun _ => fun
  | [d1, d2, d3] => { results := [.lit (.bool false)], args := [d1, d2, d3] }
  | _ => none }
def StripeEndsWrongFalsely : Prop := stripeEndsRow.holds Try.pinned (OpenSpec.ofChange stripeEndsWrong)

/-- 'shamrocklaw10.DealParams': WHATEVER THE INPUT: true; the input reads as it did. -/
def dealParamsSpec : ChangeSpec := { name := "dealParams", fn := fun _ => fun
  | [d] => { results := [.lit (.bool true)], args := [d] }
  | _ => none }
def dealParamsRow : OpenClaim := { program := "ytpeiejkcoadhfaa", sum := "bb9b389b4a6970d25a7e8db9d0c699bfb4c6d3bac7a09c8c53234c29eea5d6f2", func := "shamrock/shamrocklaw10.DealParams", spec := "dealParams", unfollowed := true, recurses := true, apart := false }
def DealParamsSaid : Prop := dealParamsRow.holds Try.pinned (OpenSpec.ofChange dealParamsSpec)

/-- ITS FALSE NEIGHBOUR: 'it returns false'. Refute it at one input. -/
def dealParamsWrong : ChangeSpec := { name := "dealParams", fn := fun _ => fun
  | [d] => { results := [.lit (.bool false)], args := [d] }
  | _ => none }
def DealParamsWrongFalsely : Prop := dealParamsRow.holds Try.pinned (OpenSpec.ofChange dealParamsWrong)

/-- 'shamrocklaw10.DealPoints': WHATEVER THE INPUT: true; the input reads as it did. -/
def dealPointsSpec : ChangeSpec := { name := "dealPoints", fn := fun _ => fun
  | [d1, d2, d3, d4] => { results := [.lit (.bool true)], args := [d1, d2, d3, d4] }
  | _ => none }
def dealPointsRow : OpenClaim := { program := "ytpeiejkcoadhfaa", sum := "bb9b389b4a6970d25a7e8db9d0c699bfb4c6d3bac7a09c8c53234c29eea5d6f2", func := "shamrock/shamrocklaw10.DealPoints", spec := "dealPoints", unfollowed := true, recurses := true, apart := false }
def DealPointsSaid : Prop := dealPointsRow.holds Try.pinned (OpenSpec.ofChange dealPointsSpec)

/-- ITS FALSE NEIGHBOUR: 'it returns false'. Refute it at one input. -/
def dealPointsWrong : ChangeSpec := { name := "dealPoints", fn := fun _ => fun
  | [d1, d2, d3, d4] => { results := [.lit (.bool false)], args := [d1, d2, d3, d4] }
  | _ => none }
def DealPointsWrongFalsely : Prop := dealPointsRow.holds Try.pinned (OpenSpec.ofChange dealPointsWrong)

/-- 'shamrocklaw10.DealShares': WHATEVER THE INPUT: true; the input reads as it did. -/
def dealSharesSpec : ChangeSpec := { name := "dealShares", fn := fun _ => fun
  | [d1, d2, d3] => { results := [.lit (.bool true)], args := [d1, d2, d3] }
  | _ => none }
def dealSharesRow : OpenClaim := { program := "ytpeiejkcoadhfaa", sum := "bb9b389b4a6970d25a7e8db9d0c699bfb4c6d3bac7a09c8c53234c29eea5d6f2", func := "shamrock/shamrocklaw10.DealShares", spec := "dealShares", unfollowed := true, recurses := true, apart := false }
def DealSharesSaid : Prop := dealSharesRow.holds Try.pinned (OpenSpec.ofChange dealSharesSpec)

/-- ITS FALSE NEIGHBOUR: 'it returns false'. Refute it at one input. -/
def dealSharesWrong : ChangeSpec := { name := "dealShares", fn := fun _ => fun
  | [d1, d2, d3] => { results := [.lit (.bool false)], args := [d1, d2, d3] }
  | _ => none }
def DealSharesWrongFalsely : Prop := dealSharesRow.holds Try.pinned (OpenSpec.ofChange dealSharesWrong)

/-- 'shamrocklaw10.DealSecret': WHATEVER THE INPUT: true; the input reads as it did. -/
def dealSecretSpec : ChangeSpec := { name := "dealSecret", fn := fun _ => fun
  | [d1, d2, d3, d4] => { results := [.lit (.bool true)], args := [d1, d2, d3, d4] }
  | _ => none }
def dealSecretRow : OpenClaim := { program := "ytpeiejkcoadhfaa", sum := "bb9b389b4a6970d25a7e8db9d0c699bfb4c6d3bac7a09c8c53234c29eea5d6f2", func := "shamrock/shamrocklaw10.DealSecret", spec := "dealSecret", unfollowed := true, recurses := true, apart := false }
def DealSecretSaid : Prop := dealSecretRow.holds Try.pinned (OpenSpec.ofChange dealSecretSpec)

/-- ITS FALSE NEIGHBOUR: 'it returns false'. Refute it at one input. -/
def dealSecretWrong : ChangeSpec := { name := "dealSecret", fn := fun _ => fun
  | [d1, d2, d3, d4] => { results := [.lit (.bool false)], args := [d1, d2, d3, d4] }
  | _ => none }
def DealSecretWrongFalsely : Prop := dealSecretRow.holds Try.pinned (OpenSpec.ofChange dealSecretWrong)

/-- 'shamrocklaw10.DealNothing': WHATEVER THE INPUT: true; the input reads as it did. -/
def dealNothingSpec : ChangeSpec := { name := "dealNothing", fn := fun _ => fun
  | [d1, d2, d3, d4, d5] => { results := [.lit (.bool true)], args := [d1, d2, d3, d4, d5] }
  | _ => none }
def dealNothingRow : OpenClaim := { program := "ytpeiejkcoadhfaa", sum := "bb9b389b4a6970d25a7e8db9d0c699bfb4c6d3bac7a09c8c53234c29eea5d6f2", func := "shamrock/shamrocklaw10.DealNothing", spec := "dealNothing", unfollowed := true, recurses := true, apart := false }
def DealNothingSaid : Prop := dealNothingRow.holds Try.pinned (OpenSpec.ofChange dealNothingSpec)

/-- ITS FALSE NEIGHBOUR: 'it returns false'. Refute it at one input. -/
def dealNothingWrong : ChangeSpec := { name := "dealNothing", fn := fun _ => fun
  | [d1, d2, d3, d4, d5] => { results := [.lit (.bool false)], args := [d1, d2, d3, d4, d5] }
  | _ => none }
def DealNothingWrongFalsely : Prop := dealNothingRow.holds Try.pinned (OpenSpec.ofChange dealNothingWrong)

/-- 'shamrocklaw10.DealOthers': WHATEVER THE INPUT: true; the input reads as it did. -/
def dealOthersSpec : ChangeSpec := { name := "dealOthers", fn := fun _ => fun
  | [d1, d2, d3, d4] => { results := [.lit (.bool true)], args := [d1, d2, d3, d4] }
  | _ => none }
def dealOthersRow : OpenClaim := { program := "ytpeiejkcoadhfaa", sum := "bb9b389b4a6970d25a7e8db9d0c699bfb4c6d3bac7a09c8c53234c29eea5d6f2", func := "shamrock/shamrocklaw10.DealOthers", spec := "dealOthers", unfollowed := true, recurses := true, apart := false }
def DealOthersSaid : Prop := dealOthersRow.holds Try.pinned (OpenSpec.ofChange dealOthersSpec)

/-- ITS FALSE NEIGHBOUR: 'it returns false'. Refute it at one input. -/
def dealOthersWrong : ChangeSpec := { name := "dealOthers", fn := fun _ => fun
  | [d1, d2, d3, d4] => { results := [.lit (.bool false)], args := [d1, d2, d3, d4] }
  | _ => none }
def DealOthersWrongFalsely : Prop := dealOthersRow.holds Try.pinned (OpenSpec.ofChange dealOthersWrong)

/-- 'shamrocklaw10.DealSums': WHATEVER THE INPUT: true; the input reads as it did. -/
def dealSumsSpec : ChangeSpec := { name := "dealSums", fn := fun _ => fun
  | [d1, d2, d3, d4] => { results := [.lit (.bool true)], args := [d1, d2, d3, d4] }
  | _ => none }
def dealSumsRow : OpenClaim := { program := "ytpeiejkcoadhfaa", sum := "bb9b389b4a6970d25a7e8db9d0c699bfb4c6d3bac7a09c8c53234c29eea5d6f2", func := "shamrock/shamrocklaw10.DealSums", spec := "dealSums", unfollowed := true, recurses := true, apart := false }
def DealSumsSaid : Prop := dealSumsRow.holds Try.pinned (OpenSpec.ofChange dealSumsSpec)

/-- ITS FALSE NEIGHBOUR: 'it returns false'. Refute it at one input. -/
def dealSumsWrong : ChangeSpec := { name := "dealSums", fn := fun _ => fun
  | [d1, d2, d3, d4] => { results := [.lit (.bool false)], args := [d1, d2, d3, d4] }
  | _ => none }
def DealSumsWrongFalsely : Prop := dealSumsRow.holds Try.pinned (OpenSpec.ofChange dealSumsWrong)

/-- 'shamrocklaw10.DealZeros': WHATEVER THE INPUT: true; the input reads as it did. -/
def dealZerosSpec : ChangeSpec := { name := "dealZeros", fn := fun _ => fun
  | [d1, d2, d3, d4] => { results := [.lit (.bool true)], args := [d1, d2, d3, d4] }
  | _ => none }
def dealZerosRow : OpenClaim := { program := "ytpeiejkcoadhfaa", sum := "bb9b389b4a6970d25a7e8db9d0c699bfb4c6d3bac7a09c8c53234c29eea5d6f2", func := "shamrock/shamrocklaw10.DealZeros", spec := "dealZeros", unfollowed := true, recurses := true, apart := false }
def DealZerosSaid : Prop := dealZerosRow.holds Try.pinned (OpenSpec.ofChange dealZerosSpec)

/-- ITS FALSE NEIGHBOUR: 'it returns false'. Refute it at one input. -/
def dealZerosWrong : ChangeSpec := { name := "dealZeros", fn := fun _ => fun
  | [d1, d2, d3, d4] => { results := [.lit (.bool false)], args := [d1, d2, d3, d4] }
  | _ => none }
def DealZerosWrongFalsely : Prop := dealZerosRow.holds Try.pinned (OpenSpec.ofChange dealZerosWrong)

/-- 'shamrocklaw24.ViewRuns': WHATEVER THE INPUT: true; the input reads as it did. -/
def viewRunsSpec : ChangeSpec := { name := "viewRuns", fn := fun _ => fun
  | [d1, d2] => { results := [.lit (.bool true)], args := [d1, d2] }
  | _ => none }
def viewRunsRow : OpenClaim := { program := "ytpeiejkcoadhfaa", sum := "bb9b389b4a6970d25a7e8db9d0c699bfb4c6d3bac7a09c8c53234c29eea5d6f2", func := "shamrock/shamrocklaw24.ViewRuns", spec := "viewRuns", unfollowed := true, recurses := true, apart := false }
def ViewRunsSaid : Prop := viewRunsRow.holds Try.pinned (OpenSpec.ofChange viewRunsSpec)

/-- ITS FALSE NEIGHBOUR: 'it returns false'. Refute it at one input. -/
def viewRunsWrong : ChangeSpec := { name := "viewRuns", fn := fun _ => fun
  | [d1, d2] => { results := [.lit (.bool false)], args := [d1, d2] }
  | _ => none }
def ViewRunsWrongFalsely : Prop := viewRunsRow.holds Try.pinned (OpenSpec.ofChange viewRunsWrong)

/-- 'shamrocklaw24.ViewLooks': WHATEVER THE INPUT: true; the input reads as it did. -/
def viewLooksSpec : ChangeSpec := { name := "viewLooks", fn := fun _ => fun
  | [d1, d2] => { results := [.lit (.bool true)], args := [d1, d2] }
  | _ => none }
def viewLooksRow : OpenClaim := { program := "ytpeiejkcoadhfaa", sum := "bb9b389b4a6970d25a7e8db9d0c699bfb4c6d3bac7a09c8c53234c29eea5d6f2", func := "shamrock/shamrocklaw24.ViewLooks", spec := "viewLooks", unfollowed := true, recurses := true, apart := false }
def ViewLooksSaid : Prop := viewLooksRow.holds Try.pinned (OpenSpec.ofChange viewLooksSpec)

/-- ITS FALSE NEIGHBOUR: 'it returns false'. Refute it at one input. -/
def viewLooksWrong : ChangeSpec := { name := "viewLooks", fn := fun _ => fun
  | [d1, d2] => { results := [.lit (.bool false)], args := [d1, d2] }
  | _ => none }
def ViewLooksWrongFalsely : Prop := viewLooksRow.holds Try.pinned (OpenSpec.ofChange viewLooksWrong)

/-- 'shamrocklaw24.ViewHides': WHATEVER THE INPUT: true; the input reads as it did. -/
def viewHidesSpec : ChangeSpec := { name := "viewHides", fn := fun _ => fun
  | [d1, d2, d3] => { results := [.lit (.bool true)], args := [d1, d2, d3] }
  | _ => none }
def viewHidesRow : OpenClaim := { program := "ytpeiejkcoadhfaa", sum := "bb9b389b4a6970d25a7e8db9d0c699bfb4c6d3bac7a09c8c53234c29eea5d6f2", func := "shamrock/shamrocklaw24.ViewHides", spec := "viewHides", unfollowed := true, recurses := true, apart := false }
def ViewHidesSaid : Prop := viewHidesRow.holds Try.pinned (OpenSpec.ofChange viewHidesSpec)

/-- ITS FALSE NEIGHBOUR: 'it returns false'. Refute it at one input. -/
def viewHidesWrong : ChangeSpec := { name := "viewHides", fn := fun _ => fun
  | [d1, d2, d3] => { results := [.lit (.bool false)], args := [d1, d2, d3] }
  | _ => none }
def ViewHidesWrongFalsely : Prop := viewHidesRow.holds Try.pinned (OpenSpec.ofChange viewHidesWrong)

/-- 'shamrocklaw24.ViewUnlike': WHATEVER THE INPUT: true; the input reads as it did. -/
def viewUnlikeSpec : ChangeSpec := { name := "viewUnlike", fn := fun _ => fun
  | [d1, d2, d3, d4] => { results := [.lit (.bool true)], args := [d1, d2, d3, d4] }
  | _ => none }
def viewUnlikeRow : OpenClaim := { program := "ytpeiejkcoadhfaa", sum := "bb9b389b4a6970d25a7e8db9d0c699bfb4c6d3bac7a09c8c53234c29eea5d6f2", func := "shamrock/shamrocklaw24.ViewUnlike", spec := "viewUnlike", unfollowed := true, recurses := true, apart := false }
def ViewUnlikeSaid : Prop := viewUnlikeRow.holds Try.pinned (OpenSpec.ofChange viewUnlikeSpec)

/-- ITS FALSE NEIGHBOUR: 'it returns false'. Refute it at one input. -/
def viewUnlikeWrong : ChangeSpec := { name := "viewUnlike", fn := fun _ => fun
  | [d1, d2, d3, d4] => { results := [.lit (.bool false)], args := [d1, d2, d3, d4] }
  | _ => none }
def ViewUnlikeWrongFalsely : Prop := viewUnlikeRow.holds Try.pinned (OpenSpec.ofChange viewUnlikeWrong)

/-- 'shamrocklaw24.ViewEmpty': WHATEVER THE INPUT: true; the input reads as it did. -/
def viewEmptySpec : ChangeSpec := { name := "viewEmpty", fn := fun _ => fun
  | [d1, d2] => { results := [.lit (.bool true)], args := [d1, d2] }
  | _ => none }
def viewEmptyRow : OpenClaim := { program := "ytpeiejkcoadhfaa", sum := "bb9b389b4a6970d25a7e8db9d0c699bfb4c6d3bac7a09c8c53234c29eea5d6f2", func := "shamrock/shamrocklaw24.ViewEmpty", spec := "viewEmpty", unfollowed := true, recurses := true, apart := false }
def ViewEmptySaid : Prop := viewEmptyRow.holds Try.pinned (OpenSpec.ofChange viewEmptySpec)

/-- ITS FALSE NEIGHBOUR: 'it returns false'. Refute it at one input. -/
def viewEmptyWrong : ChangeSpec := { name := "viewEmpty", fn := fun _ => fun
  | [d1, d2] => { results := [.lit (.bool false)], args := [d1, d2] }
  | _ => none }
def ViewEmptyWrongFalsely : Prop := viewEmptyRow.holds Try.pinned (OpenSpec.ofChange viewEmptyWrong)

/-- 'shamrocklaw24.ViewOn': WHATEVER THE INPUT: true; the input reads as it did. -/
def viewOnSpec : ChangeSpec := { name := "viewOn", fn := fun _ => fun
  | [d1, d2, d3, d4] => { results := [.lit (.bool true)], args := [d1, d2, d3, d4] }
  | _ => none }
def viewOnRow : OpenClaim := { program := "ytpeiejkcoadhfaa", sum := "bb9b389b4a6970d25a7e8db9d0c699bfb4c6d3bac7a09c8c53234c29eea5d6f2", func := "shamrock/shamrocklaw24.ViewOn", spec := "viewOn", unfollowed := true, recurses := true, apart := false }
def ViewOnSaid : Prop := viewOnRow.holds Try.pinned (OpenSpec.ofChange viewOnSpec)

/-- ITS FALSE NEIGHBOUR: 'it returns false'. Refute it at one input. -/
def viewOnWrong : ChangeSpec := { name := "viewOn", fn := fun _ => fun
  | [d1, d2, d3, d4] => { results := [.lit (.bool false)], args := [d1, d2, d3, d4] }
  | _ => none }
def ViewOnWrongFalsely : Prop := viewOnRow.holds Try.pinned (OpenSpec.ofChange viewOnWrong)

/- THE SECOND FORM. 'bulk': how many values and letters a reading holds, each counted each time it is reached (what is shared counts as often as it is met; a slice's spare places count too). A statement '..UptoSaid' is the law's where the arguments, and the package variables that the reading takes, are together of bulk at most 1048576: NARROWER than '..Said'. Prove '..Said' where nothing that the law and all that it calls make is longer than what came in: it says more and counts as full. Else prove '..UptoSaid'. A law counts once. -/
mutual
def uptoBulk {H : Type} : DataW H → Nat
  | .lit (.string bytes) => bytes.length + 1
  | .lit _ => 1
  | .nil => 1
  | .ptr d => uptoBulk d + 1
  | .slice elems spare => uptoBulkAll elems + uptoBulkAll spare + 1
  | .agg parts => uptoBulkAll parts + 1
  | .iface _ d => uptoBulk d + 1
  | .map entries => uptoBulkEntries entries + 1
  | .held _ => 1
def uptoBulkAll {H : Type} : List (DataW H) → Nat
  | [] => 0
  | d :: r => uptoBulk d + uptoBulkAll r
def uptoBulkEntries {H : Type} : List (Lit × DataW H) → Nat
  | [] => 0
  | x :: r => uptoBulkEntry x + uptoBulkEntries r
def uptoBulkEntry {H : Type} : Lit × DataW H → Nat
  | (.string bytes, d) => bytes.length + uptoBulk d + 1
  | (_, d) => uptoBulk d + 1
 end
def uptoSmall : (H : Type) → List (DataW H) → Bool := fun _ ds => decide (uptoBulkAll ds ≤ 1048576)
def OpenSpec.upto (s : _root_.Go.ChangeSpec) : _root_.Go.OpenSpec := { _root_.Go.OpenSpec.ofChange s with cond := some uptoSmall }

/-- 'shamrocklaw01.GfPows', WHERE WHAT IT READS IS OF BULK AT MOST 1048576: true; the input reads as it did. -/
def gfPowsUptoRow : OpenClaim := { program := "ytpeiejkcoadhfaa", sum := "bb9b389b4a6970d25a7e8db9d0c699bfb4c6d3bac7a09c8c53234c29eea5d6f2", func := "shamrock/shamrocklaw01.GfPows", spec := "gfPows", unfollowed := true, recurses := true, apart := false, narrowed := true }
def GfPowsUptoSaid : Prop := gfPowsUptoRow.holds Try.pinned (OpenSpec.upto gfPowsSpec)

/-- 'shamrocklaw01.GfLaws', WHERE WHAT IT READS IS OF BULK AT MOST 1048576: true; the input reads as it did. -/
def gfLawsUptoRow : OpenClaim := { program := "ytpeiejkcoadhfaa", sum := "bb9b389b4a6970d25a7e8db9d0c699bfb4c6d3bac7a09c8c53234c29eea5d6f2", func := "shamrock/shamrocklaw01.GfLaws", spec := "gfLaws", unfollowed := true, recurses := true, apart := false, narrowed := true }
def GfLawsUptoSaid : Prop := gfLawsUptoRow.holds Try.pinned (OpenSpec.upto gfLawsSpec)

/-- 'shamrocklaw01.GfOrder', WHERE WHAT IT READS IS OF BULK AT MOST 1048576: true; the input reads as it did. -/
def gfOrderUptoRow : OpenClaim := { program := "ytpeiejkcoadhfaa", sum := "bb9b389b4a6970d25a7e8db9d0c699bfb4c6d3bac7a09c8c53234c29eea5d6f2", func := "shamrock/shamrocklaw01.GfOrder", spec := "gfOrder", unfollowed := true, recurses := true, apart := false, narrowed := true }
def GfOrderUptoSaid : Prop := gfOrderUptoRow.holds Try.pinned (OpenSpec.upto gfOrderSpec)

/-- 'shamrocklaw01.GfMuls', WHERE WHAT IT READS IS OF BULK AT MOST 1048576: true; the input reads as it did. -/
def gfMulsUptoRow : OpenClaim := { program := "ytpeiejkcoadhfaa", sum := "bb9b389b4a6970d25a7e8db9d0c699bfb4c6d3bac7a09c8c53234c29eea5d6f2", func := "shamrock/shamrocklaw01.GfMuls", spec := "gfMuls", unfollowed := true, recurses := true, apart := false, narrowed := true }
def GfMulsUptoSaid : Prop := gfMulsUptoRow.holds Try.pinned (OpenSpec.upto gfMulsSpec)

/-- 'shamrocklaw01.GfUnlike', WHERE WHAT IT READS IS OF BULK AT MOST 1048576: true; the input reads as it did. -/
def gfUnlikeUptoRow : OpenClaim := { program := "ytpeiejkcoadhfaa", sum := "bb9b389b4a6970d25a7e8db9d0c699bfb4c6d3bac7a09c8c53234c29eea5d6f2", func := "shamrock/shamrocklaw01.GfUnlike", spec := "gfUnlike", unfollowed := true, recurses := true, apart := false, narrowed := true }
def GfUnlikeUptoSaid : Prop := gfUnlikeUptoRow.holds Try.pinned (OpenSpec.upto gfUnlikeSpec)

/-- 'shamrocklaw09.StripeSplits', WHERE WHAT IT READS IS OF BULK AT MOST 1048576: true; the input reads as it did. -/
def stripeSplitsUptoRow : OpenClaim := { program := "ytpeiejkcoadhfaa", sum := "bb9b389b4a6970d25a7e8db9d0c699bfb4c6d3bac7a09c8c53234c29eea5d6f2", func := "shamrock/shamrocklaw09.StripeSplits", spec := "stripeSplits", unfollowed := true, recurses := true, apart := false, narrowed := true }
def StripeSplitsUptoSaid : Prop := stripeSplitsUptoRow.holds Try.pinned (OpenSpec.upto stripeSplitsSpec)

/-- 'shamrocklaw09.StripeCounts', WHERE WHAT IT READS IS OF BULK AT MOST 1048576: true; the input reads as it did. -/
def stripeCountsUptoRow : OpenClaim := { program := "ytpeiejkcoadhfaa", sum := "bb9b389b4a6970d25a7e8db9d0c699bfb4c6d3bac7a09c8c53234c29eea5d6f2", func := "shamrock/shamrocklaw09.StripeCounts", spec := "stripeCounts", unfollowed := true, recurses := true, apart := false, narrowed := true }
def StripeCountsUptoSaid : Prop := stripeCountsUptoRow.holds Try.pinned (OpenSpec.upto stripeCountsSpec)

/-- 'shamrocklaw09.StripeJoins', WHERE WHAT IT READS IS OF BULK AT MOST 1048576: true; the input reads as it did. -/
def stripeJoinsUptoRow : OpenClaim := { program := "ytpeiejkcoadhfaa", sum := "bb9b389b4a6970d25a7e8db9d0c699bfb4c6d3bac7a09c8c53234c29eea5d6f2", func := "shamrock/shamrocklaw09.StripeJoins", spec := "stripeJoins", unfollowed := true, recurses := true, apart := false, narrowed := true }
def StripeJoinsUptoSaid : Prop := stripeJoinsUptoRow.holds Try.pinned (OpenSpec.upto stripeJoinsSpec)

/-- 'shamrocklaw09.StripeOwn', WHERE WHAT IT READS IS OF BULK AT MOST 1048576: true; the input reads as it did. -/
def stripeOwnUptoRow : OpenClaim := { program := "ytpeiejkcoadhfaa", sum := "bb9b389b4a6970d25a7e8db9d0c699bfb4c6d3bac7a09c8c53234c29eea5d6f2", func := "shamrock/shamrocklaw09.StripeOwn", spec := "stripeOwn", unfollowed := true, recurses := true, apart := false, narrowed := true }
def StripeOwnUptoSaid : Prop := stripeOwnUptoRow.holds Try.pinned (OpenSpec.upto stripeOwnSpec)

/-- 'shamrocklaw09.StripeEnds', WHERE WHAT IT READS IS OF BULK AT MOST 1048576: true; the input reads as it did. -/
def stripeEndsUptoRow : OpenClaim := { program := "ytpeiejkcoadhfaa", sum := "bb9b389b4a6970d25a7e8db9d0c699bfb4c6d3bac7a09c8c53234c29eea5d6f2", func := "shamrock/shamrocklaw09.StripeEnds", spec := "stripeEnds", unfollowed := true, recurses := true, apart := false, narrowed := true }
def StripeEndsUptoSaid : Prop := stripeEndsUptoRow.holds Try.pinned (OpenSpec.upto stripeEndsSpec)

/-- 'shamrocklaw10.DealParams', WHERE WHAT IT READS IS OF BULK AT MOST 1048576: true; the input reads as it did. -/
def dealParamsUptoRow : OpenClaim := { program := "ytpeiejkcoadhfaa", sum := "bb9b389b4a6970d25a7e8db9d0c699bfb4c6d3bac7a09c8c53234c29eea5d6f2", func := "shamrock/shamrocklaw10.DealParams", spec := "dealParams", unfollowed := true, recurses := true, apart := false, narrowed := true }
def DealParamsUptoSaid : Prop := dealParamsUptoRow.holds Try.pinned (OpenSpec.upto dealParamsSpec)

/-- 'shamrocklaw10.DealPoints', WHERE WHAT IT READS IS OF BULK AT MOST 1048576: true; the input reads as it did. -/
def dealPointsUptoRow : OpenClaim := { program := "ytpeiejkcoadhfaa", sum := "bb9b389b4a6970d25a7e8db9d0c699bfb4c6d3bac7a09c8c53234c29eea5d6f2", func := "shamrock/shamrocklaw10.DealPoints", spec := "dealPoints", unfollowed := true, recurses := true, apart := false, narrowed := true }
def DealPointsUptoSaid : Prop := dealPointsUptoRow.holds Try.pinned (OpenSpec.upto dealPointsSpec)

/-- 'shamrocklaw10.DealShares', WHERE WHAT IT READS IS OF BULK AT MOST 1048576: true; the input reads as it did. -/
def dealSharesUptoRow : OpenClaim := { program := "ytpeiejkcoadhfaa", sum := "bb9b389b4a6970d25a7e8db9d0c699bfb4c6d3bac7a09c8c53234c29eea5d6f2", func := "shamrock/shamrocklaw10.DealShares", spec := "dealShares", unfollowed := true, recurses := true, apart := false, narrowed := true }
def DealSharesUptoSaid : Prop := dealSharesUptoRow.holds Try.pinned (OpenSpec.upto dealSharesSpec)

/-- 'shamrocklaw10.DealSecret', WHERE WHAT IT READS IS OF BULK AT MOST 1048576: true; the input reads as it did. -/
def dealSecretUptoRow : OpenClaim := { program := "ytpeiejkcoadhfaa", sum := "bb9b389b4a6970d25a7e8db9d0c699bfb4c6d3bac7a09c8c53234c29eea5d6f2", func := "shamrock/shamrocklaw10.DealSecret", spec := "dealSecret", unfollowed := true, recurses := true, apart := false, narrowed := true }
def DealSecretUptoSaid : Prop := dealSecretUptoRow.holds Try.pinned (OpenSpec.upto dealSecretSpec)

/-- 'shamrocklaw10.DealNothing', WHERE WHAT IT READS IS OF BULK AT MOST 1048576: true; the input reads as it did. -/
def dealNothingUptoRow : OpenClaim := { program := "ytpeiejkcoadhfaa", sum := "bb9b389b4a6970d25a7e8db9d0c699bfb4c6d3bac7a09c8c53234c29eea5d6f2", func := "shamrock/shamrocklaw10.DealNothing", spec := "dealNothing", unfollowed := true, recurses := true, apart := false, narrowed := true }
def DealNothingUptoSaid : Prop := dealNothingUptoRow.holds Try.pinned (OpenSpec.upto dealNothingSpec)

/-- 'shamrocklaw10.DealOthers', WHERE WHAT IT READS IS OF BULK AT MOST 1048576: true; the input reads as it did. -/
def dealOthersUptoRow : OpenClaim := { program := "ytpeiejkcoadhfaa", sum := "bb9b389b4a6970d25a7e8db9d0c699bfb4c6d3bac7a09c8c53234c29eea5d6f2", func := "shamrock/shamrocklaw10.DealOthers", spec := "dealOthers", unfollowed := true, recurses := true, apart := false, narrowed := true }
def DealOthersUptoSaid : Prop := dealOthersUptoRow.holds Try.pinned (OpenSpec.upto dealOthersSpec)

/-- 'shamrocklaw10.DealSums', WHERE WHAT IT READS IS OF BULK AT MOST 1048576: true; the input reads as it did. -/
def dealSumsUptoRow : OpenClaim := { program := "ytpeiejkcoadhfaa", sum := "bb9b389b4a6970d25a7e8db9d0c699bfb4c6d3bac7a09c8c53234c29eea5d6f2", func := "shamrock/shamrocklaw10.DealSums", spec := "dealSums", unfollowed := true, recurses := true, apart := false, narrowed := true }
def DealSumsUptoSaid : Prop := dealSumsUptoRow.holds Try.pinned (OpenSpec.upto dealSumsSpec)

/-- 'shamrocklaw10.DealZeros', WHERE WHAT IT READS IS OF BULK AT MOST 1048576: true; the input reads as it did. -/
def dealZerosUptoRow : OpenClaim := { program := "ytpeiejkcoadhfaa", sum := "bb9b389b4a6970d25a7e8db9d0c699bfb4c6d3bac7a09c8c53234c29eea5d6f2", func := "shamrock/shamrocklaw10.DealZeros", spec := "dealZeros", unfollowed := true, recurses := true, apart := false, narrowed := true }
def DealZerosUptoSaid : Prop := dealZerosUptoRow.holds Try.pinned (OpenSpec.upto dealZerosSpec)

/-- 'shamrocklaw24.ViewRuns', WHERE WHAT IT READS IS OF BULK AT MOST 1048576: true; the input reads as it did. -/
def viewRunsUptoRow : OpenClaim := { program := "ytpeiejkcoadhfaa", sum := "bb9b389b4a6970d25a7e8db9d0c699bfb4c6d3bac7a09c8c53234c29eea5d6f2", func := "shamrock/shamrocklaw24.ViewRuns", spec := "viewRuns", unfollowed := true, recurses := true, apart := false, narrowed := true }
def ViewRunsUptoSaid : Prop := viewRunsUptoRow.holds Try.pinned (OpenSpec.upto viewRunsSpec)

/-- 'shamrocklaw24.ViewLooks', WHERE WHAT IT READS IS OF BULK AT MOST 1048576: true; the input reads as it did. -/
def viewLooksUptoRow : OpenClaim := { program := "ytpeiejkcoadhfaa", sum := "bb9b389b4a6970d25a7e8db9d0c699bfb4c6d3bac7a09c8c53234c29eea5d6f2", func := "shamrock/shamrocklaw24.ViewLooks", spec := "viewLooks", unfollowed := true, recurses := true, apart := false, narrowed := true }
def ViewLooksUptoSaid : Prop := viewLooksUptoRow.holds Try.pinned (OpenSpec.upto viewLooksSpec)

/-- 'shamrocklaw24.ViewHides', WHERE WHAT IT READS IS OF BULK AT MOST 1048576: true; the input reads as it did. -/
def viewHidesUptoRow : OpenClaim := { program := "ytpeiejkcoadhfaa", sum := "bb9b389b4a6970d25a7e8db9d0c699bfb4c6d3bac7a09c8c53234c29eea5d6f2", func := "shamrock/shamrocklaw24.ViewHides", spec := "viewHides", unfollowed := true, recurses := true, apart := false, narrowed := true }
def ViewHidesUptoSaid : Prop := viewHidesUptoRow.holds Try.pinned (OpenSpec.upto viewHidesSpec)

/-- 'shamrocklaw24.ViewUnlike', WHERE WHAT IT READS IS OF BULK AT MOST 1048576: true; the input reads as it did. -/
def viewUnlikeUptoRow : OpenClaim := { program := "ytpeiejkcoadhfaa", sum := "bb9b389b4a6970d25a7e8db9d0c699bfb4c6d3bac7a09c8c53234c29eea5d6f2", func := "shamrock/shamrocklaw24.ViewUnlike", spec := "viewUnlike", unfollowed := true, recurses := true, apart := false, narrowed := true }
def ViewUnlikeUptoSaid : Prop := viewUnlikeUptoRow.holds Try.pinned (OpenSpec.upto viewUnlikeSpec)

/-- 'shamrocklaw24.ViewEmpty', WHERE WHAT IT READS IS OF BULK AT MOST 1048576: true; the input reads as it did. -/
def viewEmptyUptoRow : OpenClaim := { program := "ytpeiejkcoadhfaa", sum := "bb9b389b4a6970d25a7e8db9d0c699bfb4c6d3bac7a09c8c53234c29eea5d6f2", func := "shamrock/shamrocklaw24.ViewEmpty", spec := "viewEmpty", unfollowed := true, recurses := true, apart := false, narrowed := true }
def ViewEmptyUptoSaid : Prop := viewEmptyUptoRow.holds Try.pinned (OpenSpec.upto viewEmptySpec)

/-- 'shamrocklaw24.ViewOn', WHERE WHAT IT READS IS OF BULK AT MOST 1048576: true; the input reads as it did. -/
def viewOnUptoRow : OpenClaim := { program := "ytpeiejkcoadhfaa", sum := "bb9b389b4a6970d25a7e8db9d0c699bfb4c6d3bac7a09c8c53234c29eea5d6f2", func := "shamrock/shamrocklaw24.ViewOn", spec := "viewOn", unfollowed := true, recurses := true, apart := false, narrowed := true }
def ViewOnUptoSaid : Prop := viewOnUptoRow.holds Try.pinned (OpenSpec.upto viewOnSpec)

end Rows
end Go.Proofs.Ytpeiejkcoadhfaa
