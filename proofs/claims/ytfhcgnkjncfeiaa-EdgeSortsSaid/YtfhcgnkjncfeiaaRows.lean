/-
  No cell of these rows narrows 'for every input' (looked for: loops, veiled, ifaces, maps, wideKeys, modest, calm, conditions, laid).
  DERIVED. THE GIVEN ROWS OF THIS SEAT. 20 by the template 'for every input the law returns true; each argument reads behind the call as it read before'; 0 by the template 'total and deterministic' (their statements: YtfhcgnkjncfeiaaTotals.lean).
  GIVEN WITH THE SEED: the statements are not yours to turn. If you find one false, say at which input.
  Laid BY PROGRAM, IN A SANDBOX (cutbox-rows.mjs): the forced cells as the released guide's own fill.sh prints them over the translation 9487fcbc41673f64… (all of the seat's roots in one cut). By AI agents, Wed Nov 11 2026. No macro, syntax, notation, axiom, sorry.
-/
import Derived.Test.YtfhcgnkjncfeiaaChecked
import GoSem.Claim
import GoSem.ClaimJoined
import GoSem.ClaimMapViews
import Derived.JoinedTies
import Derived.KernelRfl
namespace Go.Proofs.Ytfhcgnkjncfeiaa
/- THE CELL 'sum', in the pinned program and in every row, IS THE sha256 OF THE DUMP (.gsa) THAT YtfhcgnkjncfeiaaProg.lean LOADS. Nothing in Lean hashes anything: it is a label: what it is worth is what the hold of that sum in a sandbox is worth. -/
noncomputable def Try.pinned : Pinned := { name := "ytfhcgnkjncfeiaa", sum := "9487fcbc41673f6424be410db99a7bbee43f1050182b3c097c9c26af1acf5789", checked := Try.checked }
namespace Rows
def none {H : Type} : Left H := { results := [], args := [] }

/-- 'darninglaw2.MeanBetween': WHATEVER THE INPUT: true; the input reads as it did. -/
def meanBetweenSpec : ChangeSpec := { name := "meanBetween", fn := fun _ => fun
  | [d1, d2] => { results := [.lit (.bool true)], args := [d1, d2] }
  | _ => none }
def meanBetweenRow : OpenClaim := { program := "ytfhcgnkjncfeiaa", sum := "9487fcbc41673f6424be410db99a7bbee43f1050182b3c097c9c26af1acf5789", func := "darning/darninglaw2.MeanBetween", spec := "meanBetween", inPlace := ["math.Float64frombits", "math.Float64bits"], apart := false }
def MeanBetweenSaid : Prop := meanBetweenRow.holds Try.pinned (OpenSpec.ofChange meanBetweenSpec)

/-- ITS FALSE NEIGHBOUR: 'it returns false'. Refute it at one input. -/
def meanBetweenWrong : ChangeSpec := { name := "meanBetween", fn := fun _ => fun
  | [d1, d2] => { results := [.lit (.bool false)], args := [d1, d2] }
  | _ => none }
def MeanBetweenWrongFalsely : Prop := meanBetweenRow.holds Try.pinned (OpenSpec.ofChange meanBetweenWrong)

/-- 'darninglaw2.MeanEdges': WHATEVER THE INPUT: true; the input reads as it did. -/
def meanEdgesSpec : ChangeSpec := { name := "meanEdges", fn := fun _ => fun
  | [d1, d2] => { results := [.lit (.bool true)], args := [d1, d2] }
  | _ => none }
def meanEdgesRow : OpenClaim := { program := "ytfhcgnkjncfeiaa", sum := "9487fcbc41673f6424be410db99a7bbee43f1050182b3c097c9c26af1acf5789", func := "darning/darninglaw2.MeanEdges", spec := "meanEdges", inPlace := ["math.Float64frombits", "math.Float64bits"], apart := false }
def MeanEdgesSaid : Prop := meanEdgesRow.holds Try.pinned (OpenSpec.ofChange meanEdgesSpec)

/-- ITS FALSE NEIGHBOUR: 'it returns false'. Refute it at one input. -/
def meanEdgesWrong : ChangeSpec := { name := "meanEdges", fn := fun _ => fun
  | [d1, d2] => { results := [.lit (.bool false)], args := [d1, d2] }
  | _ => none }
def MeanEdgesWrongFalsely : Prop := meanEdgesRow.holds Try.pinned (OpenSpec.ofChange meanEdgesWrong)

/-- 'darninglaw2.MeanScales': WHATEVER THE INPUT: true; the input reads as it did. -/
def meanScalesSpec : ChangeSpec := { name := "meanScales", fn := fun _ => fun
  | [d] => { results := [.lit (.bool true)], args := [d] }
  | _ => none }
def meanScalesRow : OpenClaim := { program := "ytfhcgnkjncfeiaa", sum := "9487fcbc41673f6424be410db99a7bbee43f1050182b3c097c9c26af1acf5789", func := "darning/darninglaw2.MeanScales", spec := "meanScales", inPlace := ["math.Float64frombits", "math.Float64bits"], apart := false }
def MeanScalesSaid : Prop := meanScalesRow.holds Try.pinned (OpenSpec.ofChange meanScalesSpec)

/-- ITS FALSE NEIGHBOUR: 'it returns false'. Refute it at one input. -/
def meanScalesWrong : ChangeSpec := { name := "meanScales", fn := fun _ => fun
  | [d] => { results := [.lit (.bool false)], args := [d] }
  | _ => none }
def MeanScalesWrongFalsely : Prop := meanScalesRow.holds Try.pinned (OpenSpec.ofChange meanScalesWrong)

/-- 'darninglaw2.MeanHeld': WHATEVER THE INPUT: true; the input reads as it did. -/
def meanHeldSpec : ChangeSpec := { name := "meanHeld", fn := fun _ => fun
  | [d] => { results := [.lit (.bool true)], args := [d] }
  | _ => none }
def meanHeldRow : OpenClaim := { program := "ytfhcgnkjncfeiaa", sum := "9487fcbc41673f6424be410db99a7bbee43f1050182b3c097c9c26af1acf5789", func := "darning/darninglaw2.MeanHeld", spec := "meanHeld", inPlace := ["math.Float64frombits", "math.Float64bits"], apart := false }
def MeanHeldSaid : Prop := meanHeldRow.holds Try.pinned (OpenSpec.ofChange meanHeldSpec)

/-- ITS FALSE NEIGHBOUR: 'it returns false'. Refute it at one input. -/
def meanHeldWrong : ChangeSpec := { name := "meanHeld", fn := fun _ => fun
  | [d] => { results := [.lit (.bool false)], args := [d] }
  | _ => none }
def MeanHeldWrongFalsely : Prop := meanHeldRow.holds Try.pinned (OpenSpec.ofChange meanHeldWrong)

/-- 'darninglaw2.MeanRatios': WHATEVER THE INPUT: true; the input reads as it did. -/
def meanRatiosSpec : ChangeSpec := { name := "meanRatios", fn := fun _ => fun
  | [d1, d2] => { results := [.lit (.bool true)], args := [d1, d2] }
  | _ => none }
def meanRatiosRow : OpenClaim := { program := "ytfhcgnkjncfeiaa", sum := "9487fcbc41673f6424be410db99a7bbee43f1050182b3c097c9c26af1acf5789", func := "darning/darninglaw2.MeanRatios", spec := "meanRatios", inPlace := ["math.Float64bits", "math.Float64frombits"], apart := false }
def MeanRatiosSaid : Prop := meanRatiosRow.holds Try.pinned (OpenSpec.ofChange meanRatiosSpec)

/-- ITS FALSE NEIGHBOUR: 'it returns false'. Refute it at one input. -/
def meanRatiosWrong : ChangeSpec := { name := "meanRatios", fn := fun _ => fun
  | [d1, d2] => { results := [.lit (.bool false)], args := [d1, d2] }
  | _ => none }
def MeanRatiosWrongFalsely : Prop := meanRatiosRow.holds Try.pinned (OpenSpec.ofChange meanRatiosWrong)

/-- 'darninglaw2.MeanForms': WHATEVER THE INPUT: true; the input reads as it did. -/
def meanFormsSpec : ChangeSpec := { name := "meanForms", fn := fun _ => fun
  | [d1, d2, d3] => { results := [.lit (.bool true)], args := [d1, d2, d3] }
  | _ => none }
def meanFormsRow : OpenClaim := { program := "ytfhcgnkjncfeiaa", sum := "9487fcbc41673f6424be410db99a7bbee43f1050182b3c097c9c26af1acf5789", func := "darning/darninglaw2.MeanForms", spec := "meanForms", inPlace := ["math.Float64frombits", "math.Float64bits"], apart := false }
def MeanFormsSaid : Prop := meanFormsRow.holds Try.pinned (OpenSpec.ofChange meanFormsSpec)

/-- ITS FALSE NEIGHBOUR: 'it returns false'. Refute it at one input. -/
def meanFormsWrong : ChangeSpec := { name := "meanForms", fn := fun _ => fun
  | [d1, d2, d3] => { results := [.lit (.bool false)], args := [d1, d2, d3] }
  | _ => none }
def MeanFormsWrongFalsely : Prop := meanFormsRow.holds Try.pinned (OpenSpec.ofChange meanFormsWrong)

/-- 'darninglaw1.EdgeOne': WHATEVER THE INPUT: true; the input reads as it did. -/
def edgeOneSpec : ChangeSpec := { name := "edgeOne", fn := fun _ => fun
  | [d1, d2, d3] => { results := [.lit (.bool true)], args := [d1, d2, d3] }
  | _ => none }
def edgeOneRow : OpenClaim := { program := "ytfhcgnkjncfeiaa", sum := "9487fcbc41673f6424be410db99a7bbee43f1050182b3c097c9c26af1acf5789", func := "darning/darninglaw1.EdgeOne", spec := "edgeOne", inPlace := ["math.Float64frombits", "math.Float64bits", "math.archTrunc"], unfollowed := true, recurses := true, apart := false }
def EdgeOneSaid : Prop := edgeOneRow.holds Try.pinned (OpenSpec.ofChange edgeOneSpec)

/-- ITS FALSE NEIGHBOUR: 'it returns false'. Refute it at one input. -/
def edgeOneWrong : ChangeSpec := { name := "edgeOne", fn := fun _ => fun
  | [d1, d2, d3] => { results := [.lit (.bool false)], args := [d1, d2, d3] }
  | _ => none }
def EdgeOneWrongFalsely : Prop := edgeOneRow.holds Try.pinned (OpenSpec.ofChange edgeOneWrong)

/-- 'darninglaw1.EdgeWholes': WHATEVER THE INPUT: true; the input reads as it did. -/
def edgeWholesSpec : ChangeSpec := { name := "edgeWholes", fn := fun _ => fun
  | [d] => { results := [.lit (.bool true)], args := [d] }
  | _ => none }
def edgeWholesRow : OpenClaim := { program := "ytfhcgnkjncfeiaa", sum := "9487fcbc41673f6424be410db99a7bbee43f1050182b3c097c9c26af1acf5789", func := "darning/darninglaw1.EdgeWholes", spec := "edgeWholes", inPlace := ["math.archTrunc", "math.Float64bits", "math.Float64frombits"], unfollowed := true, recurses := true, apart := false }
def EdgeWholesSaid : Prop := edgeWholesRow.holds Try.pinned (OpenSpec.ofChange edgeWholesSpec)

/-- ITS FALSE NEIGHBOUR: 'it returns false'. Refute it at one input. -/
def edgeWholesWrong : ChangeSpec := { name := "edgeWholes", fn := fun _ => fun
  | [d] => { results := [.lit (.bool false)], args := [d] }
  | _ => none }
def EdgeWholesWrongFalsely : Prop := edgeWholesRow.holds Try.pinned (OpenSpec.ofChange edgeWholesWrong)

/-- 'darninglaw1.EdgeClamps': WHATEVER THE INPUT: true; the input reads as it did. -/
def edgeClampsSpec : ChangeSpec := { name := "edgeClamps", fn := fun _ => fun
  | [d1, d2, d3] => { results := [.lit (.bool true)], args := [d1, d2, d3] }
  | _ => none }
def edgeClampsRow : OpenClaim := { program := "ytfhcgnkjncfeiaa", sum := "9487fcbc41673f6424be410db99a7bbee43f1050182b3c097c9c26af1acf5789", func := "darning/darninglaw1.EdgeClamps", spec := "edgeClamps", inPlace := ["math.Float64frombits", "math.Float64bits", "math.archTrunc"], unfollowed := true, recurses := true, apart := false }
def EdgeClampsSaid : Prop := edgeClampsRow.holds Try.pinned (OpenSpec.ofChange edgeClampsSpec)

/-- ITS FALSE NEIGHBOUR: 'it returns false'. Refute it at one input. -/
def edgeClampsWrong : ChangeSpec := { name := "edgeClamps", fn := fun _ => fun
  | [d1, d2, d3] => { results := [.lit (.bool false)], args := [d1, d2, d3] }
  | _ => none }
def EdgeClampsWrongFalsely : Prop := edgeClampsRow.holds Try.pinned (OpenSpec.ofChange edgeClampsWrong)

/-- 'darninglaw1.EdgeDivs': WHATEVER THE INPUT: true; the input reads as it did. -/
def edgeDivsSpec : ChangeSpec := { name := "edgeDivs", fn := fun _ => fun
  | [d1, d2] => { results := [.lit (.bool true)], args := [d1, d2] }
  | _ => none }
def edgeDivsRow : OpenClaim := { program := "ytfhcgnkjncfeiaa", sum := "9487fcbc41673f6424be410db99a7bbee43f1050182b3c097c9c26af1acf5789", func := "darning/darninglaw1.EdgeDivs", spec := "edgeDivs", inPlace := ["math.Float64frombits", "math.Float64bits", "math.archTrunc"], unfollowed := true, recurses := true, apart := false }
def EdgeDivsSaid : Prop := edgeDivsRow.holds Try.pinned (OpenSpec.ofChange edgeDivsSpec)

/-- ITS FALSE NEIGHBOUR: 'it returns false'. Refute it at one input. -/
def edgeDivsWrong : ChangeSpec := { name := "edgeDivs", fn := fun _ => fun
  | [d1, d2] => { results := [.lit (.bool false)], args := [d1, d2] }
  | _ => none }
def EdgeDivsWrongFalsely : Prop := edgeDivsRow.holds Try.pinned (OpenSpec.ofChange edgeDivsWrong)

/-- 'darninglaw1.EdgeNaN': WHATEVER THE INPUT: true; the input reads as it did. -/
def edgeNaNSpec : ChangeSpec := { name := "edgeNaN", fn := fun _ => fun
  | [d1, d2] => { results := [.lit (.bool true)], args := [d1, d2] }
  | _ => none }
def edgeNaNRow : OpenClaim := { program := "ytfhcgnkjncfeiaa", sum := "9487fcbc41673f6424be410db99a7bbee43f1050182b3c097c9c26af1acf5789", func := "darning/darninglaw1.EdgeNaN", spec := "edgeNaN", inPlace := ["math.Float64frombits", "math.Float64bits", "math.archTrunc"], unfollowed := true, recurses := true, apart := false }
def EdgeNaNSaid : Prop := edgeNaNRow.holds Try.pinned (OpenSpec.ofChange edgeNaNSpec)

/-- ITS FALSE NEIGHBOUR: 'it returns false'. Refute it at one input. -/
def edgeNaNWrong : ChangeSpec := { name := "edgeNaN", fn := fun _ => fun
  | [d1, d2] => { results := [.lit (.bool false)], args := [d1, d2] }
  | _ => none }
def EdgeNaNWrongFalsely : Prop := edgeNaNRow.holds Try.pinned (OpenSpec.ofChange edgeNaNWrong)

/-- 'darninglaw1.EdgeNoughts': WHATEVER THE INPUT: true; the input reads as it did. -/
def edgeNoughtsSpec : ChangeSpec := { name := "edgeNoughts", fn := fun _ => fun
  | [d] => { results := [.lit (.bool true)], args := [d] }
  | _ => none }
def edgeNoughtsRow : OpenClaim := { program := "ytfhcgnkjncfeiaa", sum := "9487fcbc41673f6424be410db99a7bbee43f1050182b3c097c9c26af1acf5789", func := "darning/darninglaw1.EdgeNoughts", spec := "edgeNoughts", inPlace := ["math.Float64bits", "math.Float64frombits", "math.archTrunc"], unfollowed := true, recurses := true, apart := false }
def EdgeNoughtsSaid : Prop := edgeNoughtsRow.holds Try.pinned (OpenSpec.ofChange edgeNoughtsSpec)

/-- ITS FALSE NEIGHBOUR: 'it returns false'. Refute it at one input. -/
def edgeNoughtsWrong : ChangeSpec := { name := "edgeNoughts", fn := fun _ => fun
  | [d] => { results := [.lit (.bool false)], args := [d] }
  | _ => none }
def EdgeNoughtsWrongFalsely : Prop := edgeNoughtsRow.holds Try.pinned (OpenSpec.ofChange edgeNoughtsWrong)

/-- 'darninglaw1.EdgeTurns': WHATEVER THE INPUT: true; the input reads as it did. -/
def edgeTurnsSpec : ChangeSpec := { name := "edgeTurns", fn := fun _ => fun
  | [d1, d2] => { results := [.lit (.bool true)], args := [d1, d2] }
  | _ => none }
def edgeTurnsRow : OpenClaim := { program := "ytfhcgnkjncfeiaa", sum := "9487fcbc41673f6424be410db99a7bbee43f1050182b3c097c9c26af1acf5789", func := "darning/darninglaw1.EdgeTurns", spec := "edgeTurns", inPlace := ["math.Float64frombits", "math.Float64bits", "math.archTrunc"], unfollowed := true, recurses := true, apart := false }
def EdgeTurnsSaid : Prop := edgeTurnsRow.holds Try.pinned (OpenSpec.ofChange edgeTurnsSpec)

/-- ITS FALSE NEIGHBOUR: 'it returns false'. Refute it at one input. -/
def edgeTurnsWrong : ChangeSpec := { name := "edgeTurns", fn := fun _ => fun
  | [d1, d2] => { results := [.lit (.bool false)], args := [d1, d2] }
  | _ => none }
def EdgeTurnsWrongFalsely : Prop := edgeTurnsRow.holds Try.pinned (OpenSpec.ofChange edgeTurnsWrong)

/-- 'darninglaw22.GaugeEven': WHATEVER THE INPUT: true; the input reads as it did. -/
def gaugeEvenSpec : ChangeSpec := { name := "gaugeEven", fn := fun _ => fun
  | [d1, d2] => { results := [.lit (.bool true)], args := [d1, d2] }
  | _ => none }
def gaugeEvenRow : OpenClaim := { program := "ytfhcgnkjncfeiaa", sum := "9487fcbc41673f6424be410db99a7bbee43f1050182b3c097c9c26af1acf5789", func := "darning/darninglaw22.GaugeEven", spec := "gaugeEven", inPlace := ["math.Float64frombits", "math.Float64bits"], unfollowed := true, recurses := true, apart := false }
def GaugeEvenSaid : Prop := gaugeEvenRow.holds Try.pinned (OpenSpec.ofChange gaugeEvenSpec)

/-- ITS FALSE NEIGHBOUR: 'it returns false'. Refute it at one input. -/
def gaugeEvenWrong : ChangeSpec := { name := "gaugeEven", fn := fun _ => fun
  | [d1, d2] => { results := [.lit (.bool false)], args := [d1, d2] }
  | _ => none }
def GaugeEvenWrongFalsely : Prop := gaugeEvenRow.holds Try.pinned (OpenSpec.ofChange gaugeEvenWrong)

/-- 'darninglaw22.GaugeWears': WHATEVER THE INPUT: true; the input reads as it did. -/
def gaugeWearsSpec : ChangeSpec := { name := "gaugeWears", fn := fun _ => fun
  | [d1, d2] => { results := [.lit (.bool true)], args := [d1, d2] }
  | _ => none }
def gaugeWearsRow : OpenClaim := { program := "ytfhcgnkjncfeiaa", sum := "9487fcbc41673f6424be410db99a7bbee43f1050182b3c097c9c26af1acf5789", func := "darning/darninglaw22.GaugeWears", spec := "gaugeWears", inPlace := ["math.Float64frombits", "math.Float64bits"], unfollowed := true, recurses := true, apart := false }
def GaugeWearsSaid : Prop := gaugeWearsRow.holds Try.pinned (OpenSpec.ofChange gaugeWearsSpec)

/-- ITS FALSE NEIGHBOUR: 'it returns false'. Refute it at one input. -/
def gaugeWearsWrong : ChangeSpec := { name := "gaugeWears", fn := fun _ => fun
  | [d1, d2] => { results := [.lit (.bool false)], args := [d1, d2] }
  | _ => none }
def GaugeWearsWrongFalsely : Prop := gaugeWearsRow.holds Try.pinned (OpenSpec.ofChange gaugeWearsWrong)

/-- 'darninglaw22.GaugeForms': WHATEVER THE INPUT: true; the input reads as it did. -/
def gaugeFormsSpec : ChangeSpec := { name := "gaugeForms", fn := fun _ => fun
  | [d1, d2, d3, d4, d5, d6, d7, d8] => { results := [.lit (.bool true)], args := [d1, d2, d3, d4, d5, d6, d7, d8] }
  | _ => none }
def gaugeFormsRow : OpenClaim := { program := "ytfhcgnkjncfeiaa", sum := "9487fcbc41673f6424be410db99a7bbee43f1050182b3c097c9c26af1acf5789", func := "darning/darninglaw22.GaugeForms", spec := "gaugeForms", inPlace := ["math.Float64frombits", "math.Float64bits"], unfollowed := true, recurses := true, apart := false }
def GaugeFormsSaid : Prop := gaugeFormsRow.holds Try.pinned (OpenSpec.ofChange gaugeFormsSpec)

/-- ITS FALSE NEIGHBOUR: 'it returns false'. Refute it at one input. -/
def gaugeFormsWrong : ChangeSpec := { name := "gaugeForms", fn := fun _ => fun
  | [d1, d2, d3, d4, d5, d6, d7, d8] => { results := [.lit (.bool false)], args := [d1, d2, d3, d4, d5, d6, d7, d8] }
  | _ => none }
def GaugeFormsWrongFalsely : Prop := gaugeFormsRow.holds Try.pinned (OpenSpec.ofChange gaugeFormsWrong)

/-- 'darninglaw22.GaugeFalls': WHATEVER THE INPUT: true; the input reads as it did. -/
def gaugeFallsSpec : ChangeSpec := { name := "gaugeFalls", fn := fun _ => fun
  | [d1, d2, d3, d4, d5] => { results := [.lit (.bool true)], args := [d1, d2, d3, d4, d5] }
  | _ => none }
def gaugeFallsRow : OpenClaim := { program := "ytfhcgnkjncfeiaa", sum := "9487fcbc41673f6424be410db99a7bbee43f1050182b3c097c9c26af1acf5789", func := "darning/darninglaw22.GaugeFalls", spec := "gaugeFalls", inPlace := ["math.Float64frombits", "math.Float64bits"], unfollowed := true, recurses := true, apart := false }
def GaugeFallsSaid : Prop := gaugeFallsRow.holds Try.pinned (OpenSpec.ofChange gaugeFallsSpec)

/-- ITS FALSE NEIGHBOUR: 'it returns false'. Refute it at one input. -/
def gaugeFallsWrong : ChangeSpec := { name := "gaugeFalls", fn := fun _ => fun
  | [d1, d2, d3, d4, d5] => { results := [.lit (.bool false)], args := [d1, d2, d3, d4, d5] }
  | _ => none }
def GaugeFallsWrongFalsely : Prop := gaugeFallsRow.holds Try.pinned (OpenSpec.ofChange gaugeFallsWrong)

/-- 'darninglaw22.GaugeEnds': WHATEVER THE INPUT: true; the input reads as it did. -/
def gaugeEndsSpec : ChangeSpec := { name := "gaugeEnds", fn := fun _ => fun
  | [d1, d2] => { results := [.lit (.bool true)], args := [d1, d2] }
  | _ => none }
def gaugeEndsRow : OpenClaim := { program := "ytfhcgnkjncfeiaa", sum := "9487fcbc41673f6424be410db99a7bbee43f1050182b3c097c9c26af1acf5789", func := "darning/darninglaw22.GaugeEnds", spec := "gaugeEnds", inPlace := ["math.Float64frombits", "math.Float64bits"], unfollowed := true, recurses := true, apart := false }
def GaugeEndsSaid : Prop := gaugeEndsRow.holds Try.pinned (OpenSpec.ofChange gaugeEndsSpec)

/-- ITS FALSE NEIGHBOUR: 'it returns false'. Refute it at one input. -/
def gaugeEndsWrong : ChangeSpec := { name := "gaugeEnds", fn := fun _ => fun
  | [d1, d2] => { results := [.lit (.bool false)], args := [d1, d2] }
  | _ => none }
def GaugeEndsWrongFalsely : Prop := gaugeEndsRow.holds Try.pinned (OpenSpec.ofChange gaugeEndsWrong)

/-- 'darninglaw1.EdgeForms': WHATEVER THE INPUT: true; the input reads as it did. -/
def edgeFormsSpec : ChangeSpec := { name := "edgeForms", fn := fun _ => fun
  | [d1, d2, d3, d4] => { results := [.lit (.bool true)], args := [d1, d2, d3, d4] }
  | _ => none }
def edgeFormsRow : OpenClaim := { program := "ytfhcgnkjncfeiaa", sum := "9487fcbc41673f6424be410db99a7bbee43f1050182b3c097c9c26af1acf5789", func := "darning/darninglaw1.EdgeForms", spec := "edgeForms", inPlace := ["math.Float64bits", "math.Float64frombits", "math.archTrunc"], unfollowed := true, recurses := true, apart := false }
def EdgeFormsSaid : Prop := edgeFormsRow.holds Try.pinned (OpenSpec.ofChange edgeFormsSpec)

/-- ITS FALSE NEIGHBOUR: 'it returns false'. Refute it at one input. -/
def edgeFormsWrong : ChangeSpec := { name := "edgeForms", fn := fun _ => fun
  | [d1, d2, d3, d4] => { results := [.lit (.bool false)], args := [d1, d2, d3, d4] }
  | _ => none }
def EdgeFormsWrongFalsely : Prop := edgeFormsRow.holds Try.pinned (OpenSpec.ofChange edgeFormsWrong)

/-- 'darninglaw1.EdgeSorts': WHATEVER THE INPUT: true; the input reads as it did. -/
def edgeSortsSpec : ChangeSpec := { name := "edgeSorts", fn := fun _ => fun
  | [d1, d2] => { results := [.lit (.bool true)], args := [d1, d2] }
  | _ => none }
def edgeSortsRow : OpenClaim := { program := "ytfhcgnkjncfeiaa", sum := "9487fcbc41673f6424be410db99a7bbee43f1050182b3c097c9c26af1acf5789", func := "darning/darninglaw1.EdgeSorts", spec := "edgeSorts", inPlace := ["math.Float64bits", "math.Float64frombits", "math.archTrunc"], unfollowed := true, recurses := true, apart := false }
def EdgeSortsSaid : Prop := edgeSortsRow.holds Try.pinned (OpenSpec.ofChange edgeSortsSpec)

/-- ITS FALSE NEIGHBOUR: 'it returns false'. Refute it at one input. -/
def edgeSortsWrong : ChangeSpec := { name := "edgeSorts", fn := fun _ => fun
  | [d1, d2] => { results := [.lit (.bool false)], args := [d1, d2] }
  | _ => none }
def EdgeSortsWrongFalsely : Prop := edgeSortsRow.holds Try.pinned (OpenSpec.ofChange edgeSortsWrong)

/- THE SECOND FORM. 'bulk': how many values and letters a reading holds, each counted each time it is reached (what is shared counts as often as it is met; a slice's spare places count too). A statement '..UptoSaid' is the law's where the arguments, and the package variables that the reading takes, are together of bulk at most 1048576: NARROWER than '..Said'. Prove '..Said' where nothing that the law and all that it calls make is longer than what came in: it says more and counts as full. Else prove '..UptoSaid'. A law counts once. -/
mutual
def uptoBulk {H : Type} : DataW H → Nat
  | .lit (.string bytes) => bytes.length + 1
  | .lit _ => 1
  | .nil => 1
  | .ptr d => uptoBulk d + 1
  | .slice elems spare => uptoBulkAll elems + uptoBulkAll spare + 1
  | .agg parts => uptoBulkAll parts + 1
  | .iface _ d => uptoBulk d + 1
  | .map entries => uptoBulkEntries entries + 1
  | .held _ => 1
def uptoBulkAll {H : Type} : List (DataW H) → Nat
  | [] => 0
  | d :: r => uptoBulk d + uptoBulkAll r
def uptoBulkEntries {H : Type} : List (Lit × DataW H) → Nat
  | [] => 0
  | x :: r => uptoBulkEntry x + uptoBulkEntries r
def uptoBulkEntry {H : Type} : Lit × DataW H → Nat
  | (.string bytes, d) => bytes.length + uptoBulk d + 1
  | (_, d) => uptoBulk d + 1
 end
def uptoSmall : (H : Type) → List (DataW H) → Bool := fun _ ds => decide (uptoBulkAll ds ≤ 1048576)
def OpenSpec.upto (s : _root_.Go.ChangeSpec) : _root_.Go.OpenSpec := { _root_.Go.OpenSpec.ofChange s with cond := some uptoSmall }

/-- 'darninglaw2.MeanBetween', WHERE WHAT IT READS IS OF BULK AT MOST 1048576: true; the input reads as it did. -/
def meanBetweenUptoRow : OpenClaim := { program := "ytfhcgnkjncfeiaa", sum := "9487fcbc41673f6424be410db99a7bbee43f1050182b3c097c9c26af1acf5789", func := "darning/darninglaw2.MeanBetween", spec := "meanBetween", inPlace := ["math.Float64frombits", "math.Float64bits"], apart := false, narrowed := true }
def MeanBetweenUptoSaid : Prop := meanBetweenUptoRow.holds Try.pinned (OpenSpec.upto meanBetweenSpec)

/-- 'darninglaw2.MeanEdges', WHERE WHAT IT READS IS OF BULK AT MOST 1048576: true; the input reads as it did. -/
def meanEdgesUptoRow : OpenClaim := { program := "ytfhcgnkjncfeiaa", sum := "9487fcbc41673f6424be410db99a7bbee43f1050182b3c097c9c26af1acf5789", func := "darning/darninglaw2.MeanEdges", spec := "meanEdges", inPlace := ["math.Float64frombits", "math.Float64bits"], apart := false, narrowed := true }
def MeanEdgesUptoSaid : Prop := meanEdgesUptoRow.holds Try.pinned (OpenSpec.upto meanEdgesSpec)

/-- 'darninglaw2.MeanScales', WHERE WHAT IT READS IS OF BULK AT MOST 1048576: true; the input reads as it did. -/
def meanScalesUptoRow : OpenClaim := { program := "ytfhcgnkjncfeiaa", sum := "9487fcbc41673f6424be410db99a7bbee43f1050182b3c097c9c26af1acf5789", func := "darning/darninglaw2.MeanScales", spec := "meanScales", inPlace := ["math.Float64frombits", "math.Float64bits"], apart := false, narrowed := true }
def MeanScalesUptoSaid : Prop := meanScalesUptoRow.holds Try.pinned (OpenSpec.upto meanScalesSpec)

/-- 'darninglaw2.MeanHeld', WHERE WHAT IT READS IS OF BULK AT MOST 1048576: true; the input reads as it did. -/
def meanHeldUptoRow : OpenClaim := { program := "ytfhcgnkjncfeiaa", sum := "9487fcbc41673f6424be410db99a7bbee43f1050182b3c097c9c26af1acf5789", func := "darning/darninglaw2.MeanHeld", spec := "meanHeld", inPlace := ["math.Float64frombits", "math.Float64bits"], apart := false, narrowed := true }
def MeanHeldUptoSaid : Prop := meanHeldUptoRow.holds Try.pinned (OpenSpec.upto meanHeldSpec)

/-- 'darninglaw2.MeanRatios', WHERE WHAT IT READS IS OF BULK AT MOST 1048576: true; the input reads as it did. -/
def meanRatiosUptoRow : OpenClaim := { program := "ytfhcgnkjncfeiaa", sum := "9487fcbc41673f6424be410db99a7bbee43f1050182b3c097c9c26af1acf5789", func := "darning/darninglaw2.MeanRatios", spec := "meanRatios", inPlace := ["math.Float64bits", "math.Float64frombits"], apart := false, narrowed := true }
def MeanRatiosUptoSaid : Prop := meanRatiosUptoRow.holds Try.pinned (OpenSpec.upto meanRatiosSpec)

/-- 'darninglaw2.MeanForms', WHERE WHAT IT READS IS OF BULK AT MOST 1048576: true; the input reads as it did. -/
def meanFormsUptoRow : OpenClaim := { program := "ytfhcgnkjncfeiaa", sum := "9487fcbc41673f6424be410db99a7bbee43f1050182b3c097c9c26af1acf5789", func := "darning/darninglaw2.MeanForms", spec := "meanForms", inPlace := ["math.Float64frombits", "math.Float64bits"], apart := false, narrowed := true }
def MeanFormsUptoSaid : Prop := meanFormsUptoRow.holds Try.pinned (OpenSpec.upto meanFormsSpec)

/-- 'darninglaw1.EdgeOne', WHERE WHAT IT READS IS OF BULK AT MOST 1048576: true; the input reads as it did. -/
def edgeOneUptoRow : OpenClaim := { program := "ytfhcgnkjncfeiaa", sum := "9487fcbc41673f6424be410db99a7bbee43f1050182b3c097c9c26af1acf5789", func := "darning/darninglaw1.EdgeOne", spec := "edgeOne", inPlace := ["math.Float64frombits", "math.Float64bits", "math.archTrunc"], unfollowed := true, recurses := true, apart := false, narrowed := true }
def EdgeOneUptoSaid : Prop := edgeOneUptoRow.holds Try.pinned (OpenSpec.upto edgeOneSpec)

/-- 'darninglaw1.EdgeWholes', WHERE WHAT IT READS IS OF BULK AT MOST 1048576: true; the input reads as it did. -/
def edgeWholesUptoRow : OpenClaim := { program := "ytfhcgnkjncfeiaa", sum := "9487fcbc41673f6424be410db99a7bbee43f1050182b3c097c9c26af1acf5789", func := "darning/darninglaw1.EdgeWholes", spec := "edgeWholes", inPlace := ["math.archTrunc", "math.Float64bits", "math.Float64frombits"], unfollowed := true, recurses := true, apart := false, narrowed := true }
def EdgeWholesUptoSaid : Prop := edgeWholesUptoRow.holds Try.pinned (OpenSpec.upto edgeWholesSpec)

/-- 'darninglaw1.EdgeClamps', WHERE WHAT IT READS IS OF BULK AT MOST 1048576: true; the input reads as it did. -/
def edgeClampsUptoRow : OpenClaim := { program := "ytfhcgnkjncfeiaa", sum := "9487fcbc41673f6424be410db99a7bbee43f1050182b3c097c9c26af1acf5789", func := "darning/darninglaw1.EdgeClamps", spec := "edgeClamps", inPlace := ["math.Float64frombits", "math.Float64bits", "math.archTrunc"], unfollowed := true, recurses := true, apart := false, narrowed := true }
def EdgeClampsUptoSaid : Prop := edgeClampsUptoRow.holds Try.pinned (OpenSpec.upto edgeClampsSpec)

/-- 'darninglaw1.EdgeDivs', WHERE WHAT IT READS IS OF BULK AT MOST 1048576: true; the input reads as it did. -/
def edgeDivsUptoRow : OpenClaim := { program := "ytfhcgnkjncfeiaa", sum := "9487fcbc41673f6424be410db99a7bbee43f1050182b3c097c9c26af1acf5789", func := "darning/darninglaw1.EdgeDivs", spec := "edgeDivs", inPlace := ["math.Float64frombits", "math.Float64bits", "math.archTrunc"], unfollowed := true, recurses := true, apart := false, narrowed := true }
def EdgeDivsUptoSaid : Prop := edgeDivsUptoRow.holds Try.pinned (OpenSpec.upto edgeDivsSpec)

/-- 'darninglaw1.EdgeNaN', WHERE WHAT IT READS IS OF BULK AT MOST 1048576: true; the input reads as it did. -/
def edgeNaNUptoRow : OpenClaim := { program := "ytfhcgnkjncfeiaa", sum := "9487fcbc41673f6424be410db99a7bbee43f1050182b3c097c9c26af1acf5789", func := "darning/darninglaw1.EdgeNaN", spec := "edgeNaN", inPlace := ["math.Float64frombits", "math.Float64bits", "math.archTrunc"], unfollowed := true, recurses := true, apart := false, narrowed := true }
def EdgeNaNUptoSaid : Prop := edgeNaNUptoRow.holds Try.pinned (OpenSpec.upto edgeNaNSpec)

/-- 'darninglaw1.EdgeNoughts', WHERE WHAT IT READS IS OF BULK AT MOST 1048576: true; the input reads as it did. -/
def edgeNoughtsUptoRow : OpenClaim := { program := "ytfhcgnkjncfeiaa", sum := "9487fcbc41673f6424be410db99a7bbee43f1050182b3c097c9c26af1acf5789", func := "darning/darninglaw1.EdgeNoughts", spec := "edgeNoughts", inPlace := ["math.Float64bits", "math.Float64frombits", "math.archTrunc"], unfollowed := true, recurses := true, apart := false, narrowed := true }
def EdgeNoughtsUptoSaid : Prop := edgeNoughtsUptoRow.holds Try.pinned (OpenSpec.upto edgeNoughtsSpec)

/-- 'darninglaw1.EdgeTurns', WHERE WHAT IT READS IS OF BULK AT MOST 1048576: true; the input reads as it did. -/
def edgeTurnsUptoRow : OpenClaim := { program := "ytfhcgnkjncfeiaa", sum := "9487fcbc41673f6424be410db99a7bbee43f1050182b3c097c9c26af1acf5789", func := "darning/darninglaw1.EdgeTurns", spec := "edgeTurns", inPlace := ["math.Float64frombits", "math.Float64bits", "math.archTrunc"], unfollowed := true, recurses := true, apart := false, narrowed := true }
def EdgeTurnsUptoSaid : Prop := edgeTurnsUptoRow.holds Try.pinned (OpenSpec.upto edgeTurnsSpec)

/-- 'darninglaw22.GaugeEven', WHERE WHAT IT READS IS OF BULK AT MOST 1048576: true; the input reads as it did. -/
def gaugeEvenUptoRow : OpenClaim := { program := "ytfhcgnkjncfeiaa", sum := "9487fcbc41673f6424be410db99a7bbee43f1050182b3c097c9c26af1acf5789", func := "darning/darninglaw22.GaugeEven", spec := "gaugeEven", inPlace := ["math.Float64frombits", "math.Float64bits"], unfollowed := true, recurses := true, apart := false, narrowed := true }
def GaugeEvenUptoSaid : Prop := gaugeEvenUptoRow.holds Try.pinned (OpenSpec.upto gaugeEvenSpec)

/-- 'darninglaw22.GaugeWears', WHERE WHAT IT READS IS OF BULK AT MOST 1048576: true; the input reads as it did. -/
def gaugeWearsUptoRow : OpenClaim := { program := "ytfhcgnkjncfeiaa", sum := "9487fcbc41673f6424be410db99a7bbee43f1050182b3c097c9c26af1acf5789", func := "darning/darninglaw22.GaugeWears", spec := "gaugeWears", inPlace := ["math.Float64frombits", "math.Float64bits"], unfollowed := true, recurses := true, apart := false, narrowed := true }
def GaugeWearsUptoSaid : Prop := gaugeWearsUptoRow.holds Try.pinned (OpenSpec.upto gaugeWearsSpec)

/-- 'darninglaw22.GaugeForms', WHERE WHAT IT READS IS OF BULK AT MOST 1048576: true; the input reads as it did. -/
def gaugeFormsUptoRow : OpenClaim := { program := "ytfhcgnkjncfeiaa", sum := "9487fcbc41673f6424be410db99a7bbee43f1050182b3c097c9c26af1acf5789", func := "darning/darninglaw22.GaugeForms", spec := "gaugeForms", inPlace := ["math.Float64frombits", "math.Float64bits"], unfollowed := true, recurses := true, apart := false, narrowed := true }
def GaugeFormsUptoSaid : Prop := gaugeFormsUptoRow.holds Try.pinned (OpenSpec.upto gaugeFormsSpec)

/-- 'darninglaw22.GaugeFalls', WHERE WHAT IT READS IS OF BULK AT MOST 1048576: true; the input reads as it did. -/
def gaugeFallsUptoRow : OpenClaim := { program := "ytfhcgnkjncfeiaa", sum := "9487fcbc41673f6424be410db99a7bbee43f1050182b3c097c9c26af1acf5789", func := "darning/darninglaw22.GaugeFalls", spec := "gaugeFalls", inPlace := ["math.Float64frombits", "math.Float64bits"], unfollowed := true, recurses := true, apart := false, narrowed := true }
def GaugeFallsUptoSaid : Prop := gaugeFallsUptoRow.holds Try.pinned (OpenSpec.upto gaugeFallsSpec)

/-- 'darninglaw22.GaugeEnds', WHERE WHAT IT READS IS OF BULK AT MOST 1048576: true; the input reads as it did. -/
def gaugeEndsUptoRow : OpenClaim := { program := "ytfhcgnkjncfeiaa", sum := "9487fcbc41673f6424be410db99a7bbee43f1050182b3c097c9c26af1acf5789", func := "darning/darninglaw22.GaugeEnds", spec := "gaugeEnds", inPlace := ["math.Float64frombits", "math.Float64bits"], unfollowed := true, recurses := true, apart := false, narrowed := true }
def GaugeEndsUptoSaid : Prop := gaugeEndsUptoRow.holds Try.pinned (OpenSpec.upto gaugeEndsSpec)

/-- 'darninglaw1.EdgeForms', WHERE WHAT IT READS IS OF BULK AT MOST 1048576: true; the input reads as it did. -/
def edgeFormsUptoRow : OpenClaim := { program := "ytfhcgnkjncfeiaa", sum := "9487fcbc41673f6424be410db99a7bbee43f1050182b3c097c9c26af1acf5789", func := "darning/darninglaw1.EdgeForms", spec := "edgeForms", inPlace := ["math.Float64bits", "math.Float64frombits", "math.archTrunc"], unfollowed := true, recurses := true, apart := false, narrowed := true }
def EdgeFormsUptoSaid : Prop := edgeFormsUptoRow.holds Try.pinned (OpenSpec.upto edgeFormsSpec)

/-- 'darninglaw1.EdgeSorts', WHERE WHAT IT READS IS OF BULK AT MOST 1048576: true; the input reads as it did. -/
def edgeSortsUptoRow : OpenClaim := { program := "ytfhcgnkjncfeiaa", sum := "9487fcbc41673f6424be410db99a7bbee43f1050182b3c097c9c26af1acf5789", func := "darning/darninglaw1.EdgeSorts", spec := "edgeSorts", inPlace := ["math.Float64bits", "math.Float64frombits", "math.archTrunc"], unfollowed := true, recurses := true, apart := false, narrowed := true }
def EdgeSortsUptoSaid : Prop := edgeSortsUptoRow.holds Try.pinned (OpenSpec.upto edgeSortsSpec)

end Rows
end Go.Proofs.Ytfhcgnkjncfeiaa
