/-
  No cell of these rows narrows 'for every input' (looked for: loops, veiled, ifaces, maps, wideKeys, modest, calm, conditions, laid).
  DERIVED. THE GIVEN ROWS OF THIS SEAT. 8 by the template 'for every input the law returns true; each argument reads behind the call as it read before'; 0 by the template 'total and deterministic' (their statements: YtommjfmglfjgjaaTotals.lean).
  GIVEN WITH THE SEED: the statements are not yours to turn. If you find one false, say at which input.
  Laid BY PROGRAM, IN A SANDBOX (cutbox-rows.mjs): the forced cells as the released guide's own fill.sh prints them over the translation 9bb39e4662433659… (all of the seat's roots in one cut). By AI agents, Wed Nov 11 2026. No macro, syntax, notation, axiom, sorry.
-/
import Derived.Test.YtommjfmglfjgjaaChecked
import GoSem.Claim
import GoSem.ClaimJoined
import GoSem.ClaimMapViews
import Derived.JoinedTies
import Derived.KernelRfl
namespace Go.Proofs.Ytommjfmglfjgjaa
/- THE CELL 'sum', in the pinned program and in every row, IS THE sha256 OF THE DUMP (.gsa) THAT YtommjfmglfjgjaaProg.lean LOADS. Nothing in Lean hashes anything: it is a label: what it is worth is what the hold of that sum in a sandbox is worth. -/
noncomputable def Try.pinned : Pinned := { name := "ytommjfmglfjgjaa", sum := "9bb39e466243365921fe8b001566e504b55594ef07108455af839fd7be5719d1", checked := Try.checked }
namespace Rows
def none {H : Type} : Left H := { results := [], args := [] }

/-- 'darninglaw4.TornForms': WHATEVER THE INPUT: true; the input reads as it did. -/
def tornFormsSpec : ChangeSpec := { name := "tornForms", fn := fun _ => fun
  | [d1, d2, d3, d4] => { results := [.lit (.bool true)], args := [d1, d2, d3, d4] }
  | _ => none }
def tornFormsRow : OpenClaim := { program := "ytommjfmglfjgjaa", sum := "9bb39e466243365921fe8b001566e504b55594ef07108455af839fd7be5719d1", func := "darning/darninglaw4.TornForms", spec := "tornForms", apart := false }
def TornFormsSaid : Prop := tornFormsRow.holds Try.pinned (OpenSpec.ofChange tornFormsSpec)

/-- ITS FALSE NEIGHBOUR: 'it returns false'. Refute it at one input. -/
def tornFormsWrong : ChangeSpec := { name := "tornForms", fn := fun _ => fun
  | [d1, d2, d3, d4] => { results := [.lit (.bool false)], args := [d1, d2, d3, d4] }
  | _ => none }
def TornFormsWrongFalsely : Prop := tornFormsRow.holds Try.pinned (OpenSpec.ofChange tornFormsWrong)

/-- 'darninglaw4.TornOne': WHATEVER THE INPUT: true; the input reads as it did. -/
def tornOneSpec : ChangeSpec := { name := "tornOne", fn := fun _ => fun
  | [d1, d2, d3, d4, d5] => { results := [.lit (.bool true)], args := [d1, d2, d3, d4, d5] }
  | _ => none }
def tornOneRow : OpenClaim := { program := "ytommjfmglfjgjaa", sum := "9bb39e466243365921fe8b001566e504b55594ef07108455af839fd7be5719d1", func := "darning/darninglaw4.TornOne", spec := "tornOne", apart := false }
def TornOneSaid : Prop := tornOneRow.holds Try.pinned (OpenSpec.ofChange tornOneSpec)

/-- ITS FALSE NEIGHBOUR: 'it returns false'. Refute it at one input. -/
def tornOneWrong : ChangeSpec := { name := "tornOne", fn := fun _ => fun
  | [d1, d2, d3, d4, d5] => { results := [.lit (.bool false)], args := [d1, d2, d3, d4, d5] }
  | _ => none }
def TornOneWrongFalsely : Prop := tornOneRow.holds Try.pinned (OpenSpec.ofChange tornOneWrong)

/-- 'darninglaw4.TornCounts': WHATEVER THE INPUT: true; the input reads as it did. -/
def tornCountsSpec : ChangeSpec := { name := "tornCounts", fn := fun _ => fun
  | [d1, d2, d3] => { results := [.lit (.bool true)], args := [d1, d2, d3] }
  | _ => none }
def tornCountsRow : OpenClaim := { program := "ytommjfmglfjgjaa", sum := "9bb39e466243365921fe8b001566e504b55594ef07108455af839fd7be5719d1", func := "darning/darninglaw4.TornCounts", spec := "tornCounts", apart := false }
def TornCountsSaid : Prop := tornCountsRow.holds Try.pinned (OpenSpec.ofChange tornCountsSpec)

/-- ITS FALSE NEIGHBOUR: 'it returns false'. Refute it at one input. -/
def tornCountsWrong : ChangeSpec := { name := "tornCounts", fn := fun _ => fun
  | [d1, d2, d3] => { results := [.lit (.bool false)], args := [d1, d2, d3] }
  | _ => none }
def TornCountsWrongFalsely : Prop := tornCountsRow.holds Try.pinned (OpenSpec.ofChange tornCountsWrong)

/-- 'darninglaw4.TornBits': WHATEVER THE INPUT: true; the input reads as it did. -/
def tornBitsSpec : ChangeSpec := { name := "tornBits", fn := fun _ => fun
  | [d1, d2, d3, d4] => { results := [.lit (.bool true)], args := [d1, d2, d3, d4] }
  | _ => none }
def tornBitsRow : OpenClaim := { program := "ytommjfmglfjgjaa", sum := "9bb39e466243365921fe8b001566e504b55594ef07108455af839fd7be5719d1", func := "darning/darninglaw4.TornBits", spec := "tornBits", apart := false }
def TornBitsSaid : Prop := tornBitsRow.holds Try.pinned (OpenSpec.ofChange tornBitsSpec)

/-- ITS FALSE NEIGHBOUR: 'it returns false'. Refute it at one input. -/
def tornBitsWrong : ChangeSpec := { name := "tornBits", fn := fun _ => fun
  | [d1, d2, d3, d4] => { results := [.lit (.bool false)], args := [d1, d2, d3, d4] }
  | _ => none }
def TornBitsWrongFalsely : Prop := tornBitsRow.holds Try.pinned (OpenSpec.ofChange tornBitsWrong)

/-- 'darninglaw10.CountPlays': WHATEVER THE INPUT: true; the input reads as it did. -/
def countPlaysSpec : ChangeSpec := { name := "countPlays", fn := fun _ => fun
  | [d1, d2, d3] => { results := [.lit (.bool true)], args := [d1, d2, d3] }
  | _ => none }
def countPlaysRow : OpenClaim := { program := "ytommjfmglfjgjaa", sum := "9bb39e466243365921fe8b001566e504b55594ef07108455af839fd7be5719d1", func := "darning/darninglaw10.CountPlays", spec := "countPlays", apart := false }
def CountPlaysSaid : Prop := countPlaysRow.holds Try.pinned (OpenSpec.ofChange countPlaysSpec)

/-- ITS FALSE NEIGHBOUR: 'it returns false'. Refute it at one input. -/
def countPlaysWrong : ChangeSpec := { name := "countPlays", fn := fun _ => fun
  | [d1, d2, d3] => { results := [.lit (.bool false)], args := [d1, d2, d3] }
  | _ => none }
def CountPlaysWrongFalsely : Prop := countPlaysRow.holds Try.pinned (OpenSpec.ofChange countPlaysWrong)

/-- 'darninglaw10.CountNil': WHATEVER THE INPUT: true; the input reads as it did. -/
def countNilSpec : ChangeSpec := { name := "countNil", fn := fun _ => fun
  | [d1, d2] => { results := [.lit (.bool true)], args := [d1, d2] }
  | _ => none }
def countNilRow : OpenClaim := { program := "ytommjfmglfjgjaa", sum := "9bb39e466243365921fe8b001566e504b55594ef07108455af839fd7be5719d1", func := "darning/darninglaw10.CountNil", spec := "countNil", apart := false }
def CountNilSaid : Prop := countNilRow.holds Try.pinned (OpenSpec.ofChange countNilSpec)

/-- ITS FALSE NEIGHBOUR: 'it returns false'. Refute it at one input. -/
def countNilWrong : ChangeSpec := { name := "countNil", fn := fun _ => fun
  | [d1, d2] => { results := [.lit (.bool false)], args := [d1, d2] }
  | _ => none }
def CountNilWrongFalsely : Prop := countNilRow.holds Try.pinned (OpenSpec.ofChange countNilWrong)

/-- 'darninglaw10.CountBatches': WHATEVER THE INPUT: true; the input reads as it did. -/
def countBatchesSpec : ChangeSpec := { name := "countBatches", fn := fun _ => fun
  | [d1, d2, d3] => { results := [.lit (.bool true)], args := [d1, d2, d3] }
  | _ => none }
def countBatchesRow : OpenClaim := { program := "ytommjfmglfjgjaa", sum := "9bb39e466243365921fe8b001566e504b55594ef07108455af839fd7be5719d1", func := "darning/darninglaw10.CountBatches", spec := "countBatches", apart := false }
def CountBatchesSaid : Prop := countBatchesRow.holds Try.pinned (OpenSpec.ofChange countBatchesSpec)

/-- ITS FALSE NEIGHBOUR: 'it returns false'. Refute it at one input. -/
def countBatchesWrong : ChangeSpec := { name := "countBatches", fn := fun _ => fun
  | [d1, d2, d3] => { results := [.lit (.bool false)], args := [d1, d2, d3] }
  | _ => none }
def CountBatchesWrongFalsely : Prop := countBatchesRow.holds Try.pinned (OpenSpec.ofChange countBatchesWrong)

/-- 'darninglaw10.CountPages': WHATEVER THE INPUT: true; the input reads as it did. -/
def countPagesSpec : ChangeSpec := { name := "countPages", fn := fun _ => fun
  | [d] => { results := [.lit (.bool true)], args := [d] }
  | _ => none }
def countPagesRow : OpenClaim := { program := "ytommjfmglfjgjaa", sum := "9bb39e466243365921fe8b001566e504b55594ef07108455af839fd7be5719d1", func := "darning/darninglaw10.CountPages", spec := "countPages", apart := false }
def CountPagesSaid : Prop := countPagesRow.holds Try.pinned (OpenSpec.ofChange countPagesSpec)

/-- ITS FALSE NEIGHBOUR: 'it returns false'. Refute it at one input. -/
def countPagesWrong : ChangeSpec := { name := "countPages", fn := fun _ => fun
  | [d] => { results := [.lit (.bool false)], args := [d] }
  | _ => none }
def CountPagesWrongFalsely : Prop := countPagesRow.holds Try.pinned (OpenSpec.ofChange countPagesWrong)

/- THE SECOND FORM. 'bulk': how many values and letters a reading holds, each counted each time it is reached (what is shared counts as often as it is met; a slice's spare places count too). A statement '..UptoSaid' is the law's where the arguments, and the package variables that the reading takes, are together of bulk at most 1048576: NARROWER than '..Said'. Prove '..Said' where nothing that the law and all that it calls make is longer than what came in: it says more and counts as full. Else prove '..UptoSaid'. A law counts once. -/
mutual
def uptoBulk {H : Type} : DataW H → Nat
  | .lit (.string bytes) => bytes.length + 1
  | .lit _ => 1
  | .nil => 1
  | .ptr d => uptoBulk d + 1
  | .slice elems spare => uptoBulkAll elems + uptoBulkAll spare + 1
  | .agg parts => uptoBulkAll parts + 1
  | .iface _ d => uptoBulk d + 1
  | .map entries => uptoBulkEntries entries + 1
  | .held _ => 1
def uptoBulkAll {H : Type} : List (DataW H) → Nat
  | [] => 0
  | d :: r => uptoBulk d + uptoBulkAll r
def uptoBulkEntries {H : Type} : List (Lit × DataW H) → Nat
  | [] => 0
  | x :: r => uptoBulkEntry x + uptoBulkEntries r
def uptoBulkEntry {H : Type} : Lit × DataW H → Nat
  | (.string bytes, d) => bytes.length + uptoBulk d + 1
  | (_, d) => uptoBulk d + 1
 end
def uptoSmall : (H : Type) → List (DataW H) → Bool := fun _ ds => decide (uptoBulkAll ds ≤ 1048576)
def OpenSpec.upto (s : _root_.Go.ChangeSpec) : _root_.Go.OpenSpec := { _root_.Go.OpenSpec.ofChange s with cond := some uptoSmall }

/-- 'darninglaw4.TornForms', WHERE WHAT IT READS IS OF BULK AT MOST 1048576: true; the input reads as it did. -/
def tornFormsUptoRow : OpenClaim := { program := "ytommjfmglfjgjaa", sum := "9bb39e466243365921fe8b001566e504b55594ef07108455af839fd7be5719d1", func := "darning/darninglaw4.TornForms", spec := "tornForms", apart := false, narrowed := true }
def TornFormsUptoSaid : Prop := tornFormsUptoRow.holds Try.pinned (OpenSpec.upto tornFormsSpec)

/-- 'darninglaw4.TornOne', WHERE WHAT IT READS IS OF BULK AT MOST 1048576: true; the input reads as it did. -/
def tornOneUptoRow : OpenClaim := { program := "ytommjfmglfjgjaa", sum := "9bb39e466243365921fe8b001566e504b55594ef07108455af839fd7be5719d1", func := "darning/darninglaw4.TornOne", spec := "tornOne", apart := false, narrowed := true }
def TornOneUptoSaid : Prop := tornOneUptoRow.holds Try.pinned (OpenSpec.upto tornOneSpec)

/-- 'darninglaw4.TornCounts', WHERE WHAT IT READS IS OF BULK AT MOST 1048576: true; the input reads as it did. -/
def tornCountsUptoRow : OpenClaim := { program := "ytommjfmglfjgjaa", sum := "9bb39e466243365921fe8b001566e504b55594ef07108455af839fd7be5719d1", func := "darning/darninglaw4.TornCounts", spec := "tornCounts", apart := false, narrowed := true }
def TornCountsUptoSaid : Prop := tornCountsUptoRow.holds Try.pinned (OpenSpec.upto tornCountsSpec)

/-- 'darninglaw4.TornBits', WHERE WHAT IT READS IS OF BULK AT MOST 1048576: true; the input reads as it did. -/
def tornBitsUptoRow : OpenClaim := { program := "ytommjfmglfjgjaa", sum := "9bb39e466243365921fe8b001566e504b55594ef07108455af839fd7be5719d1", func := "darning/darninglaw4.TornBits", spec := "tornBits", apart := false, narrowed := true }
def TornBitsUptoSaid : Prop := tornBitsUptoRow.holds Try.pinned (OpenSpec.upto tornBitsSpec)

/-- 'darninglaw10.CountPlays', WHERE WHAT IT READS IS OF BULK AT MOST 1048576: true; the input reads as it did. -/
def countPlaysUptoRow : OpenClaim := { program := "ytommjfmglfjgjaa", sum := "9bb39e466243365921fe8b001566e504b55594ef07108455af839fd7be5719d1", func := "darning/darninglaw10.CountPlays", spec := "countPlays", apart := false, narrowed := true }
def CountPlaysUptoSaid : Prop := countPlaysUptoRow.holds Try.pinned (OpenSpec.upto countPlaysSpec)

/-- 'darninglaw10.CountNil', WHERE WHAT IT READS IS OF BULK AT MOST 1048576: true; the input reads as it did. -/
def countNilUptoRow : OpenClaim := { program := "ytommjfmglfjgjaa", sum := "9bb39e466243365921fe8b001566e504b55594ef07108455af839fd7be5719d1", func := "darning/darninglaw10.CountNil", spec := "countNil", apart := false, narrowed := true }
def CountNilUptoSaid : Prop := countNilUptoRow.holds Try.pinned (OpenSpec.upto countNilSpec)

/-- 'darninglaw10.CountBatches', WHERE WHAT IT READS IS OF BULK AT MOST 1048576: true; the input reads as it did. -/
def countBatchesUptoRow : OpenClaim := { program := "ytommjfmglfjgjaa", sum := "9bb39e466243365921fe8b001566e504b55594ef07108455af839fd7be5719d1", func := "darning/darninglaw10.CountBatches", spec := "countBatches", apart := false, narrowed := true }
def CountBatchesUptoSaid : Prop := countBatchesUptoRow.holds Try.pinned (OpenSpec.upto countBatchesSpec)

/-- 'darninglaw10.CountPages', WHERE WHAT IT READS IS OF BULK AT MOST 1048576: true; the input reads as it did. -/
def countPagesUptoRow : OpenClaim := { program := "ytommjfmglfjgjaa", sum := "9bb39e466243365921fe8b001566e504b55594ef07108455af839fd7be5719d1", func := "darning/darninglaw10.CountPages", spec := "countPages", apart := false, narrowed := true }
def CountPagesUptoSaid : Prop := countPagesUptoRow.holds Try.pinned (OpenSpec.upto countPagesSpec)

end Rows
end Go.Proofs.Ytommjfmglfjgjaa
