/-
  No cell of these rows narrows 'for every input' (looked for: loops, veiled, ifaces, maps, wideKeys, modest, calm, conditions, laid).
  DERIVED. THE GIVEN ROWS OF THIS SEAT. 8 by the template 'for every input the law returns true; each argument reads behind the call as it read before'; 0 by the template 'total and deterministic' (their statements: YtofjgnlolmaidaaTotals.lean).
  GIVEN WITH THE SEED: the statements are not yours to turn. If you find one false, say at which input.
  Laid BY PROGRAM, IN A SANDBOX (cutbox-rows.mjs): the forced cells as the released guide's own fill.sh prints them over the translation e47ba2598c837540… (all of the seat's roots in one cut). By AI agents, Wed Nov 11 2026. No macro, syntax, notation, axiom, sorry.
-/
import Derived.Test.YtofjgnlolmaidaaChecked
import GoSem.Claim
import GoSem.ClaimJoined
import GoSem.ClaimMapViews
import Derived.JoinedTies
import Derived.KernelRfl
namespace Go.Proofs.Ytofjgnlolmaidaa
/- THE CELL 'sum', in the pinned program and in every row, IS THE sha256 OF THE DUMP (.gsa) THAT YtofjgnlolmaidaaProg.lean LOADS. Nothing in Lean hashes anything: it is a label: what it is worth is what the hold of that sum in a sandbox is worth. -/
noncomputable def Try.pinned : Pinned := { name := "ytofjgnlolmaidaa", sum := "e47ba2598c8375405802e7d018bc8d1546938cdf7d4bec9dc677be8c4819de3a", checked := Try.checked }
namespace Rows
def none {H : Type} : Left H := { results := [], args := [] }

/-- 'flumelaw18.PaceAll': WHATEVER THE INPUT: true; the input reads as it did. -/
def paceAllSpec : ChangeSpec := { name := "paceAll", fn := fun _ => fun
  | [d1, d2, d3, d4, d5] => { results := [.lit (.bool true)], args := [d1, d2, d3, d4, d5] }
  | _ => none }
def paceAllRow : OpenClaim := { program := "ytofjgnlolmaidaa", sum := "e47ba2598c8375405802e7d018bc8d1546938cdf7d4bec9dc677be8c4819de3a", func := "flume/flumelaw18.PaceAll", spec := "paceAll", inPlace := ["math.Float64bits", "math.Float64frombits", "math.archCeil", "math.archFloor", "math.archTrunc"], apart := false }
def PaceAllSaid : Prop := paceAllRow.holds Try.pinned (OpenSpec.ofChange paceAllSpec)

/-- ITS FALSE NEIGHBOUR: 'it returns false'. Refute it at one input. -/
def paceAllWrong : ChangeSpec := { name := "paceAll", fn := fun _ => fun
  | [d1, d2, d3, d4, d5] => { results := [.lit (.bool false)], args := [d1, d2, d3, d4, d5] }
  | _ => none }
def PaceAllWrongFalsely : Prop := paceAllRow.holds Try.pinned (OpenSpec.ofChange paceAllWrong)

/-- 'flumelaw18.PaceRises': WHATEVER THE INPUT: true; the input reads as it did. -/
def paceRisesSpec : ChangeSpec := { name := "paceRises", fn := fun _ => fun
  | [d1, d2, d3, d4, d5, d6, d7, d8, d9] => { results := [.lit (.bool true)], args := [d1, d2, d3, d4, d5, d6, d7, d8, d9] }
  | _ => none }
def paceRisesRow : OpenClaim := { program := "ytofjgnlolmaidaa", sum := "e47ba2598c8375405802e7d018bc8d1546938cdf7d4bec9dc677be8c4819de3a", func := "flume/flumelaw18.PaceRises", spec := "paceRises", inPlace := ["math.Float64bits", "math.Float64frombits", "math.archCeil", "math.archFloor", "math.archTrunc"], apart := false }
def PaceRisesSaid : Prop := paceRisesRow.holds Try.pinned (OpenSpec.ofChange paceRisesSpec)

/-- ITS FALSE NEIGHBOUR: 'it returns false'. Refute it at one input. -/
def paceRisesWrong : ChangeSpec := { name := "paceRises", fn := fun _ => fun
  | [d1, d2, d3, d4, d5, d6, d7, d8, d9] => { results := [.lit (.bool false)], args := [d1, d2, d3, d4, d5, d6, d7, d8, d9] }
  | _ => none }
def PaceRisesWrongFalsely : Prop := paceRisesRow.holds Try.pinned (OpenSpec.ofChange paceRisesWrong)

/-- 'flumelaw18.PaceWaits': WHATEVER THE INPUT: true; the input reads as it did. -/
def paceWaitsSpec : ChangeSpec := { name := "paceWaits", fn := fun _ => fun
  | [d1, d2, d3] => { results := [.lit (.bool true)], args := [d1, d2, d3] }
  | _ => none }
def paceWaitsRow : OpenClaim := { program := "ytofjgnlolmaidaa", sum := "e47ba2598c8375405802e7d018bc8d1546938cdf7d4bec9dc677be8c4819de3a", func := "flume/flumelaw18.PaceWaits", spec := "paceWaits", inPlace := ["math.Float64bits", "math.Float64frombits", "math.archCeil", "math.archFloor", "math.archTrunc"], apart := false }
def PaceWaitsSaid : Prop := paceWaitsRow.holds Try.pinned (OpenSpec.ofChange paceWaitsSpec)

/-- ITS FALSE NEIGHBOUR: 'it returns false'. Refute it at one input. -/
def paceWaitsWrong : ChangeSpec := { name := "paceWaits", fn := fun _ => fun
  | [d1, d2, d3] => { results := [.lit (.bool false)], args := [d1, d2, d3] }
  | _ => none }
def PaceWaitsWrongFalsely : Prop := paceWaitsRow.holds Try.pinned (OpenSpec.ofChange paceWaitsWrong)

/-- 'flumelaw17.GaugeSmooth': WHATEVER THE INPUT: true; the input reads as it did. -/
def gaugeSmoothSpec : ChangeSpec := { name := "gaugeSmooth", fn := fun _ => fun
  | [d1, d2, d3] => { results := [.lit (.bool true)], args := [d1, d2, d3] }
  | _ => none }
def gaugeSmoothRow : OpenClaim := { program := "ytofjgnlolmaidaa", sum := "e47ba2598c8375405802e7d018bc8d1546938cdf7d4bec9dc677be8c4819de3a", func := "flume/flumelaw17.GaugeSmooth", spec := "gaugeSmooth", inPlace := ["math.Float64bits", "math.Float64frombits", "math.archCeil", "math.archFloor", "math.archTrunc"], unfollowed := true, recurses := true, apart := false }
def GaugeSmoothSaid : Prop := gaugeSmoothRow.holds Try.pinned (OpenSpec.ofChange gaugeSmoothSpec)

/-- ITS FALSE NEIGHBOUR: 'it returns false'. Refute it at one input. -/
def gaugeSmoothWrong : ChangeSpec := { name := "gaugeSmooth", fn := fun _ => fun
  | [d1, d2, d3] => { results := [.lit (.bool false)], args := [d1, d2, d3] }
  | _ => none }
def GaugeSmoothWrongFalsely : Prop := gaugeSmoothRow.holds Try.pinned (OpenSpec.ofChange gaugeSmoothWrong)

/-- 'flumelaw17.GaugeRanks': WHATEVER THE INPUT: true; the input reads as it did. -/
def gaugeRanksSpec : ChangeSpec := { name := "gaugeRanks", fn := fun _ => fun
  | [d1, d2] => { results := [.lit (.bool true)], args := [d1, d2] }
  | _ => none }
def gaugeRanksRow : OpenClaim := { program := "ytofjgnlolmaidaa", sum := "e47ba2598c8375405802e7d018bc8d1546938cdf7d4bec9dc677be8c4819de3a", func := "flume/flumelaw17.GaugeRanks", spec := "gaugeRanks", inPlace := ["math.Float64bits", "math.Float64frombits", "math.archCeil", "math.archFloor", "math.archTrunc"], unfollowed := true, recurses := true, apart := false }
def GaugeRanksSaid : Prop := gaugeRanksRow.holds Try.pinned (OpenSpec.ofChange gaugeRanksSpec)

/-- ITS FALSE NEIGHBOUR: 'it returns false'. Refute it at one input. -/
def gaugeRanksWrong : ChangeSpec := { name := "gaugeRanks", fn := fun _ => fun
  | [d1, d2] => { results := [.lit (.bool false)], args := [d1, d2] }
  | _ => none }
def GaugeRanksWrongFalsely : Prop := gaugeRanksRow.holds Try.pinned (OpenSpec.ofChange gaugeRanksWrong)

/-- 'flumelaw17.GaugeAll': WHATEVER THE INPUT: true; the input reads as it did. -/
def gaugeAllSpec : ChangeSpec := { name := "gaugeAll", fn := fun _ => fun
  | [d1, d2, d3, d4, d5] => { results := [.lit (.bool true)], args := [d1, d2, d3, d4, d5] }
  | _ => none }
def gaugeAllRow : OpenClaim := { program := "ytofjgnlolmaidaa", sum := "e47ba2598c8375405802e7d018bc8d1546938cdf7d4bec9dc677be8c4819de3a", func := "flume/flumelaw17.GaugeAll", spec := "gaugeAll", inPlace := ["math.Float64bits", "math.Float64frombits", "math.archCeil", "math.archFloor", "math.archTrunc"], unfollowed := true, recurses := true, apart := false }
def GaugeAllSaid : Prop := gaugeAllRow.holds Try.pinned (OpenSpec.ofChange gaugeAllSpec)

/-- ITS FALSE NEIGHBOUR: 'it returns false'. Refute it at one input. -/
def gaugeAllWrong : ChangeSpec := { name := "gaugeAll", fn := fun _ => fun
  | [d1, d2, d3, d4, d5] => { results := [.lit (.bool false)], args := [d1, d2, d3, d4, d5] }
  | _ => none }
def GaugeAllWrongFalsely : Prop := gaugeAllRow.holds Try.pinned (OpenSpec.ofChange gaugeAllWrong)

/-- 'flumelaw17.GaugeCells': WHATEVER THE INPUT: true; the input reads as it did. -/
def gaugeCellsSpec : ChangeSpec := { name := "gaugeCells", fn := fun _ => fun
  | [d1, d2, d3, d4, d5] => { results := [.lit (.bool true)], args := [d1, d2, d3, d4, d5] }
  | _ => none }
def gaugeCellsRow : OpenClaim := { program := "ytofjgnlolmaidaa", sum := "e47ba2598c8375405802e7d018bc8d1546938cdf7d4bec9dc677be8c4819de3a", func := "flume/flumelaw17.GaugeCells", spec := "gaugeCells", inPlace := ["math.Float64bits", "math.Float64frombits", "math.archCeil", "math.archFloor", "math.archTrunc"], unfollowed := true, recurses := true, apart := false }
def GaugeCellsSaid : Prop := gaugeCellsRow.holds Try.pinned (OpenSpec.ofChange gaugeCellsSpec)

/-- ITS FALSE NEIGHBOUR: 'it returns false'. Refute it at one input. -/
def gaugeCellsWrong : ChangeSpec := { name := "gaugeCells", fn := fun _ => fun
  | [d1, d2, d3, d4, d5] => { results := [.lit (.bool false)], args := [d1, d2, d3, d4, d5] }
  | _ => none }
def GaugeCellsWrongFalsely : Prop := gaugeCellsRow.holds Try.pinned (OpenSpec.ofChange gaugeCellsWrong)

/-- 'flumelaw17.GaugeNone': WHATEVER THE INPUT: true; the input reads as it did. -/
def gaugeNoneSpec : ChangeSpec := { name := "gaugeNone", fn := fun _ => fun
  | [d] => { results := [.lit (.bool true)], args := [d] }
  | _ => none }
def gaugeNoneRow : OpenClaim := { program := "ytofjgnlolmaidaa", sum := "e47ba2598c8375405802e7d018bc8d1546938cdf7d4bec9dc677be8c4819de3a", func := "flume/flumelaw17.GaugeNone", spec := "gaugeNone", inPlace := ["math.Float64bits", "math.Float64frombits", "math.archCeil", "math.archFloor", "math.archTrunc"], unfollowed := true, recurses := true, apart := false }
def GaugeNoneSaid : Prop := gaugeNoneRow.holds Try.pinned (OpenSpec.ofChange gaugeNoneSpec)

/-- ITS FALSE NEIGHBOUR: 'it returns false'. Refute it at one input. -/
def gaugeNoneWrong : ChangeSpec := { name := "gaugeNone", fn := fun _ => fun
  | [d] => { results := [.lit (.bool false)], args := [d] }
  | _ => none }
def GaugeNoneWrongFalsely : Prop := gaugeNoneRow.holds Try.pinned (OpenSpec.ofChange gaugeNoneWrong)

/- THE SECOND FORM. 'bulk': how many values and letters a reading holds, each counted each time it is reached (what is shared counts as often as it is met; a slice's spare places count too). A statement '..UptoSaid' is the law's where the arguments, and the package variables that the reading takes, are together of bulk at most 1048576: NARROWER than '..Said'. Prove '..Said' where nothing that the law and all that it calls make is longer than what came in: it says more and counts as full. Else prove '..UptoSaid'. A law counts once. -/
mutual
def uptoBulk {H : Type} : DataW H → Nat
  | .lit (.string bytes) => bytes.length + 1
  | .lit _ => 1
  | .nil => 1
  | .ptr d => uptoBulk d + 1
  | .slice elems spare => uptoBulkAll elems + uptoBulkAll spare + 1
  | .agg parts => uptoBulkAll parts + 1
  | .iface _ d => uptoBulk d + 1
  | .map entries => uptoBulkEntries entries + 1
  | .held _ => 1
def uptoBulkAll {H : Type} : List (DataW H) → Nat
  | [] => 0
  | d :: r => uptoBulk d + uptoBulkAll r
def uptoBulkEntries {H : Type} : List (Lit × DataW H) → Nat
  | [] => 0
  | x :: r => uptoBulkEntry x + uptoBulkEntries r
def uptoBulkEntry {H : Type} : Lit × DataW H → Nat
  | (.string bytes, d) => bytes.length + uptoBulk d + 1
  | (_, d) => uptoBulk d + 1
 end
def uptoSmall : (H : Type) → List (DataW H) → Bool := fun _ ds => decide (uptoBulkAll ds ≤ 1048576)
def OpenSpec.upto (s : _root_.Go.ChangeSpec) : _root_.Go.OpenSpec := { _root_.Go.OpenSpec.ofChange s with cond := some uptoSmall }

/-- 'flumelaw18.PaceAll', WHERE WHAT IT READS IS OF BULK AT MOST 1048576: true; the input reads as it did. -/
def paceAllUptoRow : OpenClaim := { program := "ytofjgnlolmaidaa", sum := "e47ba2598c8375405802e7d018bc8d1546938cdf7d4bec9dc677be8c4819de3a", func := "flume/flumelaw18.PaceAll", spec := "paceAll", inPlace := ["math.Float64bits", "math.Float64frombits", "math.archCeil", "math.archFloor", "math.archTrunc"], apart := false, narrowed := true }
def PaceAllUptoSaid : Prop := paceAllUptoRow.holds Try.pinned (OpenSpec.upto paceAllSpec)

/-- 'flumelaw18.PaceRises', WHERE WHAT IT READS IS OF BULK AT MOST 1048576: true; the input reads as it did. -/
def paceRisesUptoRow : OpenClaim := { program := "ytofjgnlolmaidaa", sum := "e47ba2598c8375405802e7d018bc8d1546938cdf7d4bec9dc677be8c4819de3a", func := "flume/flumelaw18.PaceRises", spec := "paceRises", inPlace := ["math.Float64bits", "math.Float64frombits", "math.archCeil", "math.archFloor", "math.archTrunc"], apart := false, narrowed := true }
def PaceRisesUptoSaid : Prop := paceRisesUptoRow.holds Try.pinned (OpenSpec.upto paceRisesSpec)

/-- 'flumelaw18.PaceWaits', WHERE WHAT IT READS IS OF BULK AT MOST 1048576: true; the input reads as it did. -/
def paceWaitsUptoRow : OpenClaim := { program := "ytofjgnlolmaidaa", sum := "e47ba2598c8375405802e7d018bc8d1546938cdf7d4bec9dc677be8c4819de3a", func := "flume/flumelaw18.PaceWaits", spec := "paceWaits", inPlace := ["math.Float64bits", "math.Float64frombits", "math.archCeil", "math.archFloor", "math.archTrunc"], apart := false, narrowed := true }
def PaceWaitsUptoSaid : Prop := paceWaitsUptoRow.holds Try.pinned (OpenSpec.upto paceWaitsSpec)

/-- 'flumelaw17.GaugeSmooth', WHERE WHAT IT READS IS OF BULK AT MOST 1048576: true; the input reads as it did. -/
def gaugeSmoothUptoRow : OpenClaim := { program := "ytofjgnlolmaidaa", sum := "e47ba2598c8375405802e7d018bc8d1546938cdf7d4bec9dc677be8c4819de3a", func := "flume/flumelaw17.GaugeSmooth", spec := "gaugeSmooth", inPlace := ["math.Float64bits", "math.Float64frombits", "math.archCeil", "math.archFloor", "math.archTrunc"], unfollowed := true, recurses := true, apart := false, narrowed := true }
def GaugeSmoothUptoSaid : Prop := gaugeSmoothUptoRow.holds Try.pinned (OpenSpec.upto gaugeSmoothSpec)

/-- 'flumelaw17.GaugeRanks', WHERE WHAT IT READS IS OF BULK AT MOST 1048576: true; the input reads as it did. -/
def gaugeRanksUptoRow : OpenClaim := { program := "ytofjgnlolmaidaa", sum := "e47ba2598c8375405802e7d018bc8d1546938cdf7d4bec9dc677be8c4819de3a", func := "flume/flumelaw17.GaugeRanks", spec := "gaugeRanks", inPlace := ["math.Float64bits", "math.Float64frombits", "math.archCeil", "math.archFloor", "math.archTrunc"], unfollowed := true, recurses := true, apart := false, narrowed := true }
def GaugeRanksUptoSaid : Prop := gaugeRanksUptoRow.holds Try.pinned (OpenSpec.upto gaugeRanksSpec)

/-- 'flumelaw17.GaugeAll', WHERE WHAT IT READS IS OF BULK AT MOST 1048576: true; the input reads as it did. -/
def gaugeAllUptoRow : OpenClaim := { program := "ytofjgnlolmaidaa", sum := "e47ba2598c8375405802e7d018bc8d1546938cdf7d4bec9dc677be8c4819de3a", func := "flume/flumelaw17.GaugeAll", spec := "gaugeAll", inPlace := ["math.Float64bits", "math.Float64frombits", "math.archCeil", "math.archFloor", "math.archTrunc"], unfollowed := true, recurses := true, apart := false, narrowed := true }
def GaugeAllUptoSaid : Prop := gaugeAllUptoRow.holds Try.pinned (OpenSpec.upto gaugeAllSpec)

/-- 'flumelaw17.GaugeCells', WHERE WHAT IT READS IS OF BULK AT MOST 1048576: true; the input reads as it did. -/
def gaugeCellsUptoRow : OpenClaim := { program := "ytofjgnlolmaidaa", sum := "e47ba2598c8375405802e7d018bc8d1546938cdf7d4bec9dc677be8c4819de3a", func := "flume/flumelaw17.GaugeCells", spec := "gaugeCells", inPlace := ["math.Float64bits", "math.Float64frombits", "math.archCeil", "math.archFloor", "math.archTrunc"], unfollowed := true, recurses := true, apart := false, narrowed := true }
def GaugeCellsUptoSaid : Prop := gaugeCellsUptoRow.holds Try.pinned (OpenSpec.upto gaugeCellsSpec)

/-- 'flumelaw17.GaugeNone', WHERE WHAT IT READS IS OF BULK AT MOST 1048576: true; the input reads as it did. -/
def gaugeNoneUptoRow : OpenClaim := { program := "ytofjgnlolmaidaa", sum := "e47ba2598c8375405802e7d018bc8d1546938cdf7d4bec9dc677be8c4819de3a", func := "flume/flumelaw17.GaugeNone", spec := "gaugeNone", inPlace := ["math.Float64bits", "math.Float64frombits", "math.archCeil", "math.archFloor", "math.archTrunc"], unfollowed := true, recurses := true, apart := false, narrowed := true }
def GaugeNoneUptoSaid : Prop := gaugeNoneUptoRow.holds Try.pinned (OpenSpec.upto gaugeNoneSpec)

end Rows
end Go.Proofs.Ytofjgnlolmaidaa
