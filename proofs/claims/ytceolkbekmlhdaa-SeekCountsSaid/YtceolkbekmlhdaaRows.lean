/-
  No cell of these rows narrows 'for every input' (looked for: loops, veiled, ifaces, maps, wideKeys, modest, calm, conditions, laid).
  DERIVED. THE GIVEN ROWS OF THIS SEAT. 7 by the template 'for every input the law returns true; each argument reads behind the call as it read before'; 0 by the template 'total and deterministic' (their statements: YtceolkbekmlhdaaTotals.lean).
  GIVEN WITH THE SEED: the statements are not yours to turn. If you find one false, say at which input.
  Laid BY PROGRAM, IN A SANDBOX (cutbox-rows.mjs): the forced cells as the released guide's own fill.sh prints them over the translation 957535350f501bee… (all of the seat's roots in one cut). By AI agents, Wed Nov 11 2026. No macro, syntax, notation, axiom, sorry.
-/
import Derived.Test.YtceolkbekmlhdaaChecked
import GoSem.Claim
import GoSem.ClaimJoined
import GoSem.ClaimMapViews
import Derived.JoinedTies
import Derived.KernelRfl
namespace Go.Proofs.Ytceolkbekmlhdaa
/- THE CELL 'sum', in the pinned program and in every row, IS THE sha256 OF THE DUMP (.gsa) THAT YtceolkbekmlhdaaProg.lean LOADS. Nothing in Lean hashes anything: it is a label: what it is worth is what the hold of that sum in a sandbox is worth. -/
noncomputable def Try.pinned : Pinned := { name := "ytceolkbekmlhdaa", sum := "957535350f501bee6291473cab744d6e6c637abe01e7f86f34285d6a2c9dfb25", checked := Try.checked }
namespace Rows
def none {H : Type} : Left H := { results := [], args := [] }

/-- 'trawllaw10.SceneFlags': WHATEVER THE INPUT: true; the input reads as it did. -/
def sceneFlagsSpec : ChangeSpec := { name := "sceneFlags", fn := fun _ => fun
  | [d1, d2, d3] => { results := [.lit (.bool true)], args := [d1, d2, d3] }
  | _ => none }
def sceneFlagsRow : OpenClaim := { program := "ytceolkbekmlhdaa", sum := "957535350f501bee6291473cab744d6e6c637abe01e7f86f34285d6a2c9dfb25", func := "trawl/trawllaw10.SceneFlags", spec := "sceneFlags", apart := false }
def SceneFlagsSaid : Prop := sceneFlagsRow.holds Try.pinned (OpenSpec.ofChange sceneFlagsSpec)

/-- ITS FALSE NEIGHBOUR: 'it returns false'. Refute it at one input. -/
def sceneFlagsWrong : ChangeSpec := { name := "sceneFlags", fn := fun _ => fun
  | [d1, d2, d3] => { results := [.lit (.bool false)], args := [d1, d2, d3] }
  | _ => none }
def SceneFlagsWrongFalsely : Prop := sceneFlagsRow.holds Try.pinned (OpenSpec.ofChange sceneFlagsWrong)

/-- 'trawllaw10.SceneTells': WHATEVER THE INPUT: true; the input reads as it did. -/
def sceneTellsSpec : ChangeSpec := { name := "sceneTells", fn := fun _ => fun
  | [d1, d2, d3, d4] => { results := [.lit (.bool true)], args := [d1, d2, d3, d4] }
  | _ => none }
def sceneTellsRow : OpenClaim := { program := "ytceolkbekmlhdaa", sum := "957535350f501bee6291473cab744d6e6c637abe01e7f86f34285d6a2c9dfb25", func := "trawl/trawllaw10.SceneTells", spec := "sceneTells", apart := false }
def SceneTellsSaid : Prop := sceneTellsRow.holds Try.pinned (OpenSpec.ofChange sceneTellsSpec)

/-- ITS FALSE NEIGHBOUR: 'it returns false'. Refute it at one input. -/
def sceneTellsWrong : ChangeSpec := { name := "sceneTells", fn := fun _ => fun
  | [d1, d2, d3, d4] => { results := [.lit (.bool false)], args := [d1, d2, d3, d4] }
  | _ => none }
def SceneTellsWrongFalsely : Prop := sceneTellsRow.holds Try.pinned (OpenSpec.ofChange sceneTellsWrong)

/-- 'trawllaw10.SceneTurns': WHATEVER THE INPUT: true; the input reads as it did. -/
def sceneTurnsSpec : ChangeSpec := { name := "sceneTurns", fn := fun _ => fun
  | [d1, d2, d3, d4] => { results := [.lit (.bool true)], args := [d1, d2, d3, d4] }
  | _ => none }
def sceneTurnsRow : OpenClaim := { program := "ytceolkbekmlhdaa", sum := "957535350f501bee6291473cab744d6e6c637abe01e7f86f34285d6a2c9dfb25", func := "trawl/trawllaw10.SceneTurns", spec := "sceneTurns", apart := false }
def SceneTurnsSaid : Prop := sceneTurnsRow.holds Try.pinned (OpenSpec.ofChange sceneTurnsSpec)

/-- ITS FALSE NEIGHBOUR: 'it returns false'. Refute it at one input. -/
def sceneTurnsWrong : ChangeSpec := { name := "sceneTurns", fn := fun _ => fun
  | [d1, d2, d3, d4] => { results := [.lit (.bool false)], args := [d1, d2, d3, d4] }
  | _ => none }
def SceneTurnsWrongFalsely : Prop := sceneTurnsRow.holds Try.pinned (OpenSpec.ofChange sceneTurnsWrong)

/-- 'trawllaw21.SeekShifts': WHATEVER THE INPUT: true; the input reads as it did. -/
def seekShiftsSpec : ChangeSpec := { name := "seekShifts", fn := fun _ => fun
  | [d] => { results := [.lit (.bool true)], args := [d] }
  | _ => none }
def seekShiftsRow : OpenClaim := { program := "ytceolkbekmlhdaa", sum := "957535350f501bee6291473cab744d6e6c637abe01e7f86f34285d6a2c9dfb25", func := "trawl/trawllaw21.SeekShifts", spec := "seekShifts", apart := false }
def SeekShiftsSaid : Prop := seekShiftsRow.holds Try.pinned (OpenSpec.ofChange seekShiftsSpec)

/-- ITS FALSE NEIGHBOUR: 'it returns false'. Refute it at one input. -/
def seekShiftsWrong : ChangeSpec := { name := "seekShifts", fn := fun _ => fun
  | [d] => { results := [.lit (.bool false)], args := [d] }
  | _ => none }
def SeekShiftsWrongFalsely : Prop := seekShiftsRow.holds Try.pinned (OpenSpec.ofChange seekShiftsWrong)

/-- 'trawllaw21.SeekTells': WHATEVER THE INPUT: true; the input reads as it did. -/
def seekTellsSpec : ChangeSpec := { name := "seekTells", fn := fun _ => fun
  | [d1, d2, d3] => { results := [.lit (.bool true)], args := [d1, d2, d3] }
  | _ => none }
def seekTellsRow : OpenClaim := { program := "ytceolkbekmlhdaa", sum := "957535350f501bee6291473cab744d6e6c637abe01e7f86f34285d6a2c9dfb25", func := "trawl/trawllaw21.SeekTells", spec := "seekTells", apart := false }
def SeekTellsSaid : Prop := seekTellsRow.holds Try.pinned (OpenSpec.ofChange seekTellsSpec)

/-- ITS FALSE NEIGHBOUR: 'it returns false'. Refute it at one input. -/
def seekTellsWrong : ChangeSpec := { name := "seekTells", fn := fun _ => fun
  | [d1, d2, d3] => { results := [.lit (.bool false)], args := [d1, d2, d3] }
  | _ => none }
def SeekTellsWrongFalsely : Prop := seekTellsRow.holds Try.pinned (OpenSpec.ofChange seekTellsWrong)

/-- 'trawllaw21.SeekPasses': WHATEVER THE INPUT: true; the input reads as it did. -/
def seekPassesSpec : ChangeSpec := { name := "seekPasses", fn := fun _ => fun
  | [d1, d2, d3] => { results := [.lit (.bool true)], args := [d1, d2, d3] }
  | _ => none }
def seekPassesRow : OpenClaim := { program := "ytceolkbekmlhdaa", sum := "957535350f501bee6291473cab744d6e6c637abe01e7f86f34285d6a2c9dfb25", func := "trawl/trawllaw21.SeekPasses", spec := "seekPasses", apart := false }
def SeekPassesSaid : Prop := seekPassesRow.holds Try.pinned (OpenSpec.ofChange seekPassesSpec)

/-- ITS FALSE NEIGHBOUR: 'it returns false'. Refute it at one input. -/
def seekPassesWrong : ChangeSpec := { name := "seekPasses", fn := fun _ => fun
  | [d1, d2, d3] => { results := [.lit (.bool false)], args := [d1, d2, d3] }
  | _ => none }
def SeekPassesWrongFalsely : Prop := seekPassesRow.holds Try.pinned (OpenSpec.ofChange seekPassesWrong)

/-- 'trawllaw21.SeekCounts': WHATEVER THE INPUT: true; the input reads as it did. -/
def seekCountsSpec : ChangeSpec := { name := "seekCounts", fn := fun _ => fun
  | [d1, d2] => { results := [.lit (.bool true)], args := [d1, d2] }
  | _ => none }
def seekCountsRow : OpenClaim := { program := "ytceolkbekmlhdaa", sum := "957535350f501bee6291473cab744d6e6c637abe01e7f86f34285d6a2c9dfb25", func := "trawl/trawllaw21.SeekCounts", spec := "seekCounts", apart := false }
def SeekCountsSaid : Prop := seekCountsRow.holds Try.pinned (OpenSpec.ofChange seekCountsSpec)

/-- ITS FALSE NEIGHBOUR: 'it returns false'. Refute it at one input. -/
def seekCountsWrong : ChangeSpec := { name := "seekCounts", fn := fun _ => fun
  | [d1, d2] => { results := [.lit (.bool false)], args := [d1, d2] }
  | _ => none }
def SeekCountsWrongFalsely : Prop := seekCountsRow.holds Try.pinned (OpenSpec.ofChange seekCountsWrong)

/- THE SECOND FORM. 'bulk': how many values and letters a reading holds, each counted each time it is reached (what is shared counts as often as it is met; a slice's spare places count too). A statement '..UptoSaid' is the law's where the arguments, and the package variables that the reading takes, are together of bulk at most 1048576: NARROWER than '..Said'. Prove '..Said' where nothing that the law and all that it calls make is longer than what came in: it says more and counts as full. Else prove '..UptoSaid'. A law counts once. -/
mutual
def uptoBulk {H : Type} : DataW H → Nat
  | .lit (.string bytes) => bytes.length + 1
  | .lit _ => 1
  | .nil => 1
  | .ptr d => uptoBulk d + 1
  | .slice elems spare => uptoBulkAll elems + uptoBulkAll spare + 1
  | .agg parts => uptoBulkAll parts + 1
  | .iface _ d => uptoBulk d + 1
  | .map entries => uptoBulkEntries entries + 1
  | .held _ => 1
def uptoBulkAll {H : Type} : List (DataW H) → Nat
  | [] => 0
  | d :: r => uptoBulk d + uptoBulkAll r
def uptoBulkEntries {H : Type} : List (Lit × DataW H) → Nat
  | [] => 0
  | x :: r => uptoBulkEntry x + uptoBulkEntries r
def uptoBulkEntry {H : Type} : Lit × DataW H → Nat
  | (.string bytes, d) => bytes.length + uptoBulk d + 1
  | (_, d) => uptoBulk d + 1
 end
def uptoSmall : (H : Type) → List (DataW H) → Bool := fun _ ds => decide (uptoBulkAll ds ≤ 1048576)
def OpenSpec.upto (s : _root_.Go.ChangeSpec) : _root_.Go.OpenSpec := { _root_.Go.OpenSpec.ofChange s with cond := some uptoSmall }

/-- 'trawllaw10.SceneFlags', WHERE WHAT IT READS IS OF BULK AT MOST 1048576: true; the input reads as it did. -/
def sceneFlagsUptoRow : OpenClaim := { program := "ytceolkbekmlhdaa", sum := "957535350f501bee6291473cab744d6e6c637abe01e7f86f34285d6a2c9dfb25", func := "trawl/trawllaw10.SceneFlags", spec := "sceneFlags", apart := false, narrowed := true }
def SceneFlagsUptoSaid : Prop := sceneFlagsUptoRow.holds Try.pinned (OpenSpec.upto sceneFlagsSpec)

/-- 'trawllaw10.SceneTells', WHERE WHAT IT READS IS OF BULK AT MOST 1048576: true; the input reads as it did. -/
def sceneTellsUptoRow : OpenClaim := { program := "ytceolkbekmlhdaa", sum := "957535350f501bee6291473cab744d6e6c637abe01e7f86f34285d6a2c9dfb25", func := "trawl/trawllaw10.SceneTells", spec := "sceneTells", apart := false, narrowed := true }
def SceneTellsUptoSaid : Prop := sceneTellsUptoRow.holds Try.pinned (OpenSpec.upto sceneTellsSpec)

/-- 'trawllaw10.SceneTurns', WHERE WHAT IT READS IS OF BULK AT MOST 1048576: true; the input reads as it did. -/
def sceneTurnsUptoRow : OpenClaim := { program := "ytceolkbekmlhdaa", sum := "957535350f501bee6291473cab744d6e6c637abe01e7f86f34285d6a2c9dfb25", func := "trawl/trawllaw10.SceneTurns", spec := "sceneTurns", apart := false, narrowed := true }
def SceneTurnsUptoSaid : Prop := sceneTurnsUptoRow.holds Try.pinned (OpenSpec.upto sceneTurnsSpec)

/-- 'trawllaw21.SeekShifts', WHERE WHAT IT READS IS OF BULK AT MOST 1048576: true; the input reads as it did. -/
def seekShiftsUptoRow : OpenClaim := { program := "ytceolkbekmlhdaa", sum := "957535350f501bee6291473cab744d6e6c637abe01e7f86f34285d6a2c9dfb25", func := "trawl/trawllaw21.SeekShifts", spec := "seekShifts", apart := false, narrowed := true }
def SeekShiftsUptoSaid : Prop := seekShiftsUptoRow.holds Try.pinned (OpenSpec.upto seekShiftsSpec)

/-- 'trawllaw21.SeekTells', WHERE WHAT IT READS IS OF BULK AT MOST 1048576: true; the input reads as it did. -/
def seekTellsUptoRow : OpenClaim := { program := "ytceolkbekmlhdaa", sum := "957535350f501bee6291473cab744d6e6c637abe01e7f86f34285d6a2c9dfb25", func := "trawl/trawllaw21.SeekTells", spec := "seekTells", apart := false, narrowed := true }
def SeekTellsUptoSaid : Prop := seekTellsUptoRow.holds Try.pinned (OpenSpec.upto seekTellsSpec)

/-- 'trawllaw21.SeekPasses', WHERE WHAT IT READS IS OF BULK AT MOST 1048576: true; the input reads as it did. -/
def seekPassesUptoRow : OpenClaim := { program := "ytceolkbekmlhdaa", sum := "957535350f501bee6291473cab744d6e6c637abe01e7f86f34285d6a2c9dfb25", func := "trawl/trawllaw21.SeekPasses", spec := "seekPasses", apart := false, narrowed := true }
def SeekPassesUptoSaid : Prop := seekPassesUptoRow.holds Try.pinned (OpenSpec.upto seekPassesSpec)

/-- 'trawllaw21.SeekCounts', WHERE WHAT IT READS IS OF BULK AT MOST 1048576: true; the input reads as it did. -/
def seekCountsUptoRow : OpenClaim := { program := "ytceolkbekmlhdaa", sum := "957535350f501bee6291473cab744d6e6c637abe01e7f86f34285d6a2c9dfb25", func := "trawl/trawllaw21.SeekCounts", spec := "seekCounts", apart := false, narrowed := true }
def SeekCountsUptoSaid : Prop := seekCountsUptoRow.holds Try.pinned (OpenSpec.upto seekCountsSpec)

end Rows
end Go.Proofs.Ytceolkbekmlhdaa
