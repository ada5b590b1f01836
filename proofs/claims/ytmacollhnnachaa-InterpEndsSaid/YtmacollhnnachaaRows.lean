/-
  No cell of these rows narrows 'for every input' (looked for: loops, veiled, ifaces, maps, wideKeys, modest, calm, conditions, laid).
  DERIVED. THE GIVEN ROWS OF THIS SEAT. 12 by the template 'for every input the law returns true; each argument reads behind the call as it read before'; 0 by the template 'total and deterministic' (their statements: YtmacollhnnachaaTotals.lean).
  GIVEN WITH THE SEED: the statements are not yours to turn. If you find one false, say at which input.
  Laid BY PROGRAM, IN A SANDBOX (cutbox-rows.mjs): the forced cells as the released guide's own fill.sh prints them over the translation 2ca17ad499d5c041… (all of the seat's roots in one cut). By AI agents, Wed Nov 11 2026. No macro, syntax, notation, axiom, sorry.
-/
import Derived.Test.YtmacollhnnachaaChecked
import GoSem.Claim
import GoSem.ClaimJoined
import GoSem.ClaimMapViews
import Derived.JoinedTies
import Derived.KernelRfl
namespace Go.Proofs.Ytmacollhnnachaa
/- THE CELL 'sum', in the pinned program and in every row, IS THE sha256 OF THE DUMP (.gsa) THAT YtmacollhnnachaaProg.lean LOADS. Nothing in Lean hashes anything: it is a label: what it is worth is what the hold of that sum in a sandbox is worth. -/
noncomputable def Try.pinned : Pinned := { name := "ytmacollhnnachaa", sum := "2ca17ad499d5c0415855790bae4bcb67439d86b184e2d64bd26b72facac0a0f3", checked := Try.checked }
namespace Rows
def none {H : Type} : Left H := { results := [], args := [] }

/-- 'lambrequinlaw22.InterpMore': WHATEVER THE INPUT: true; the input reads as it did. -/
def interpMoreSpec : ChangeSpec := { name := "interpMore", fn := fun _ => fun
  | [d1, d2] => { results := [.lit (.bool true)], args := [d1, d2] }
  | _ => none }
def interpMoreRow : OpenClaim := { program := "ytmacollhnnachaa", sum := "2ca17ad499d5c0415855790bae4bcb67439d86b184e2d64bd26b72facac0a0f3", func := "lambrequin/lambrequinlaw22.InterpMore", spec := "interpMore", unfollowed := true, recurses := true, apart := false }
def InterpMoreSaid : Prop := interpMoreRow.holds Try.pinned (OpenSpec.ofChange interpMoreSpec)

/-- ITS FALSE NEIGHBOUR: 'it returns false'. Refute it at one input. -/
def interpMoreWrong : ChangeSpec := { name := "interpMore", fn := fun _ => fun
  | [d1, d2] => { results := [.lit (.bool false)], args := [d1, d2] }
  | _ => none }
def InterpMoreWrongFalsely : Prop := interpMoreRow.holds Try.pinned (OpenSpec.ofChange interpMoreWrong)

/-- 'lambrequinlaw22.InterpEnds': WHATEVER THE INPUT: true; the input reads as it did. -/
def interpEndsSpec : ChangeSpec := { name := "interpEnds", fn := fun _ => fun
  | [d] => { results := [.lit (.bool true)], args := [d] }
  | _ => none }
def interpEndsRow : OpenClaim := { program := "ytmacollhnnachaa", sum := "2ca17ad499d5c0415855790bae4bcb67439d86b184e2d64bd26b72facac0a0f3", func := "lambrequin/lambrequinlaw22.InterpEnds", spec := "interpEnds", unfollowed := true, recurses := true, apart := false }
def InterpEndsSaid : Prop := interpEndsRow.holds Try.pinned (OpenSpec.ofChange interpEndsSpec)

/-- ITS FALSE NEIGHBOUR: 'it returns false'. Refute it at one input. -/
def interpEndsWrong : ChangeSpec := { name := "interpEnds", fn := fun _ => fun
  | [d] => { results := [.lit (.bool false)], args := [d] }
  | _ => none }
def InterpEndsWrongFalsely : Prop := interpEndsRow.holds Try.pinned (OpenSpec.ofChange interpEndsWrong)

/-- 'lambrequinlaw22.InterpSteps': WHATEVER THE INPUT: true; the input reads as it did. -/
def interpStepsSpec : ChangeSpec := { name := "interpSteps", fn := fun _ => fun
  | [d] => { results := [.lit (.bool true)], args := [d] }
  | _ => none }
def interpStepsRow : OpenClaim := { program := "ytmacollhnnachaa", sum := "2ca17ad499d5c0415855790bae4bcb67439d86b184e2d64bd26b72facac0a0f3", func := "lambrequin/lambrequinlaw22.InterpSteps", spec := "interpSteps", unfollowed := true, recurses := true, apart := false }
def InterpStepsSaid : Prop := interpStepsRow.holds Try.pinned (OpenSpec.ofChange interpStepsSpec)

/-- ITS FALSE NEIGHBOUR: 'it returns false'. Refute it at one input. -/
def interpStepsWrong : ChangeSpec := { name := "interpSteps", fn := fun _ => fun
  | [d] => { results := [.lit (.bool false)], args := [d] }
  | _ => none }
def InterpStepsWrongFalsely : Prop := interpStepsRow.holds Try.pinned (OpenSpec.ofChange interpStepsWrong)

/-- 'lambrequinlaw20.CfgFlows': WHATEVER THE INPUT: true; the input reads as it did. -/
def cfgFlowsSpec : ChangeSpec := { name := "cfgFlows", fn := fun _ => fun
  | [d1, d2, d3, d4] => { results := [.lit (.bool true)], args := [d1, d2, d3, d4] }
  | _ => none }
def cfgFlowsRow : OpenClaim := { program := "ytmacollhnnachaa", sum := "2ca17ad499d5c0415855790bae4bcb67439d86b184e2d64bd26b72facac0a0f3", func := "lambrequin/lambrequinlaw20.CfgFlows", spec := "cfgFlows", unfollowed := true, recurses := true, apart := false }
def CfgFlowsSaid : Prop := cfgFlowsRow.holds Try.pinned (OpenSpec.ofChange cfgFlowsSpec)

/-- ITS FALSE NEIGHBOUR: 'it returns false'. Refute it at one input. -/
def cfgFlowsWrong : ChangeSpec := { name := "cfgFlows", fn := fun _ => fun
  | [d1, d2, d3, d4] => { results := [.lit (.bool false)], args := [d1, d2, d3, d4] }
  | _ => none }
def CfgFlowsWrongFalsely : Prop := cfgFlowsRow.holds Try.pinned (OpenSpec.ofChange cfgFlowsWrong)

/-- 'lambrequinlaw20.CfgTaint': WHATEVER THE INPUT: true; the input reads as it did. -/
def cfgTaintSpec : ChangeSpec := { name := "cfgTaint", fn := fun _ => fun
  | [d1, d2, d3] => { results := [.lit (.bool true)], args := [d1, d2, d3] }
  | _ => none }
def cfgTaintRow : OpenClaim := { program := "ytmacollhnnachaa", sum := "2ca17ad499d5c0415855790bae4bcb67439d86b184e2d64bd26b72facac0a0f3", func := "lambrequin/lambrequinlaw20.CfgTaint", spec := "cfgTaint", unfollowed := true, recurses := true, apart := false }
def CfgTaintSaid : Prop := cfgTaintRow.holds Try.pinned (OpenSpec.ofChange cfgTaintSpec)

/-- ITS FALSE NEIGHBOUR: 'it returns false'. Refute it at one input. -/
def cfgTaintWrong : ChangeSpec := { name := "cfgTaint", fn := fun _ => fun
  | [d1, d2, d3] => { results := [.lit (.bool false)], args := [d1, d2, d3] }
  | _ => none }
def CfgTaintWrongFalsely : Prop := cfgTaintRow.holds Try.pinned (OpenSpec.ofChange cfgTaintWrong)

/-- 'lambrequinlaw22.InterpReaches': WHATEVER THE INPUT: true; the input reads as it did. -/
def interpReachesSpec : ChangeSpec := { name := "interpReaches", fn := fun _ => fun
  | [d] => { results := [.lit (.bool true)], args := [d] }
  | _ => none }
def interpReachesRow : OpenClaim := { program := "ytmacollhnnachaa", sum := "2ca17ad499d5c0415855790bae4bcb67439d86b184e2d64bd26b72facac0a0f3", func := "lambrequin/lambrequinlaw22.InterpReaches", spec := "interpReaches", unfollowed := true, recurses := true, apart := false }
def InterpReachesSaid : Prop := interpReachesRow.holds Try.pinned (OpenSpec.ofChange interpReachesSpec)

/-- ITS FALSE NEIGHBOUR: 'it returns false'. Refute it at one input. -/
def interpReachesWrong : ChangeSpec := { name := "interpReaches", fn := fun _ => fun
  | [d] => { results := [.lit (.bool false)], args := [d] }
  | _ => none }
def InterpReachesWrongFalsely : Prop := interpReachesRow.holds Try.pinned (OpenSpec.ofChange interpReachesWrong)

/-- 'lambrequinlaw22.InterpLives': WHATEVER THE INPUT: true; the input reads as it did. -/
def interpLivesSpec : ChangeSpec := { name := "interpLives", fn := fun _ => fun
  | [d] => { results := [.lit (.bool true)], args := [d] }
  | _ => none }
def interpLivesRow : OpenClaim := { program := "ytmacollhnnachaa", sum := "2ca17ad499d5c0415855790bae4bcb67439d86b184e2d64bd26b72facac0a0f3", func := "lambrequin/lambrequinlaw22.InterpLives", spec := "interpLives", unfollowed := true, recurses := true, apart := false }
def InterpLivesSaid : Prop := interpLivesRow.holds Try.pinned (OpenSpec.ofChange interpLivesSpec)

/-- ITS FALSE NEIGHBOUR: 'it returns false'. Refute it at one input. -/
def interpLivesWrong : ChangeSpec := { name := "interpLives", fn := fun _ => fun
  | [d] => { results := [.lit (.bool false)], args := [d] }
  | _ => none }
def InterpLivesWrongFalsely : Prop := interpLivesRow.holds Try.pinned (OpenSpec.ofChange interpLivesWrong)

/-- 'lambrequinlaw22.InterpTaints': WHATEVER THE INPUT: true; the input reads as it did. -/
def interpTaintsSpec : ChangeSpec := { name := "interpTaints", fn := fun _ => fun
  | [d] => { results := [.lit (.bool true)], args := [d] }
  | _ => none }
def interpTaintsRow : OpenClaim := { program := "ytmacollhnnachaa", sum := "2ca17ad499d5c0415855790bae4bcb67439d86b184e2d64bd26b72facac0a0f3", func := "lambrequin/lambrequinlaw22.InterpTaints", spec := "interpTaints", unfollowed := true, recurses := true, apart := false }
def InterpTaintsSaid : Prop := interpTaintsRow.holds Try.pinned (OpenSpec.ofChange interpTaintsSpec)

/-- ITS FALSE NEIGHBOUR: 'it returns false'. Refute it at one input. -/
def interpTaintsWrong : ChangeSpec := { name := "interpTaints", fn := fun _ => fun
  | [d] => { results := [.lit (.bool false)], args := [d] }
  | _ => none }
def InterpTaintsWrongFalsely : Prop := interpTaintsRow.holds Try.pinned (OpenSpec.ofChange interpTaintsWrong)

/-- 'lambrequinlaw21.FactsTell': WHATEVER THE INPUT: true; the input reads as it did. -/
def factsTellSpec : ChangeSpec := { name := "factsTell", fn := fun _ => fun
  | [d1, d2, d3, d4] => { results := [.lit (.bool true)], args := [d1, d2, d3, d4] }
  | _ => none }
def factsTellRow : OpenClaim := { program := "ytmacollhnnachaa", sum := "2ca17ad499d5c0415855790bae4bcb67439d86b184e2d64bd26b72facac0a0f3", func := "lambrequin/lambrequinlaw21.FactsTell", spec := "factsTell", unfollowed := true, recurses := true, apart := false }
def FactsTellSaid : Prop := factsTellRow.holds Try.pinned (OpenSpec.ofChange factsTellSpec)

/-- ITS FALSE NEIGHBOUR: 'it returns false'. Refute it at one input. -/
def factsTellWrong : ChangeSpec := { name := "factsTell", fn := fun _ => fun
  | [d1, d2, d3, d4] => { results := [.lit (.bool false)], args := [d1, d2, d3, d4] }
  | _ => none }
def FactsTellWrongFalsely : Prop := factsTellRow.holds Try.pinned (OpenSpec.ofChange factsTellWrong)

/-- 'lambrequinlaw21.FactsFlow': WHATEVER THE INPUT: true; the input reads as it did. -/
def factsFlowSpec : ChangeSpec := { name := "factsFlow", fn := fun _ => fun
  | [d1, d2, d3, d4] => { results := [.lit (.bool true)], args := [d1, d2, d3, d4] }
  | _ => none }
def factsFlowRow : OpenClaim := { program := "ytmacollhnnachaa", sum := "2ca17ad499d5c0415855790bae4bcb67439d86b184e2d64bd26b72facac0a0f3", func := "lambrequin/lambrequinlaw21.FactsFlow", spec := "factsFlow", unfollowed := true, recurses := true, apart := false }
def FactsFlowSaid : Prop := factsFlowRow.holds Try.pinned (OpenSpec.ofChange factsFlowSpec)

/-- ITS FALSE NEIGHBOUR: 'it returns false'. Refute it at one input. -/
def factsFlowWrong : ChangeSpec := { name := "factsFlow", fn := fun _ => fun
  | [d1, d2, d3, d4] => { results := [.lit (.bool false)], args := [d1, d2, d3, d4] }
  | _ => none }
def FactsFlowWrongFalsely : Prop := factsFlowRow.holds Try.pinned (OpenSpec.ofChange factsFlowWrong)

/-- 'lambrequinlaw21.FactsSorted': WHATEVER THE INPUT: true; the input reads as it did. -/
def factsSortedSpec : ChangeSpec := { name := "factsSorted", fn := fun _ => fun
  | [d] => { results := [.lit (.bool true)], args := [d] }
  | _ => none }
def factsSortedRow : OpenClaim := { program := "ytmacollhnnachaa", sum := "2ca17ad499d5c0415855790bae4bcb67439d86b184e2d64bd26b72facac0a0f3", func := "lambrequin/lambrequinlaw21.FactsSorted", spec := "factsSorted", unfollowed := true, recurses := true, apart := false }
def FactsSortedSaid : Prop := factsSortedRow.holds Try.pinned (OpenSpec.ofChange factsSortedSpec)

/-- ITS FALSE NEIGHBOUR: 'it returns false'. Refute it at one input. -/
def factsSortedWrong : ChangeSpec := { name := "factsSorted", fn := fun _ => fun
  | [d] => { results := [.lit (.bool false)], args := [d] }
  | _ => none }
def FactsSortedWrongFalsely : Prop := factsSortedRow.holds Try.pinned (OpenSpec.ofChange factsSortedWrong)

/-- 'lambrequinlaw21.FactsMore': WHATEVER THE INPUT: true; the input reads as it did. -/
def factsMoreSpec : ChangeSpec := { name := "factsMore", fn := fun _ => fun
  | [d1, d2] => { results := [.lit (.bool true)], args := [d1, d2] }
  | _ => none }
def factsMoreRow : OpenClaim := { program := "ytmacollhnnachaa", sum := "2ca17ad499d5c0415855790bae4bcb67439d86b184e2d64bd26b72facac0a0f3", func := "lambrequin/lambrequinlaw21.FactsMore", spec := "factsMore", unfollowed := true, recurses := true, apart := false }
def FactsMoreSaid : Prop := factsMoreRow.holds Try.pinned (OpenSpec.ofChange factsMoreSpec)

/-- ITS FALSE NEIGHBOUR: 'it returns false'. Refute it at one input. -/
def factsMoreWrong : ChangeSpec := { name := "factsMore", fn := fun _ => fun
  | [d1, d2] => { results := [.lit (.bool false)], args := [d1, d2] }
  | _ => none }
def FactsMoreWrongFalsely : Prop := factsMoreRow.holds Try.pinned (OpenSpec.ofChange factsMoreWrong)

/- THE SECOND FORM. 'bulk': how many values and letters a reading holds, each counted each time it is reached (what is shared counts as often as it is met; a slice's spare places count too). A statement '..UptoSaid' is the law's where the arguments, and the package variables that the reading takes, are together of bulk at most 1048576: NARROWER than '..Said'. Prove '..Said' where nothing that the law and all that it calls make is longer than what came in: it says more and counts as full. Else prove '..UptoSaid'. A law counts once. -/
mutual
def uptoBulk {H : Type} : DataW H → Nat
  | .lit (.string bytes) => bytes.length + 1
  | .lit _ => 1
  | .nil => 1
  | .ptr d => uptoBulk d + 1
  | .slice elems spare => uptoBulkAll elems + uptoBulkAll spare + 1
  | .agg parts => uptoBulkAll parts + 1
  | .iface _ d => uptoBulk d + 1
  | .map entries => uptoBulkEntries entries + 1
  | .held _ => 1
def uptoBulkAll {H : Type} : List (DataW H) → Nat
  | [] => 0
  | d :: r => uptoBulk d + uptoBulkAll r
def uptoBulkEntries {H : Type} : List (Lit × DataW H) → Nat
  | [] => 0
  | x :: r => uptoBulkEntry x + uptoBulkEntries r
def uptoBulkEntry {H : Type} : Lit × DataW H → Nat
  | (.string bytes, d) => bytes.length + uptoBulk d + 1
  | (_, d) => uptoBulk d + 1
 end
def uptoSmall : (H : Type) → List (DataW H) → Bool := fun _ ds => decide (uptoBulkAll ds ≤ 1048576)
def OpenSpec.upto (s : _root_.Go.ChangeSpec) : _root_.Go.OpenSpec := { _root_.Go.OpenSpec.ofChange s with cond := some uptoSmall }

/-- 'lambrequinlaw22.InterpMore', WHERE WHAT IT READS IS OF BULK AT MOST 1048576: true; the input reads as it did. -/
def interpMoreUptoRow : OpenClaim := { program := "ytmacollhnnachaa", sum := "2ca17ad499d5c0415855790bae4bcb67439d86b184e2d64bd26b72facac0a0f3", func := "lambrequin/lambrequinlaw22.InterpMore", spec := "interpMore", unfollowed := true, recurses := true, apart := false, narrowed := true }
def InterpMoreUptoSaid : Prop := interpMoreUptoRow.holds Try.pinned (OpenSpec.upto interpMoreSpec)

/-- 'lambrequinlaw22.InterpEnds', WHERE WHAT IT READS IS OF BULK AT MOST 1048576: true; the input reads as it did. -/
def interpEndsUptoRow : OpenClaim := { program := "ytmacollhnnachaa", sum := "2ca17ad499d5c0415855790bae4bcb67439d86b184e2d64bd26b72facac0a0f3", func := "lambrequin/lambrequinlaw22.InterpEnds", spec := "interpEnds", unfollowed := true, recurses := true, apart := false, narrowed := true }
def InterpEndsUptoSaid : Prop := interpEndsUptoRow.holds Try.pinned (OpenSpec.upto interpEndsSpec)

/-- 'lambrequinlaw22.InterpSteps', WHERE WHAT IT READS IS OF BULK AT MOST 1048576: true; the input reads as it did. -/
def interpStepsUptoRow : OpenClaim := { program := "ytmacollhnnachaa", sum := "2ca17ad499d5c0415855790bae4bcb67439d86b184e2d64bd26b72facac0a0f3", func := "lambrequin/lambrequinlaw22.InterpSteps", spec := "interpSteps", unfollowed := true, recurses := true, apart := false, narrowed := true }
def InterpStepsUptoSaid : Prop := interpStepsUptoRow.holds Try.pinned (OpenSpec.upto interpStepsSpec)

/-- 'lambrequinlaw20.CfgFlows', WHERE WHAT IT READS IS OF BULK AT MOST 1048576: true; the input reads as it did. -/
def cfgFlowsUptoRow : OpenClaim := { program := "ytmacollhnnachaa", sum := "2ca17ad499d5c0415855790bae4bcb67439d86b184e2d64bd26b72facac0a0f3", func := "lambrequin/lambrequinlaw20.CfgFlows", spec := "cfgFlows", unfollowed := true, recurses := true, apart := false, narrowed := true }
def CfgFlowsUptoSaid : Prop := cfgFlowsUptoRow.holds Try.pinned (OpenSpec.upto cfgFlowsSpec)

/-- 'lambrequinlaw20.CfgTaint', WHERE WHAT IT READS IS OF BULK AT MOST 1048576: true; the input reads as it did. -/
def cfgTaintUptoRow : OpenClaim := { program := "ytmacollhnnachaa", sum := "2ca17ad499d5c0415855790bae4bcb67439d86b184e2d64bd26b72facac0a0f3", func := "lambrequin/lambrequinlaw20.CfgTaint", spec := "cfgTaint", unfollowed := true, recurses := true, apart := false, narrowed := true }
def CfgTaintUptoSaid : Prop := cfgTaintUptoRow.holds Try.pinned (OpenSpec.upto cfgTaintSpec)

/-- 'lambrequinlaw22.InterpReaches', WHERE WHAT IT READS IS OF BULK AT MOST 1048576: true; the input reads as it did. -/
def interpReachesUptoRow : OpenClaim := { program := "ytmacollhnnachaa", sum := "2ca17ad499d5c0415855790bae4bcb67439d86b184e2d64bd26b72facac0a0f3", func := "lambrequin/lambrequinlaw22.InterpReaches", spec := "interpReaches", unfollowed := true, recurses := true, apart := false, narrowed := true }
def InterpReachesUptoSaid : Prop := interpReachesUptoRow.holds Try.pinned (OpenSpec.upto interpReachesSpec)

/-- 'lambrequinlaw22.InterpLives', WHERE WHAT IT READS IS OF BULK AT MOST 1048576: true; the input reads as it did. -/
def interpLivesUptoRow : OpenClaim := { program := "ytmacollhnnachaa", sum := "2ca17ad499d5c0415855790bae4bcb67439d86b184e2d64bd26b72facac0a0f3", func := "lambrequin/lambrequinlaw22.InterpLives", spec := "interpLives", unfollowed := true, recurses := true, apart := false, narrowed := true }
def InterpLivesUptoSaid : Prop := interpLivesUptoRow.holds Try.pinned (OpenSpec.upto interpLivesSpec)

/-- 'lambrequinlaw22.InterpTaints', WHERE WHAT IT READS IS OF BULK AT MOST 1048576: true; the input reads as it did. -/
def interpTaintsUptoRow : OpenClaim := { program := "ytmacollhnnachaa", sum := "2ca17ad499d5c0415855790bae4bcb67439d86b184e2d64bd26b72facac0a0f3", func := "lambrequin/lambrequinlaw22.InterpTaints", spec := "interpTaints", unfollowed := true, recurses := true, apart := false, narrowed := true }
def InterpTaintsUptoSaid : Prop := interpTaintsUptoRow.holds Try.pinned (OpenSpec.upto interpTaintsSpec)

/-- 'lambrequinlaw21.FactsTell', WHERE WHAT IT READS IS OF BULK AT MOST 1048576: true; the input reads as it did. -/
def factsTellUptoRow : OpenClaim := { program := "ytmacollhnnachaa", sum := "2ca17ad499d5c0415855790bae4bcb67439d86b184e2d64bd26b72facac0a0f3", func := "lambrequin/lambrequinlaw21.FactsTell", spec := "factsTell", unfollowed := true, recurses := true, apart := false, narrowed := true }
def FactsTellUptoSaid : Prop := factsTellUptoRow.holds Try.pinned (OpenSpec.upto factsTellSpec)

/-- 'lambrequinlaw21.FactsFlow', WHERE WHAT IT READS IS OF BULK AT MOST 1048576: true; the input reads as it did. -/
def factsFlowUptoRow : OpenClaim := { program := "ytmacollhnnachaa", sum := "2ca17ad499d5c0415855790bae4bcb67439d86b184e2d64bd26b72facac0a0f3", func := "lambrequin/lambrequinlaw21.FactsFlow", spec := "factsFlow", unfollowed := true, recurses := true, apart := false, narrowed := true }
def FactsFlowUptoSaid : Prop := factsFlowUptoRow.holds Try.pinned (OpenSpec.upto factsFlowSpec)

/-- 'lambrequinlaw21.FactsSorted', WHERE WHAT IT READS IS OF BULK AT MOST 1048576: true; the input reads as it did. -/
def factsSortedUptoRow : OpenClaim := { program := "ytmacollhnnachaa", sum := "2ca17ad499d5c0415855790bae4bcb67439d86b184e2d64bd26b72facac0a0f3", func := "lambrequin/lambrequinlaw21.FactsSorted", spec := "factsSorted", unfollowed := true, recurses := true, apart := false, narrowed := true }
def FactsSortedUptoSaid : Prop := factsSortedUptoRow.holds Try.pinned (OpenSpec.upto factsSortedSpec)

/-- 'lambrequinlaw21.FactsMore', WHERE WHAT IT READS IS OF BULK AT MOST 1048576: true; the input reads as it did. -/
def factsMoreUptoRow : OpenClaim := { program := "ytmacollhnnachaa", sum := "2ca17ad499d5c0415855790bae4bcb67439d86b184e2d64bd26b72facac0a0f3", func := "lambrequin/lambrequinlaw21.FactsMore", spec := "factsMore", unfollowed := true, recurses := true, apart := false, narrowed := true }
def FactsMoreUptoSaid : Prop := factsMoreUptoRow.holds Try.pinned (OpenSpec.upto factsMoreSpec)

end Rows
end Go.Proofs.Ytmacollhnnachaa
