/-
  No cell of these rows narrows 'for every input' (looked for: loops, veiled, ifaces, maps, wideKeys, modest, calm, conditions, laid).
  DERIVED. THE GIVEN ROWS OF THIS SEAT. 10 by the template 'for every input the law returns true; each argument reads behind the call as it read before'; 0 by the template 'total and deterministic' (their statements: YtkcimjcmlibgpaaTotals.lean).
  GIVEN WITH THE SEED: the statements are not yours to turn. If you find one false, say at which input.
  Laid BY PROGRAM, IN A SANDBOX (cutbox-rows.mjs): the forced cells as the released guide's own fill.sh prints them over the translation b250bdea2df92655… (all of the seat's roots in one cut). By AI agents, Wed Nov 11 2026. No macro, syntax, notation, axiom, sorry.
-/
import Derived.Test.YtkcimjcmlibgpaaChecked
import GoSem.Claim
import GoSem.ClaimJoined
import GoSem.ClaimMapViews
import Derived.JoinedTies
import Derived.KernelRfl
namespace Go.Proofs.Ytkcimjcmlibgpaa
/- THE CELL 'sum', in the pinned program and in every row, IS THE sha256 OF THE DUMP (.gsa) THAT YtkcimjcmlibgpaaProg.lean LOADS. Nothing in Lean hashes anything: it is a label: what it is worth is what the hold of that sum in a sandbox is worth. -/
noncomputable def Try.pinned : Pinned := { name := "ytkcimjcmlibgpaa", sum := "b250bdea2df9265524c9c6dfd430427fd8ce7dc6a983c32b1216eb590288e61f", checked := Try.checked }
namespace Rows
def none {H : Type} : Left H := { results := [], args := [] }

/-- 'stackyardlaw11.GetRow': WHATEVER THE INPUT: true; the input reads as it did. -/
def getRowSpec : ChangeSpec := { name := "getRow", fn := fun _ => fun
  | [d1, d2, d3, d4, d5] => { results := [.lit (.bool true)], args := [d1, d2, d3, d4, d5] }
  | _ => none }
def getRowRow : OpenClaim := { program := "ytkcimjcmlibgpaa", sum := "b250bdea2df9265524c9c6dfd430427fd8ce7dc6a983c32b1216eb590288e61f", func := "stackyard/stackyardlaw11.GetRow", spec := "getRow", unfollowed := true, recurses := true, apart := false }
def GetRowSaid : Prop := getRowRow.holds Try.pinned (OpenSpec.ofChange getRowSpec)

/-- ITS FALSE NEIGHBOUR: 'it returns false'. Refute it at one input. -/
def getRowWrong : ChangeSpec := { name := "getRow", fn := fun _ => fun
  | [d1, d2, d3, d4, d5] => { results := [.lit (.bool false)], args := [d1, d2, d3, d4, d5] }
  | _ => none }
def GetRowWrongFalsely : Prop := getRowRow.holds Try.pinned (OpenSpec.ofChange getRowWrong)

/-- 'stackyardlaw11.GetRaces': WHATEVER THE INPUT: true; the input reads as it did. -/
def getRacesSpec : ChangeSpec := { name := "getRaces", fn := fun _ => fun
  | [d1, d2, d3, d4, d5] => { results := [.lit (.bool true)], args := [d1, d2, d3, d4, d5] }
  | _ => none }
def getRacesRow : OpenClaim := { program := "ytkcimjcmlibgpaa", sum := "b250bdea2df9265524c9c6dfd430427fd8ce7dc6a983c32b1216eb590288e61f", func := "stackyard/stackyardlaw11.GetRaces", spec := "getRaces", unfollowed := true, recurses := true, apart := false }
def GetRacesSaid : Prop := getRacesRow.holds Try.pinned (OpenSpec.ofChange getRacesSpec)

/-- ITS FALSE NEIGHBOUR: 'it returns false'. Refute it at one input. -/
def getRacesWrong : ChangeSpec := { name := "getRaces", fn := fun _ => fun
  | [d1, d2, d3, d4, d5] => { results := [.lit (.bool false)], args := [d1, d2, d3, d4, d5] }
  | _ => none }
def GetRacesWrongFalsely : Prop := getRacesRow.holds Try.pinned (OpenSpec.ofChange getRacesWrong)

/-- 'stackyardlaw11.GetStarts': WHATEVER THE INPUT: true; the input reads as it did. -/
def getStartsSpec : ChangeSpec := { name := "getStarts", fn := fun _ => fun
  | [d1, d2, d3, d4, d5, d6] => { results := [.lit (.bool true)], args := [d1, d2, d3, d4, d5, d6] }
  | _ => none }
def getStartsRow : OpenClaim := { program := "ytkcimjcmlibgpaa", sum := "b250bdea2df9265524c9c6dfd430427fd8ce7dc6a983c32b1216eb590288e61f", func := "stackyard/stackyardlaw11.GetStarts", spec := "getStarts", unfollowed := true, recurses := true, apart := false }
def GetStartsSaid : Prop := getStartsRow.holds Try.pinned (OpenSpec.ofChange getStartsSpec)

/-- ITS FALSE NEIGHBOUR: 'it returns false'. Refute it at one input. -/
def getStartsWrong : ChangeSpec := { name := "getStarts", fn := fun _ => fun
  | [d1, d2, d3, d4, d5, d6] => { results := [.lit (.bool false)], args := [d1, d2, d3, d4, d5, d6] }
  | _ => none }
def GetStartsWrongFalsely : Prop := getStartsRow.holds Try.pinned (OpenSpec.ofChange getStartsWrong)

/-- 'stackyardlaw11.GetTries': WHATEVER THE INPUT: true; the input reads as it did. -/
def getTriesSpec : ChangeSpec := { name := "getTries", fn := fun _ => fun
  | [d1, d2, d3, d4, d5, d6] => { results := [.lit (.bool true)], args := [d1, d2, d3, d4, d5, d6] }
  | _ => none }
def getTriesRow : OpenClaim := { program := "ytkcimjcmlibgpaa", sum := "b250bdea2df9265524c9c6dfd430427fd8ce7dc6a983c32b1216eb590288e61f", func := "stackyard/stackyardlaw11.GetTries", spec := "getTries", unfollowed := true, recurses := true, apart := false }
def GetTriesSaid : Prop := getTriesRow.holds Try.pinned (OpenSpec.ofChange getTriesSpec)

/-- ITS FALSE NEIGHBOUR: 'it returns false'. Refute it at one input. -/
def getTriesWrong : ChangeSpec := { name := "getTries", fn := fun _ => fun
  | [d1, d2, d3, d4, d5, d6] => { results := [.lit (.bool false)], args := [d1, d2, d3, d4, d5, d6] }
  | _ => none }
def GetTriesWrongFalsely : Prop := getTriesRow.holds Try.pinned (OpenSpec.ofChange getTriesWrong)

/-- 'stackyardlaw11.GetAlone': WHATEVER THE INPUT: true; the input reads as it did. -/
def getAloneSpec : ChangeSpec := { name := "getAlone", fn := fun _ => fun
  | [d1, d2, d3, d4, d5, d6] => { results := [.lit (.bool true)], args := [d1, d2, d3, d4, d5, d6] }
  | _ => none }
def getAloneRow : OpenClaim := { program := "ytkcimjcmlibgpaa", sum := "b250bdea2df9265524c9c6dfd430427fd8ce7dc6a983c32b1216eb590288e61f", func := "stackyard/stackyardlaw11.GetAlone", spec := "getAlone", unfollowed := true, recurses := true, apart := false }
def GetAloneSaid : Prop := getAloneRow.holds Try.pinned (OpenSpec.ofChange getAloneSpec)

/-- ITS FALSE NEIGHBOUR: 'it returns false'. Refute it at one input. -/
def getAloneWrong : ChangeSpec := { name := "getAlone", fn := fun _ => fun
  | [d1, d2, d3, d4, d5, d6] => { results := [.lit (.bool false)], args := [d1, d2, d3, d4, d5, d6] }
  | _ => none }
def GetAloneWrongFalsely : Prop := getAloneRow.holds Try.pinned (OpenSpec.ofChange getAloneWrong)

/-- 'stackyardlaw11.GetSteps': WHATEVER THE INPUT: true; the input reads as it did. -/
def getStepsSpec : ChangeSpec := { name := "getSteps", fn := fun _ => fun
  | [d1, d2, d3, d4, d5, d6, d7] => { results := [.lit (.bool true)], args := [d1, d2, d3, d4, d5, d6, d7] }
  | _ => none }
def getStepsRow : OpenClaim := { program := "ytkcimjcmlibgpaa", sum := "b250bdea2df9265524c9c6dfd430427fd8ce7dc6a983c32b1216eb590288e61f", func := "stackyard/stackyardlaw11.GetSteps", spec := "getSteps", unfollowed := true, recurses := true, apart := false }
def GetStepsSaid : Prop := getStepsRow.holds Try.pinned (OpenSpec.ofChange getStepsSpec)

/-- ITS FALSE NEIGHBOUR: 'it returns false'. Refute it at one input. -/
def getStepsWrong : ChangeSpec := { name := "getSteps", fn := fun _ => fun
  | [d1, d2, d3, d4, d5, d6, d7] => { results := [.lit (.bool false)], args := [d1, d2, d3, d4, d5, d6, d7] }
  | _ => none }
def GetStepsWrongFalsely : Prop := getStepsRow.holds Try.pinned (OpenSpec.ofChange getStepsWrong)

/-- 'stackyardlaw12.TaskPairs': WHATEVER THE INPUT: true; the input reads as it did. -/
def taskPairsSpec : ChangeSpec := { name := "taskPairs", fn := fun _ => fun
  | [d1, d2, d3, d4, d5, d6] => { results := [.lit (.bool true)], args := [d1, d2, d3, d4, d5, d6] }
  | _ => none }
def taskPairsRow : OpenClaim := { program := "ytkcimjcmlibgpaa", sum := "b250bdea2df9265524c9c6dfd430427fd8ce7dc6a983c32b1216eb590288e61f", func := "stackyard/stackyardlaw12.TaskPairs", spec := "taskPairs", unfollowed := true, recurses := true, apart := false }
def TaskPairsSaid : Prop := taskPairsRow.holds Try.pinned (OpenSpec.ofChange taskPairsSpec)

/-- ITS FALSE NEIGHBOUR: 'it returns false'. Refute it at one input. -/
def taskPairsWrong : ChangeSpec := { name := "taskPairs", fn := fun _ => fun
  | [d1, d2, d3, d4, d5, d6] => { results := [.lit (.bool false)], args := [d1, d2, d3, d4, d5, d6] }
  | _ => none }
def TaskPairsWrongFalsely : Prop := taskPairsRow.holds Try.pinned (OpenSpec.ofChange taskPairsWrong)

/-- 'stackyardlaw12.TaskRests': WHATEVER THE INPUT: true; the input reads as it did. -/
def taskRestsSpec : ChangeSpec := { name := "taskRests", fn := fun _ => fun
  | [d1, d2, d3, d4, d5, d6, d7] => { results := [.lit (.bool true)], args := [d1, d2, d3, d4, d5, d6, d7] }
  | _ => none }
def taskRestsRow : OpenClaim := { program := "ytkcimjcmlibgpaa", sum := "b250bdea2df9265524c9c6dfd430427fd8ce7dc6a983c32b1216eb590288e61f", func := "stackyard/stackyardlaw12.TaskRests", spec := "taskRests", unfollowed := true, recurses := true, apart := false }
def TaskRestsSaid : Prop := taskRestsRow.holds Try.pinned (OpenSpec.ofChange taskRestsSpec)

/-- ITS FALSE NEIGHBOUR: 'it returns false'. Refute it at one input. -/
def taskRestsWrong : ChangeSpec := { name := "taskRests", fn := fun _ => fun
  | [d1, d2, d3, d4, d5, d6, d7] => { results := [.lit (.bool false)], args := [d1, d2, d3, d4, d5, d6, d7] }
  | _ => none }
def TaskRestsWrongFalsely : Prop := taskRestsRow.holds Try.pinned (OpenSpec.ofChange taskRestsWrong)

/-- 'stackyardlaw12.TaskRights': WHATEVER THE INPUT: true; the input reads as it did. -/
def taskRightsSpec : ChangeSpec := { name := "taskRights", fn := fun _ => fun
  | [d1, d2, d3, d4] => { results := [.lit (.bool true)], args := [d1, d2, d3, d4] }
  | _ => none }
def taskRightsRow : OpenClaim := { program := "ytkcimjcmlibgpaa", sum := "b250bdea2df9265524c9c6dfd430427fd8ce7dc6a983c32b1216eb590288e61f", func := "stackyard/stackyardlaw12.TaskRights", spec := "taskRights", unfollowed := true, recurses := true, apart := false }
def TaskRightsSaid : Prop := taskRightsRow.holds Try.pinned (OpenSpec.ofChange taskRightsSpec)

/-- ITS FALSE NEIGHBOUR: 'it returns false'. Refute it at one input. -/
def taskRightsWrong : ChangeSpec := { name := "taskRights", fn := fun _ => fun
  | [d1, d2, d3, d4] => { results := [.lit (.bool false)], args := [d1, d2, d3, d4] }
  | _ => none }
def TaskRightsWrongFalsely : Prop := taskRightsRow.holds Try.pinned (OpenSpec.ofChange taskRightsWrong)

/-- 'stackyardlaw12.TaskSteps': WHATEVER THE INPUT: true; the input reads as it did. -/
def taskStepsSpec : ChangeSpec := { name := "taskSteps", fn := fun _ => fun
  | [d1, d2, d3, d4, d5, d6, d7, d8, d9] => { results := [.lit (.bool true)], args := [d1, d2, d3, d4, d5, d6, d7, d8, d9] }
  | _ => none }
def taskStepsRow : OpenClaim := { program := "ytkcimjcmlibgpaa", sum := "b250bdea2df9265524c9c6dfd430427fd8ce7dc6a983c32b1216eb590288e61f", func := "stackyard/stackyardlaw12.TaskSteps", spec := "taskSteps", unfollowed := true, recurses := true, apart := false }
def TaskStepsSaid : Prop := taskStepsRow.holds Try.pinned (OpenSpec.ofChange taskStepsSpec)

/-- ITS FALSE NEIGHBOUR: 'it returns false'. Refute it at one input. -/
def taskStepsWrong : ChangeSpec := { name := "taskSteps", fn := fun _ => fun
  | [d1, d2, d3, d4, d5, d6, d7, d8, d9] => { results := [.lit (.bool false)], args := [d1, d2, d3, d4, d5, d6, d7, d8, d9] }
  | _ => none }
def TaskStepsWrongFalsely : Prop := taskStepsRow.holds Try.pinned (OpenSpec.ofChange taskStepsWrong)

/- THE SECOND FORM. 'bulk': how many values and letters a reading holds, each counted each time it is reached (what is shared counts as often as it is met; a slice's spare places count too). A statement '..UptoSaid' is the law's where the arguments, and the package variables that the reading takes, are together of bulk at most 1048576: NARROWER than '..Said'. Prove '..Said' where nothing that the law and all that it calls make is longer than what came in: it says more and counts as full. Else prove '..UptoSaid'. A law counts once. -/
mutual
def uptoBulk {H : Type} : DataW H → Nat
  | .lit (.string bytes) => bytes.length + 1
  | .lit _ => 1
  | .nil => 1
  | .ptr d => uptoBulk d + 1
  | .slice elems spare => uptoBulkAll elems + uptoBulkAll spare + 1
  | .agg parts => uptoBulkAll parts + 1
  | .iface _ d => uptoBulk d + 1
  | .map entries => uptoBulkEntries entries + 1
  | .held _ => 1
def uptoBulkAll {H : Type} : List (DataW H) → Nat
  | [] => 0
  | d :: r => uptoBulk d + uptoBulkAll r
def uptoBulkEntries {H : Type} : List (Lit × DataW H) → Nat
  | [] => 0
  | x :: r => uptoBulkEntry x + uptoBulkEntries r
def uptoBulkEntry {H : Type} : Lit × DataW H → Nat
  | (.string bytes, d) => bytes.length + uptoBulk d + 1
  | (_, d) => uptoBulk d + 1
 end
def uptoSmall : (H : Type) → List (DataW H) → Bool := fun _ ds => decide (uptoBulkAll ds ≤ 1048576)
def OpenSpec.upto (s : _root_.Go.ChangeSpec) : _root_.Go.OpenSpec := { _root_.Go.OpenSpec.ofChange s with cond := some uptoSmall }

/-- 'stackyardlaw11.GetRow', WHERE WHAT IT READS IS OF BULK AT MOST 1048576: true; the input reads as it did. -/
def getRowUptoRow : OpenClaim := { program := "ytkcimjcmlibgpaa", sum := "b250bdea2df9265524c9c6dfd430427fd8ce7dc6a983c32b1216eb590288e61f", func := "stackyard/stackyardlaw11.GetRow", spec := "getRow", unfollowed := true, recurses := true, apart := false, narrowed := true }
def GetRowUptoSaid : Prop := getRowUptoRow.holds Try.pinned (OpenSpec.upto getRowSpec)

/-- 'stackyardlaw11.GetRaces', WHERE WHAT IT READS IS OF BULK AT MOST 1048576: true; the input reads as it did. -/
def getRacesUptoRow : OpenClaim := { program := "ytkcimjcmlibgpaa", sum := "b250bdea2df9265524c9c6dfd430427fd8ce7dc6a983c32b1216eb590288e61f", func := "stackyard/stackyardlaw11.GetRaces", spec := "getRaces", unfollowed := true, recurses := true, apart := false, narrowed := true }
def GetRacesUptoSaid : Prop := getRacesUptoRow.holds Try.pinned (OpenSpec.upto getRacesSpec)

/-- 'stackyardlaw11.GetStarts', WHERE WHAT IT READS IS OF BULK AT MOST 1048576: true; the input reads as it did. -/
def getStartsUptoRow : OpenClaim := { program := "ytkcimjcmlibgpaa", sum := "b250bdea2df9265524c9c6dfd430427fd8ce7dc6a983c32b1216eb590288e61f", func := "stackyard/stackyardlaw11.GetStarts", spec := "getStarts", unfollowed := true, recurses := true, apart := false, narrowed := true }
def GetStartsUptoSaid : Prop := getStartsUptoRow.holds Try.pinned (OpenSpec.upto getStartsSpec)

/-- 'stackyardlaw11.GetTries', WHERE WHAT IT READS IS OF BULK AT MOST 1048576: true; the input reads as it did. -/
def getTriesUptoRow : OpenClaim := { program := "ytkcimjcmlibgpaa", sum := "b250bdea2df9265524c9c6dfd430427fd8ce7dc6a983c32b1216eb590288e61f", func := "stackyard/stackyardlaw11.GetTries", spec := "getTries", unfollowed := true, recurses := true, apart := false, narrowed := true }
def GetTriesUptoSaid : Prop := getTriesUptoRow.holds Try.pinned (OpenSpec.upto getTriesSpec)

/-- 'stackyardlaw11.GetAlone', WHERE WHAT IT READS IS OF BULK AT MOST 1048576: true; the input reads as it did. -/
def getAloneUptoRow : OpenClaim := { program := "ytkcimjcmlibgpaa", sum := "b250bdea2df9265524c9c6dfd430427fd8ce7dc6a983c32b1216eb590288e61f", func := "stackyard/stackyardlaw11.GetAlone", spec := "getAlone", unfollowed := true, recurses := true, apart := false, narrowed := true }
def GetAloneUptoSaid : Prop := getAloneUptoRow.holds Try.pinned (OpenSpec.upto getAloneSpec)

/-- 'stackyardlaw11.GetSteps', WHERE WHAT IT READS IS OF BULK AT MOST 1048576: true; the input reads as it did. -/
def getStepsUptoRow : OpenClaim := { program := "ytkcimjcmlibgpaa", sum := "b250bdea2df9265524c9c6dfd430427fd8ce7dc6a983c32b1216eb590288e61f", func := "stackyard/stackyardlaw11.GetSteps", spec := "getSteps", unfollowed := true, recurses := true, apart := false, narrowed := true }
def GetStepsUptoSaid : Prop := getStepsUptoRow.holds Try.pinned (OpenSpec.upto getStepsSpec)

/-- 'stackyardlaw12.TaskPairs', WHERE WHAT IT READS IS OF BULK AT MOST 1048576: true; the input reads as it did. -/
def taskPairsUptoRow : OpenClaim := { program := "ytkcimjcmlibgpaa", sum := "b250bdea2df9265524c9c6dfd430427fd8ce7dc6a983c32b1216eb590288e61f", func := "stackyard/stackyardlaw12.TaskPairs", spec := "taskPairs", unfollowed := true, recurses := true, apart := false, narrowed := true }
def TaskPairsUptoSaid : Prop := taskPairsUptoRow.holds Try.pinned (OpenSpec.upto taskPairsSpec)

/-- 'stackyardlaw12.TaskRests', WHERE WHAT IT READS IS OF BULK AT MOST 1048576: true; the input reads as it did. -/
def taskRestsUptoRow : OpenClaim := { program := "ytkcimjcmlibgpaa", sum := "b250bdea2df9265524c9c6dfd430427fd8ce7dc6a983c32b1216eb590288e61f", func := "stackyard/stackyardlaw12.TaskRests", spec := "taskRests", unfollowed := true, recurses := true, apart := false, narrowed := true }
def TaskRestsUptoSaid : Prop := taskRestsUptoRow.holds Try.pinned (OpenSpec.upto taskRestsSpec)

/-- 'stackyardlaw12.TaskRights', WHERE WHAT IT READS IS OF BULK AT MOST 1048576: true; the input reads as it did. -/
def taskRightsUptoRow : OpenClaim := { program := "ytkcimjcmlibgpaa", sum := "b250bdea2df9265524c9c6dfd430427fd8ce7dc6a983c32b1216eb590288e61f", func := "stackyard/stackyardlaw12.TaskRights", spec := "taskRights", unfollowed := true, recurses := true, apart := false, narrowed := true }
def TaskRightsUptoSaid : Prop := taskRightsUptoRow.holds Try.pinned (OpenSpec.upto taskRightsSpec)

/-- 'stackyardlaw12.TaskSteps', WHERE WHAT IT READS IS OF BULK AT MOST 1048576: true; the input reads as it did. -/
def taskStepsUptoRow : OpenClaim := { program := "ytkcimjcmlibgpaa", sum := "b250bdea2df9265524c9c6dfd430427fd8ce7dc6a983c32b1216eb590288e61f", func := "stackyard/stackyardlaw12.TaskSteps", spec := "taskSteps", unfollowed := true, recurses := true, apart := false, narrowed := true }
def TaskStepsUptoSaid : Prop := taskStepsUptoRow.holds Try.pinned (OpenSpec.upto taskStepsSpec)

end Rows
end Go.Proofs.Ytkcimjcmlibgpaa
