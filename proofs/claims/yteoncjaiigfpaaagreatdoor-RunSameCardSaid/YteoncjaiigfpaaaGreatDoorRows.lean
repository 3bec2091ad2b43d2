/-
  NARROWER THAN 'FOR EVERY INPUT', by the rows' own cells (each row's printed sentence says how): RunOnce: laid · RunSame: laid · RunLaid: laid · BoundRuns: laid.
  DERIVED. THE GIVEN ROWS OF THIS SEAT. 4 by the template 'for every input the law returns true; each argument reads behind the call as it read before'; 0 by the template 'total and deterministic' (their statements: YteoncjaiigfpaaaGreatDoorTotals.lean).
  GIVEN WITH THE SEED: the statements are not yours to turn. If you find one false, say at which input.
  Laid BY PROGRAM, IN A SANDBOX (cutbox-rows.mjs): the forced cells as the released guide's own fill.sh prints them over the translation bd46b95527edadb7… (all of the seat's roots in one cut). By AI agents, Wed Nov 11 2026. No macro, syntax, notation, axiom, sorry.
-/
import Derived.Test.YteoncjaiigfpaaaGreatDoorChecked
import GoSem.Claim
import GoSem.ClaimJoined
import GoSem.ClaimMapViews
import Derived.JoinedTies
import Derived.KernelRfl
namespace Go.Proofs.YteoncjaiigfpaaaGreatDoor
/- THE CELL 'sum', in the pinned program and in every row, IS THE sha256 OF THE DUMP (.gsa) THAT YteoncjaiigfpaaaGreatDoorProg.lean LOADS. Nothing in Lean hashes anything: it is a label: what it is worth is what the hold of that sum in a sandbox is worth. -/
noncomputable def Tryz.pinned : Pinned := { name := "yteoncjaiigfpaaagreatdoor", sum := "bd46b95527edadb79ca3fd34b14e809962975031eb0daef4fcb0f4f6c1ec3074", checked := Tryz.checked }
namespace Rows
def none {H : Type} : Left H := { results := [], args := [] }

/- WHAT THE LISTED PACKAGE-LEVEL VARIABLES READ AS WHEN THE CALL BEGINS. Each datum BY PROGRAM (the guide's laid-datum.mjs) off the statement by which the dump's own 'gosem.cut.vars' lays the variable. In a bare row this is a premise. The card (YteoncjaiigfpaaaGreatDoorCards.lean) ties it to the program's text. -/
def laid_underwood_deque_kinds {H : Type} : DataW H := .iface "func table" (.agg [.nil, .nil, .nil, .nil, .nil, .nil, .nil, .nil, .iface "func" (.lit (.string [40, 117, 110, 100, 101, 114, 119, 111, 111, 100, 47, 100, 101, 113, 117, 101, 46, 119, 111, 114, 107, 41, 46, 112, 117, 115, 104])), .iface "func" (.lit (.string [40, 117, 110, 100, 101, 114, 119, 111, 111, 100, 47, 100, 101, 113, 117, 101, 46, 119, 111, 114, 107, 41, 46, 112, 111, 112])), .iface "func" (.lit (.string [40, 117, 110, 100, 101, 114, 119, 111, 111, 100, 47, 100, 101, 113, 117, 101, 46, 119, 111, 114, 107, 41, 46, 115, 116, 101, 97, 108]))])
def laid_underwood_obj_programs {H : Type} : DataW H := .iface "func table" (.agg [.agg [.nil], .agg [.iface "func" (.lit (.string [117, 110, 100, 101, 114, 119, 111, 111, 100, 47, 115, 112, 108, 105, 116, 46, 78, 101, 120, 116]))], .agg [.iface "func" (.lit (.string [117, 110, 100, 101, 114, 119, 111, 111, 100, 47, 115, 112, 108, 105, 116, 46, 78, 101, 120, 116]))], .agg [.iface "func" (.lit (.string [117, 110, 100, 101, 114, 119, 111, 111, 100, 47, 115, 112, 108, 105, 116, 46, 78, 101, 120, 116]))], .agg [.iface "func" (.lit (.string [117, 110, 100, 101, 114, 119, 111, 111, 100, 47, 101, 108, 105, 109, 46, 78, 101, 120, 116]))], .agg [.iface "func" (.lit (.string [117, 110, 100, 101, 114, 119, 111, 111, 100, 47, 101, 108, 105, 109, 46, 78, 101, 120, 116]))], .agg [.iface "func" (.lit (.string [117, 110, 100, 101, 114, 119, 111, 111, 100, 47, 115, 101, 103, 109, 101, 110, 116, 46, 78, 101, 120, 116]))], .agg [.iface "func" (.lit (.string [117, 110, 100, 101, 114, 119, 111, 111, 100, 47, 115, 101, 103, 109, 101, 110, 116, 46, 78, 101, 120, 116]))]])
def laid_underwood_vm_all {H : Type} : DataW H := .iface "func table" (.agg [.agg [.nil], .agg [.iface "func" (.lit (.string [117, 110, 100, 101, 114, 119, 111, 111, 100, 47, 118, 109, 46, 97, 108, 108, 36, 49]))], .agg [.iface "func" (.lit (.string [117, 110, 100, 101, 114, 119, 111, 111, 100, 47, 118, 109, 46, 97, 108, 108, 36, 50]))], .agg [.iface "func" (.lit (.string [117, 110, 100, 101, 114, 119, 111, 111, 100, 47, 118, 109, 46, 97, 108, 108, 36, 51]))], .agg [.iface "func" (.lit (.string [117, 110, 100, 101, 114, 119, 111, 111, 100, 47, 118, 109, 46, 97, 108, 108, 36, 52]))], .agg [.iface "func" (.lit (.string [117, 110, 100, 101, 114, 119, 111, 111, 100, 47, 118, 109, 46, 97, 108, 108, 36, 53]))], .agg [.iface "func" (.lit (.string [117, 110, 100, 101, 114, 119, 111, 111, 100, 47, 118, 109, 46, 97, 108, 108, 36, 54]))], .agg [.iface "func" (.lit (.string [117, 110, 100, 101, 114, 119, 111, 111, 100, 47, 118, 109, 46, 97, 108, 108, 36, 55]))], .agg [.iface "func" (.lit (.string [117, 110, 100, 101, 114, 119, 111, 111, 100, 47, 118, 109, 46, 97, 108, 108, 36, 56]))], .agg [.iface "func" (.lit (.string [117, 110, 100, 101, 114, 119, 111, 111, 100, 47, 118, 109, 46, 97, 108, 108, 36, 57]))], .agg [.iface "func" (.lit (.string [117, 110, 100, 101, 114, 119, 111, 111, 100, 47, 118, 109, 46, 97, 108, 108, 36, 49, 48]))], .agg [.iface "func" (.lit (.string [40, 42, 117, 110, 100, 101, 114, 119, 111, 111, 100, 47, 118, 109, 46, 114, 117, 110, 41, 46, 99, 97, 108, 108]))], .agg [.iface "func" (.lit (.string [117, 110, 100, 101, 114, 119, 111, 111, 100, 47, 118, 109, 46, 97, 108, 108, 36, 49, 49]))], .agg [.iface "func" (.lit (.string [40, 42, 117, 110, 100, 101, 114, 119, 111, 111, 100, 47, 118, 109, 46, 114, 117, 110, 41, 46, 115, 112, 97, 119, 110]))], .agg [.iface "func" (.lit (.string [117, 110, 100, 101, 114, 119, 111, 111, 100, 47, 118, 109, 46, 97, 108, 108, 36, 49, 50]))], .agg [.iface "func" (.lit (.string [117, 110, 100, 101, 114, 119, 111, 111, 100, 47, 118, 109, 46, 97, 108, 108, 36, 49, 51]))], .agg [.iface "func" (.lit (.string [117, 110, 100, 101, 114, 119, 111, 111, 100, 47, 118, 109, 46, 97, 108, 108, 36, 49, 52]))], .agg [.iface "func" (.lit (.string [117, 110, 100, 101, 114, 119, 111, 111, 100, 47, 118, 109, 46, 97, 108, 108, 36, 49, 53]))], .agg [.iface "func" (.lit (.string [117, 110, 100, 101, 114, 119, 111, 111, 100, 47, 118, 109, 46, 97, 108, 108, 36, 49, 54]))], .agg [.iface "func" (.lit (.string [117, 110, 100, 101, 114, 119, 111, 111, 100, 47, 118, 109, 46, 97, 108, 108, 36, 49, 55]))]])

/-- 'underwoodlaw31.RunOnce': WHATEVER THE INPUT: true; the input reads as it did. -/
def runOnceSpec : ChangeSpec := { name := "runOnce", fn := fun _ => fun
  | [d1, d2, d3, d4] => { results := [.lit (.bool true)], args := [d1, d2, d3, d4] }
  | _ => none }
def runOnceRow : OpenClaim := { program := "yteoncjaiigfpaaagreatdoor", sum := "bd46b95527edadb79ca3fd34b14e809962975031eb0daef4fcb0f4f6c1ec3074", func := "underwood/underwoodlaw31.RunOnce", spec := "runOnce", unfollowed := true, recurses := true, named := ["underwood/vm.all", "underwood/obj.programs", "underwood/deque.kinds"], apart := false, laid := [("underwood/deque.kinds", laid_underwood_deque_kinds), ("underwood/obj.programs", laid_underwood_obj_programs), ("underwood/vm.all", laid_underwood_vm_all)] }
def RunOnceSaid : Prop := runOnceRow.holds Tryz.pinned (OpenSpec.ofChange runOnceSpec)

/-- ITS FALSE NEIGHBOUR: 'it returns false'. Refute it at one input. -/
def runOnceWrong : ChangeSpec := { name := "runOnce", fn := fun _ => fun
  | [d1, d2, d3, d4] => { results := [.lit (.bool false)], args := [d1, d2, d3, d4] }
  | _ => none }
def RunOnceWrongFalsely : Prop := runOnceRow.holds Tryz.pinned (OpenSpec.ofChange runOnceWrong)

/-- 'underwoodlaw31.RunSame': WHATEVER THE INPUT: true; the input reads as it did. -/
def runSameSpec : ChangeSpec := { name := "runSame", fn := fun _ => fun
  | [d1, d2] => { results := [.lit (.bool true)], args := [d1, d2] }
  | _ => none }
def runSameRow : OpenClaim := { program := "yteoncjaiigfpaaagreatdoor", sum := "bd46b95527edadb79ca3fd34b14e809962975031eb0daef4fcb0f4f6c1ec3074", func := "underwood/underwoodlaw31.RunSame", spec := "runSame", unfollowed := true, recurses := true, named := ["underwood/vm.all", "underwood/obj.programs", "underwood/deque.kinds"], apart := false, laid := [("underwood/deque.kinds", laid_underwood_deque_kinds), ("underwood/obj.programs", laid_underwood_obj_programs), ("underwood/vm.all", laid_underwood_vm_all)] }
def RunSameSaid : Prop := runSameRow.holds Tryz.pinned (OpenSpec.ofChange runSameSpec)

/-- ITS FALSE NEIGHBOUR: 'it returns false'. Refute it at one input. -/
def runSameWrong : ChangeSpec := { name := "runSame", fn := fun _ => fun
  | [d1, d2] => { results := [.lit (.bool false)], args := [d1, d2] }
  | _ => none }
def RunSameWrongFalsely : Prop := runSameRow.holds Tryz.pinned (OpenSpec.ofChange runSameWrong)

/-- 'underwoodlaw31.RunLaid': WHATEVER THE INPUT: true; the input reads as it did. -/
def runLaidSpec : ChangeSpec := { name := "runLaid", fn := fun _ => fun
  | [d1, d2, d3, d4] => { results := [.lit (.bool true)], args := [d1, d2, d3, d4] }
  | _ => none }
def runLaidRow : OpenClaim := { program := "yteoncjaiigfpaaagreatdoor", sum := "bd46b95527edadb79ca3fd34b14e809962975031eb0daef4fcb0f4f6c1ec3074", func := "underwood/underwoodlaw31.RunLaid", spec := "runLaid", unfollowed := true, recurses := true, named := ["underwood/vm.all", "underwood/obj.programs", "underwood/deque.kinds"], apart := false, laid := [("underwood/deque.kinds", laid_underwood_deque_kinds), ("underwood/obj.programs", laid_underwood_obj_programs), ("underwood/vm.all", laid_underwood_vm_all)] }
def RunLaidSaid : Prop := runLaidRow.holds Tryz.pinned (OpenSpec.ofChange runLaidSpec)

/-- ITS FALSE NEIGHBOUR: 'it returns false'. Refute it at one input. -/
def runLaidWrong : ChangeSpec := { name := "runLaid", fn := fun _ => fun
  | [d1, d2, d3, d4] => { results := [.lit (.bool false)], args := [d1, d2, d3, d4] }
  | _ => none }
def RunLaidWrongFalsely : Prop := runLaidRow.holds Tryz.pinned (OpenSpec.ofChange runLaidWrong)

/-- 'underwoodlaw35.BoundRuns': WHATEVER THE INPUT: true; the input reads as it did. -/
def boundRunsSpec : ChangeSpec := { name := "boundRuns", fn := fun _ => fun
  | [d1, d2, d3] => { results := [.lit (.bool true)], args := [d1, d2, d3] }
  | _ => none }
def boundRunsRow : OpenClaim := { program := "yteoncjaiigfpaaagreatdoor", sum := "bd46b95527edadb79ca3fd34b14e809962975031eb0daef4fcb0f4f6c1ec3074", func := "underwood/underwoodlaw35.BoundRuns", spec := "boundRuns", unfollowed := true, recurses := true, named := ["underwood/vm.all", "underwood/obj.programs", "underwood/deque.kinds"], apart := false, laid := [("underwood/deque.kinds", laid_underwood_deque_kinds), ("underwood/obj.programs", laid_underwood_obj_programs), ("underwood/vm.all", laid_underwood_vm_all)] }
def BoundRunsSaid : Prop := boundRunsRow.holds Tryz.pinned (OpenSpec.ofChange boundRunsSpec)

/-- ITS FALSE NEIGHBOUR: 'it returns false'. Refute it at one input. -/
def boundRunsWrong : ChangeSpec := { name := "boundRuns", fn := fun _ => fun
  | [d1, d2, d3] => { results := [.lit (.bool false)], args := [d1, d2, d3] }
  | _ => none }
def BoundRunsWrongFalsely : Prop := boundRunsRow.holds Tryz.pinned (OpenSpec.ofChange boundRunsWrong)

/- THE SECOND FORM. 'bulk': how many values and letters a reading holds, each counted each time it is reached (what is shared counts as often as it is met; a slice's spare places count too). A statement '..UptoSaid' is the law's where the arguments, and the package variables that the reading takes, are together of bulk at most 1048576: NARROWER than '..Said'. Prove '..Said' where nothing that the law and all that it calls make is longer than what came in: it says more and counts as full. Else prove '..UptoSaid'. A law counts once. -/
mutual
def uptoBulk {H : Type} : DataW H → Nat
  | .lit (.string bytes) => bytes.length + 1
  | .lit _ => 1
  | .nil => 1
  | .ptr d => uptoBulk d + 1
  | .slice elems spare => uptoBulkAll elems + uptoBulkAll spare + 1
  | .agg parts => uptoBulkAll parts + 1
  | .iface _ d => uptoBulk d + 1
  | .map entries => uptoBulkEntries entries + 1
  | .held _ => 1
def uptoBulkAll {H : Type} : List (DataW H) → Nat
  | [] => 0
  | d :: r => uptoBulk d + uptoBulkAll r
def uptoBulkEntries {H : Type} : List (Lit × DataW H) → Nat
  | [] => 0
  | x :: r => uptoBulkEntry x + uptoBulkEntries r
def uptoBulkEntry {H : Type} : Lit × DataW H → Nat
  | (.string bytes, d) => bytes.length + uptoBulk d + 1
  | (_, d) => uptoBulk d + 1
 end
def uptoSmall : (H : Type) → List (DataW H) → Bool := fun _ ds => decide (uptoBulkAll ds ≤ 1048576)
def OpenSpec.upto (s : _root_.Go.ChangeSpec) : _root_.Go.OpenSpec := { _root_.Go.OpenSpec.ofChange s with cond := some uptoSmall }

/-- 'underwoodlaw31.RunOnce', WHERE WHAT IT READS IS OF BULK AT MOST 1048576: true; the input reads as it did. -/
def runOnceUptoRow : OpenClaim := { program := "yteoncjaiigfpaaagreatdoor", sum := "bd46b95527edadb79ca3fd34b14e809962975031eb0daef4fcb0f4f6c1ec3074", func := "underwood/underwoodlaw31.RunOnce", spec := "runOnce", unfollowed := true, recurses := true, named := ["underwood/vm.all", "underwood/obj.programs", "underwood/deque.kinds"], apart := false, laid := [("underwood/deque.kinds", laid_underwood_deque_kinds), ("underwood/obj.programs", laid_underwood_obj_programs), ("underwood/vm.all", laid_underwood_vm_all)], narrowed := true }
def RunOnceUptoSaid : Prop := runOnceUptoRow.holds Tryz.pinned (OpenSpec.upto runOnceSpec)

/-- 'underwoodlaw31.RunSame', WHERE WHAT IT READS IS OF BULK AT MOST 1048576: true; the input reads as it did. -/
def runSameUptoRow : OpenClaim := { program := "yteoncjaiigfpaaagreatdoor", sum := "bd46b95527edadb79ca3fd34b14e809962975031eb0daef4fcb0f4f6c1ec3074", func := "underwood/underwoodlaw31.RunSame", spec := "runSame", unfollowed := true, recurses := true, named := ["underwood/vm.all", "underwood/obj.programs", "underwood/deque.kinds"], apart := false, laid := [("underwood/deque.kinds", laid_underwood_deque_kinds), ("underwood/obj.programs", laid_underwood_obj_programs), ("underwood/vm.all", laid_underwood_vm_all)], narrowed := true }
def RunSameUptoSaid : Prop := runSameUptoRow.holds Tryz.pinned (OpenSpec.upto runSameSpec)

/-- 'underwoodlaw31.RunLaid', WHERE WHAT IT READS IS OF BULK AT MOST 1048576: true; the input reads as it did. -/
def runLaidUptoRow : OpenClaim := { program := "yteoncjaiigfpaaagreatdoor", sum := "bd46b95527edadb79ca3fd34b14e809962975031eb0daef4fcb0f4f6c1ec3074", func := "underwood/underwoodlaw31.RunLaid", spec := "runLaid", unfollowed := true, recurses := true, named := ["underwood/vm.all", "underwood/obj.programs", "underwood/deque.kinds"], apart := false, laid := [("underwood/deque.kinds", laid_underwood_deque_kinds), ("underwood/obj.programs", laid_underwood_obj_programs), ("underwood/vm.all", laid_underwood_vm_all)], narrowed := true }
def RunLaidUptoSaid : Prop := runLaidUptoRow.holds Tryz.pinned (OpenSpec.upto runLaidSpec)

/-- 'underwoodlaw35.BoundRuns', WHERE WHAT IT READS IS OF BULK AT MOST 1048576: true; the input reads as it did. -/
def boundRunsUptoRow : OpenClaim := { program := "yteoncjaiigfpaaagreatdoor", sum := "bd46b95527edadb79ca3fd34b14e809962975031eb0daef4fcb0f4f6c1ec3074", func := "underwood/underwoodlaw35.BoundRuns", spec := "boundRuns", unfollowed := true, recurses := true, named := ["underwood/vm.all", "underwood/obj.programs", "underwood/deque.kinds"], apart := false, laid := [("underwood/deque.kinds", laid_underwood_deque_kinds), ("underwood/obj.programs", laid_underwood_obj_programs), ("underwood/vm.all", laid_underwood_vm_all)], narrowed := true }
def BoundRunsUptoSaid : Prop := boundRunsUptoRow.holds Tryz.pinned (OpenSpec.upto boundRunsSpec)

end Rows
end Go.Proofs.YteoncjaiigfpaaaGreatDoor
