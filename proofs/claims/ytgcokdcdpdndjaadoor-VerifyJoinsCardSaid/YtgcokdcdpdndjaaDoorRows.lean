/-
  NARROWER THAN 'FOR EVERY INPUT', by the rows' own cells (each row's printed sentence says how): FlowOwn: laid · JudgeFirst: laid · VerifyMaps: laid · VerifyRight: laid · VerifyNever: laid · VerifyLoops: laid · VerifyJoins: laid · VerifyOwn: laid · IrCompiles: laid · IrFits: laid.
  DERIVED. THE GIVEN ROWS OF THIS SEAT. 10 by the template 'for every input the law returns true; each argument reads behind the call as it read before'; 0 by the template 'total and deterministic' (their statements: YtgcokdcdpdndjaaDoorTotals.lean).
  GIVEN WITH THE SEED: the statements are not yours to turn. If you find one false, say at which input.
  Laid BY PROGRAM, IN A SANDBOX (cutbox-rows.mjs): the forced cells as the released guide's own fill.sh prints them over the translation 4ebc372c9649af70… (all of the seat's roots in one cut). By AI agents, Wed Nov 11 2026. No macro, syntax, notation, axiom, sorry.
-/
import Derived.Test.YtgcokdcdpdndjaaDoorChecked
import GoSem.Claim
import GoSem.ClaimJoined
import GoSem.ClaimMapViews
import Derived.JoinedTies
import Derived.KernelRfl
namespace Go.Proofs.YtgcokdcdpdndjaaDoor
/- THE CELL 'sum', in the pinned program and in every row, IS THE sha256 OF THE DUMP (.gsa) THAT YtgcokdcdpdndjaaDoorProg.lean LOADS. Nothing in Lean hashes anything: it is a label: what it is worth is what the hold of that sum in a sandbox is worth. -/
noncomputable def Tryd.pinned : Pinned := { name := "ytgcokdcdpdndjaadoor", sum := "4ebc372c9649af70c624de4ca492eff680b11c0421ad07834c70b3b42b458ca1", checked := Tryd.checked }
namespace Rows
def none {H : Type} : Left H := { results := [], args := [] }

/- WHAT THE LISTED PACKAGE-LEVEL VARIABLES READ AS WHEN THE CALL BEGINS. Each datum BY PROGRAM (the guide's laid-datum.mjs) off the statement by which the dump's own 'gosem.cut.vars' lays the variable. In a bare row this is a premise. The card (YtgcokdcdpdndjaaDoorCards.lean) ties it to the program's text. -/
def laid_chrysalis_flow_number {H : Type} : DataW H := .agg [.lit (.int .i64 1), .lit (.int .i64 0)]
def laid_chrysalis_flow_octets {H : Type} : DataW H := .agg [.lit (.int .i64 2), .lit (.int .i64 0)]
def laid_chrysalis_flow_words {H : Type} : DataW H := .agg [.lit (.int .i64 3), .lit (.int .i64 0)]
def laid_chrysalis_flow_refs {H : Type} : DataW H := .agg [.lit (.int .i64 7), .lit (.int .i64 0)]
def laid_chrysalis_flow_use {H : Type} : DataW H := .agg [.lit (.int .i64 8), .lit (.int .i64 0)]

/-- 'chrysalislaw08.FlowOwn': WHATEVER THE INPUT: true; the input reads as it did. -/
def flowOwnSpec : ChangeSpec := { name := "flowOwn", fn := fun _ => fun
  | [d1, d2, d3, d4] => { results := [.lit (.bool true)], args := [d1, d2, d3, d4] }
  | _ => none }
def flowOwnRow : OpenClaim := { program := "ytgcokdcdpdndjaadoor", sum := "4ebc372c9649af70c624de4ca492eff680b11c0421ad07834c70b3b42b458ca1", func := "chrysalis/chrysalislaw08.FlowOwn", spec := "flowOwn", unfollowed := true, recurses := true, named := ["chrysalis/flow.use", "chrysalis/flow.number", "chrysalis/flow.words", "chrysalis/flow.octets", "chrysalis/flow.refs"], apart := false, laid := [("chrysalis/flow.number", laid_chrysalis_flow_number), ("chrysalis/flow.octets", laid_chrysalis_flow_octets), ("chrysalis/flow.words", laid_chrysalis_flow_words), ("chrysalis/flow.refs", laid_chrysalis_flow_refs), ("chrysalis/flow.use", laid_chrysalis_flow_use)] }
def FlowOwnSaid : Prop := flowOwnRow.holds Tryd.pinned (OpenSpec.ofChange flowOwnSpec)

/-- ITS FALSE NEIGHBOUR: 'it returns false'. Refute it at one input. -/
def flowOwnWrong : ChangeSpec := { name := "flowOwn", fn := fun _ => fun
  | [d1, d2, d3, d4] => { results := [.lit (.bool false)], args := [d1, d2, d3, d4] }
  | _ => none }
def FlowOwnWrongFalsely : Prop := flowOwnRow.holds Tryd.pinned (OpenSpec.ofChange flowOwnWrong)

/-- 'chrysalislaw10.JudgeFirst': WHATEVER THE INPUT: true; the input reads as it did. -/
def judgeFirstSpec : ChangeSpec := { name := "judgeFirst", fn := fun _ => fun
  | [d1, d2, d3] => { results := [.lit (.bool true)], args := [d1, d2, d3] }
  | _ => none }
def judgeFirstRow : OpenClaim := { program := "ytgcokdcdpdndjaadoor", sum := "4ebc372c9649af70c624de4ca492eff680b11c0421ad07834c70b3b42b458ca1", func := "chrysalis/chrysalislaw10.JudgeFirst", spec := "judgeFirst", unfollowed := true, recurses := true, named := ["chrysalis/flow.use", "chrysalis/flow.number", "chrysalis/flow.words", "chrysalis/flow.octets", "chrysalis/flow.refs"], apart := false, laid := [("chrysalis/flow.number", laid_chrysalis_flow_number), ("chrysalis/flow.octets", laid_chrysalis_flow_octets), ("chrysalis/flow.words", laid_chrysalis_flow_words), ("chrysalis/flow.refs", laid_chrysalis_flow_refs), ("chrysalis/flow.use", laid_chrysalis_flow_use)] }
def JudgeFirstSaid : Prop := judgeFirstRow.holds Tryd.pinned (OpenSpec.ofChange judgeFirstSpec)

/-- ITS FALSE NEIGHBOUR: 'it returns false'. Refute it at one input. -/
def judgeFirstWrong : ChangeSpec := { name := "judgeFirst", fn := fun _ => fun
  | [d1, d2, d3] => { results := [.lit (.bool false)], args := [d1, d2, d3] }
  | _ => none }
def JudgeFirstWrongFalsely : Prop := judgeFirstRow.holds Tryd.pinned (OpenSpec.ofChange judgeFirstWrong)

/-- 'chrysalislaw09.VerifyMaps': WHATEVER THE INPUT: true; the input reads as it did. -/
def verifyMapsSpec : ChangeSpec := { name := "verifyMaps", fn := fun _ => fun
  | [d] => { results := [.lit (.bool true)], args := [d] }
  | _ => none }
def verifyMapsRow : OpenClaim := { program := "ytgcokdcdpdndjaadoor", sum := "4ebc372c9649af70c624de4ca492eff680b11c0421ad07834c70b3b42b458ca1", func := "chrysalis/chrysalislaw09.VerifyMaps", spec := "verifyMaps", unfollowed := true, recurses := true, named := ["chrysalis/flow.use", "chrysalis/flow.number", "chrysalis/flow.words", "chrysalis/flow.octets", "chrysalis/flow.refs"], apart := false, laid := [("chrysalis/flow.number", laid_chrysalis_flow_number), ("chrysalis/flow.octets", laid_chrysalis_flow_octets), ("chrysalis/flow.words", laid_chrysalis_flow_words), ("chrysalis/flow.refs", laid_chrysalis_flow_refs), ("chrysalis/flow.use", laid_chrysalis_flow_use)] }
def VerifyMapsSaid : Prop := verifyMapsRow.holds Tryd.pinned (OpenSpec.ofChange verifyMapsSpec)

/-- ITS FALSE NEIGHBOUR: 'it returns false'. Refute it at one input. -/
def verifyMapsWrong : ChangeSpec := { name := "verifyMaps", fn := fun _ => fun
  | [d] => { results := [.lit (.bool false)], args := [d] }
  | _ => none }
def VerifyMapsWrongFalsely : Prop := verifyMapsRow.holds Tryd.pinned (OpenSpec.ofChange verifyMapsWrong)

/-- 'chrysalislaw09.VerifyRight': WHATEVER THE INPUT: true; the input reads as it did. -/
def verifyRightSpec : ChangeSpec := { name := "verifyRight", fn := fun _ => fun
  | [d1, d2] => { results := [.lit (.bool true)], args := [d1, d2] }
  | _ => none }
def verifyRightRow : OpenClaim := { program := "ytgcokdcdpdndjaadoor", sum := "4ebc372c9649af70c624de4ca492eff680b11c0421ad07834c70b3b42b458ca1", func := "chrysalis/chrysalislaw09.VerifyRight", spec := "verifyRight", unfollowed := true, recurses := true, named := ["chrysalis/flow.use", "chrysalis/flow.number", "chrysalis/flow.words", "chrysalis/flow.octets", "chrysalis/flow.refs"], apart := false, laid := [("chrysalis/flow.number", laid_chrysalis_flow_number), ("chrysalis/flow.octets", laid_chrysalis_flow_octets), ("chrysalis/flow.words", laid_chrysalis_flow_words), ("chrysalis/flow.refs", laid_chrysalis_flow_refs), ("chrysalis/flow.use", laid_chrysalis_flow_use)] }
def VerifyRightSaid : Prop := verifyRightRow.holds Tryd.pinned (OpenSpec.ofChange verifyRightSpec)

/-- ITS FALSE NEIGHBOUR: 'it returns false'. Refute it at one input. -/
def verifyRightWrong : ChangeSpec := { name := "verifyRight", fn := fun _ => fun
  | [d1, d2] => { results := [.lit (.bool false)], args := [d1, d2] }
  | _ => none }
def VerifyRightWrongFalsely : Prop := verifyRightRow.holds Tryd.pinned (OpenSpec.ofChange verifyRightWrong)

/-- 'chrysalislaw09.VerifyNever': WHATEVER THE INPUT: true; the input reads as it did. -/
def verifyNeverSpec : ChangeSpec := { name := "verifyNever", fn := fun _ => fun
  | [d1, d2] => { results := [.lit (.bool true)], args := [d1, d2] }
  | _ => none }
def verifyNeverRow : OpenClaim := { program := "ytgcokdcdpdndjaadoor", sum := "4ebc372c9649af70c624de4ca492eff680b11c0421ad07834c70b3b42b458ca1", func := "chrysalis/chrysalislaw09.VerifyNever", spec := "verifyNever", unfollowed := true, recurses := true, named := ["chrysalis/flow.use", "chrysalis/flow.number", "chrysalis/flow.words", "chrysalis/flow.octets", "chrysalis/flow.refs"], apart := false, laid := [("chrysalis/flow.number", laid_chrysalis_flow_number), ("chrysalis/flow.octets", laid_chrysalis_flow_octets), ("chrysalis/flow.words", laid_chrysalis_flow_words), ("chrysalis/flow.refs", laid_chrysalis_flow_refs), ("chrysalis/flow.use", laid_chrysalis_flow_use)] }
def VerifyNeverSaid : Prop := verifyNeverRow.holds Tryd.pinned (OpenSpec.ofChange verifyNeverSpec)

/-- ITS FALSE NEIGHBOUR: 'it returns false'. Refute it at one input. -/
def verifyNeverWrong : ChangeSpec := { name := "verifyNever", fn := fun _ => fun
  | [d1, d2] => { results := [.lit (.bool false)], args := [d1, d2] }
  | _ => none }
def VerifyNeverWrongFalsely : Prop := verifyNeverRow.holds Tryd.pinned (OpenSpec.ofChange verifyNeverWrong)

/-- 'chrysalislaw09.VerifyLoops': WHATEVER THE INPUT: true; the input reads as it did. -/
def verifyLoopsSpec : ChangeSpec := { name := "verifyLoops", fn := fun _ => fun
  | [d1, d2] => { results := [.lit (.bool true)], args := [d1, d2] }
  | _ => none }
def verifyLoopsRow : OpenClaim := { program := "ytgcokdcdpdndjaadoor", sum := "4ebc372c9649af70c624de4ca492eff680b11c0421ad07834c70b3b42b458ca1", func := "chrysalis/chrysalislaw09.VerifyLoops", spec := "verifyLoops", unfollowed := true, recurses := true, named := ["chrysalis/flow.use", "chrysalis/flow.number", "chrysalis/flow.words", "chrysalis/flow.octets", "chrysalis/flow.refs"], apart := false, laid := [("chrysalis/flow.number", laid_chrysalis_flow_number), ("chrysalis/flow.octets", laid_chrysalis_flow_octets), ("chrysalis/flow.words", laid_chrysalis_flow_words), ("chrysalis/flow.refs", laid_chrysalis_flow_refs), ("chrysalis/flow.use", laid_chrysalis_flow_use)] }
def VerifyLoopsSaid : Prop := verifyLoopsRow.holds Tryd.pinned (OpenSpec.ofChange verifyLoopsSpec)

/-- ITS FALSE NEIGHBOUR: 'it returns false'. Refute it at one input. -/
def verifyLoopsWrong : ChangeSpec := { name := "verifyLoops", fn := fun _ => fun
  | [d1, d2] => { results := [.lit (.bool false)], args := [d1, d2] }
  | _ => none }
def VerifyLoopsWrongFalsely : Prop := verifyLoopsRow.holds Tryd.pinned (OpenSpec.ofChange verifyLoopsWrong)

/-- 'chrysalislaw09.VerifyJoins': WHATEVER THE INPUT: true; the input reads as it did. -/
def verifyJoinsSpec : ChangeSpec := { name := "verifyJoins", fn := fun _ => fun
  | [d1, d2] => { results := [.lit (.bool true)], args := [d1, d2] }
  | _ => none }
def verifyJoinsRow : OpenClaim := { program := "ytgcokdcdpdndjaadoor", sum := "4ebc372c9649af70c624de4ca492eff680b11c0421ad07834c70b3b42b458ca1", func := "chrysalis/chrysalislaw09.VerifyJoins", spec := "verifyJoins", unfollowed := true, recurses := true, named := ["chrysalis/flow.use", "chrysalis/flow.number", "chrysalis/flow.words", "chrysalis/flow.octets", "chrysalis/flow.refs"], apart := false, laid := [("chrysalis/flow.number", laid_chrysalis_flow_number), ("chrysalis/flow.octets", laid_chrysalis_flow_octets), ("chrysalis/flow.words", laid_chrysalis_flow_words), ("chrysalis/flow.refs", laid_chrysalis_flow_refs), ("chrysalis/flow.use", laid_chrysalis_flow_use)] }
def VerifyJoinsSaid : Prop := verifyJoinsRow.holds Tryd.pinned (OpenSpec.ofChange verifyJoinsSpec)

/-- ITS FALSE NEIGHBOUR: 'it returns false'. Refute it at one input. -/
def verifyJoinsWrong : ChangeSpec := { name := "verifyJoins", fn := fun _ => fun
  | [d1, d2] => { results := [.lit (.bool false)], args := [d1, d2] }
  | _ => none }
def VerifyJoinsWrongFalsely : Prop := verifyJoinsRow.holds Tryd.pinned (OpenSpec.ofChange verifyJoinsWrong)

/-- 'chrysalislaw09.VerifyOwn': WHATEVER THE INPUT: true; the input reads as it did. -/
def verifyOwnSpec : ChangeSpec := { name := "verifyOwn", fn := fun _ => fun
  | [d] => { results := [.lit (.bool true)], args := [d] }
  | _ => none }
def verifyOwnRow : OpenClaim := { program := "ytgcokdcdpdndjaadoor", sum := "4ebc372c9649af70c624de4ca492eff680b11c0421ad07834c70b3b42b458ca1", func := "chrysalis/chrysalislaw09.VerifyOwn", spec := "verifyOwn", unfollowed := true, recurses := true, named := ["chrysalis/flow.use", "chrysalis/flow.number", "chrysalis/flow.words", "chrysalis/flow.octets", "chrysalis/flow.refs"], apart := false, laid := [("chrysalis/flow.number", laid_chrysalis_flow_number), ("chrysalis/flow.octets", laid_chrysalis_flow_octets), ("chrysalis/flow.words", laid_chrysalis_flow_words), ("chrysalis/flow.refs", laid_chrysalis_flow_refs), ("chrysalis/flow.use", laid_chrysalis_flow_use)] }
def VerifyOwnSaid : Prop := verifyOwnRow.holds Tryd.pinned (OpenSpec.ofChange verifyOwnSpec)

/-- ITS FALSE NEIGHBOUR: 'it returns false'. Refute it at one input. -/
def verifyOwnWrong : ChangeSpec := { name := "verifyOwn", fn := fun _ => fun
  | [d] => { results := [.lit (.bool false)], args := [d] }
  | _ => none }
def VerifyOwnWrongFalsely : Prop := verifyOwnRow.holds Tryd.pinned (OpenSpec.ofChange verifyOwnWrong)

/-- 'chrysalislaw17.IrCompiles': WHATEVER THE INPUT: true; the input reads as it did. -/
def irCompilesSpec : ChangeSpec := { name := "irCompiles", fn := fun _ => fun
  | [d] => { results := [.lit (.bool true)], args := [d] }
  | _ => none }
def irCompilesRow : OpenClaim := { program := "ytgcokdcdpdndjaadoor", sum := "4ebc372c9649af70c624de4ca492eff680b11c0421ad07834c70b3b42b458ca1", func := "chrysalis/chrysalislaw17.IrCompiles", spec := "irCompiles", unfollowed := true, recurses := true, named := ["chrysalis/flow.use", "chrysalis/flow.number", "chrysalis/flow.words", "chrysalis/flow.octets", "chrysalis/flow.refs"], apart := false, laid := [("chrysalis/flow.number", laid_chrysalis_flow_number), ("chrysalis/flow.octets", laid_chrysalis_flow_octets), ("chrysalis/flow.words", laid_chrysalis_flow_words), ("chrysalis/flow.refs", laid_chrysalis_flow_refs), ("chrysalis/flow.use", laid_chrysalis_flow_use)] }
def IrCompilesSaid : Prop := irCompilesRow.holds Tryd.pinned (OpenSpec.ofChange irCompilesSpec)

/-- ITS FALSE NEIGHBOUR: 'it returns false'. Refute it at one input. -/
def irCompilesWrong : ChangeSpec := { name := "irCompiles", fn := fun _ => fun
  | [d] => { results := [.lit (.bool false)], args := [d] }
  | _ => none }
def IrCompilesWrongFalsely : Prop := irCompilesRow.holds Tryd.pinned (OpenSpec.ofChange irCompilesWrong)

/-- 'chrysalislaw17.IrFits': WHATEVER THE INPUT: true; the input reads as it did. -/
def irFitsSpec : ChangeSpec := { name := "irFits", fn := fun _ => fun
  | [d] => { results := [.lit (.bool true)], args := [d] }
  | _ => none }
def irFitsRow : OpenClaim := { program := "ytgcokdcdpdndjaadoor", sum := "4ebc372c9649af70c624de4ca492eff680b11c0421ad07834c70b3b42b458ca1", func := "chrysalis/chrysalislaw17.IrFits", spec := "irFits", unfollowed := true, recurses := true, named := ["chrysalis/flow.use", "chrysalis/flow.number", "chrysalis/flow.words", "chrysalis/flow.octets", "chrysalis/flow.refs"], apart := false, laid := [("chrysalis/flow.number", laid_chrysalis_flow_number), ("chrysalis/flow.octets", laid_chrysalis_flow_octets), ("chrysalis/flow.words", laid_chrysalis_flow_words), ("chrysalis/flow.refs", laid_chrysalis_flow_refs), ("chrysalis/flow.use", laid_chrysalis_flow_use)] }
def IrFitsSaid : Prop := irFitsRow.holds Tryd.pinned (OpenSpec.ofChange irFitsSpec)

/-- ITS FALSE NEIGHBOUR: 'it returns false'. Refute it at one input. -/
def irFitsWrong : ChangeSpec := { name := "irFits", fn := fun _ => fun
  | [d] => { results := [.lit (.bool false)], args := [d] }
  | _ => none }
def IrFitsWrongFalsely : Prop := irFitsRow.holds Tryd.pinned (OpenSpec.ofChange irFitsWrong)

/- THE SECOND FORM. 'bulk': how many values and letters a reading holds, each counted each time it is reached (what is shared counts as often as it is met; a slice's spare places count too). A statement '..UptoSaid' is the law's where the arguments, and the package variables that the reading takes, are together of bulk at most 1048576: NARROWER than '..Said'. Prove '..Said' where nothing that the law and all that it calls make is longer than what came in: it says more and counts as full. Else prove '..UptoSaid'. A law counts once. -/
mutual
def uptoBulk {H : Type} : DataW H → Nat
  | .lit (.string bytes) => bytes.length + 1
  | .lit _ => 1
  | .nil => 1
  | .ptr d => uptoBulk d + 1
  | .slice elems spare => uptoBulkAll elems + uptoBulkAll spare + 1
  | .agg parts => uptoBulkAll parts + 1
  | .iface _ d => uptoBulk d + 1
  | .map entries => uptoBulkEntries entries + 1
  | .held _ => 1
def uptoBulkAll {H : Type} : List (DataW H) → Nat
  | [] => 0
  | d :: r => uptoBulk d + uptoBulkAll r
def uptoBulkEntries {H : Type} : List (Lit × DataW H) → Nat
  | [] => 0
  | x :: r => uptoBulkEntry x + uptoBulkEntries r
def uptoBulkEntry {H : Type} : Lit × DataW H → Nat
  | (.string bytes, d) => bytes.length + uptoBulk d + 1
  | (_, d) => uptoBulk d + 1
 end
def uptoSmall : (H : Type) → List (DataW H) → Bool := fun _ ds => decide (uptoBulkAll ds ≤ 1048576)
def OpenSpec.upto (s : _root_.Go.ChangeSpec) : _root_.Go.OpenSpec := { _root_.Go.OpenSpec.ofChange s with cond := some uptoSmall }

/-- 'chrysalislaw08.FlowOwn', WHERE WHAT IT READS IS OF BULK AT MOST 1048576: true; the input reads as it did. -/
def flowOwnUptoRow : OpenClaim := { program := "ytgcokdcdpdndjaadoor", sum := "4ebc372c9649af70c624de4ca492eff680b11c0421ad07834c70b3b42b458ca1", func := "chrysalis/chrysalislaw08.FlowOwn", spec := "flowOwn", unfollowed := true, recurses := true, named := ["chrysalis/flow.use", "chrysalis/flow.number", "chrysalis/flow.words", "chrysalis/flow.octets", "chrysalis/flow.refs"], apart := false, laid := [("chrysalis/flow.number", laid_chrysalis_flow_number), ("chrysalis/flow.octets", laid_chrysalis_flow_octets), ("chrysalis/flow.words", laid_chrysalis_flow_words), ("chrysalis/flow.refs", laid_chrysalis_flow_refs), ("chrysalis/flow.use", laid_chrysalis_flow_use)], narrowed := true }
def FlowOwnUptoSaid : Prop := flowOwnUptoRow.holds Tryd.pinned (OpenSpec.upto flowOwnSpec)

/-- 'chrysalislaw10.JudgeFirst', WHERE WHAT IT READS IS OF BULK AT MOST 1048576: true; the input reads as it did. -/
def judgeFirstUptoRow : OpenClaim := { program := "ytgcokdcdpdndjaadoor", sum := "4ebc372c9649af70c624de4ca492eff680b11c0421ad07834c70b3b42b458ca1", func := "chrysalis/chrysalislaw10.JudgeFirst", spec := "judgeFirst", unfollowed := true, recurses := true, named := ["chrysalis/flow.use", "chrysalis/flow.number", "chrysalis/flow.words", "chrysalis/flow.octets", "chrysalis/flow.refs"], apart := false, laid := [("chrysalis/flow.number", laid_chrysalis_flow_number), ("chrysalis/flow.octets", laid_chrysalis_flow_octets), ("chrysalis/flow.words", laid_chrysalis_flow_words), ("chrysalis/flow.refs", laid_chrysalis_flow_refs), ("chrysalis/flow.use", laid_chrysalis_flow_use)], narrowed := true }
def JudgeFirstUptoSaid : Prop := judgeFirstUptoRow.holds Tryd.pinned (OpenSpec.upto judgeFirstSpec)

/-- 'chrysalislaw09.VerifyMaps', WHERE WHAT IT READS IS OF BULK AT MOST 1048576: true; the input reads as it did. -/
def verifyMapsUptoRow : OpenClaim := { program := "ytgcokdcdpdndjaadoor", sum := "4ebc372c9649af70c624de4ca492eff680b11c0421ad07834c70b3b42b458ca1", func := "chrysalis/chrysalislaw09.VerifyMaps", spec := "verifyMaps", unfollowed := true, recurses := true, named := ["chrysalis/flow.use", "chrysalis/flow.number", "chrysalis/flow.words", "chrysalis/flow.octets", "chrysalis/flow.refs"], apart := false, laid := [("chrysalis/flow.number", laid_chrysalis_flow_number), ("chrysalis/flow.octets", laid_chrysalis_flow_octets), ("chrysalis/flow.words", laid_chrysalis_flow_words), ("chrysalis/flow.refs", laid_chrysalis_flow_refs), ("chrysalis/flow.use", laid_chrysalis_flow_use)], narrowed := true }
def VerifyMapsUptoSaid : Prop := verifyMapsUptoRow.holds Tryd.pinned (OpenSpec.upto verifyMapsSpec)

/-- 'chrysalislaw09.VerifyRight', WHERE WHAT IT READS IS OF BULK AT MOST 1048576: true; the input reads as it did. -/
def verifyRightUptoRow : OpenClaim := { program := "ytgcokdcdpdndjaadoor", sum := "4ebc372c9649af70c624de4ca492eff680b11c0421ad07834c70b3b42b458ca1", func := "chrysalis/chrysalislaw09.VerifyRight", spec := "verifyRight", unfollowed := true, recurses := true, named := ["chrysalis/flow.use", "chrysalis/flow.number", "chrysalis/flow.words", "chrysalis/flow.octets", "chrysalis/flow.refs"], apart := false, laid := [("chrysalis/flow.number", laid_chrysalis_flow_number), ("chrysalis/flow.octets", laid_chrysalis_flow_octets), ("chrysalis/flow.words", laid_chrysalis_flow_words), ("chrysalis/flow.refs", laid_chrysalis_flow_refs), ("chrysalis/flow.use", laid_chrysalis_flow_use)], narrowed := true }
def VerifyRightUptoSaid : Prop := verifyRightUptoRow.holds Tryd.pinned (OpenSpec.upto verifyRightSpec)

/-- 'chrysalislaw09.VerifyNever', WHERE WHAT IT READS IS OF BULK AT MOST 1048576: true; the input reads as it did. -/
def verifyNeverUptoRow : OpenClaim := { program := "ytgcokdcdpdndjaadoor", sum := "4ebc372c9649af70c624de4ca492eff680b11c0421ad07834c70b3b42b458ca1", func := "chrysalis/chrysalislaw09.VerifyNever", spec := "verifyNever", unfollowed := true, recurses := true, named := ["chrysalis/flow.use", "chrysalis/flow.number", "chrysalis/flow.words", "chrysalis/flow.octets", "chrysalis/flow.refs"], apart := false, laid := [("chrysalis/flow.number", laid_chrysalis_flow_number), ("chrysalis/flow.octets", laid_chrysalis_flow_octets), ("chrysalis/flow.words", laid_chrysalis_flow_words), ("chrysalis/flow.refs", laid_chrysalis_flow_refs), ("chrysalis/flow.use", laid_chrysalis_flow_use)], narrowed := true }
def VerifyNeverUptoSaid : Prop := verifyNeverUptoRow.holds Tryd.pinned (OpenSpec.upto verifyNeverSpec)

/-- 'chrysalislaw09.VerifyLoops', WHERE WHAT IT READS IS OF BULK AT MOST 1048576: true; the input reads as it did. -/
def verifyLoopsUptoRow : OpenClaim := { program := "ytgcokdcdpdndjaadoor", sum := "4ebc372c9649af70c624de4ca492eff680b11c0421ad07834c70b3b42b458ca1", func := "chrysalis/chrysalislaw09.VerifyLoops", spec := "verifyLoops", unfollowed := true, recurses := true, named := ["chrysalis/flow.use", "chrysalis/flow.number", "chrysalis/flow.words", "chrysalis/flow.octets", "chrysalis/flow.refs"], apart := false, laid := [("chrysalis/flow.number", laid_chrysalis_flow_number), ("chrysalis/flow.octets", laid_chrysalis_flow_octets), ("chrysalis/flow.words", laid_chrysalis_flow_words), ("chrysalis/flow.refs", laid_chrysalis_flow_refs), ("chrysalis/flow.use", laid_chrysalis_flow_use)], narrowed := true }
def VerifyLoopsUptoSaid : Prop := verifyLoopsUptoRow.holds Tryd.pinned (OpenSpec.upto verifyLoopsSpec)

/-- 'chrysalislaw09.VerifyJoins', WHERE WHAT IT READS IS OF BULK AT MOST 1048576: true; the input reads as it did. -/
def verifyJoinsUptoRow : OpenClaim := { program := "ytgcokdcdpdndjaadoor", sum := "4ebc372c9649af70c624de4ca492eff680b11c0421ad07834c70b3b42b458ca1", func := "chrysalis/chrysalislaw09.VerifyJoins", spec := "verifyJoins", unfollowed := true, recurses := true, named := ["chrysalis/flow.use", "chrysalis/flow.number", "chrysalis/flow.words", "chrysalis/flow.octets", "chrysalis/flow.refs"], apart := false, laid := [("chrysalis/flow.number", laid_chrysalis_flow_number), ("chrysalis/flow.octets", laid_chrysalis_flow_octets), ("chrysalis/flow.words", laid_chrysalis_flow_words), ("chrysalis/flow.refs", laid_chrysalis_flow_refs), ("chrysalis/flow.use", laid_chrysalis_flow_use)], narrowed := true }
def VerifyJoinsUptoSaid : Prop := verifyJoinsUptoRow.holds Tryd.pinned (OpenSpec.upto verifyJoinsSpec)

/-- 'chrysalislaw09.VerifyOwn', WHERE WHAT IT READS IS OF BULK AT MOST 1048576: true; the input reads as it did. -/
def verifyOwnUptoRow : OpenClaim := { program := "ytgcokdcdpdndjaadoor", sum := "4ebc372c9649af70c624de4ca492eff680b11c0421ad07834c70b3b42b458ca1", func := "chrysalis/chrysalislaw09.VerifyOwn", spec := "verifyOwn", unfollowed := true, recurses := true, named := ["chrysalis/flow.use", "chrysalis/flow.number", "chrysalis/flow.words", "chrysalis/flow.octets", "chrysalis/flow.refs"], apart := false, laid := [("chrysalis/flow.number", laid_chrysalis_flow_number), ("chrysalis/flow.octets", laid_chrysalis_flow_octets), ("chrysalis/flow.words", laid_chrysalis_flow_words), ("chrysalis/flow.refs", laid_chrysalis_flow_refs), ("chrysalis/flow.use", laid_chrysalis_flow_use)], narrowed := true }
def VerifyOwnUptoSaid : Prop := verifyOwnUptoRow.holds Tryd.pinned (OpenSpec.upto verifyOwnSpec)

/-- 'chrysalislaw17.IrCompiles', WHERE WHAT IT READS IS OF BULK AT MOST 1048576: true; the input reads as it did. -/
def irCompilesUptoRow : OpenClaim := { program := "ytgcokdcdpdndjaadoor", sum := "4ebc372c9649af70c624de4ca492eff680b11c0421ad07834c70b3b42b458ca1", func := "chrysalis/chrysalislaw17.IrCompiles", spec := "irCompiles", unfollowed := true, recurses := true, named := ["chrysalis/flow.use", "chrysalis/flow.number", "chrysalis/flow.words", "chrysalis/flow.octets", "chrysalis/flow.refs"], apart := false, laid := [("chrysalis/flow.number", laid_chrysalis_flow_number), ("chrysalis/flow.octets", laid_chrysalis_flow_octets), ("chrysalis/flow.words", laid_chrysalis_flow_words), ("chrysalis/flow.refs", laid_chrysalis_flow_refs), ("chrysalis/flow.use", laid_chrysalis_flow_use)], narrowed := true }
def IrCompilesUptoSaid : Prop := irCompilesUptoRow.holds Tryd.pinned (OpenSpec.upto irCompilesSpec)

/-- 'chrysalislaw17.IrFits', WHERE WHAT IT READS IS OF BULK AT MOST 1048576: true; the input reads as it did. -/
def irFitsUptoRow : OpenClaim := { program := "ytgcokdcdpdndjaadoor", sum := "4ebc372c9649af70c624de4ca492eff680b11c0421ad07834c70b3b42b458ca1", func := "chrysalis/chrysalislaw17.IrFits", spec := "irFits", unfollowed := true, recurses := true, named := ["chrysalis/flow.use", "chrysalis/flow.number", "chrysalis/flow.words", "chrysalis/flow.octets", "chrysalis/flow.refs"], apart := false, laid := [("chrysalis/flow.number", laid_chrysalis_flow_number), ("chrysalis/flow.octets", laid_chrysalis_flow_octets), ("chrysalis/flow.words", laid_chrysalis_flow_words), ("chrysalis/flow.refs", laid_chrysalis_flow_refs), ("chrysalis/flow.use", laid_chrysalis_flow_use)], narrowed := true }
def IrFitsUptoSaid : Prop := irFitsUptoRow.holds Tryd.pinned (OpenSpec.upto irFitsSpec)

end Rows
end Go.Proofs.YtgcokdcdpdndjaaDoor
