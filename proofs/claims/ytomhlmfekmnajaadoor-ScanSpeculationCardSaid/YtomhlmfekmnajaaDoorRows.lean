/-
  NARROWER THAN 'FOR EVERY INPUT', by the rows' own cells (each row's printed sentence says how): AutomatonMonoid: laid · AutomatonRaw: laid · ScanBracket: laid · ScanSpeculation: laid · WindowRun: laid · WindowProgress: laid · WindowSteps: laid · WindowNil: laid · WindowBeginning: laid.
  DERIVED. THE GIVEN ROWS OF THIS SEAT. 9 by the template 'for every input the law returns true; each argument reads behind the call as it read before'; 0 by the template 'total and deterministic' (their statements: YtomhlmfekmnajaaDoorTotals.lean).
  GIVEN WITH THE SEED: the statements are not yours to turn. If you find one false, say at which input.
  Laid BY PROGRAM, IN A SANDBOX (cutbox-rows.mjs): the forced cells as the released guide's own fill.sh prints them over the translation 97d06b0f47a5bb00… (all of the seat's roots in one cut). By AI agents, Wed Nov 11 2026. No macro, syntax, notation, axiom, sorry.
-/
import Derived.Test.YtomhlmfekmnajaaDoorChecked
import GoSem.Claim
import GoSem.ClaimJoined
import GoSem.ClaimMapViews
import Derived.JoinedTies
import Derived.KernelRfl
namespace Go.Proofs.YtomhlmfekmnajaaDoor
/- THE CELL 'sum', in the pinned program and in every row, IS THE sha256 OF THE DUMP (.gsa) THAT YtomhlmfekmnajaaDoorProg.lean LOADS. Nothing in Lean hashes anything: it is a label: what it is worth is what the hold of that sum in a sandbox is worth. -/
noncomputable def Tryd.pinned : Pinned := { name := "ytomhlmfekmnajaadoor", sum := "97d06b0f47a5bb0036bf918eae47bf327375156a2ee90a32c28280f2edd6e566", checked := Tryd.checked }
namespace Rows
def none {H : Type} : Left H := { results := [], args := [] }

/- WHAT THE LISTED PACKAGE-LEVEL VARIABLES READ AS WHEN THE CALL BEGINS. Each datum BY PROGRAM (the guide's laid-datum.mjs) off the statement by which the dump's own 'gosem.cut.vars' lays the variable. In a bare row this is a premise. The card (YtomhlmfekmnajaaDoorCards.lean) ties it to the program's text. -/
def laid_ndjq_automaton_moves {H : Type} : DataW H := .agg [.agg [.agg [.lit (.int .i64 0), .lit (.bool false)], .agg [.lit (.int .i64 1), .lit (.bool false)], .agg [.lit (.int .i64 0), .lit (.bool false)], .agg [.lit (.int .i64 0), .lit (.bool true)]], .agg [.agg [.lit (.int .i64 1), .lit (.bool false)], .agg [.lit (.int .i64 0), .lit (.bool false)], .agg [.lit (.int .i64 2), .lit (.bool false)], .agg [.lit (.int .i64 1), .lit (.bool false)]], .agg [.agg [.lit (.int .i64 1), .lit (.bool false)], .agg [.lit (.int .i64 1), .lit (.bool false)], .agg [.lit (.int .i64 1), .lit (.bool false)], .agg [.lit (.int .i64 1), .lit (.bool false)]]]

/-- 'ndjqlaw18.AutomatonMonoid': WHATEVER THE INPUT: true; the input reads as it did. -/
def automatonMonoidSpec : ChangeSpec := { name := "automatonMonoid", fn := fun _ => fun
  | [d1, d2, d3] => { results := [.lit (.bool true)], args := [d1, d2, d3] }
  | _ => none }
def automatonMonoidRow : OpenClaim := { program := "ytomhlmfekmnajaadoor", sum := "97d06b0f47a5bb0036bf918eae47bf327375156a2ee90a32c28280f2edd6e566", func := "ndjq/ndjqlaw18.AutomatonMonoid", spec := "automatonMonoid", named := ["ndjq/automaton.moves"], apart := false, laid := [("ndjq/automaton.moves", laid_ndjq_automaton_moves)] }
def AutomatonMonoidSaid : Prop := automatonMonoidRow.holds Tryd.pinned (OpenSpec.ofChange automatonMonoidSpec)

/-- ITS FALSE NEIGHBOUR: 'it returns false'. Refute it at one input. -/
def automatonMonoidWrong : ChangeSpec := { name := "automatonMonoid", fn := fun _ => fun
  | [d1, d2, d3] => { results := [.lit (.bool false)], args := [d1, d2, d3] }
  | _ => none }
def AutomatonMonoidWrongFalsely : Prop := automatonMonoidRow.holds Tryd.pinned (OpenSpec.ofChange automatonMonoidWrong)

/-- 'ndjqlaw18.AutomatonRaw': WHATEVER THE INPUT: true; the input reads as it did. -/
def automatonRawSpec : ChangeSpec := { name := "automatonRaw", fn := fun _ => fun
  | [d] => { results := [.lit (.bool true)], args := [d] }
  | _ => none }
def automatonRawRow : OpenClaim := { program := "ytomhlmfekmnajaadoor", sum := "97d06b0f47a5bb0036bf918eae47bf327375156a2ee90a32c28280f2edd6e566", func := "ndjq/ndjqlaw18.AutomatonRaw", spec := "automatonRaw", named := ["ndjq/automaton.moves"], apart := false, laid := [("ndjq/automaton.moves", laid_ndjq_automaton_moves)] }
def AutomatonRawSaid : Prop := automatonRawRow.holds Tryd.pinned (OpenSpec.ofChange automatonRawSpec)

/-- ITS FALSE NEIGHBOUR: 'it returns false'. Refute it at one input. -/
def automatonRawWrong : ChangeSpec := { name := "automatonRaw", fn := fun _ => fun
  | [d] => { results := [.lit (.bool false)], args := [d] }
  | _ => none }
def AutomatonRawWrongFalsely : Prop := automatonRawRow.holds Tryd.pinned (OpenSpec.ofChange automatonRawWrong)

/-- 'ndjqlaw20.ScanBracket': WHATEVER THE INPUT: true; the input reads as it did. -/
def scanBracketSpec : ChangeSpec := { name := "scanBracket", fn := fun _ => fun
  | [d1, d2] => { results := [.lit (.bool true)], args := [d1, d2] }
  | _ => none }
def scanBracketRow : OpenClaim := { program := "ytomhlmfekmnajaadoor", sum := "97d06b0f47a5bb0036bf918eae47bf327375156a2ee90a32c28280f2edd6e566", func := "ndjq/ndjqlaw20.ScanBracket", spec := "scanBracket", named := ["ndjq/automaton.moves"], apart := false, laid := [("ndjq/automaton.moves", laid_ndjq_automaton_moves)] }
def ScanBracketSaid : Prop := scanBracketRow.holds Tryd.pinned (OpenSpec.ofChange scanBracketSpec)

/-- ITS FALSE NEIGHBOUR: 'it returns false'. Refute it at one input. -/
def scanBracketWrong : ChangeSpec := { name := "scanBracket", fn := fun _ => fun
  | [d1, d2] => { results := [.lit (.bool false)], args := [d1, d2] }
  | _ => none }
def ScanBracketWrongFalsely : Prop := scanBracketRow.holds Tryd.pinned (OpenSpec.ofChange scanBracketWrong)

/-- 'ndjqlaw20.ScanSpeculation': WHATEVER THE INPUT: true; the input reads as it did. -/
def scanSpeculationSpec : ChangeSpec := { name := "scanSpeculation", fn := fun _ => fun
  | [d1, d2, d3] => { results := [.lit (.bool true)], args := [d1, d2, d3] }
  | _ => none }
def scanSpeculationRow : OpenClaim := { program := "ytomhlmfekmnajaadoor", sum := "97d06b0f47a5bb0036bf918eae47bf327375156a2ee90a32c28280f2edd6e566", func := "ndjq/ndjqlaw20.ScanSpeculation", spec := "scanSpeculation", named := ["ndjq/automaton.moves"], apart := false, laid := [("ndjq/automaton.moves", laid_ndjq_automaton_moves)] }
def ScanSpeculationSaid : Prop := scanSpeculationRow.holds Tryd.pinned (OpenSpec.ofChange scanSpeculationSpec)

/-- ITS FALSE NEIGHBOUR: 'it returns false'. Refute it at one input. -/
def scanSpeculationWrong : ChangeSpec := { name := "scanSpeculation", fn := fun _ => fun
  | [d1, d2, d3] => { results := [.lit (.bool false)], args := [d1, d2, d3] }
  | _ => none }
def ScanSpeculationWrongFalsely : Prop := scanSpeculationRow.holds Tryd.pinned (OpenSpec.ofChange scanSpeculationWrong)

/-- 'ndjqlaw25.WindowRun': WHATEVER THE INPUT: true; the input reads as it did. -/
def windowRunSpec : ChangeSpec := { name := "windowRun", fn := fun _ => fun
  | [d1, d2, d3, d4, d5] => { results := [.lit (.bool true)], args := [d1, d2, d3, d4, d5] }
  | _ => none }
def windowRunRow : OpenClaim := { program := "ytomhlmfekmnajaadoor", sum := "97d06b0f47a5bb0036bf918eae47bf327375156a2ee90a32c28280f2edd6e566", func := "ndjq/ndjqlaw25.WindowRun", spec := "windowRun", unfollowed := true, recurses := true, named := ["ndjq/automaton.moves"], apart := false, laid := [("ndjq/automaton.moves", laid_ndjq_automaton_moves)] }
def WindowRunSaid : Prop := windowRunRow.holds Tryd.pinned (OpenSpec.ofChange windowRunSpec)

/-- ITS FALSE NEIGHBOUR: 'it returns false'. Refute it at one input. -/
def windowRunWrong : ChangeSpec := { name := "windowRun", fn := fun _ => fun
  | [d1, d2, d3, d4, d5] => { results := [.lit (.bool false)], args := [d1, d2, d3, d4, d5] }
  | _ => none }
def WindowRunWrongFalsely : Prop := windowRunRow.holds Tryd.pinned (OpenSpec.ofChange windowRunWrong)

/-- 'ndjqlaw25.WindowProgress': WHATEVER THE INPUT: true; the input reads as it did. -/
def windowProgressSpec : ChangeSpec := { name := "windowProgress", fn := fun _ => fun
  | [d1, d2, d3, d4, d5] => { results := [.lit (.bool true)], args := [d1, d2, d3, d4, d5] }
  | _ => none }
def windowProgressRow : OpenClaim := { program := "ytomhlmfekmnajaadoor", sum := "97d06b0f47a5bb0036bf918eae47bf327375156a2ee90a32c28280f2edd6e566", func := "ndjq/ndjqlaw25.WindowProgress", spec := "windowProgress", unfollowed := true, recurses := true, named := ["ndjq/automaton.moves"], apart := false, laid := [("ndjq/automaton.moves", laid_ndjq_automaton_moves)] }
def WindowProgressSaid : Prop := windowProgressRow.holds Tryd.pinned (OpenSpec.ofChange windowProgressSpec)

/-- ITS FALSE NEIGHBOUR: 'it returns false'. Refute it at one input. -/
def windowProgressWrong : ChangeSpec := { name := "windowProgress", fn := fun _ => fun
  | [d1, d2, d3, d4, d5] => { results := [.lit (.bool false)], args := [d1, d2, d3, d4, d5] }
  | _ => none }
def WindowProgressWrongFalsely : Prop := windowProgressRow.holds Tryd.pinned (OpenSpec.ofChange windowProgressWrong)

/-- 'ndjqlaw25.WindowSteps': WHATEVER THE INPUT: true; the input reads as it did. -/
def windowStepsSpec : ChangeSpec := { name := "windowSteps", fn := fun _ => fun
  | [d1, d2, d3, d4, d5] => { results := [.lit (.bool true)], args := [d1, d2, d3, d4, d5] }
  | _ => none }
def windowStepsRow : OpenClaim := { program := "ytomhlmfekmnajaadoor", sum := "97d06b0f47a5bb0036bf918eae47bf327375156a2ee90a32c28280f2edd6e566", func := "ndjq/ndjqlaw25.WindowSteps", spec := "windowSteps", unfollowed := true, recurses := true, named := ["ndjq/automaton.moves"], apart := false, laid := [("ndjq/automaton.moves", laid_ndjq_automaton_moves)] }
def WindowStepsSaid : Prop := windowStepsRow.holds Tryd.pinned (OpenSpec.ofChange windowStepsSpec)

/-- ITS FALSE NEIGHBOUR: 'it returns false'. Refute it at one input. -/
def windowStepsWrong : ChangeSpec := { name := "windowSteps", fn := fun _ => fun
  | [d1, d2, d3, d4, d5] => { results := [.lit (.bool false)], args := [d1, d2, d3, d4, d5] }
  | _ => none }
def WindowStepsWrongFalsely : Prop := windowStepsRow.holds Tryd.pinned (OpenSpec.ofChange windowStepsWrong)

/-- 'ndjqlaw25.WindowNil': WHATEVER THE INPUT: true; the input reads as it did. -/
def windowNilSpec : ChangeSpec := { name := "windowNil", fn := fun _ => fun
  | [d] => { results := [.lit (.bool true)], args := [d] }
  | _ => none }
def windowNilRow : OpenClaim := { program := "ytomhlmfekmnajaadoor", sum := "97d06b0f47a5bb0036bf918eae47bf327375156a2ee90a32c28280f2edd6e566", func := "ndjq/ndjqlaw25.WindowNil", spec := "windowNil", unfollowed := true, recurses := true, named := ["ndjq/automaton.moves"], apart := false, laid := [("ndjq/automaton.moves", laid_ndjq_automaton_moves)] }
def WindowNilSaid : Prop := windowNilRow.holds Tryd.pinned (OpenSpec.ofChange windowNilSpec)

/-- ITS FALSE NEIGHBOUR: 'it returns false'. Refute it at one input. -/
def windowNilWrong : ChangeSpec := { name := "windowNil", fn := fun _ => fun
  | [d] => { results := [.lit (.bool false)], args := [d] }
  | _ => none }
def WindowNilWrongFalsely : Prop := windowNilRow.holds Tryd.pinned (OpenSpec.ofChange windowNilWrong)

/-- 'ndjqlaw25.WindowBeginning': WHATEVER THE INPUT: true; the input reads as it did. -/
def windowBeginningSpec : ChangeSpec := { name := "windowBeginning", fn := fun _ => fun
  | [d1, d2, d3, d4, d5] => { results := [.lit (.bool true)], args := [d1, d2, d3, d4, d5] }
  | _ => none }
def windowBeginningRow : OpenClaim := { program := "ytomhlmfekmnajaadoor", sum := "97d06b0f47a5bb0036bf918eae47bf327375156a2ee90a32c28280f2edd6e566", func := "ndjq/ndjqlaw25.WindowBeginning", spec := "windowBeginning", unfollowed := true, recurses := true, named := ["ndjq/automaton.moves"], apart := false, laid := [("ndjq/automaton.moves", laid_ndjq_automaton_moves)] }
def WindowBeginningSaid : Prop := windowBeginningRow.holds Tryd.pinned (OpenSpec.ofChange windowBeginningSpec)

/-- ITS FALSE NEIGHBOUR: 'it returns false'. Refute it at one input. -/
def windowBeginningWrong : ChangeSpec := { name := "windowBeginning", fn := fun _ => fun
  | [d1, d2, d3, d4, d5] => { results := [.lit (.bool false)], args := [d1, d2, d3, d4, d5] }
  | _ => none }
def WindowBeginningWrongFalsely : Prop := windowBeginningRow.holds Tryd.pinned (OpenSpec.ofChange windowBeginningWrong)

/- THE SECOND FORM. 'bulk': how many values and letters a reading holds, each counted each time it is reached (what is shared counts as often as it is met; a slice's spare places count too). A statement '..UptoSaid' is the law's where the arguments, and the package variables that the reading takes, are together of bulk at most 1048576: NARROWER than '..Said'. Prove '..Said' where nothing that the law and all that it calls make is longer than what came in: it says more and counts as full. Else prove '..UptoSaid'. A law counts once. -/
mutual
def uptoBulk {H : Type} : DataW H → Nat
  | .lit (.string bytes) => bytes.length + 1
  | .lit _ => 1
  | .nil => 1
  | .ptr d => uptoBulk d + 1
  | .slice elems spare => uptoBulkAll elems + uptoBulkAll spare + 1
  | .agg parts => uptoBulkAll parts + 1
  | .iface _ d => uptoBulk d + 1
  | .map entries => uptoBulkEntries entries + 1
  | .held _ => 1
def uptoBulkAll {H : Type} : List (DataW H) → Nat
  | [] => 0
  | d :: r => uptoBulk d + uptoBulkAll r
def uptoBulkEntries {H : Type} : List (Lit × DataW H) → Nat
  | [] => 0
  | x :: r => uptoBulkEntry x + uptoBulkEntries r
def uptoBulkEntry {H : Type} : Lit × DataW H → Nat
  | (.string bytes, d) => bytes.length + uptoBulk d + 1
  | (_, d) => uptoBulk d + 1
 end
def uptoSmall : (H : Type) → List (DataW H) → Bool := fun _ ds => decide (uptoBulkAll ds ≤ 1048576)
def OpenSpec.upto (s : _root_.Go.ChangeSpec) : _root_.Go.OpenSpec := { _root_.Go.OpenSpec.ofChange s with cond := some uptoSmall }

/-- 'ndjqlaw18.AutomatonMonoid', WHERE WHAT IT READS IS OF BULK AT MOST 1048576: true; the input reads as it did. -/
def automatonMonoidUptoRow : OpenClaim := { program := "ytomhlmfekmnajaadoor", sum := "97d06b0f47a5bb0036bf918eae47bf327375156a2ee90a32c28280f2edd6e566", func := "ndjq/ndjqlaw18.AutomatonMonoid", spec := "automatonMonoid", named := ["ndjq/automaton.moves"], apart := false, laid := [("ndjq/automaton.moves", laid_ndjq_automaton_moves)], narrowed := true }
def AutomatonMonoidUptoSaid : Prop := automatonMonoidUptoRow.holds Tryd.pinned (OpenSpec.upto automatonMonoidSpec)

/-- 'ndjqlaw18.AutomatonRaw', WHERE WHAT IT READS IS OF BULK AT MOST 1048576: true; the input reads as it did. -/
def automatonRawUptoRow : OpenClaim := { program := "ytomhlmfekmnajaadoor", sum := "97d06b0f47a5bb0036bf918eae47bf327375156a2ee90a32c28280f2edd6e566", func := "ndjq/ndjqlaw18.AutomatonRaw", spec := "automatonRaw", named := ["ndjq/automaton.moves"], apart := false, laid := [("ndjq/automaton.moves", laid_ndjq_automaton_moves)], narrowed := true }
def AutomatonRawUptoSaid : Prop := automatonRawUptoRow.holds Tryd.pinned (OpenSpec.upto automatonRawSpec)

/-- 'ndjqlaw20.ScanBracket', WHERE WHAT IT READS IS OF BULK AT MOST 1048576: true; the input reads as it did. -/
def scanBracketUptoRow : OpenClaim := { program := "ytomhlmfekmnajaadoor", sum := "97d06b0f47a5bb0036bf918eae47bf327375156a2ee90a32c28280f2edd6e566", func := "ndjq/ndjqlaw20.ScanBracket", spec := "scanBracket", named := ["ndjq/automaton.moves"], apart := false, laid := [("ndjq/automaton.moves", laid_ndjq_automaton_moves)], narrowed := true }
def ScanBracketUptoSaid : Prop := scanBracketUptoRow.holds Tryd.pinned (OpenSpec.upto scanBracketSpec)

/-- 'ndjqlaw20.ScanSpeculation', WHERE WHAT IT READS IS OF BULK AT MOST 1048576: true; the input reads as it did. -/
def scanSpeculationUptoRow : OpenClaim := { program := "ytomhlmfekmnajaadoor", sum := "97d06b0f47a5bb0036bf918eae47bf327375156a2ee90a32c28280f2edd6e566", func := "ndjq/ndjqlaw20.ScanSpeculation", spec := "scanSpeculation", named := ["ndjq/automaton.moves"], apart := false, laid := [("ndjq/automaton.moves", laid_ndjq_automaton_moves)], narrowed := true }
def ScanSpeculationUptoSaid : Prop := scanSpeculationUptoRow.holds Tryd.pinned (OpenSpec.upto scanSpeculationSpec)

/-- 'ndjqlaw25.WindowRun', WHERE WHAT IT READS IS OF BULK AT MOST 1048576: true; the input reads as it did. -/
def windowRunUptoRow : OpenClaim := { program := "ytomhlmfekmnajaadoor", sum := "97d06b0f47a5bb0036bf918eae47bf327375156a2ee90a32c28280f2edd6e566", func := "ndjq/ndjqlaw25.WindowRun", spec := "windowRun", unfollowed := true, recurses := true, named := ["ndjq/automaton.moves"], apart := false, laid := [("ndjq/automaton.moves", laid_ndjq_automaton_moves)], narrowed := true }
def WindowRunUptoSaid : Prop := windowRunUptoRow.holds Tryd.pinned (OpenSpec.upto windowRunSpec)

/-- 'ndjqlaw25.WindowProgress', WHERE WHAT IT READS IS OF BULK AT MOST 1048576: true; the input reads as it did. -/
def windowProgressUptoRow : OpenClaim := { program := "ytomhlmfekmnajaadoor", sum := "97d06b0f47a5bb0036bf918eae47bf327375156a2ee90a32c28280f2edd6e566", func := "ndjq/ndjqlaw25.WindowProgress", spec := "windowProgress", unfollowed := true, recurses := true, named := ["ndjq/automaton.moves"], apart := false, laid := [("ndjq/automaton.moves", laid_ndjq_automaton_moves)], narrowed := true }
def WindowProgressUptoSaid : Prop := windowProgressUptoRow.holds Tryd.pinned (OpenSpec.upto windowProgressSpec)

/-- 'ndjqlaw25.WindowSteps', WHERE WHAT IT READS IS OF BULK AT MOST 1048576: true; the input reads as it did. -/
def windowStepsUptoRow : OpenClaim := { program := "ytomhlmfekmnajaadoor", sum := "97d06b0f47a5bb0036bf918eae47bf327375156a2ee90a32c28280f2edd6e566", func := "ndjq/ndjqlaw25.WindowSteps", spec := "windowSteps", unfollowed := true, recurses := true, named := ["ndjq/automaton.moves"], apart := false, laid := [("ndjq/automaton.moves", laid_ndjq_automaton_moves)], narrowed := true }
def WindowStepsUptoSaid : Prop := windowStepsUptoRow.holds Tryd.pinned (OpenSpec.upto windowStepsSpec)

/-- 'ndjqlaw25.WindowNil', WHERE WHAT IT READS IS OF BULK AT MOST 1048576: true; the input reads as it did. -/
def windowNilUptoRow : OpenClaim := { program := "ytomhlmfekmnajaadoor", sum := "97d06b0f47a5bb0036bf918eae47bf327375156a2ee90a32c28280f2edd6e566", func := "ndjq/ndjqlaw25.WindowNil", spec := "windowNil", unfollowed := true, recurses := true, named := ["ndjq/automaton.moves"], apart := false, laid := [("ndjq/automaton.moves", laid_ndjq_automaton_moves)], narrowed := true }
def WindowNilUptoSaid : Prop := windowNilUptoRow.holds Tryd.pinned (OpenSpec.upto windowNilSpec)

/-- 'ndjqlaw25.WindowBeginning', WHERE WHAT IT READS IS OF BULK AT MOST 1048576: true; the input reads as it did. -/
def windowBeginningUptoRow : OpenClaim := { program := "ytomhlmfekmnajaadoor", sum := "97d06b0f47a5bb0036bf918eae47bf327375156a2ee90a32c28280f2edd6e566", func := "ndjq/ndjqlaw25.WindowBeginning", spec := "windowBeginning", unfollowed := true, recurses := true, named := ["ndjq/automaton.moves"], apart := false, laid := [("ndjq/automaton.moves", laid_ndjq_automaton_moves)], narrowed := true }
def WindowBeginningUptoSaid : Prop := windowBeginningUptoRow.holds Tryd.pinned (OpenSpec.upto windowBeginningSpec)

end Rows
end Go.Proofs.YtomhlmfekmnajaaDoor
