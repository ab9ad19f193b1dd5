/-
  NARROWER THAN 'FOR EVERY INPUT', by the rows' own cells (each row's printed sentence says how): OopsWraps: laid · OopsSame: laid · OopsIs: laid · OopsOthers: laid · OopsUnwraps: laid.
  DERIVED. THE GIVEN ROWS OF THIS SEAT. 5 by the template 'for every input the law returns true; each argument reads behind the call as it read before'; 0 by the template 'total and deterministic' (their statements: YtjjokjdhllgohaaDoorTotals.lean).
  GIVEN WITH THE SEED: the statements are not yours to turn. If you find one false, say at which input.
  Laid BY PROGRAM, IN A SANDBOX (cutbox-rows.mjs): the forced cells as the released guide's own fill.sh prints them over the translation 9b04cf657e63b435… (all of the seat's roots in one cut). By AI agents, Wed Nov 11 2026. No macro, syntax, notation, axiom, sorry.
-/
import Derived.Test.YtjjokjdhllgohaaDoorChecked
import GoSem.Claim
import GoSem.ClaimJoined
import GoSem.ClaimMapViews
import Derived.JoinedTies
import Derived.KernelRfl
namespace Go.Proofs.YtjjokjdhllgohaaDoor
/- THE CELL 'sum', in the pinned program and in every row, IS THE sha256 OF THE DUMP (.gsa) THAT YtjjokjdhllgohaaDoorProg.lean LOADS. Nothing in Lean hashes anything: it is a label: what it is worth is what the hold of that sum in a sandbox is worth. -/
noncomputable def Tryd.pinned : Pinned := { name := "ytjjokjdhllgohaadoor", sum := "9b04cf657e63b43549066210a8c0daf1243b2367238e9192f75f505ae5232bc8", checked := Tryd.checked }
namespace Rows
def none {H : Type} : Left H := { results := [], args := [] }

/- WHAT THE LISTED PACKAGE-LEVEL VARIABLES READ AS WHEN THE CALL BEGINS. Each datum BY PROGRAM (the guide's laid-datum.mjs) off the statement by which the dump's own 'gosem.cut.vars' lays the variable. In a bare row this is a premise. The card (YtjjokjdhllgohaaDoorCards.lean) ties it to the program's text. -/
def laid_errors_errorType {H : Type} : DataW H := .iface "internal/reflectlite.rtype" (.agg [.ptr (.lit (.string [101, 114, 114, 111, 114]))])

/-- 'fairleadlaw01.OopsWraps': WHATEVER THE INPUT: true; the input reads as it did. -/
def oopsWrapsSpec : ChangeSpec := { name := "oopsWraps", fn := fun _ => fun
  | [d1, d2, d3] => { results := [.lit (.bool true)], args := [d1, d2, d3] }
  | _ => none }
def oopsWrapsRow : OpenClaim := { program := "ytjjokjdhllgohaadoor", sum := "9b04cf657e63b43549066210a8c0daf1243b2367238e9192f75f505ae5232bc8", func := "fairlead/fairleadlaw01.OopsWraps", spec := "oopsWraps", inPlace := ["internal/reflectlite.ValueOf", "(internal/reflectlite.Value).Type", "(internal/reflectlite.Value).IsNil", "internal/reflectlite.TypeOf", "(internal/reflectlite.Value).Elem", "(internal/reflectlite.Value).Set"], unfollowed := true, recurses := true, named := ["errors.errorType"], apart := false, laid := [("errors.errorType", laid_errors_errorType)] }
def OopsWrapsSaid : Prop := oopsWrapsRow.holds Tryd.pinned (OpenSpec.ofChange oopsWrapsSpec)

/-- ITS FALSE NEIGHBOUR: 'it returns false'. Refute it at one input. -/
def oopsWrapsWrong : ChangeSpec := { name := "oopsWraps", fn := fun _ => fun
  | [d1, d2, d3] => { results := [.lit (.bool false)], args := [d1, d2, d3] }
  | _ => none }
def OopsWrapsWrongFalsely : Prop := oopsWrapsRow.holds Tryd.pinned (OpenSpec.ofChange oopsWrapsWrong)

/-- 'fairleadlaw01.OopsSame': WHATEVER THE INPUT: true; the input reads as it did. -/
def oopsSameSpec : ChangeSpec := { name := "oopsSame", fn := fun _ => fun
  | [d1, d2, d3, d4, d5, d6] => { results := [.lit (.bool true)], args := [d1, d2, d3, d4, d5, d6] }
  | _ => none }
def oopsSameRow : OpenClaim := { program := "ytjjokjdhllgohaadoor", sum := "9b04cf657e63b43549066210a8c0daf1243b2367238e9192f75f505ae5232bc8", func := "fairlead/fairleadlaw01.OopsSame", spec := "oopsSame", inPlace := ["internal/reflectlite.ValueOf", "(internal/reflectlite.Value).Type", "(internal/reflectlite.Value).IsNil", "internal/reflectlite.TypeOf", "(internal/reflectlite.Value).Elem", "(internal/reflectlite.Value).Set"], unfollowed := true, recurses := true, named := ["errors.errorType"], apart := false, laid := [("errors.errorType", laid_errors_errorType)] }
def OopsSameSaid : Prop := oopsSameRow.holds Tryd.pinned (OpenSpec.ofChange oopsSameSpec)

/-- ITS FALSE NEIGHBOUR: 'it returns false'. Refute it at one input. -/
def oopsSameWrong : ChangeSpec := { name := "oopsSame", fn := fun _ => fun
  | [d1, d2, d3, d4, d5, d6] => { results := [.lit (.bool false)], args := [d1, d2, d3, d4, d5, d6] }
  | _ => none }
def OopsSameWrongFalsely : Prop := oopsSameRow.holds Tryd.pinned (OpenSpec.ofChange oopsSameWrong)

/-- 'fairleadlaw01.OopsIs': WHATEVER THE INPUT: true; the input reads as it did. -/
def oopsIsSpec : ChangeSpec := { name := "oopsIs", fn := fun _ => fun
  | [d1, d2, d3, d4] => { results := [.lit (.bool true)], args := [d1, d2, d3, d4] }
  | _ => none }
def oopsIsRow : OpenClaim := { program := "ytjjokjdhllgohaadoor", sum := "9b04cf657e63b43549066210a8c0daf1243b2367238e9192f75f505ae5232bc8", func := "fairlead/fairleadlaw01.OopsIs", spec := "oopsIs", inPlace := ["internal/reflectlite.ValueOf", "(internal/reflectlite.Value).Type", "(internal/reflectlite.Value).IsNil", "internal/reflectlite.TypeOf", "(internal/reflectlite.Value).Elem", "(internal/reflectlite.Value).Set"], unfollowed := true, recurses := true, named := ["errors.errorType"], apart := false, laid := [("errors.errorType", laid_errors_errorType)] }
def OopsIsSaid : Prop := oopsIsRow.holds Tryd.pinned (OpenSpec.ofChange oopsIsSpec)

/-- ITS FALSE NEIGHBOUR: 'it returns false'. Refute it at one input. -/
def oopsIsWrong : ChangeSpec := { name := "oopsIs", fn := fun _ => fun
  | [d1, d2, d3, d4] => { results := [.lit (.bool false)], args := [d1, d2, d3, d4] }
  | _ => none }
def OopsIsWrongFalsely : Prop := oopsIsRow.holds Tryd.pinned (OpenSpec.ofChange oopsIsWrong)

/-- 'fairleadlaw01.OopsOthers': WHATEVER THE INPUT: true; the input reads as it did. -/
def oopsOthersSpec : ChangeSpec := { name := "oopsOthers", fn := fun _ => fun
  | [d1, d2] => { results := [.lit (.bool true)], args := [d1, d2] }
  | _ => none }
def oopsOthersRow : OpenClaim := { program := "ytjjokjdhllgohaadoor", sum := "9b04cf657e63b43549066210a8c0daf1243b2367238e9192f75f505ae5232bc8", func := "fairlead/fairleadlaw01.OopsOthers", spec := "oopsOthers", inPlace := ["internal/reflectlite.ValueOf", "(internal/reflectlite.Value).Type", "(internal/reflectlite.Value).IsNil", "internal/reflectlite.TypeOf", "(internal/reflectlite.Value).Elem", "(internal/reflectlite.Value).Set"], unfollowed := true, recurses := true, named := ["errors.errorType"], apart := false, laid := [("errors.errorType", laid_errors_errorType)] }
def OopsOthersSaid : Prop := oopsOthersRow.holds Tryd.pinned (OpenSpec.ofChange oopsOthersSpec)

/-- ITS FALSE NEIGHBOUR: 'it returns false'. Refute it at one input. -/
def oopsOthersWrong : ChangeSpec := { name := "oopsOthers", fn := fun _ => fun
  | [d1, d2] => { results := [.lit (.bool false)], args := [d1, d2] }
  | _ => none }
def OopsOthersWrongFalsely : Prop := oopsOthersRow.holds Tryd.pinned (OpenSpec.ofChange oopsOthersWrong)

/-- 'fairleadlaw01.OopsUnwraps': WHATEVER THE INPUT: true; the input reads as it did. -/
def oopsUnwrapsSpec : ChangeSpec := { name := "oopsUnwraps", fn := fun _ => fun
  | [d1, d2, d3] => { results := [.lit (.bool true)], args := [d1, d2, d3] }
  | _ => none }
def oopsUnwrapsRow : OpenClaim := { program := "ytjjokjdhllgohaadoor", sum := "9b04cf657e63b43549066210a8c0daf1243b2367238e9192f75f505ae5232bc8", func := "fairlead/fairleadlaw01.OopsUnwraps", spec := "oopsUnwraps", inPlace := ["internal/reflectlite.ValueOf", "(internal/reflectlite.Value).Type", "(internal/reflectlite.Value).IsNil", "internal/reflectlite.TypeOf", "(internal/reflectlite.Value).Elem", "(internal/reflectlite.Value).Set"], unfollowed := true, recurses := true, named := ["errors.errorType"], apart := false, laid := [("errors.errorType", laid_errors_errorType)] }
def OopsUnwrapsSaid : Prop := oopsUnwrapsRow.holds Tryd.pinned (OpenSpec.ofChange oopsUnwrapsSpec)

/-- ITS FALSE NEIGHBOUR: 'it returns false'. Refute it at one input. -/
def oopsUnwrapsWrong : ChangeSpec := { name := "oopsUnwraps", fn := fun _ => fun
  | [d1, d2, d3] => { results := [.lit (.bool false)], args := [d1, d2, d3] }
  | _ => none }
def OopsUnwrapsWrongFalsely : Prop := oopsUnwrapsRow.holds Tryd.pinned (OpenSpec.ofChange oopsUnwrapsWrong)

/- THE SECOND FORM. 'bulk': how many values and letters a reading holds, each counted each time it is reached (what is shared counts as often as it is met; a slice's spare places count too). A statement '..UptoSaid' is the law's where the arguments, and the package variables that the reading takes, are together of bulk at most 1048576: NARROWER than '..Said'. Prove '..Said' where nothing that the law and all that it calls make is longer than what came in: it says more and counts as full. Else prove '..UptoSaid'. A law counts once. -/
mutual
def uptoBulk {H : Type} : DataW H → Nat
  | .lit (.string bytes) => bytes.length + 1
  | .lit _ => 1
  | .nil => 1
  | .ptr d => uptoBulk d + 1
  | .slice elems spare => uptoBulkAll elems + uptoBulkAll spare + 1
  | .agg parts => uptoBulkAll parts + 1
  | .iface _ d => uptoBulk d + 1
  | .map entries => uptoBulkEntries entries + 1
  | .held _ => 1
def uptoBulkAll {H : Type} : List (DataW H) → Nat
  | [] => 0
  | d :: r => uptoBulk d + uptoBulkAll r
def uptoBulkEntries {H : Type} : List (Lit × DataW H) → Nat
  | [] => 0
  | x :: r => uptoBulkEntry x + uptoBulkEntries r
def uptoBulkEntry {H : Type} : Lit × DataW H → Nat
  | (.string bytes, d) => bytes.length + uptoBulk d + 1
  | (_, d) => uptoBulk d + 1
 end
def uptoSmall : (H : Type) → List (DataW H) → Bool := fun _ ds => decide (uptoBulkAll ds ≤ 1048576)
def OpenSpec.upto (s : _root_.Go.ChangeSpec) : _root_.Go.OpenSpec := { _root_.Go.OpenSpec.ofChange s with cond := some uptoSmall }

/-- 'fairleadlaw01.OopsWraps', WHERE WHAT IT READS IS OF BULK AT MOST 1048576: true; the input reads as it did. -/
def oopsWrapsUptoRow : OpenClaim := { program := "ytjjokjdhllgohaadoor", sum := "9b04cf657e63b43549066210a8c0daf1243b2367238e9192f75f505ae5232bc8", func := "fairlead/fairleadlaw01.OopsWraps", spec := "oopsWraps", inPlace := ["internal/reflectlite.ValueOf", "(internal/reflectlite.Value).Type", "(internal/reflectlite.Value).IsNil", "internal/reflectlite.TypeOf", "(internal/reflectlite.Value).Elem", "(internal/reflectlite.Value).Set"], unfollowed := true, recurses := true, named := ["errors.errorType"], apart := false, laid := [("errors.errorType", laid_errors_errorType)], narrowed := true }
def OopsWrapsUptoSaid : Prop := oopsWrapsUptoRow.holds Tryd.pinned (OpenSpec.upto oopsWrapsSpec)

/-- 'fairleadlaw01.OopsSame', WHERE WHAT IT READS IS OF BULK AT MOST 1048576: true; the input reads as it did. -/
def oopsSameUptoRow : OpenClaim := { program := "ytjjokjdhllgohaadoor", sum := "9b04cf657e63b43549066210a8c0daf1243b2367238e9192f75f505ae5232bc8", func := "fairlead/fairleadlaw01.OopsSame", spec := "oopsSame", inPlace := ["internal/reflectlite.ValueOf", "(internal/reflectlite.Value).Type", "(internal/reflectlite.Value).IsNil", "internal/reflectlite.TypeOf", "(internal/reflectlite.Value).Elem", "(internal/reflectlite.Value).Set"], unfollowed := true, recurses := true, named := ["errors.errorType"], apart := false, laid := [("errors.errorType", laid_errors_errorType)], narrowed := true }
def OopsSameUptoSaid : Prop := oopsSameUptoRow.holds Tryd.pinned (OpenSpec.upto oopsSameSpec)

/-- 'fairleadlaw01.OopsIs', WHERE WHAT IT READS IS OF BULK AT MOST 1048576: true; the input reads as it did. -/
def oopsIsUptoRow : OpenClaim := { program := "ytjjokjdhllgohaadoor", sum := "9b04cf657e63b43549066210a8c0daf1243b2367238e9192f75f505ae5232bc8", func := "fairlead/fairleadlaw01.OopsIs", spec := "oopsIs", inPlace := ["internal/reflectlite.ValueOf", "(internal/reflectlite.Value).Type", "(internal/reflectlite.Value).IsNil", "internal/reflectlite.TypeOf", "(internal/reflectlite.Value).Elem", "(internal/reflectlite.Value).Set"], unfollowed := true, recurses := true, named := ["errors.errorType"], apart := false, laid := [("errors.errorType", laid_errors_errorType)], narrowed := true }
def OopsIsUptoSaid : Prop := oopsIsUptoRow.holds Tryd.pinned (OpenSpec.upto oopsIsSpec)

/-- 'fairleadlaw01.OopsOthers', WHERE WHAT IT READS IS OF BULK AT MOST 1048576: true; the input reads as it did. -/
def oopsOthersUptoRow : OpenClaim := { program := "ytjjokjdhllgohaadoor", sum := "9b04cf657e63b43549066210a8c0daf1243b2367238e9192f75f505ae5232bc8", func := "fairlead/fairleadlaw01.OopsOthers", spec := "oopsOthers", inPlace := ["internal/reflectlite.ValueOf", "(internal/reflectlite.Value).Type", "(internal/reflectlite.Value).IsNil", "internal/reflectlite.TypeOf", "(internal/reflectlite.Value).Elem", "(internal/reflectlite.Value).Set"], unfollowed := true, recurses := true, named := ["errors.errorType"], apart := false, laid := [("errors.errorType", laid_errors_errorType)], narrowed := true }
def OopsOthersUptoSaid : Prop := oopsOthersUptoRow.holds Tryd.pinned (OpenSpec.upto oopsOthersSpec)

/-- 'fairleadlaw01.OopsUnwraps', WHERE WHAT IT READS IS OF BULK AT MOST 1048576: true; the input reads as it did. -/
def oopsUnwrapsUptoRow : OpenClaim := { program := "ytjjokjdhllgohaadoor", sum := "9b04cf657e63b43549066210a8c0daf1243b2367238e9192f75f505ae5232bc8", func := "fairlead/fairleadlaw01.OopsUnwraps", spec := "oopsUnwraps", inPlace := ["internal/reflectlite.ValueOf", "(internal/reflectlite.Value).Type", "(internal/reflectlite.Value).IsNil", "internal/reflectlite.TypeOf", "(internal/reflectlite.Value).Elem", "(internal/reflectlite.Value).Set"], unfollowed := true, recurses := true, named := ["errors.errorType"], apart := false, laid := [("errors.errorType", laid_errors_errorType)], narrowed := true }
def OopsUnwrapsUptoSaid : Prop := oopsUnwrapsUptoRow.holds Tryd.pinned (OpenSpec.upto oopsUnwrapsSpec)

end Rows
end Go.Proofs.YtjjokjdhllgohaaDoor
