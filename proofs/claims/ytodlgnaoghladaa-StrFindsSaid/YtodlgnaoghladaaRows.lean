/-
  No cell of these rows narrows 'for every input' (looked for: loops, veiled, ifaces, maps, wideKeys, modest, calm, conditions, laid).
  DERIVED. THE GIVEN ROWS OF THIS SEAT. 4 by the template 'for every input the law returns true; each argument reads behind the call as it read before'; 0 by the template 'total and deterministic' (their statements: YtodlgnaoghladaaTotals.lean).
  GIVEN WITH THE SEED: the statements are not yours to turn. If you find one false, say at which input.
  Laid BY PROGRAM, IN A SANDBOX (cutbox-rows.mjs): the forced cells as the released guide's own fill.sh prints them over the translation dd59da29ebe786c4… (all of the seat's roots in one cut). By AI agents, Wed Nov 11 2026. No macro, syntax, notation, axiom, sorry.
-/
import Derived.Test.YtodlgnaoghladaaChecked
import GoSem.Claim
import GoSem.ClaimJoined
import GoSem.ClaimMapViews
import Derived.JoinedTies
import Derived.KernelRfl
namespace Go.Proofs.Ytodlgnaoghladaa
/- THE CELL 'sum', in the pinned program and in every row, IS THE sha256 OF THE DUMP (.gsa) THAT YtodlgnaoghladaaProg.lean LOADS. Nothing in Lean hashes anything: it is a label: what it is worth is what the hold of that sum in a sandbox is worth. -/
noncomputable def Try.pinned : Pinned := { name := "ytodlgnaoghladaa", sum := "dd59da29ebe786c422e52b5960959786b7bad8cbbe16f03a681403053e867b0a", checked := Try.checked }
namespace Rows
def none {H : Type} : Left H := { results := [], args := [] }

/-- 'inglenooklaw3.StrCases': WHATEVER THE INPUT: true; the input reads as it did. -/
def strCasesSpec : ChangeSpec := { name := "strCases", fn := fun _ => fun
  | [d] => { results := [.lit (.bool true)], args := [d] }
  | _ => none }
def strCasesRow : OpenClaim := { program := "ytodlgnaoghladaa", sum := "dd59da29ebe786c422e52b5960959786b7bad8cbbe16f03a681403053e867b0a", func := "inglenook/inglenooklaw3.StrCases", spec := "strCases", apart := false }
def StrCasesSaid : Prop := strCasesRow.holds Try.pinned (OpenSpec.ofChange strCasesSpec)

/-- ITS FALSE NEIGHBOUR: 'it returns false'. Refute it at one input. -/
def strCasesWrong : ChangeSpec := { name := "strCases", fn := fun _ => fun
  | [d] => { results := [.lit (.bool false)], args := [d] }
  | _ => none }
def StrCasesWrongFalsely : Prop := strCasesRow.holds Try.pinned (OpenSpec.ofChange strCasesWrong)

/-- 'inglenooklaw3.StrReplaces': WHATEVER THE INPUT: true; the input reads as it did. -/
def strReplacesSpec : ChangeSpec := { name := "strReplaces", fn := fun _ => fun
  | [d1, d2] => { results := [.lit (.bool true)], args := [d1, d2] }
  | _ => none }
def strReplacesRow : OpenClaim := { program := "ytodlgnaoghladaa", sum := "dd59da29ebe786c422e52b5960959786b7bad8cbbe16f03a681403053e867b0a", func := "inglenook/inglenooklaw3.StrReplaces", spec := "strReplaces", inPlace := ["internal/bytealg.IndexByteString", "internal/bytealg.IndexString"], named := ["internal/bytealg.MaxLen"], apart := false }
def StrReplacesSaid : Prop := strReplacesRow.holds Try.pinned (OpenSpec.ofChange strReplacesSpec)

/-- ITS FALSE NEIGHBOUR: 'it returns false'. Refute it at one input. -/
def strReplacesWrong : ChangeSpec := { name := "strReplaces", fn := fun _ => fun
  | [d1, d2] => { results := [.lit (.bool false)], args := [d1, d2] }
  | _ => none }
def StrReplacesWrongFalsely : Prop := strReplacesRow.holds Try.pinned (OpenSpec.ofChange strReplacesWrong)

/-- 'inglenooklaw3.StrMakes': WHATEVER THE INPUT: true; the input reads as it did. -/
def strMakesSpec : ChangeSpec := { name := "strMakes", fn := fun _ => fun
  | [d1, d2, d3, d4, d5] => { results := [.lit (.bool true)], args := [d1, d2, d3, d4, d5] }
  | _ => none }
def strMakesRow : OpenClaim := { program := "ytodlgnaoghladaa", sum := "dd59da29ebe786c422e52b5960959786b7bad8cbbe16f03a681403053e867b0a", func := "inglenook/inglenooklaw3.StrMakes", spec := "strMakes", inPlace := ["internal/bytealg.IndexByteString", "internal/bytealg.IndexString"], named := ["internal/bytealg.MaxLen"], apart := false }
def StrMakesSaid : Prop := strMakesRow.holds Try.pinned (OpenSpec.ofChange strMakesSpec)

/-- ITS FALSE NEIGHBOUR: 'it returns false'. Refute it at one input. -/
def strMakesWrong : ChangeSpec := { name := "strMakes", fn := fun _ => fun
  | [d1, d2, d3, d4, d5] => { results := [.lit (.bool false)], args := [d1, d2, d3, d4, d5] }
  | _ => none }
def StrMakesWrongFalsely : Prop := strMakesRow.holds Try.pinned (OpenSpec.ofChange strMakesWrong)

/-- 'inglenooklaw3.StrFinds': WHATEVER THE INPUT: true; the input reads as it did. -/
def strFindsSpec : ChangeSpec := { name := "strFinds", fn := fun _ => fun
  | [d1, d2, d3] => { results := [.lit (.bool true)], args := [d1, d2, d3] }
  | _ => none }
def strFindsRow : OpenClaim := { program := "ytodlgnaoghladaa", sum := "dd59da29ebe786c422e52b5960959786b7bad8cbbe16f03a681403053e867b0a", func := "inglenook/inglenooklaw3.StrFinds", spec := "strFinds", inPlace := ["internal/bytealg.IndexByteString", "internal/bytealg.IndexString"], named := ["internal/bytealg.MaxLen"], apart := false }
def StrFindsSaid : Prop := strFindsRow.holds Try.pinned (OpenSpec.ofChange strFindsSpec)

/-- ITS FALSE NEIGHBOUR: 'it returns false'. Refute it at one input. -/
def strFindsWrong : ChangeSpec := { name := "strFinds", fn := fun _ => fun
  | [d1, d2, d3] => { results := [.lit (.bool false)], args := [d1, d2, d3] }
  | _ => none }
def StrFindsWrongFalsely : Prop := strFindsRow.holds Try.pinned (OpenSpec.ofChange strFindsWrong)

/- THE SECOND FORM. 'bulk': how many values and letters a reading holds, each counted each time it is reached (what is shared counts as often as it is met; a slice's spare places count too). A statement '..UptoSaid' is the law's where the arguments, and the package variables that the reading takes, are together of bulk at most 1048576: NARROWER than '..Said'. Prove '..Said' where nothing that the law and all that it calls make is longer than what came in: it says more and counts as full. Else prove '..UptoSaid'. A law counts once. -/
mutual
def uptoBulk {H : Type} : DataW H → Nat
  | .lit (.string bytes) => bytes.length + 1
  | .lit _ => 1
  | .nil => 1
  | .ptr d => uptoBulk d + 1
  | .slice elems spare => uptoBulkAll elems + uptoBulkAll spare + 1
  | .agg parts => uptoBulkAll parts + 1
  | .iface _ d => uptoBulk d + 1
  | .map entries => uptoBulkEntries entries + 1
  | .held _ => 1
def uptoBulkAll {H : Type} : List (DataW H) → Nat
  | [] => 0
  | d :: r => uptoBulk d + uptoBulkAll r
def uptoBulkEntries {H : Type} : List (Lit × DataW H) → Nat
  | [] => 0
  | x :: r => uptoBulkEntry x + uptoBulkEntries r
def uptoBulkEntry {H : Type} : Lit × DataW H → Nat
  | (.string bytes, d) => bytes.length + uptoBulk d + 1
  | (_, d) => uptoBulk d + 1
 end
def uptoSmall : (H : Type) → List (DataW H) → Bool := fun _ ds => decide (uptoBulkAll ds ≤ 1048576)
def OpenSpec.upto (s : _root_.Go.ChangeSpec) : _root_.Go.OpenSpec := { _root_.Go.OpenSpec.ofChange s with cond := some uptoSmall }

/-- 'inglenooklaw3.StrCases', WHERE WHAT IT READS IS OF BULK AT MOST 1048576: true; the input reads as it did. -/
def strCasesUptoRow : OpenClaim := { program := "ytodlgnaoghladaa", sum := "dd59da29ebe786c422e52b5960959786b7bad8cbbe16f03a681403053e867b0a", func := "inglenook/inglenooklaw3.StrCases", spec := "strCases", apart := false, narrowed := true }
def StrCasesUptoSaid : Prop := strCasesUptoRow.holds Try.pinned (OpenSpec.upto strCasesSpec)

/-- 'inglenooklaw3.StrReplaces', WHERE WHAT IT READS IS OF BULK AT MOST 1048576: true; the input reads as it did. -/
def strReplacesUptoRow : OpenClaim := { program := "ytodlgnaoghladaa", sum := "dd59da29ebe786c422e52b5960959786b7bad8cbbe16f03a681403053e867b0a", func := "inglenook/inglenooklaw3.StrReplaces", spec := "strReplaces", inPlace := ["internal/bytealg.IndexByteString", "internal/bytealg.IndexString"], named := ["internal/bytealg.MaxLen"], apart := false, narrowed := true }
def StrReplacesUptoSaid : Prop := strReplacesUptoRow.holds Try.pinned (OpenSpec.upto strReplacesSpec)

/-- 'inglenooklaw3.StrMakes', WHERE WHAT IT READS IS OF BULK AT MOST 1048576: true; the input reads as it did. -/
def strMakesUptoRow : OpenClaim := { program := "ytodlgnaoghladaa", sum := "dd59da29ebe786c422e52b5960959786b7bad8cbbe16f03a681403053e867b0a", func := "inglenook/inglenooklaw3.StrMakes", spec := "strMakes", inPlace := ["internal/bytealg.IndexByteString", "internal/bytealg.IndexString"], named := ["internal/bytealg.MaxLen"], apart := false, narrowed := true }
def StrMakesUptoSaid : Prop := strMakesUptoRow.holds Try.pinned (OpenSpec.upto strMakesSpec)

/-- 'inglenooklaw3.StrFinds', WHERE WHAT IT READS IS OF BULK AT MOST 1048576: true; the input reads as it did. -/
def strFindsUptoRow : OpenClaim := { program := "ytodlgnaoghladaa", sum := "dd59da29ebe786c422e52b5960959786b7bad8cbbe16f03a681403053e867b0a", func := "inglenook/inglenooklaw3.StrFinds", spec := "strFinds", inPlace := ["internal/bytealg.IndexByteString", "internal/bytealg.IndexString"], named := ["internal/bytealg.MaxLen"], apart := false, narrowed := true }
def StrFindsUptoSaid : Prop := strFindsUptoRow.holds Try.pinned (OpenSpec.upto strFindsSpec)

end Rows
end Go.Proofs.Ytodlgnaoghladaa
