/-
  NARROWER THAN 'FOR EVERY INPUT', by the rows' own cells (each row's printed sentence says how): LitJoins: laid · NfaClasses: laid · LitPlain: laid · NfaPlain: laid · NfaAlgebra: laid · NfaRepeats: laid · NfaDots: laid.
  DERIVED. THE GIVEN ROWS OF THIS SEAT. 7 by the template 'for every input the law returns true; each argument reads behind the call as it read before'; 0 by the template 'total and deterministic' (their statements: YtkojmgnbmnjmmaaDoorTotals.lean).
  GIVEN WITH THE SEED: the statements are not yours to turn. If you find one false, say at which input.
  Laid BY PROGRAM, IN A SANDBOX (cutbox-rows.mjs): the forced cells as the released guide's own fill.sh prints them over the translation 768b74487adf91f0… (all of the seat's roots in one cut). By AI agents, Wed Nov 11 2026. No macro, syntax, notation, axiom, sorry.
-/
import Derived.Test.YtkojmgnbmnjmmaaDoorChecked
import GoSem.PinnedTables
import GoSem.Claim
import GoSem.ClaimJoined
import GoSem.ClaimMapViews
import Derived.JoinedTies
import Derived.KernelRfl
namespace Go.Proofs.YtkojmgnbmnjmmaaDoor
/- THE CELL 'sum', in the pinned program and in every row, IS THE sha256 OF THE DUMP (.gsa) THAT YtkojmgnbmnjmmaaDoorProg.lean LOADS. Nothing in Lean hashes anything: it is a label: what it is worth is what the hold of that sum in a sandbox is worth. -/
noncomputable def Tryd.pinned : Pinned := { name := "ytkojmgnbmnjmmaadoor", sum := "768b74487adf91f0dfdc25a9f4c1c775b29820af7e5f7d72ae12f7ce3b3ef730", checked := Tryd.checked }
namespace Rows
def none {H : Type} : Left H := { results := [], args := [] }

/- WHAT THE LISTED PACKAGE-LEVEL VARIABLES READ AS WHEN THE CALL BEGINS. Each datum BY PROGRAM (the guide's laid-datum.mjs) off the statement by which the dump's own 'gosem.cut.vars' lays the variable. In a bare row this is a premise. The card (YtkojmgnbmnjmmaaDoorCards.lean) ties it to the program's text. -/
def laid_unicode_utf8_acceptRanges {H : Type} : DataW H := .agg [.agg [.lit (.int .u8 128), .lit (.int .u8 191)], .agg [.lit (.int .u8 160), .lit (.int .u8 191)], .agg [.lit (.int .u8 128), .lit (.int .u8 159)], .agg [.lit (.int .u8 144), .lit (.int .u8 191)], .agg [.lit (.int .u8 128), .lit (.int .u8 143)], .agg [.lit (.int .u8 0), .lit (.int .u8 0)], .agg [.lit (.int .u8 0), .lit (.int .u8 0)], .agg [.lit (.int .u8 0), .lit (.int .u8 0)], .agg [.lit (.int .u8 0), .lit (.int .u8 0)], .agg [.lit (.int .u8 0), .lit (.int .u8 0)], .agg [.lit (.int .u8 0), .lit (.int .u8 0)], .agg [.lit (.int .u8 0), .lit (.int .u8 0)], .agg [.lit (.int .u8 0), .lit (.int .u8 0)], .agg [.lit (.int .u8 0), .lit (.int .u8 0)], .agg [.lit (.int .u8 0), .lit (.int .u8 0)], .agg [.lit (.int .u8 0), .lit (.int .u8 0)]]
/-- One of Go's own tables, pinned by name: the form's constant. -/
def laid_unicode_utf8_first : DataW Unit := Go.Pinned.utf8First

/-- 'garnerlaw21.LitJoins': WHATEVER THE INPUT: true; the input reads as it did. -/
def litJoinsSpec : ChangeSpec := { name := "litJoins", fn := fun _ => fun
  | [d1, d2] => { results := [.lit (.bool true)], args := [d1, d2] }
  | _ => none }
def litJoinsRow : OpenClaim := { program := "ytkojmgnbmnjmmaadoor", sum := "768b74487adf91f0dfdc25a9f4c1c775b29820af7e5f7d72ae12f7ce3b3ef730", func := "garner/garnerlaw21.LitJoins", spec := "litJoins", inPlace := ["internal/bytealg.IndexByteString", "internal/bytealg.IndexString"], unfollowed := true, recurses := true, named := ["unicode/utf8.first", "unicode/utf8.acceptRanges", "internal/bytealg.MaxLen"], apart := false, laid := [("unicode/utf8.acceptRanges", laid_unicode_utf8_acceptRanges), ("unicode/utf8.first", laid_unicode_utf8_first)] }
def LitJoinsSaid : Prop := litJoinsRow.holds Tryd.pinned (OpenSpec.ofChange litJoinsSpec)

/-- ITS FALSE NEIGHBOUR: 'it returns false'. Refute it at one input. -/
def litJoinsWrong : ChangeSpec := { name := "litJoins", fn := fun _ => fun
  | [d1, d2] => { results := [.lit (.bool false)], args := [d1, d2] }
  | _ => none }
def LitJoinsWrongFalsely : Prop := litJoinsRow.holds Tryd.pinned (OpenSpec.ofChange litJoinsWrong)

/-- 'garnerlaw19.NfaClasses': WHATEVER THE INPUT: true; the input reads as it did. -/
def nfaClassesSpec : ChangeSpec := { name := "nfaClasses", fn := fun _ => fun
  | [d1, d2, d3] => { results := [.lit (.bool true)], args := [d1, d2, d3] }
  | _ => none }
def nfaClassesRow : OpenClaim := { program := "ytkojmgnbmnjmmaadoor", sum := "768b74487adf91f0dfdc25a9f4c1c775b29820af7e5f7d72ae12f7ce3b3ef730", func := "garner/garnerlaw19.NfaClasses", spec := "nfaClasses", inPlace := ["internal/bytealg.IndexByteString", "internal/bytealg.IndexString"], unfollowed := true, recurses := true, named := ["unicode/utf8.first", "unicode/utf8.acceptRanges", "internal/bytealg.MaxLen"], apart := false, laid := [("unicode/utf8.acceptRanges", laid_unicode_utf8_acceptRanges), ("unicode/utf8.first", laid_unicode_utf8_first)] }
def NfaClassesSaid : Prop := nfaClassesRow.holds Tryd.pinned (OpenSpec.ofChange nfaClassesSpec)

/-- ITS FALSE NEIGHBOUR: 'it returns false'. Refute it at one input. -/
def nfaClassesWrong : ChangeSpec := { name := "nfaClasses", fn := fun _ => fun
  | [d1, d2, d3] => { results := [.lit (.bool false)], args := [d1, d2, d3] }
  | _ => none }
def NfaClassesWrongFalsely : Prop := nfaClassesRow.holds Tryd.pinned (OpenSpec.ofChange nfaClassesWrong)

/-- 'garnerlaw21.LitPlain': WHATEVER THE INPUT: true; the input reads as it did. -/
def litPlainSpec : ChangeSpec := { name := "litPlain", fn := fun _ => fun
  | [d] => { results := [.lit (.bool true)], args := [d] }
  | _ => none }
def litPlainRow : OpenClaim := { program := "ytkojmgnbmnjmmaadoor", sum := "768b74487adf91f0dfdc25a9f4c1c775b29820af7e5f7d72ae12f7ce3b3ef730", func := "garner/garnerlaw21.LitPlain", spec := "litPlain", inPlace := ["internal/bytealg.IndexByteString", "internal/bytealg.IndexString"], unfollowed := true, recurses := true, named := ["unicode/utf8.first", "unicode/utf8.acceptRanges", "internal/bytealg.MaxLen"], apart := false, laid := [("unicode/utf8.acceptRanges", laid_unicode_utf8_acceptRanges), ("unicode/utf8.first", laid_unicode_utf8_first)] }
def LitPlainSaid : Prop := litPlainRow.holds Tryd.pinned (OpenSpec.ofChange litPlainSpec)

/-- ITS FALSE NEIGHBOUR: 'it returns false'. Refute it at one input. -/
def litPlainWrong : ChangeSpec := { name := "litPlain", fn := fun _ => fun
  | [d] => { results := [.lit (.bool false)], args := [d] }
  | _ => none }
def LitPlainWrongFalsely : Prop := litPlainRow.holds Tryd.pinned (OpenSpec.ofChange litPlainWrong)

/-- 'garnerlaw19.NfaPlain': WHATEVER THE INPUT: true; the input reads as it did. -/
def nfaPlainSpec : ChangeSpec := { name := "nfaPlain", fn := fun _ => fun
  | [d1, d2] => { results := [.lit (.bool true)], args := [d1, d2] }
  | _ => none }
def nfaPlainRow : OpenClaim := { program := "ytkojmgnbmnjmmaadoor", sum := "768b74487adf91f0dfdc25a9f4c1c775b29820af7e5f7d72ae12f7ce3b3ef730", func := "garner/garnerlaw19.NfaPlain", spec := "nfaPlain", inPlace := ["internal/bytealg.IndexByteString", "internal/bytealg.IndexString"], unfollowed := true, recurses := true, named := ["unicode/utf8.first", "unicode/utf8.acceptRanges", "internal/bytealg.MaxLen"], apart := false, laid := [("unicode/utf8.acceptRanges", laid_unicode_utf8_acceptRanges), ("unicode/utf8.first", laid_unicode_utf8_first)] }
def NfaPlainSaid : Prop := nfaPlainRow.holds Tryd.pinned (OpenSpec.ofChange nfaPlainSpec)

/-- ITS FALSE NEIGHBOUR: 'it returns false'. Refute it at one input. -/
def nfaPlainWrong : ChangeSpec := { name := "nfaPlain", fn := fun _ => fun
  | [d1, d2] => { results := [.lit (.bool false)], args := [d1, d2] }
  | _ => none }
def NfaPlainWrongFalsely : Prop := nfaPlainRow.holds Tryd.pinned (OpenSpec.ofChange nfaPlainWrong)

/-- 'garnerlaw19.NfaAlgebra': WHATEVER THE INPUT: true; the input reads as it did. -/
def nfaAlgebraSpec : ChangeSpec := { name := "nfaAlgebra", fn := fun _ => fun
  | [d1, d2, d3] => { results := [.lit (.bool true)], args := [d1, d2, d3] }
  | _ => none }
def nfaAlgebraRow : OpenClaim := { program := "ytkojmgnbmnjmmaadoor", sum := "768b74487adf91f0dfdc25a9f4c1c775b29820af7e5f7d72ae12f7ce3b3ef730", func := "garner/garnerlaw19.NfaAlgebra", spec := "nfaAlgebra", inPlace := ["internal/bytealg.IndexByteString", "internal/bytealg.IndexString"], unfollowed := true, recurses := true, named := ["unicode/utf8.first", "unicode/utf8.acceptRanges", "internal/bytealg.MaxLen"], apart := false, laid := [("unicode/utf8.acceptRanges", laid_unicode_utf8_acceptRanges), ("unicode/utf8.first", laid_unicode_utf8_first)] }
def NfaAlgebraSaid : Prop := nfaAlgebraRow.holds Tryd.pinned (OpenSpec.ofChange nfaAlgebraSpec)

/-- ITS FALSE NEIGHBOUR: 'it returns false'. Refute it at one input. -/
def nfaAlgebraWrong : ChangeSpec := { name := "nfaAlgebra", fn := fun _ => fun
  | [d1, d2, d3] => { results := [.lit (.bool false)], args := [d1, d2, d3] }
  | _ => none }
def NfaAlgebraWrongFalsely : Prop := nfaAlgebraRow.holds Tryd.pinned (OpenSpec.ofChange nfaAlgebraWrong)

/-- 'garnerlaw19.NfaRepeats': WHATEVER THE INPUT: true; the input reads as it did. -/
def nfaRepeatsSpec : ChangeSpec := { name := "nfaRepeats", fn := fun _ => fun
  | [d1, d2] => { results := [.lit (.bool true)], args := [d1, d2] }
  | _ => none }
def nfaRepeatsRow : OpenClaim := { program := "ytkojmgnbmnjmmaadoor", sum := "768b74487adf91f0dfdc25a9f4c1c775b29820af7e5f7d72ae12f7ce3b3ef730", func := "garner/garnerlaw19.NfaRepeats", spec := "nfaRepeats", inPlace := ["internal/bytealg.IndexByteString", "internal/bytealg.IndexString"], unfollowed := true, recurses := true, named := ["unicode/utf8.first", "unicode/utf8.acceptRanges", "internal/bytealg.MaxLen"], apart := false, laid := [("unicode/utf8.acceptRanges", laid_unicode_utf8_acceptRanges), ("unicode/utf8.first", laid_unicode_utf8_first)] }
def NfaRepeatsSaid : Prop := nfaRepeatsRow.holds Tryd.pinned (OpenSpec.ofChange nfaRepeatsSpec)

/-- ITS FALSE NEIGHBOUR: 'it returns false'. Refute it at one input. -/
def nfaRepeatsWrong : ChangeSpec := { name := "nfaRepeats", fn := fun _ => fun
  | [d1, d2] => { results := [.lit (.bool false)], args := [d1, d2] }
  | _ => none }
def NfaRepeatsWrongFalsely : Prop := nfaRepeatsRow.holds Tryd.pinned (OpenSpec.ofChange nfaRepeatsWrong)

/-- 'garnerlaw19.NfaDots': WHATEVER THE INPUT: true; the input reads as it did. -/
def nfaDotsSpec : ChangeSpec := { name := "nfaDots", fn := fun _ => fun
  | [d1, d2] => { results := [.lit (.bool true)], args := [d1, d2] }
  | _ => none }
def nfaDotsRow : OpenClaim := { program := "ytkojmgnbmnjmmaadoor", sum := "768b74487adf91f0dfdc25a9f4c1c775b29820af7e5f7d72ae12f7ce3b3ef730", func := "garner/garnerlaw19.NfaDots", spec := "nfaDots", inPlace := ["internal/bytealg.IndexByteString", "internal/bytealg.IndexString"], unfollowed := true, recurses := true, named := ["unicode/utf8.first", "unicode/utf8.acceptRanges", "internal/bytealg.MaxLen"], apart := false, laid := [("unicode/utf8.acceptRanges", laid_unicode_utf8_acceptRanges), ("unicode/utf8.first", laid_unicode_utf8_first)] }
def NfaDotsSaid : Prop := nfaDotsRow.holds Tryd.pinned (OpenSpec.ofChange nfaDotsSpec)

/-- ITS FALSE NEIGHBOUR: 'it returns false'. Refute it at one input. -/
def nfaDotsWrong : ChangeSpec := { name := "nfaDots", fn := fun _ => fun
  | [d1, d2] => { results := [.lit (.bool false)], args := [d1, d2] }
  | _ => none }
def NfaDotsWrongFalsely : Prop := nfaDotsRow.holds Tryd.pinned (OpenSpec.ofChange nfaDotsWrong)

/- THE SECOND FORM. 'bulk': how many values and letters a reading holds, each counted each time it is reached (what is shared counts as often as it is met; a slice's spare places count too). A statement '..UptoSaid' is the law's where the arguments, and the package variables that the reading takes, are together of bulk at most 1048576: NARROWER than '..Said'. Prove '..Said' where nothing that the law and all that it calls make is longer than what came in: it says more and counts as full. Else prove '..UptoSaid'. A law counts once. -/
mutual
def uptoBulk {H : Type} : DataW H → Nat
  | .lit (.string bytes) => bytes.length + 1
  | .lit _ => 1
  | .nil => 1
  | .ptr d => uptoBulk d + 1
  | .slice elems spare => uptoBulkAll elems + uptoBulkAll spare + 1
  | .agg parts => uptoBulkAll parts + 1
  | .iface _ d => uptoBulk d + 1
  | .map entries => uptoBulkEntries entries + 1
  | .held _ => 1
def uptoBulkAll {H : Type} : List (DataW H) → Nat
  | [] => 0
  | d :: r => uptoBulk d + uptoBulkAll r
def uptoBulkEntries {H : Type} : List (Lit × DataW H) → Nat
  | [] => 0
  | x :: r => uptoBulkEntry x + uptoBulkEntries r
def uptoBulkEntry {H : Type} : Lit × DataW H → Nat
  | (.string bytes, d) => bytes.length + uptoBulk d + 1
  | (_, d) => uptoBulk d + 1
 end
def uptoSmall : (H : Type) → List (DataW H) → Bool := fun _ ds => decide (uptoBulkAll ds ≤ 1048576)
def OpenSpec.upto (s : _root_.Go.ChangeSpec) : _root_.Go.OpenSpec := { _root_.Go.OpenSpec.ofChange s with cond := some uptoSmall }

/-- 'garnerlaw21.LitJoins', WHERE WHAT IT READS IS OF BULK AT MOST 1048576: true; the input reads as it did. -/
def litJoinsUptoRow : OpenClaim := { program := "ytkojmgnbmnjmmaadoor", sum := "768b74487adf91f0dfdc25a9f4c1c775b29820af7e5f7d72ae12f7ce3b3ef730", func := "garner/garnerlaw21.LitJoins", spec := "litJoins", inPlace := ["internal/bytealg.IndexByteString", "internal/bytealg.IndexString"], unfollowed := true, recurses := true, named := ["unicode/utf8.first", "unicode/utf8.acceptRanges", "internal/bytealg.MaxLen"], apart := false, laid := [("unicode/utf8.acceptRanges", laid_unicode_utf8_acceptRanges), ("unicode/utf8.first", laid_unicode_utf8_first)], narrowed := true }
def LitJoinsUptoSaid : Prop := litJoinsUptoRow.holds Tryd.pinned (OpenSpec.upto litJoinsSpec)

/-- 'garnerlaw19.NfaClasses', WHERE WHAT IT READS IS OF BULK AT MOST 1048576: true; the input reads as it did. -/
def nfaClassesUptoRow : OpenClaim := { program := "ytkojmgnbmnjmmaadoor", sum := "768b74487adf91f0dfdc25a9f4c1c775b29820af7e5f7d72ae12f7ce3b3ef730", func := "garner/garnerlaw19.NfaClasses", spec := "nfaClasses", inPlace := ["internal/bytealg.IndexByteString", "internal/bytealg.IndexString"], unfollowed := true, recurses := true, named := ["unicode/utf8.first", "unicode/utf8.acceptRanges", "internal/bytealg.MaxLen"], apart := false, laid := [("unicode/utf8.acceptRanges", laid_unicode_utf8_acceptRanges), ("unicode/utf8.first", laid_unicode_utf8_first)], narrowed := true }
def NfaClassesUptoSaid : Prop := nfaClassesUptoRow.holds Tryd.pinned (OpenSpec.upto nfaClassesSpec)

/-- 'garnerlaw21.LitPlain', WHERE WHAT IT READS IS OF BULK AT MOST 1048576: true; the input reads as it did. -/
def litPlainUptoRow : OpenClaim := { program := "ytkojmgnbmnjmmaadoor", sum := "768b74487adf91f0dfdc25a9f4c1c775b29820af7e5f7d72ae12f7ce3b3ef730", func := "garner/garnerlaw21.LitPlain", spec := "litPlain", inPlace := ["internal/bytealg.IndexByteString", "internal/bytealg.IndexString"], unfollowed := true, recurses := true, named := ["unicode/utf8.first", "unicode/utf8.acceptRanges", "internal/bytealg.MaxLen"], apart := false, laid := [("unicode/utf8.acceptRanges", laid_unicode_utf8_acceptRanges), ("unicode/utf8.first", laid_unicode_utf8_first)], narrowed := true }
def LitPlainUptoSaid : Prop := litPlainUptoRow.holds Tryd.pinned (OpenSpec.upto litPlainSpec)

/-- 'garnerlaw19.NfaPlain', WHERE WHAT IT READS IS OF BULK AT MOST 1048576: true; the input reads as it did. -/
def nfaPlainUptoRow : OpenClaim := { program := "ytkojmgnbmnjmmaadoor", sum := "768b74487adf91f0dfdc25a9f4c1c775b29820af7e5f7d72ae12f7ce3b3ef730", func := "garner/garnerlaw19.NfaPlain", spec := "nfaPlain", inPlace := ["internal/bytealg.IndexByteString", "internal/bytealg.IndexString"], unfollowed := true, recurses := true, named := ["unicode/utf8.first", "unicode/utf8.acceptRanges", "internal/bytealg.MaxLen"], apart := false, laid := [("unicode/utf8.acceptRanges", laid_unicode_utf8_acceptRanges), ("unicode/utf8.first", laid_unicode_utf8_first)], narrowed := true }
def NfaPlainUptoSaid : Prop := nfaPlainUptoRow.holds Tryd.pinned (OpenSpec.upto nfaPlainSpec)

/-- 'garnerlaw19.NfaAlgebra', WHERE WHAT IT READS IS OF BULK AT MOST 1048576: true; the input reads as it did. -/
def nfaAlgebraUptoRow : OpenClaim := { program := "ytkojmgnbmnjmmaadoor", sum := "768b74487adf91f0dfdc25a9f4c1c775b29820af7e5f7d72ae12f7ce3b3ef730", func := "garner/garnerlaw19.NfaAlgebra", spec := "nfaAlgebra", inPlace := ["internal/bytealg.IndexByteString", "internal/bytealg.IndexString"], unfollowed := true, recurses := true, named := ["unicode/utf8.first", "unicode/utf8.acceptRanges", "internal/bytealg.MaxLen"], apart := false, laid := [("unicode/utf8.acceptRanges", laid_unicode_utf8_acceptRanges), ("unicode/utf8.first", laid_unicode_utf8_first)], narrowed := true }
def NfaAlgebraUptoSaid : Prop := nfaAlgebraUptoRow.holds Tryd.pinned (OpenSpec.upto nfaAlgebraSpec)

/-- 'garnerlaw19.NfaRepeats', WHERE WHAT IT READS IS OF BULK AT MOST 1048576: true; the input reads as it did. -/
def nfaRepeatsUptoRow : OpenClaim := { program := "ytkojmgnbmnjmmaadoor", sum := "768b74487adf91f0dfdc25a9f4c1c775b29820af7e5f7d72ae12f7ce3b3ef730", func := "garner/garnerlaw19.NfaRepeats", spec := "nfaRepeats", inPlace := ["internal/bytealg.IndexByteString", "internal/bytealg.IndexString"], unfollowed := true, recurses := true, named := ["unicode/utf8.first", "unicode/utf8.acceptRanges", "internal/bytealg.MaxLen"], apart := false, laid := [("unicode/utf8.acceptRanges", laid_unicode_utf8_acceptRanges), ("unicode/utf8.first", laid_unicode_utf8_first)], narrowed := true }
def NfaRepeatsUptoSaid : Prop := nfaRepeatsUptoRow.holds Tryd.pinned (OpenSpec.upto nfaRepeatsSpec)

/-- 'garnerlaw19.NfaDots', WHERE WHAT IT READS IS OF BULK AT MOST 1048576: true; the input reads as it did. -/
def nfaDotsUptoRow : OpenClaim := { program := "ytkojmgnbmnjmmaadoor", sum := "768b74487adf91f0dfdc25a9f4c1c775b29820af7e5f7d72ae12f7ce3b3ef730", func := "garner/garnerlaw19.NfaDots", spec := "nfaDots", inPlace := ["internal/bytealg.IndexByteString", "internal/bytealg.IndexString"], unfollowed := true, recurses := true, named := ["unicode/utf8.first", "unicode/utf8.acceptRanges", "internal/bytealg.MaxLen"], apart := false, laid := [("unicode/utf8.acceptRanges", laid_unicode_utf8_acceptRanges), ("unicode/utf8.first", laid_unicode_utf8_first)], narrowed := true }
def NfaDotsUptoSaid : Prop := nfaDotsUptoRow.holds Tryd.pinned (OpenSpec.upto nfaDotsSpec)

end Rows
end Go.Proofs.YtkojmgnbmnjmmaaDoor
