/-
  NARROWER THAN 'FOR EVERY INPUT', by the rows' own cells (each row's printed sentence says how): HttpPrefix: laid · HttpBodies: laid · HttpLimits: laid · HttpKeeps: laid · HttpPairs: laid.
  DERIVED. THE GIVEN ROWS OF THIS SEAT. 5 by the template 'for every input the law returns true; each argument reads behind the call as it read before'; 0 by the template 'total and deterministic' (their statements: YtcjapjnhejenaaaDoorTotals.lean).
  GIVEN WITH THE SEED: the statements are not yours to turn. If you find one false, say at which input.
  Laid BY PROGRAM, IN A SANDBOX (cutbox-rows.mjs): the forced cells as the released guide's own fill.sh prints them over the translation 6dfca00c4564a516… (all of the seat's roots in one cut). By AI agents, Wed Nov 11 2026. No macro, syntax, notation, axiom, sorry.
-/
import Derived.Test.YtcjapjnhejenaaaDoorChecked
import GoSem.PinnedTables
import GoSem.Claim
import GoSem.ClaimJoined
import GoSem.ClaimMapViews
import Derived.JoinedTies
import Derived.KernelRfl
namespace Go.Proofs.YtcjapjnhejenaaaDoor
/- THE CELL 'sum', in the pinned program and in every row, IS THE sha256 OF THE DUMP (.gsa) THAT YtcjapjnhejenaaaDoorProg.lean LOADS. Nothing in Lean hashes anything: it is a label: what it is worth is what the hold of that sum in a sandbox is worth. -/
noncomputable def Tryd.pinned : Pinned := { name := "ytcjapjnhejenaaadoor", sum := "6dfca00c4564a516cb8ba57afdda074ee1ac2980e823ef8cc2fa3b9896a4f732", checked := Tryd.checked }
namespace Rows
def none {H : Type} : Left H := { results := [], args := [] }

/- WHAT THE LISTED PACKAGE-LEVEL VARIABLES READ AS WHEN THE CALL BEGINS. Each datum BY PROGRAM (the guide's laid-datum.mjs) off the statement by which the dump's own 'gosem.cut.vars' lays the variable. In a bare row this is a premise. The card (YtcjapjnhejenaaaDoorCards.lean) ties it to the program's text. -/
def laid_unicode_utf8_acceptRanges {H : Type} : DataW H := .agg [.agg [.lit (.int .u8 128), .lit (.int .u8 191)], .agg [.lit (.int .u8 160), .lit (.int .u8 191)], .agg [.lit (.int .u8 128), .lit (.int .u8 159)], .agg [.lit (.int .u8 144), .lit (.int .u8 191)], .agg [.lit (.int .u8 128), .lit (.int .u8 143)], .agg [.lit (.int .u8 0), .lit (.int .u8 0)], .agg [.lit (.int .u8 0), .lit (.int .u8 0)], .agg [.lit (.int .u8 0), .lit (.int .u8 0)], .agg [.lit (.int .u8 0), .lit (.int .u8 0)], .agg [.lit (.int .u8 0), .lit (.int .u8 0)], .agg [.lit (.int .u8 0), .lit (.int .u8 0)], .agg [.lit (.int .u8 0), .lit (.int .u8 0)], .agg [.lit (.int .u8 0), .lit (.int .u8 0)], .agg [.lit (.int .u8 0), .lit (.int .u8 0)], .agg [.lit (.int .u8 0), .lit (.int .u8 0)], .agg [.lit (.int .u8 0), .lit (.int .u8 0)]]
/-- One of Go's own tables, pinned by name: the form's constant. -/
def laid_unicode_utf8_first : DataW Unit := Go.Pinned.utf8First

/-- 'garnerlaw26.HttpPrefix': WHATEVER THE INPUT: true; the input reads as it did. -/
def httpPrefixSpec : ChangeSpec := { name := "httpPrefix", fn := fun _ => fun
  | [d1, d2, d3] => { results := [.lit (.bool true)], args := [d1, d2, d3] }
  | _ => none }
def httpPrefixRow : OpenClaim := { program := "ytcjapjnhejenaaadoor", sum := "6dfca00c4564a516cb8ba57afdda074ee1ac2980e823ef8cc2fa3b9896a4f732", func := "garner/garnerlaw26.HttpPrefix", spec := "httpPrefix", inPlace := ["internal/bytealg.IndexByte", "internal/bytealg.Index", "internal/bytealg.IndexByteString", "internal/bytealg.IndexString", "internal/bytealg.CountString", "internal/abi.NoEscape", "internal/bytealg.MakeNoZero"], unfollowed := true, recurses := true, named := ["internal/bytealg.MaxLen", "unicode/utf8.first", "unicode/utf8.acceptRanges"], apart := false, laid := [("unicode/utf8.acceptRanges", laid_unicode_utf8_acceptRanges), ("unicode/utf8.first", laid_unicode_utf8_first)] }
def HttpPrefixSaid : Prop := httpPrefixRow.holds Tryd.pinned (OpenSpec.ofChange httpPrefixSpec)

/-- ITS FALSE NEIGHBOUR: 'it returns false'. Refute it at one input. -/
def httpPrefixWrong : ChangeSpec := { name := "httpPrefix", fn := fun _ => fun
  | [d1, d2, d3] => { results := [.lit (.bool false)], args := [d1, d2, d3] }
  | _ => none }
def HttpPrefixWrongFalsely : Prop := httpPrefixRow.holds Tryd.pinned (OpenSpec.ofChange httpPrefixWrong)

/-- 'garnerlaw26.HttpBodies': WHATEVER THE INPUT: true; the input reads as it did. -/
def httpBodiesSpec : ChangeSpec := { name := "httpBodies", fn := fun _ => fun
  | [d1, d2, d3] => { results := [.lit (.bool true)], args := [d1, d2, d3] }
  | _ => none }
def httpBodiesRow : OpenClaim := { program := "ytcjapjnhejenaaadoor", sum := "6dfca00c4564a516cb8ba57afdda074ee1ac2980e823ef8cc2fa3b9896a4f732", func := "garner/garnerlaw26.HttpBodies", spec := "httpBodies", inPlace := ["internal/bytealg.IndexByte", "internal/bytealg.Index", "internal/bytealg.IndexByteString", "internal/bytealg.IndexString", "internal/bytealg.CountString", "internal/abi.NoEscape", "internal/bytealg.MakeNoZero"], unfollowed := true, recurses := true, named := ["internal/bytealg.MaxLen", "unicode/utf8.first", "unicode/utf8.acceptRanges"], apart := false, laid := [("unicode/utf8.acceptRanges", laid_unicode_utf8_acceptRanges), ("unicode/utf8.first", laid_unicode_utf8_first)] }
def HttpBodiesSaid : Prop := httpBodiesRow.holds Tryd.pinned (OpenSpec.ofChange httpBodiesSpec)

/-- ITS FALSE NEIGHBOUR: 'it returns false'. Refute it at one input. -/
def httpBodiesWrong : ChangeSpec := { name := "httpBodies", fn := fun _ => fun
  | [d1, d2, d3] => { results := [.lit (.bool false)], args := [d1, d2, d3] }
  | _ => none }
def HttpBodiesWrongFalsely : Prop := httpBodiesRow.holds Tryd.pinned (OpenSpec.ofChange httpBodiesWrong)

/-- 'garnerlaw26.HttpLimits': WHATEVER THE INPUT: true; the input reads as it did. -/
def httpLimitsSpec : ChangeSpec := { name := "httpLimits", fn := fun _ => fun
  | [d1, d2] => { results := [.lit (.bool true)], args := [d1, d2] }
  | _ => none }
def httpLimitsRow : OpenClaim := { program := "ytcjapjnhejenaaadoor", sum := "6dfca00c4564a516cb8ba57afdda074ee1ac2980e823ef8cc2fa3b9896a4f732", func := "garner/garnerlaw26.HttpLimits", spec := "httpLimits", inPlace := ["internal/bytealg.IndexByte", "internal/bytealg.Index", "internal/bytealg.IndexByteString", "internal/bytealg.IndexString", "internal/bytealg.CountString", "internal/abi.NoEscape", "internal/bytealg.MakeNoZero"], unfollowed := true, recurses := true, named := ["internal/bytealg.MaxLen", "unicode/utf8.first", "unicode/utf8.acceptRanges"], apart := false, laid := [("unicode/utf8.acceptRanges", laid_unicode_utf8_acceptRanges), ("unicode/utf8.first", laid_unicode_utf8_first)] }
def HttpLimitsSaid : Prop := httpLimitsRow.holds Tryd.pinned (OpenSpec.ofChange httpLimitsSpec)

/-- ITS FALSE NEIGHBOUR: 'it returns false'. Refute it at one input. -/
def httpLimitsWrong : ChangeSpec := { name := "httpLimits", fn := fun _ => fun
  | [d1, d2] => { results := [.lit (.bool false)], args := [d1, d2] }
  | _ => none }
def HttpLimitsWrongFalsely : Prop := httpLimitsRow.holds Tryd.pinned (OpenSpec.ofChange httpLimitsWrong)

/-- 'garnerlaw26.HttpKeeps': WHATEVER THE INPUT: true; the input reads as it did. -/
def httpKeepsSpec : ChangeSpec := { name := "httpKeeps", fn := fun _ => fun
  | [d] => { results := [.lit (.bool true)], args := [d] }
  | _ => none }
def httpKeepsRow : OpenClaim := { program := "ytcjapjnhejenaaadoor", sum := "6dfca00c4564a516cb8ba57afdda074ee1ac2980e823ef8cc2fa3b9896a4f732", func := "garner/garnerlaw26.HttpKeeps", spec := "httpKeeps", inPlace := ["internal/bytealg.IndexByte", "internal/bytealg.Index", "internal/bytealg.IndexByteString", "internal/bytealg.IndexString", "internal/bytealg.CountString", "internal/abi.NoEscape", "internal/bytealg.MakeNoZero"], unfollowed := true, recurses := true, named := ["internal/bytealg.MaxLen", "unicode/utf8.first", "unicode/utf8.acceptRanges"], apart := false, laid := [("unicode/utf8.acceptRanges", laid_unicode_utf8_acceptRanges), ("unicode/utf8.first", laid_unicode_utf8_first)] }
def HttpKeepsSaid : Prop := httpKeepsRow.holds Tryd.pinned (OpenSpec.ofChange httpKeepsSpec)

/-- ITS FALSE NEIGHBOUR: 'it returns false'. Refute it at one input. -/
def httpKeepsWrong : ChangeSpec := { name := "httpKeeps", fn := fun _ => fun
  | [d] => { results := [.lit (.bool false)], args := [d] }
  | _ => none }
def HttpKeepsWrongFalsely : Prop := httpKeepsRow.holds Tryd.pinned (OpenSpec.ofChange httpKeepsWrong)

/-- 'garnerlaw26.HttpPairs': WHATEVER THE INPUT: true; the input reads as it did. -/
def httpPairsSpec : ChangeSpec := { name := "httpPairs", fn := fun _ => fun
  | [d1, d2] => { results := [.lit (.bool true)], args := [d1, d2] }
  | _ => none }
def httpPairsRow : OpenClaim := { program := "ytcjapjnhejenaaadoor", sum := "6dfca00c4564a516cb8ba57afdda074ee1ac2980e823ef8cc2fa3b9896a4f732", func := "garner/garnerlaw26.HttpPairs", spec := "httpPairs", inPlace := ["internal/bytealg.IndexByte", "internal/bytealg.Index", "internal/bytealg.IndexByteString", "internal/bytealg.IndexString", "internal/bytealg.CountString", "internal/abi.NoEscape", "internal/bytealg.MakeNoZero"], unfollowed := true, recurses := true, named := ["internal/bytealg.MaxLen", "unicode/utf8.first", "unicode/utf8.acceptRanges"], apart := false, laid := [("unicode/utf8.acceptRanges", laid_unicode_utf8_acceptRanges), ("unicode/utf8.first", laid_unicode_utf8_first)] }
def HttpPairsSaid : Prop := httpPairsRow.holds Tryd.pinned (OpenSpec.ofChange httpPairsSpec)

/-- ITS FALSE NEIGHBOUR: 'it returns false'. Refute it at one input. -/
def httpPairsWrong : ChangeSpec := { name := "httpPairs", fn := fun _ => fun
  | [d1, d2] => { results := [.lit (.bool false)], args := [d1, d2] }
  | _ => none }
def HttpPairsWrongFalsely : Prop := httpPairsRow.holds Tryd.pinned (OpenSpec.ofChange httpPairsWrong)

/- THE SECOND FORM. 'bulk': how many values and letters a reading holds, each counted each time it is reached (what is shared counts as often as it is met; a slice's spare places count too). A statement '..UptoSaid' is the law's where the arguments, and the package variables that the reading takes, are together of bulk at most 1048576: NARROWER than '..Said'. Prove '..Said' where nothing that the law and all that it calls make is longer than what came in: it says more and counts as full. Else prove '..UptoSaid'. A law counts once. -/
mutual
def uptoBulk {H : Type} : DataW H → Nat
  | .lit (.string bytes) => bytes.length + 1
  | .lit _ => 1
  | .nil => 1
  | .ptr d => uptoBulk d + 1
  | .slice elems spare => uptoBulkAll elems + uptoBulkAll spare + 1
  | .agg parts => uptoBulkAll parts + 1
  | .iface _ d => uptoBulk d + 1
  | .map entries => uptoBulkEntries entries + 1
  | .held _ => 1
def uptoBulkAll {H : Type} : List (DataW H) → Nat
  | [] => 0
  | d :: r => uptoBulk d + uptoBulkAll r
def uptoBulkEntries {H : Type} : List (Lit × DataW H) → Nat
  | [] => 0
  | x :: r => uptoBulkEntry x + uptoBulkEntries r
def uptoBulkEntry {H : Type} : Lit × DataW H → Nat
  | (.string bytes, d) => bytes.length + uptoBulk d + 1
  | (_, d) => uptoBulk d + 1
 end
def uptoSmall : (H : Type) → List (DataW H) → Bool := fun _ ds => decide (uptoBulkAll ds ≤ 1048576)
def OpenSpec.upto (s : _root_.Go.ChangeSpec) : _root_.Go.OpenSpec := { _root_.Go.OpenSpec.ofChange s with cond := some uptoSmall }

/-- 'garnerlaw26.HttpPrefix', WHERE WHAT IT READS IS OF BULK AT MOST 1048576: true; the input reads as it did. -/
def httpPrefixUptoRow : OpenClaim := { program := "ytcjapjnhejenaaadoor", sum := "6dfca00c4564a516cb8ba57afdda074ee1ac2980e823ef8cc2fa3b9896a4f732", func := "garner/garnerlaw26.HttpPrefix", spec := "httpPrefix", inPlace := ["internal/bytealg.IndexByte", "internal/bytealg.Index", "internal/bytealg.IndexByteString", "internal/bytealg.IndexString", "internal/bytealg.CountString", "internal/abi.NoEscape", "internal/bytealg.MakeNoZero"], unfollowed := true, recurses := true, named := ["internal/bytealg.MaxLen", "unicode/utf8.first", "unicode/utf8.acceptRanges"], apart := false, laid := [("unicode/utf8.acceptRanges", laid_unicode_utf8_acceptRanges), ("unicode/utf8.first", laid_unicode_utf8_first)], narrowed := true }
def HttpPrefixUptoSaid : Prop := httpPrefixUptoRow.holds Tryd.pinned (OpenSpec.upto httpPrefixSpec)

/-- 'garnerlaw26.HttpBodies', WHERE WHAT IT READS IS OF BULK AT MOST 1048576: true; the input reads as it did. -/
def httpBodiesUptoRow : OpenClaim := { program := "ytcjapjnhejenaaadoor", sum := "6dfca00c4564a516cb8ba57afdda074ee1ac2980e823ef8cc2fa3b9896a4f732", func := "garner/garnerlaw26.HttpBodies", spec := "httpBodies", inPlace := ["internal/bytealg.IndexByte", "internal/bytealg.Index", "internal/bytealg.IndexByteString", "internal/bytealg.IndexString", "internal/bytealg.CountString", "internal/abi.NoEscape", "internal/bytealg.MakeNoZero"], unfollowed := true, recurses := true, named := ["internal/bytealg.MaxLen", "unicode/utf8.first", "unicode/utf8.acceptRanges"], apart := false, laid := [("unicode/utf8.acceptRanges", laid_unicode_utf8_acceptRanges), ("unicode/utf8.first", laid_unicode_utf8_first)], narrowed := true }
def HttpBodiesUptoSaid : Prop := httpBodiesUptoRow.holds Tryd.pinned (OpenSpec.upto httpBodiesSpec)

/-- 'garnerlaw26.HttpLimits', WHERE WHAT IT READS IS OF BULK AT MOST 1048576: true; the input reads as it did. -/
def httpLimitsUptoRow : OpenClaim := { program := "ytcjapjnhejenaaadoor", sum := "6dfca00c4564a516cb8ba57afdda074ee1ac2980e823ef8cc2fa3b9896a4f732", func := "garner/garnerlaw26.HttpLimits", spec := "httpLimits", inPlace := ["internal/bytealg.IndexByte", "internal/bytealg.Index", "internal/bytealg.IndexByteString", "internal/bytealg.IndexString", "internal/bytealg.CountString", "internal/abi.NoEscape", "internal/bytealg.MakeNoZero"], unfollowed := true, recurses := true, named := ["internal/bytealg.MaxLen", "unicode/utf8.first", "unicode/utf8.acceptRanges"], apart := false, laid := [("unicode/utf8.acceptRanges", laid_unicode_utf8_acceptRanges), ("unicode/utf8.first", laid_unicode_utf8_first)], narrowed := true }
def HttpLimitsUptoSaid : Prop := httpLimitsUptoRow.holds Tryd.pinned (OpenSpec.upto httpLimitsSpec)

/-- 'garnerlaw26.HttpKeeps', WHERE WHAT IT READS IS OF BULK AT MOST 1048576: true; the input reads as it did. -/
def httpKeepsUptoRow : OpenClaim := { program := "ytcjapjnhejenaaadoor", sum := "6dfca00c4564a516cb8ba57afdda074ee1ac2980e823ef8cc2fa3b9896a4f732", func := "garner/garnerlaw26.HttpKeeps", spec := "httpKeeps", inPlace := ["internal/bytealg.IndexByte", "internal/bytealg.Index", "internal/bytealg.IndexByteString", "internal/bytealg.IndexString", "internal/bytealg.CountString", "internal/abi.NoEscape", "internal/bytealg.MakeNoZero"], unfollowed := true, recurses := true, named := ["internal/bytealg.MaxLen", "unicode/utf8.first", "unicode/utf8.acceptRanges"], apart := false, laid := [("unicode/utf8.acceptRanges", laid_unicode_utf8_acceptRanges), ("unicode/utf8.first", laid_unicode_utf8_first)], narrowed := true }
def HttpKeepsUptoSaid : Prop := httpKeepsUptoRow.holds Tryd.pinned (OpenSpec.upto httpKeepsSpec)

/-- 'garnerlaw26.HttpPairs', WHERE WHAT IT READS IS OF BULK AT MOST 1048576: true; the input reads as it did. -/
def httpPairsUptoRow : OpenClaim := { program := "ytcjapjnhejenaaadoor", sum := "6dfca00c4564a516cb8ba57afdda074ee1ac2980e823ef8cc2fa3b9896a4f732", func := "garner/garnerlaw26.HttpPairs", spec := "httpPairs", inPlace := ["internal/bytealg.IndexByte", "internal/bytealg.Index", "internal/bytealg.IndexByteString", "internal/bytealg.IndexString", "internal/bytealg.CountString", "internal/abi.NoEscape", "internal/bytealg.MakeNoZero"], unfollowed := true, recurses := true, named := ["internal/bytealg.MaxLen", "unicode/utf8.first", "unicode/utf8.acceptRanges"], apart := false, laid := [("unicode/utf8.acceptRanges", laid_unicode_utf8_acceptRanges), ("unicode/utf8.first", laid_unicode_utf8_first)], narrowed := true }
def HttpPairsUptoSaid : Prop := httpPairsUptoRow.holds Tryd.pinned (OpenSpec.upto httpPairsSpec)

end Rows
end Go.Proofs.YtcjapjnhejenaaaDoor
