/-
  No cell of these rows narrows 'for every input' (looked for: loops, veiled, ifaces, maps, wideKeys, modest, calm, conditions, laid).
  DERIVED. THE GIVEN ROWS OF THIS SEAT. 8 by the template 'for every input the law returns true; each argument reads behind the call as it read before'; 0 by the template 'total and deterministic' (their statements: YtmddgimadlmacaaTotals.lean).
  GIVEN WITH THE SEED: the statements are not yours to turn. If you find one false, say at which input.
  Laid BY PROGRAM, IN A SANDBOX (cutbox-rows.mjs): the forced cells as the released guide's own fill.sh prints them over the translation 30c41b9ffae35418… (all of the seat's roots in one cut). By AI agents, Wed Nov 11 2026. No macro, syntax, notation, axiom, sorry.
-/
import Derived.Test.YtmddgimadlmacaaChecked
import GoSem.Claim
import GoSem.ClaimJoined
import GoSem.ClaimMapViews
import Derived.JoinedTies
import Derived.KernelRfl
namespace Go.Proofs.Ytmddgimadlmacaa
/- THE CELL 'sum', in the pinned program and in every row, IS THE sha256 OF THE DUMP (.gsa) THAT YtmddgimadlmacaaProg.lean LOADS. Nothing in Lean hashes anything: it is a label: what it is worth is what the hold of that sum in a sandbox is worth. -/
noncomputable def Try.pinned : Pinned := { name := "ytmddgimadlmacaa", sum := "30c41b9ffae35418e8295466579cb64ed9647d63ab1a5b78e12062390066f19c", checked := Try.checked }
namespace Rows
def none {H : Type} : Left H := { results := [], args := [] }

/-- 'garnerlaw15.ManifestBytes': WHATEVER THE INPUT: true; the input reads as it did. -/
def manifestBytesSpec : ChangeSpec := { name := "manifestBytes", fn := fun _ => fun
  | [d1, d2] => { results := [.lit (.bool true)], args := [d1, d2] }
  | _ => none }
def manifestBytesRow : OpenClaim := { program := "ytmddgimadlmacaa", sum := "30c41b9ffae35418e8295466579cb64ed9647d63ab1a5b78e12062390066f19c", func := "garner/garnerlaw15.ManifestBytes", spec := "manifestBytes", recurses := true, apart := false }
def ManifestBytesSaid : Prop := manifestBytesRow.holds Try.pinned (OpenSpec.ofChange manifestBytesSpec)

/-- ITS FALSE NEIGHBOUR: 'it returns false'. Refute it at one input. -/
def manifestBytesWrong : ChangeSpec := { name := "manifestBytes", fn := fun _ => fun
  | [d1, d2] => { results := [.lit (.bool false)], args := [d1, d2] }
  | _ => none }
def ManifestBytesWrongFalsely : Prop := manifestBytesRow.holds Try.pinned (OpenSpec.ofChange manifestBytesWrong)

/-- 'garnerlaw15.ManifestKeeps': WHATEVER THE INPUT: true; the input reads as it did. -/
def manifestKeepsSpec : ChangeSpec := { name := "manifestKeeps", fn := fun _ => fun
  | [d] => { results := [.lit (.bool true)], args := [d] }
  | _ => none }
def manifestKeepsRow : OpenClaim := { program := "ytmddgimadlmacaa", sum := "30c41b9ffae35418e8295466579cb64ed9647d63ab1a5b78e12062390066f19c", func := "garner/garnerlaw15.ManifestKeeps", spec := "manifestKeeps", apart := false }
def ManifestKeepsSaid : Prop := manifestKeepsRow.holds Try.pinned (OpenSpec.ofChange manifestKeepsSpec)

/-- ITS FALSE NEIGHBOUR: 'it returns false'. Refute it at one input. -/
def manifestKeepsWrong : ChangeSpec := { name := "manifestKeeps", fn := fun _ => fun
  | [d] => { results := [.lit (.bool false)], args := [d] }
  | _ => none }
def ManifestKeepsWrongFalsely : Prop := manifestKeepsRow.holds Try.pinned (OpenSpec.ofChange manifestKeepsWrong)

/-- 'garnerlaw05.DiskCrash': WHATEVER THE INPUT: true; the input reads as it did. -/
def diskCrashSpec : ChangeSpec := { name := "diskCrash", fn := fun _ => fun
  | [d1, d2, d3] => { results := [.lit (.bool true)], args := [d1, d2, d3] }
  | _ => none }
def diskCrashRow : OpenClaim := { program := "ytmddgimadlmacaa", sum := "30c41b9ffae35418e8295466579cb64ed9647d63ab1a5b78e12062390066f19c", func := "garner/garnerlaw05.DiskCrash", spec := "diskCrash", recurses := true, apart := false }
def DiskCrashSaid : Prop := diskCrashRow.holds Try.pinned (OpenSpec.ofChange diskCrashSpec)

/-- ITS FALSE NEIGHBOUR: 'it returns false'. Refute it at one input. -/
def diskCrashWrong : ChangeSpec := { name := "diskCrash", fn := fun _ => fun
  | [d1, d2, d3] => { results := [.lit (.bool false)], args := [d1, d2, d3] }
  | _ => none }
def DiskCrashWrongFalsely : Prop := diskCrashRow.holds Try.pinned (OpenSpec.ofChange diskCrashWrong)

/-- 'garnerlaw05.DiskRename': WHATEVER THE INPUT: true; the input reads as it did. -/
def diskRenameSpec : ChangeSpec := { name := "diskRename", fn := fun _ => fun
  | [d1, d2, d3] => { results := [.lit (.bool true)], args := [d1, d2, d3] }
  | _ => none }
def diskRenameRow : OpenClaim := { program := "ytmddgimadlmacaa", sum := "30c41b9ffae35418e8295466579cb64ed9647d63ab1a5b78e12062390066f19c", func := "garner/garnerlaw05.DiskRename", spec := "diskRename", recurses := true, apart := false }
def DiskRenameSaid : Prop := diskRenameRow.holds Try.pinned (OpenSpec.ofChange diskRenameSpec)

/-- ITS FALSE NEIGHBOUR: 'it returns false'. Refute it at one input. -/
def diskRenameWrong : ChangeSpec := { name := "diskRename", fn := fun _ => fun
  | [d1, d2, d3] => { results := [.lit (.bool false)], args := [d1, d2, d3] }
  | _ => none }
def DiskRenameWrongFalsely : Prop := diskRenameRow.holds Try.pinned (OpenSpec.ofChange diskRenameWrong)

/-- 'garnerlaw05.DiskArms': WHATEVER THE INPUT: true; the input reads as it did. -/
def diskArmsSpec : ChangeSpec := { name := "diskArms", fn := fun _ => fun
  | [d1, d2] => { results := [.lit (.bool true)], args := [d1, d2] }
  | _ => none }
def diskArmsRow : OpenClaim := { program := "ytmddgimadlmacaa", sum := "30c41b9ffae35418e8295466579cb64ed9647d63ab1a5b78e12062390066f19c", func := "garner/garnerlaw05.DiskArms", spec := "diskArms", recurses := true, apart := false }
def DiskArmsSaid : Prop := diskArmsRow.holds Try.pinned (OpenSpec.ofChange diskArmsSpec)

/-- ITS FALSE NEIGHBOUR: 'it returns false'. Refute it at one input. -/
def diskArmsWrong : ChangeSpec := { name := "diskArms", fn := fun _ => fun
  | [d1, d2] => { results := [.lit (.bool false)], args := [d1, d2] }
  | _ => none }
def DiskArmsWrongFalsely : Prop := diskArmsRow.holds Try.pinned (OpenSpec.ofChange diskArmsWrong)

/-- 'garnerlaw05.DiskScripts': WHATEVER THE INPUT: true; the input reads as it did. -/
def diskScriptsSpec : ChangeSpec := { name := "diskScripts", fn := fun _ => fun
  | [d] => { results := [.lit (.bool true)], args := [d] }
  | _ => none }
def diskScriptsRow : OpenClaim := { program := "ytmddgimadlmacaa", sum := "30c41b9ffae35418e8295466579cb64ed9647d63ab1a5b78e12062390066f19c", func := "garner/garnerlaw05.DiskScripts", spec := "diskScripts", recurses := true, apart := false }
def DiskScriptsSaid : Prop := diskScriptsRow.holds Try.pinned (OpenSpec.ofChange diskScriptsSpec)

/-- ITS FALSE NEIGHBOUR: 'it returns false'. Refute it at one input. -/
def diskScriptsWrong : ChangeSpec := { name := "diskScripts", fn := fun _ => fun
  | [d] => { results := [.lit (.bool false)], args := [d] }
  | _ => none }
def DiskScriptsWrongFalsely : Prop := diskScriptsRow.holds Try.pinned (OpenSpec.ofChange diskScriptsWrong)

/-- 'garnerlaw15.ManifestSwap': WHATEVER THE INPUT: true; the input reads as it did. -/
def manifestSwapSpec : ChangeSpec := { name := "manifestSwap", fn := fun _ => fun
  | [d1, d2, d3] => { results := [.lit (.bool true)], args := [d1, d2, d3] }
  | _ => none }
def manifestSwapRow : OpenClaim := { program := "ytmddgimadlmacaa", sum := "30c41b9ffae35418e8295466579cb64ed9647d63ab1a5b78e12062390066f19c", func := "garner/garnerlaw15.ManifestSwap", spec := "manifestSwap", recurses := true, apart := false }
def ManifestSwapSaid : Prop := manifestSwapRow.holds Try.pinned (OpenSpec.ofChange manifestSwapSpec)

/-- ITS FALSE NEIGHBOUR: 'it returns false'. Refute it at one input. -/
def manifestSwapWrong : ChangeSpec := { name := "manifestSwap", fn := fun _ => fun
  | [d1, d2, d3] => { results := [.lit (.bool false)], args := [d1, d2, d3] }
  | _ => none }
def ManifestSwapWrongFalsely : Prop := manifestSwapRow.holds Try.pinned (OpenSpec.ofChange manifestSwapWrong)

/-- 'garnerlaw15.ManifestFiles': WHATEVER THE INPUT: true; the input reads as it did. -/
def manifestFilesSpec : ChangeSpec := { name := "manifestFiles", fn := fun _ => fun
  | [d1, d2, d3] => { results := [.lit (.bool true)], args := [d1, d2, d3] }
  | _ => none }
def manifestFilesRow : OpenClaim := { program := "ytmddgimadlmacaa", sum := "30c41b9ffae35418e8295466579cb64ed9647d63ab1a5b78e12062390066f19c", func := "garner/garnerlaw15.ManifestFiles", spec := "manifestFiles", recurses := true, apart := false }
def ManifestFilesSaid : Prop := manifestFilesRow.holds Try.pinned (OpenSpec.ofChange manifestFilesSpec)

/-- ITS FALSE NEIGHBOUR: 'it returns false'. Refute it at one input. -/
def manifestFilesWrong : ChangeSpec := { name := "manifestFiles", fn := fun _ => fun
  | [d1, d2, d3] => { results := [.lit (.bool false)], args := [d1, d2, d3] }
  | _ => none }
def ManifestFilesWrongFalsely : Prop := manifestFilesRow.holds Try.pinned (OpenSpec.ofChange manifestFilesWrong)

/- THE SECOND FORM. 'bulk': how many values and letters a reading holds, each counted each time it is reached (what is shared counts as often as it is met; a slice's spare places count too). A statement '..UptoSaid' is the law's where the arguments, and the package variables that the reading takes, are together of bulk at most 1048576: NARROWER than '..Said'. Prove '..Said' where nothing that the law and all that it calls make is longer than what came in: it says more and counts as full. Else prove '..UptoSaid'. A law counts once. -/
mutual
def uptoBulk {H : Type} : DataW H → Nat
  | .lit (.string bytes) => bytes.length + 1
  | .lit _ => 1
  | .nil => 1
  | .ptr d => uptoBulk d + 1
  | .slice elems spare => uptoBulkAll elems + uptoBulkAll spare + 1
  | .agg parts => uptoBulkAll parts + 1
  | .iface _ d => uptoBulk d + 1
  | .map entries => uptoBulkEntries entries + 1
  | .held _ => 1
def uptoBulkAll {H : Type} : List (DataW H) → Nat
  | [] => 0
  | d :: r => uptoBulk d + uptoBulkAll r
def uptoBulkEntries {H : Type} : List (Lit × DataW H) → Nat
  | [] => 0
  | x :: r => uptoBulkEntry x + uptoBulkEntries r
def uptoBulkEntry {H : Type} : Lit × DataW H → Nat
  | (.string bytes, d) => bytes.length + uptoBulk d + 1
  | (_, d) => uptoBulk d + 1
 end
def uptoSmall : (H : Type) → List (DataW H) → Bool := fun _ ds => decide (uptoBulkAll ds ≤ 1048576)
def OpenSpec.upto (s : _root_.Go.ChangeSpec) : _root_.Go.OpenSpec := { _root_.Go.OpenSpec.ofChange s with cond := some uptoSmall }

/-- 'garnerlaw15.ManifestBytes', WHERE WHAT IT READS IS OF BULK AT MOST 1048576: true; the input reads as it did. -/
def manifestBytesUptoRow : OpenClaim := { program := "ytmddgimadlmacaa", sum := "30c41b9ffae35418e8295466579cb64ed9647d63ab1a5b78e12062390066f19c", func := "garner/garnerlaw15.ManifestBytes", spec := "manifestBytes", recurses := true, apart := false, narrowed := true }
def ManifestBytesUptoSaid : Prop := manifestBytesUptoRow.holds Try.pinned (OpenSpec.upto manifestBytesSpec)

/-- 'garnerlaw15.ManifestKeeps', WHERE WHAT IT READS IS OF BULK AT MOST 1048576: true; the input reads as it did. -/
def manifestKeepsUptoRow : OpenClaim := { program := "ytmddgimadlmacaa", sum := "30c41b9ffae35418e8295466579cb64ed9647d63ab1a5b78e12062390066f19c", func := "garner/garnerlaw15.ManifestKeeps", spec := "manifestKeeps", apart := false, narrowed := true }
def ManifestKeepsUptoSaid : Prop := manifestKeepsUptoRow.holds Try.pinned (OpenSpec.upto manifestKeepsSpec)

/-- 'garnerlaw05.DiskCrash', WHERE WHAT IT READS IS OF BULK AT MOST 1048576: true; the input reads as it did. -/
def diskCrashUptoRow : OpenClaim := { program := "ytmddgimadlmacaa", sum := "30c41b9ffae35418e8295466579cb64ed9647d63ab1a5b78e12062390066f19c", func := "garner/garnerlaw05.DiskCrash", spec := "diskCrash", recurses := true, apart := false, narrowed := true }
def DiskCrashUptoSaid : Prop := diskCrashUptoRow.holds Try.pinned (OpenSpec.upto diskCrashSpec)

/-- 'garnerlaw05.DiskRename', WHERE WHAT IT READS IS OF BULK AT MOST 1048576: true; the input reads as it did. -/
def diskRenameUptoRow : OpenClaim := { program := "ytmddgimadlmacaa", sum := "30c41b9ffae35418e8295466579cb64ed9647d63ab1a5b78e12062390066f19c", func := "garner/garnerlaw05.DiskRename", spec := "diskRename", recurses := true, apart := false, narrowed := true }
def DiskRenameUptoSaid : Prop := diskRenameUptoRow.holds Try.pinned (OpenSpec.upto diskRenameSpec)

/-- 'garnerlaw05.DiskArms', WHERE WHAT IT READS IS OF BULK AT MOST 1048576: true; the input reads as it did. -/
def diskArmsUptoRow : OpenClaim := { program := "ytmddgimadlmacaa", sum := "30c41b9ffae35418e8295466579cb64ed9647d63ab1a5b78e12062390066f19c", func := "garner/garnerlaw05.DiskArms", spec := "diskArms", recurses := true, apart := false, narrowed := true }
def DiskArmsUptoSaid : Prop := diskArmsUptoRow.holds Try.pinned (OpenSpec.upto diskArmsSpec)

/-- 'garnerlaw05.DiskScripts', WHERE WHAT IT READS IS OF BULK AT MOST 1048576: true; the input reads as it did. -/
def diskScriptsUptoRow : OpenClaim := { program := "ytmddgimadlmacaa", sum := "30c41b9ffae35418e8295466579cb64ed9647d63ab1a5b78e12062390066f19c", func := "garner/garnerlaw05.DiskScripts", spec := "diskScripts", recurses := true, apart := false, narrowed := true }
def DiskScriptsUptoSaid : Prop := diskScriptsUptoRow.holds Try.pinned (OpenSpec.upto diskScriptsSpec)

/-- 'garnerlaw15.ManifestSwap', WHERE WHAT IT READS IS OF BULK AT MOST 1048576: true; the input reads as it did. -/
def manifestSwapUptoRow : OpenClaim := { program := "ytmddgimadlmacaa", sum := "30c41b9ffae35418e8295466579cb64ed9647d63ab1a5b78e12062390066f19c", func := "garner/garnerlaw15.ManifestSwap", spec := "manifestSwap", recurses := true, apart := false, narrowed := true }
def ManifestSwapUptoSaid : Prop := manifestSwapUptoRow.holds Try.pinned (OpenSpec.upto manifestSwapSpec)

/-- 'garnerlaw15.ManifestFiles', WHERE WHAT IT READS IS OF BULK AT MOST 1048576: true; the input reads as it did. -/
def manifestFilesUptoRow : OpenClaim := { program := "ytmddgimadlmacaa", sum := "30c41b9ffae35418e8295466579cb64ed9647d63ab1a5b78e12062390066f19c", func := "garner/garnerlaw15.ManifestFiles", spec := "manifestFiles", recurses := true, apart := false, narrowed := true }
def ManifestFilesUptoSaid : Prop := manifestFilesUptoRow.holds Try.pinned (OpenSpec.upto manifestFilesSpec)

end Rows
end Go.Proofs.Ytmddgimadlmacaa
