/-
  No cell of these rows narrows 'for every input' (looked for: loops, veiled, ifaces, maps, wideKeys, modest, calm, conditions, laid).
  DERIVED. THE GIVEN ROWS OF THIS SEAT. 8 by the template 'for every input the law returns true; each argument reads behind the call as it read before'; 0 by the template 'total and deterministic' (their statements: YtjelaopafhnlnaaTotals.lean).
  GIVEN WITH THE SEED: the statements are not yours to turn. If you find one false, say at which input.
  Laid BY PROGRAM, IN A SANDBOX (cutbox-rows.mjs): the forced cells as the released guide's own fill.sh prints them over the translation 02b8324df129f035… (all of the seat's roots in one cut). By AI agents, Wed Nov 11 2026. No macro, syntax, notation, axiom, sorry.
-/
import Derived.Test.YtjelaopafhnlnaaChecked
import GoSem.Claim
import GoSem.ClaimJoined
import GoSem.ClaimMapViews
import Derived.JoinedTies
import Derived.KernelRfl
namespace Go.Proofs.Ytjelaopafhnlnaa
/- THE CELL 'sum', in the pinned program and in every row, IS THE sha256 OF THE DUMP (.gsa) THAT YtjelaopafhnlnaaProg.lean LOADS. Nothing in Lean hashes anything: it is a label: what it is worth is what the hold of that sum in a sandbox is worth. -/
noncomputable def Try.pinned : Pinned := { name := "ytjelaopafhnlnaa", sum := "02b8324df129f035775501401f4bf845c5f3a785b1cd4cbd6d2290de08829292", checked := Try.checked }
namespace Rows
def none {H : Type} : Left H := { results := [], args := [] }

/-- 'cutroomlaw03.StartcodeFormat': WHATEVER THE INPUT: true; the input reads as it did. -/
def startcodeFormatSpec : ChangeSpec := { name := "startcodeFormat", fn := fun _ => fun
  | [d] => { results := [.lit (.bool true)], args := [d] }
  | _ => none }
def startcodeFormatRow : OpenClaim := { program := "ytjelaopafhnlnaa", sum := "02b8324df129f035775501401f4bf845c5f3a785b1cd4cbd6d2290de08829292", func := "cutroom/cutroomlaw03.StartcodeFormat", spec := "startcodeFormat", apart := false }
def StartcodeFormatSaid : Prop := startcodeFormatRow.holds Try.pinned (OpenSpec.ofChange startcodeFormatSpec)

/-- ITS FALSE NEIGHBOUR: 'it returns false'. Refute it at one input. -/
def startcodeFormatWrong : ChangeSpec := { name := "startcodeFormat", fn := fun _ => fun
  | [d] => { results := [.lit (.bool false)], args := [d] }
  | _ => none }
def StartcodeFormatWrongFalsely : Prop := startcodeFormatRow.holds Try.pinned (OpenSpec.ofChange startcodeFormatWrong)

/-- 'cutroomlaw03.StartcodeClean': WHATEVER THE INPUT: true; the input reads as it did. -/
def startcodeCleanSpec : ChangeSpec := { name := "startcodeClean", fn := fun _ => fun
  | [d] => { results := [.lit (.bool true)], args := [d] }
  | _ => none }
def startcodeCleanRow : OpenClaim := { program := "ytjelaopafhnlnaa", sum := "02b8324df129f035775501401f4bf845c5f3a785b1cd4cbd6d2290de08829292", func := "cutroom/cutroomlaw03.StartcodeClean", spec := "startcodeClean", apart := false }
def StartcodeCleanSaid : Prop := startcodeCleanRow.holds Try.pinned (OpenSpec.ofChange startcodeCleanSpec)

/-- ITS FALSE NEIGHBOUR: 'it returns false'. Refute it at one input. -/
def startcodeCleanWrong : ChangeSpec := { name := "startcodeClean", fn := fun _ => fun
  | [d] => { results := [.lit (.bool false)], args := [d] }
  | _ => none }
def StartcodeCleanWrongFalsely : Prop := startcodeCleanRow.holds Try.pinned (OpenSpec.ofChange startcodeCleanWrong)

/-- 'cutroomlaw03.StartcodeEscape': WHATEVER THE INPUT: true; the input reads as it did. -/
def startcodeEscapeSpec : ChangeSpec := { name := "startcodeEscape", fn := fun _ => fun
  | [d] => { results := [.lit (.bool true)], args := [d] }
  | _ => none }
def startcodeEscapeRow : OpenClaim := { program := "ytjelaopafhnlnaa", sum := "02b8324df129f035775501401f4bf845c5f3a785b1cd4cbd6d2290de08829292", func := "cutroom/cutroomlaw03.StartcodeEscape", spec := "startcodeEscape", apart := false }
def StartcodeEscapeSaid : Prop := startcodeEscapeRow.holds Try.pinned (OpenSpec.ofChange startcodeEscapeSpec)

/-- ITS FALSE NEIGHBOUR: 'it returns false'. Refute it at one input. -/
def startcodeEscapeWrong : ChangeSpec := { name := "startcodeEscape", fn := fun _ => fun
  | [d] => { results := [.lit (.bool false)], args := [d] }
  | _ => none }
def StartcodeEscapeWrongFalsely : Prop := startcodeEscapeRow.holds Try.pinned (OpenSpec.ofChange startcodeEscapeWrong)

/-- 'cutroomlaw03.StartcodeUnescape': WHATEVER THE INPUT: true; the input reads as it did. -/
def startcodeUnescapeSpec : ChangeSpec := { name := "startcodeUnescape", fn := fun _ => fun
  | [d] => { results := [.lit (.bool true)], args := [d] }
  | _ => none }
def startcodeUnescapeRow : OpenClaim := { program := "ytjelaopafhnlnaa", sum := "02b8324df129f035775501401f4bf845c5f3a785b1cd4cbd6d2290de08829292", func := "cutroom/cutroomlaw03.StartcodeUnescape", spec := "startcodeUnescape", apart := false }
def StartcodeUnescapeSaid : Prop := startcodeUnescapeRow.holds Try.pinned (OpenSpec.ofChange startcodeUnescapeSpec)

/-- ITS FALSE NEIGHBOUR: 'it returns false'. Refute it at one input. -/
def startcodeUnescapeWrong : ChangeSpec := { name := "startcodeUnescape", fn := fun _ => fun
  | [d] => { results := [.lit (.bool false)], args := [d] }
  | _ => none }
def StartcodeUnescapeWrongFalsely : Prop := startcodeUnescapeRow.holds Try.pinned (OpenSpec.ofChange startcodeUnescapeWrong)

/-- 'cutroomlaw03.StartcodeSplit': WHATEVER THE INPUT: true; the input reads as it did. -/
def startcodeSplitSpec : ChangeSpec := { name := "startcodeSplit", fn := fun _ => fun
  | [d] => { results := [.lit (.bool true)], args := [d] }
  | _ => none }
def startcodeSplitRow : OpenClaim := { program := "ytjelaopafhnlnaa", sum := "02b8324df129f035775501401f4bf845c5f3a785b1cd4cbd6d2290de08829292", func := "cutroom/cutroomlaw03.StartcodeSplit", spec := "startcodeSplit", apart := false }
def StartcodeSplitSaid : Prop := startcodeSplitRow.holds Try.pinned (OpenSpec.ofChange startcodeSplitSpec)

/-- ITS FALSE NEIGHBOUR: 'it returns false'. Refute it at one input. -/
def startcodeSplitWrong : ChangeSpec := { name := "startcodeSplit", fn := fun _ => fun
  | [d] => { results := [.lit (.bool false)], args := [d] }
  | _ => none }
def StartcodeSplitWrongFalsely : Prop := startcodeSplitRow.holds Try.pinned (OpenSpec.ofChange startcodeSplitWrong)

/-- 'cutroomlaw03.StartcodeBack': WHATEVER THE INPUT: true; the input reads as it did. -/
def startcodeBackSpec : ChangeSpec := { name := "startcodeBack", fn := fun _ => fun
  | [d1, d2] => { results := [.lit (.bool true)], args := [d1, d2] }
  | _ => none }
def startcodeBackRow : OpenClaim := { program := "ytjelaopafhnlnaa", sum := "02b8324df129f035775501401f4bf845c5f3a785b1cd4cbd6d2290de08829292", func := "cutroom/cutroomlaw03.StartcodeBack", spec := "startcodeBack", apart := false }
def StartcodeBackSaid : Prop := startcodeBackRow.holds Try.pinned (OpenSpec.ofChange startcodeBackSpec)

/-- ITS FALSE NEIGHBOUR: 'it returns false'. Refute it at one input. -/
def startcodeBackWrong : ChangeSpec := { name := "startcodeBack", fn := fun _ => fun
  | [d1, d2] => { results := [.lit (.bool false)], args := [d1, d2] }
  | _ => none }
def StartcodeBackWrongFalsely : Prop := startcodeBackRow.holds Try.pinned (OpenSpec.ofChange startcodeBackWrong)

/-- 'cutroomlaw03.StartcodeResync': WHATEVER THE INPUT: true; the input reads as it did. -/
def startcodeResyncSpec : ChangeSpec := { name := "startcodeResync", fn := fun _ => fun
  | [d1, d2] => { results := [.lit (.bool true)], args := [d1, d2] }
  | _ => none }
def startcodeResyncRow : OpenClaim := { program := "ytjelaopafhnlnaa", sum := "02b8324df129f035775501401f4bf845c5f3a785b1cd4cbd6d2290de08829292", func := "cutroom/cutroomlaw03.StartcodeResync", spec := "startcodeResync", apart := false }
def StartcodeResyncSaid : Prop := startcodeResyncRow.holds Try.pinned (OpenSpec.ofChange startcodeResyncSpec)

/-- ITS FALSE NEIGHBOUR: 'it returns false'. Refute it at one input. -/
def startcodeResyncWrong : ChangeSpec := { name := "startcodeResync", fn := fun _ => fun
  | [d1, d2] => { results := [.lit (.bool false)], args := [d1, d2] }
  | _ => none }
def StartcodeResyncWrongFalsely : Prop := startcodeResyncRow.holds Try.pinned (OpenSpec.ofChange startcodeResyncWrong)

/-- 'cutroomlaw03.StartcodeDamage': WHATEVER THE INPUT: true; the input reads as it did. -/
def startcodeDamageSpec : ChangeSpec := { name := "startcodeDamage", fn := fun _ => fun
  | [d1, d2, d3, d4] => { results := [.lit (.bool true)], args := [d1, d2, d3, d4] }
  | _ => none }
def startcodeDamageRow : OpenClaim := { program := "ytjelaopafhnlnaa", sum := "02b8324df129f035775501401f4bf845c5f3a785b1cd4cbd6d2290de08829292", func := "cutroom/cutroomlaw03.StartcodeDamage", spec := "startcodeDamage", apart := false }
def StartcodeDamageSaid : Prop := startcodeDamageRow.holds Try.pinned (OpenSpec.ofChange startcodeDamageSpec)

/-- ITS FALSE NEIGHBOUR: 'it returns false'. Refute it at one input. -/
def startcodeDamageWrong : ChangeSpec := { name := "startcodeDamage", fn := fun _ => fun
  | [d1, d2, d3, d4] => { results := [.lit (.bool false)], args := [d1, d2, d3, d4] }
  | _ => none }
def StartcodeDamageWrongFalsely : Prop := startcodeDamageRow.holds Try.pinned (OpenSpec.ofChange startcodeDamageWrong)

/- THE SECOND FORM. 'bulk': how many values and letters a reading holds, each counted each time it is reached (what is shared counts as often as it is met; a slice's spare places count too). A statement '..UptoSaid' is the law's where the arguments, and the package variables that the reading takes, are together of bulk at most 1048576: NARROWER than '..Said'. Prove '..Said' where nothing that the law and all that it calls make is longer than what came in: it says more and counts as full. Else prove '..UptoSaid'. A law counts once. -/
mutual
def uptoBulk {H : Type} : DataW H → Nat
  | .lit (.string bytes) => bytes.length + 1
  | .lit _ => 1
  | .nil => 1
  | .ptr d => uptoBulk d + 1
  | .slice elems spare => uptoBulkAll elems + uptoBulkAll spare + 1
  | .agg parts => uptoBulkAll parts + 1
  | .iface _ d => uptoBulk d + 1
  | .map entries => uptoBulkEntries entries + 1
  | .held _ => 1
def uptoBulkAll {H : Type} : List (DataW H) → Nat
  | [] => 0
  | d :: r => uptoBulk d + uptoBulkAll r
def uptoBulkEntries {H : Type} : List (Lit × DataW H) → Nat
  | [] => 0
  | x :: r => uptoBulkEntry x + uptoBulkEntries r
def uptoBulkEntry {H : Type} : Lit × DataW H → Nat
  | (.string bytes, d) => bytes.length + uptoBulk d + 1
  | (_, d) => uptoBulk d + 1
 end
def uptoSmall : (H : Type) → List (DataW H) → Bool := fun _ ds => decide (uptoBulkAll ds ≤ 1048576)
def OpenSpec.upto (s : _root_.Go.ChangeSpec) : _root_.Go.OpenSpec := { _root_.Go.OpenSpec.ofChange s with cond := some uptoSmall }

/-- 'cutroomlaw03.StartcodeFormat', WHERE WHAT IT READS IS OF BULK AT MOST 1048576: true; the input reads as it did. -/
def startcodeFormatUptoRow : OpenClaim := { program := "ytjelaopafhnlnaa", sum := "02b8324df129f035775501401f4bf845c5f3a785b1cd4cbd6d2290de08829292", func := "cutroom/cutroomlaw03.StartcodeFormat", spec := "startcodeFormat", apart := false, narrowed := true }
def StartcodeFormatUptoSaid : Prop := startcodeFormatUptoRow.holds Try.pinned (OpenSpec.upto startcodeFormatSpec)

/-- 'cutroomlaw03.StartcodeClean', WHERE WHAT IT READS IS OF BULK AT MOST 1048576: true; the input reads as it did. -/
def startcodeCleanUptoRow : OpenClaim := { program := "ytjelaopafhnlnaa", sum := "02b8324df129f035775501401f4bf845c5f3a785b1cd4cbd6d2290de08829292", func := "cutroom/cutroomlaw03.StartcodeClean", spec := "startcodeClean", apart := false, narrowed := true }
def StartcodeCleanUptoSaid : Prop := startcodeCleanUptoRow.holds Try.pinned (OpenSpec.upto startcodeCleanSpec)

/-- 'cutroomlaw03.StartcodeEscape', WHERE WHAT IT READS IS OF BULK AT MOST 1048576: true; the input reads as it did. -/
def startcodeEscapeUptoRow : OpenClaim := { program := "ytjelaopafhnlnaa", sum := "02b8324df129f035775501401f4bf845c5f3a785b1cd4cbd6d2290de08829292", func := "cutroom/cutroomlaw03.StartcodeEscape", spec := "startcodeEscape", apart := false, narrowed := true }
def StartcodeEscapeUptoSaid : Prop := startcodeEscapeUptoRow.holds Try.pinned (OpenSpec.upto startcodeEscapeSpec)

/-- 'cutroomlaw03.StartcodeUnescape', WHERE WHAT IT READS IS OF BULK AT MOST 1048576: true; the input reads as it did. -/
def startcodeUnescapeUptoRow : OpenClaim := { program := "ytjelaopafhnlnaa", sum := "02b8324df129f035775501401f4bf845c5f3a785b1cd4cbd6d2290de08829292", func := "cutroom/cutroomlaw03.StartcodeUnescape", spec := "startcodeUnescape", apart := false, narrowed := true }
def StartcodeUnescapeUptoSaid : Prop := startcodeUnescapeUptoRow.holds Try.pinned (OpenSpec.upto startcodeUnescapeSpec)

/-- 'cutroomlaw03.StartcodeSplit', WHERE WHAT IT READS IS OF BULK AT MOST 1048576: true; the input reads as it did. -/
def startcodeSplitUptoRow : OpenClaim := { program := "ytjelaopafhnlnaa", sum := "02b8324df129f035775501401f4bf845c5f3a785b1cd4cbd6d2290de08829292", func := "cutroom/cutroomlaw03.StartcodeSplit", spec := "startcodeSplit", apart := false, narrowed := true }
def StartcodeSplitUptoSaid : Prop := startcodeSplitUptoRow.holds Try.pinned (OpenSpec.upto startcodeSplitSpec)

/-- 'cutroomlaw03.StartcodeBack', WHERE WHAT IT READS IS OF BULK AT MOST 1048576: true; the input reads as it did. -/
def startcodeBackUptoRow : OpenClaim := { program := "ytjelaopafhnlnaa", sum := "02b8324df129f035775501401f4bf845c5f3a785b1cd4cbd6d2290de08829292", func := "cutroom/cutroomlaw03.StartcodeBack", spec := "startcodeBack", apart := false, narrowed := true }
def StartcodeBackUptoSaid : Prop := startcodeBackUptoRow.holds Try.pinned (OpenSpec.upto startcodeBackSpec)

/-- 'cutroomlaw03.StartcodeResync', WHERE WHAT IT READS IS OF BULK AT MOST 1048576: true; the input reads as it did. -/
def startcodeResyncUptoRow : OpenClaim := { program := "ytjelaopafhnlnaa", sum := "02b8324df129f035775501401f4bf845c5f3a785b1cd4cbd6d2290de08829292", func := "cutroom/cutroomlaw03.StartcodeResync", spec := "startcodeResync", apart := false, narrowed := true }
def StartcodeResyncUptoSaid : Prop := startcodeResyncUptoRow.holds Try.pinned (OpenSpec.upto startcodeResyncSpec)

/-- 'cutroomlaw03.StartcodeDamage', WHERE WHAT IT READS IS OF BULK AT MOST 1048576: true; the input reads as it did. -/
def startcodeDamageUptoRow : OpenClaim := { program := "ytjelaopafhnlnaa", sum := "02b8324df129f035775501401f4bf845c5f3a785b1cd4cbd6d2290de08829292", func := "cutroom/cutroomlaw03.StartcodeDamage", spec := "startcodeDamage", apart := false, narrowed := true }
def StartcodeDamageUptoSaid : Prop := startcodeDamageUptoRow.holds Try.pinned (OpenSpec.upto startcodeDamageSpec)

end Rows
end Go.Proofs.Ytjelaopafhnlnaa
