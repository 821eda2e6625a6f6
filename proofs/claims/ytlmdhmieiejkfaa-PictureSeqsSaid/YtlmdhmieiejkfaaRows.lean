/-
  No cell of these rows narrows 'for every input' (looked for: loops, veiled, ifaces, maps, wideKeys, modest, calm, conditions, laid).
  DERIVED. THE GIVEN ROWS OF THIS SEAT. 10 by the template 'for every input the law returns true; each argument reads behind the call as it read before'; 0 by the template 'total and deterministic' (their statements: YtlmdhmieiejkfaaTotals.lean).
  GIVEN WITH THE SEED: the statements are not yours to turn. If you find one false, say at which input.
  Laid BY PROGRAM, IN A SANDBOX (cutbox-rows.mjs): the forced cells as the released guide's own fill.sh prints them over the translation ef82c56ef475d1ab… (all of the seat's roots in one cut). By AI agents, Wed Nov 11 2026. No macro, syntax, notation, axiom, sorry.
-/
import Derived.Test.YtlmdhmieiejkfaaChecked
import GoSem.Claim
import GoSem.ClaimJoined
import GoSem.ClaimMapViews
import Derived.JoinedTies
import Derived.KernelRfl
namespace Go.Proofs.Ytlmdhmieiejkfaa
/- THE CELL 'sum', in the pinned program and in every row, IS THE sha256 OF THE DUMP (.gsa) THAT YtlmdhmieiejkfaaProg.lean LOADS. Nothing in Lean hashes anything: it is a label: what it is worth is what the hold of that sum in a sandbox is worth. -/
noncomputable def Try.pinned : Pinned := { name := "ytlmdhmieiejkfaa", sum := "ef82c56ef475d1abb073104fe6122919739d3ecb876f34a02cd5c54b38386d5c", checked := Try.checked }
namespace Rows
def none {H : Type} : Left H := { results := [], args := [] }

/-- 'cutroomlaw11.PictureHeaders': WHATEVER THE INPUT: true; the input reads as it did. -/
def pictureHeadersSpec : ChangeSpec := { name := "pictureHeaders", fn := fun _ => fun
  | [d1, d2] => { results := [.lit (.bool true)], args := [d1, d2] }
  | _ => none }
def pictureHeadersRow : OpenClaim := { program := "ytlmdhmieiejkfaa", sum := "ef82c56ef475d1abb073104fe6122919739d3ecb876f34a02cd5c54b38386d5c", func := "cutroom/cutroomlaw11.PictureHeaders", spec := "pictureHeaders", unfollowed := true, recurses := true, apart := false }
def PictureHeadersSaid : Prop := pictureHeadersRow.holds Try.pinned (OpenSpec.ofChange pictureHeadersSpec)

/-- ITS FALSE NEIGHBOUR: 'it returns false'. Refute it at one input. -/
def pictureHeadersWrong : ChangeSpec := { name := "pictureHeaders", fn := fun _ => fun
  | [d1, d2] => { results := [.lit (.bool false)], args := [d1, d2] }
  | _ => none }
def PictureHeadersWrongFalsely : Prop := pictureHeadersRow.holds Try.pinned (OpenSpec.ofChange pictureHeadersWrong)

/-- 'cutroomlaw11.PictureSeqs': WHATEVER THE INPUT: true; the input reads as it did. -/
def pictureSeqsSpec : ChangeSpec := { name := "pictureSeqs", fn := fun _ => fun
  | [d1, d2] => { results := [.lit (.bool true)], args := [d1, d2] }
  | _ => none }
def pictureSeqsRow : OpenClaim := { program := "ytlmdhmieiejkfaa", sum := "ef82c56ef475d1abb073104fe6122919739d3ecb876f34a02cd5c54b38386d5c", func := "cutroom/cutroomlaw11.PictureSeqs", spec := "pictureSeqs", apart := false }
def PictureSeqsSaid : Prop := pictureSeqsRow.holds Try.pinned (OpenSpec.ofChange pictureSeqsSpec)

/-- ITS FALSE NEIGHBOUR: 'it returns false'. Refute it at one input. -/
def pictureSeqsWrong : ChangeSpec := { name := "pictureSeqs", fn := fun _ => fun
  | [d1, d2] => { results := [.lit (.bool false)], args := [d1, d2] }
  | _ => none }
def PictureSeqsWrongFalsely : Prop := pictureSeqsRow.holds Try.pinned (OpenSpec.ofChange pictureSeqsWrong)

/-- 'cutroomlaw31.PlanUsable': WHATEVER THE INPUT: true; the input reads as it did. -/
def planUsableSpec : ChangeSpec := { name := "planUsable", fn := fun _ => fun
  | [d1, d2, d3, d4, d5, d6] => { results := [.lit (.bool true)], args := [d1, d2, d3, d4, d5, d6] }
  | _ => none }
def planUsableRow : OpenClaim := { program := "ytlmdhmieiejkfaa", sum := "ef82c56ef475d1abb073104fe6122919739d3ecb876f34a02cd5c54b38386d5c", func := "cutroom/cutroomlaw31.PlanUsable", spec := "planUsable", unfollowed := true, recurses := true, apart := false }
def PlanUsableSaid : Prop := planUsableRow.holds Try.pinned (OpenSpec.ofChange planUsableSpec)

/-- ITS FALSE NEIGHBOUR: 'it returns false'. Refute it at one input. -/
def planUsableWrong : ChangeSpec := { name := "planUsable", fn := fun _ => fun
  | [d1, d2, d3, d4, d5, d6] => { results := [.lit (.bool false)], args := [d1, d2, d3, d4, d5, d6] }
  | _ => none }
def PlanUsableWrongFalsely : Prop := planUsableRow.holds Try.pinned (OpenSpec.ofChange planUsableWrong)

/-- 'cutroomlaw31.PlanCopyable': WHATEVER THE INPUT: true; the input reads as it did. -/
def planCopyableSpec : ChangeSpec := { name := "planCopyable", fn := fun _ => fun
  | [d1, d2] => { results := [.lit (.bool true)], args := [d1, d2] }
  | _ => none }
def planCopyableRow : OpenClaim := { program := "ytlmdhmieiejkfaa", sum := "ef82c56ef475d1abb073104fe6122919739d3ecb876f34a02cd5c54b38386d5c", func := "cutroom/cutroomlaw31.PlanCopyable", spec := "planCopyable", unfollowed := true, recurses := true, apart := false }
def PlanCopyableSaid : Prop := planCopyableRow.holds Try.pinned (OpenSpec.ofChange planCopyableSpec)

/-- ITS FALSE NEIGHBOUR: 'it returns false'. Refute it at one input. -/
def planCopyableWrong : ChangeSpec := { name := "planCopyable", fn := fun _ => fun
  | [d1, d2] => { results := [.lit (.bool false)], args := [d1, d2] }
  | _ => none }
def PlanCopyableWrongFalsely : Prop := planCopyableRow.holds Try.pinned (OpenSpec.ofChange planCopyableWrong)

/-- 'cutroomlaw31.PlanGreatest': WHATEVER THE INPUT: true; the input reads as it did. -/
def planGreatestSpec : ChangeSpec := { name := "planGreatest", fn := fun _ => fun
  | [d] => { results := [.lit (.bool true)], args := [d] }
  | _ => none }
def planGreatestRow : OpenClaim := { program := "ytlmdhmieiejkfaa", sum := "ef82c56ef475d1abb073104fe6122919739d3ecb876f34a02cd5c54b38386d5c", func := "cutroom/cutroomlaw31.PlanGreatest", spec := "planGreatest", unfollowed := true, recurses := true, apart := false }
def PlanGreatestSaid : Prop := planGreatestRow.holds Try.pinned (OpenSpec.ofChange planGreatestSpec)

/-- ITS FALSE NEIGHBOUR: 'it returns false'. Refute it at one input. -/
def planGreatestWrong : ChangeSpec := { name := "planGreatest", fn := fun _ => fun
  | [d] => { results := [.lit (.bool false)], args := [d] }
  | _ => none }
def PlanGreatestWrongFalsely : Prop := planGreatestRow.holds Try.pinned (OpenSpec.ofChange planGreatestWrong)

/-- 'cutroomlaw31.PlanClosedForm': WHATEVER THE INPUT: true; the input reads as it did. -/
def planClosedFormSpec : ChangeSpec := { name := "planClosedForm", fn := fun _ => fun
  | [d] => { results := [.lit (.bool true)], args := [d] }
  | _ => none }
def planClosedFormRow : OpenClaim := { program := "ytlmdhmieiejkfaa", sum := "ef82c56ef475d1abb073104fe6122919739d3ecb876f34a02cd5c54b38386d5c", func := "cutroom/cutroomlaw31.PlanClosedForm", spec := "planClosedForm", unfollowed := true, recurses := true, apart := false }
def PlanClosedFormSaid : Prop := planClosedFormRow.holds Try.pinned (OpenSpec.ofChange planClosedFormSpec)

/-- ITS FALSE NEIGHBOUR: 'it returns false'. Refute it at one input. -/
def planClosedFormWrong : ChangeSpec := { name := "planClosedForm", fn := fun _ => fun
  | [d] => { results := [.lit (.bool false)], args := [d] }
  | _ => none }
def PlanClosedFormWrongFalsely : Prop := planClosedFormRow.holds Try.pinned (OpenSpec.ofChange planClosedFormWrong)

/-- 'cutroomlaw31.PlanNothingMore': WHATEVER THE INPUT: true; the input reads as it did. -/
def planNothingMoreSpec : ChangeSpec := { name := "planNothingMore", fn := fun _ => fun
  | [d] => { results := [.lit (.bool true)], args := [d] }
  | _ => none }
def planNothingMoreRow : OpenClaim := { program := "ytlmdhmieiejkfaa", sum := "ef82c56ef475d1abb073104fe6122919739d3ecb876f34a02cd5c54b38386d5c", func := "cutroom/cutroomlaw31.PlanNothingMore", spec := "planNothingMore", unfollowed := true, recurses := true, apart := false }
def PlanNothingMoreSaid : Prop := planNothingMoreRow.holds Try.pinned (OpenSpec.ofChange planNothingMoreSpec)

/-- ITS FALSE NEIGHBOUR: 'it returns false'. Refute it at one input. -/
def planNothingMoreWrong : ChangeSpec := { name := "planNothingMore", fn := fun _ => fun
  | [d] => { results := [.lit (.bool false)], args := [d] }
  | _ => none }
def PlanNothingMoreWrongFalsely : Prop := planNothingMoreRow.holds Try.pinned (OpenSpec.ofChange planNothingMoreWrong)

/-- 'cutroomlaw31.PlanLocal': WHATEVER THE INPUT: true; the input reads as it did. -/
def planLocalSpec : ChangeSpec := { name := "planLocal", fn := fun _ => fun
  | [d1, d2] => { results := [.lit (.bool true)], args := [d1, d2] }
  | _ => none }
def planLocalRow : OpenClaim := { program := "ytlmdhmieiejkfaa", sum := "ef82c56ef475d1abb073104fe6122919739d3ecb876f34a02cd5c54b38386d5c", func := "cutroom/cutroomlaw31.PlanLocal", spec := "planLocal", unfollowed := true, recurses := true, apart := false }
def PlanLocalSaid : Prop := planLocalRow.holds Try.pinned (OpenSpec.ofChange planLocalSpec)

/-- ITS FALSE NEIGHBOUR: 'it returns false'. Refute it at one input. -/
def planLocalWrong : ChangeSpec := { name := "planLocal", fn := fun _ => fun
  | [d1, d2] => { results := [.lit (.bool false)], args := [d1, d2] }
  | _ => none }
def PlanLocalWrongFalsely : Prop := planLocalRow.holds Try.pinned (OpenSpec.ofChange planLocalWrong)

/-- 'cutroomlaw31.PlanValid': WHATEVER THE INPUT: true; the input reads as it did. -/
def planValidSpec : ChangeSpec := { name := "planValid", fn := fun _ => fun
  | [d1, d2, d3, d4, d5] => { results := [.lit (.bool true)], args := [d1, d2, d3, d4, d5] }
  | _ => none }
def planValidRow : OpenClaim := { program := "ytlmdhmieiejkfaa", sum := "ef82c56ef475d1abb073104fe6122919739d3ecb876f34a02cd5c54b38386d5c", func := "cutroom/cutroomlaw31.PlanValid", spec := "planValid", unfollowed := true, recurses := true, apart := false }
def PlanValidSaid : Prop := planValidRow.holds Try.pinned (OpenSpec.ofChange planValidSpec)

/-- ITS FALSE NEIGHBOUR: 'it returns false'. Refute it at one input. -/
def planValidWrong : ChangeSpec := { name := "planValid", fn := fun _ => fun
  | [d1, d2, d3, d4, d5] => { results := [.lit (.bool false)], args := [d1, d2, d3, d4, d5] }
  | _ => none }
def PlanValidWrongFalsely : Prop := planValidRow.holds Try.pinned (OpenSpec.ofChange planValidWrong)

/-- 'cutroomlaw31.PlanCovers': WHATEVER THE INPUT: true; the input reads as it did. -/
def planCoversSpec : ChangeSpec := { name := "planCovers", fn := fun _ => fun
  | [d] => { results := [.lit (.bool true)], args := [d] }
  | _ => none }
def planCoversRow : OpenClaim := { program := "ytlmdhmieiejkfaa", sum := "ef82c56ef475d1abb073104fe6122919739d3ecb876f34a02cd5c54b38386d5c", func := "cutroom/cutroomlaw31.PlanCovers", spec := "planCovers", unfollowed := true, recurses := true, apart := false }
def PlanCoversSaid : Prop := planCoversRow.holds Try.pinned (OpenSpec.ofChange planCoversSpec)

/-- ITS FALSE NEIGHBOUR: 'it returns false'. Refute it at one input. -/
def planCoversWrong : ChangeSpec := { name := "planCovers", fn := fun _ => fun
  | [d] => { results := [.lit (.bool false)], args := [d] }
  | _ => none }
def PlanCoversWrongFalsely : Prop := planCoversRow.holds Try.pinned (OpenSpec.ofChange planCoversWrong)

/- THE SECOND FORM. 'bulk': how many values and letters a reading holds, each counted each time it is reached (what is shared counts as often as it is met; a slice's spare places count too). A statement '..UptoSaid' is the law's where the arguments, and the package variables that the reading takes, are together of bulk at most 1048576: NARROWER than '..Said'. Prove '..Said' where nothing that the law and all that it calls make is longer than what came in: it says more and counts as full. Else prove '..UptoSaid'. A law counts once. -/
mutual
def uptoBulk {H : Type} : DataW H → Nat
  | .lit (.string bytes) => bytes.length + 1
  | .lit _ => 1
  | .nil => 1
  | .ptr d => uptoBulk d + 1
  | .slice elems spare => uptoBulkAll elems + uptoBulkAll spare + 1
  | .agg parts => uptoBulkAll parts + 1
  | .iface _ d => uptoBulk d + 1
  | .map entries => uptoBulkEntries entries + 1
  | .held _ => 1
def uptoBulkAll {H : Type} : List (DataW H) → Nat
  | [] => 0
  | d :: r => uptoBulk d + uptoBulkAll r
def uptoBulkEntries {H : Type} : List (Lit × DataW H) → Nat
  | [] => 0
  | x :: r => uptoBulkEntry x + uptoBulkEntries r
def uptoBulkEntry {H : Type} : Lit × DataW H → Nat
  | (.string bytes, d) => bytes.length + uptoBulk d + 1
  | (_, d) => uptoBulk d + 1
 end
def uptoSmall : (H : Type) → List (DataW H) → Bool := fun _ ds => decide (uptoBulkAll ds ≤ 1048576)
def OpenSpec.upto (s : _root_.Go.ChangeSpec) : _root_.Go.OpenSpec := { _root_.Go.OpenSpec.ofChange s with cond := some uptoSmall }

/-- 'cutroomlaw11.PictureHeaders', WHERE WHAT IT READS IS OF BULK AT MOST 1048576: true; the input reads as it did. -/
def pictureHeadersUptoRow : OpenClaim := { program := "ytlmdhmieiejkfaa", sum := "ef82c56ef475d1abb073104fe6122919739d3ecb876f34a02cd5c54b38386d5c", func := "cutroom/cutroomlaw11.PictureHeaders", spec := "pictureHeaders", unfollowed := true, recurses := true, apart := false, narrowed := true }
def PictureHeadersUptoSaid : Prop := pictureHeadersUptoRow.holds Try.pinned (OpenSpec.upto pictureHeadersSpec)

/-- 'cutroomlaw11.PictureSeqs', WHERE WHAT IT READS IS OF BULK AT MOST 1048576: true; the input reads as it did. -/
def pictureSeqsUptoRow : OpenClaim := { program := "ytlmdhmieiejkfaa", sum := "ef82c56ef475d1abb073104fe6122919739d3ecb876f34a02cd5c54b38386d5c", func := "cutroom/cutroomlaw11.PictureSeqs", spec := "pictureSeqs", apart := false, narrowed := true }
def PictureSeqsUptoSaid : Prop := pictureSeqsUptoRow.holds Try.pinned (OpenSpec.upto pictureSeqsSpec)

/-- 'cutroomlaw31.PlanUsable', WHERE WHAT IT READS IS OF BULK AT MOST 1048576: true; the input reads as it did. -/
def planUsableUptoRow : OpenClaim := { program := "ytlmdhmieiejkfaa", sum := "ef82c56ef475d1abb073104fe6122919739d3ecb876f34a02cd5c54b38386d5c", func := "cutroom/cutroomlaw31.PlanUsable", spec := "planUsable", unfollowed := true, recurses := true, apart := false, narrowed := true }
def PlanUsableUptoSaid : Prop := planUsableUptoRow.holds Try.pinned (OpenSpec.upto planUsableSpec)

/-- 'cutroomlaw31.PlanCopyable', WHERE WHAT IT READS IS OF BULK AT MOST 1048576: true; the input reads as it did. -/
def planCopyableUptoRow : OpenClaim := { program := "ytlmdhmieiejkfaa", sum := "ef82c56ef475d1abb073104fe6122919739d3ecb876f34a02cd5c54b38386d5c", func := "cutroom/cutroomlaw31.PlanCopyable", spec := "planCopyable", unfollowed := true, recurses := true, apart := false, narrowed := true }
def PlanCopyableUptoSaid : Prop := planCopyableUptoRow.holds Try.pinned (OpenSpec.upto planCopyableSpec)

/-- 'cutroomlaw31.PlanGreatest', WHERE WHAT IT READS IS OF BULK AT MOST 1048576: true; the input reads as it did. -/
def planGreatestUptoRow : OpenClaim := { program := "ytlmdhmieiejkfaa", sum := "ef82c56ef475d1abb073104fe6122919739d3ecb876f34a02cd5c54b38386d5c", func := "cutroom/cutroomlaw31.PlanGreatest", spec := "planGreatest", unfollowed := true, recurses := true, apart := false, narrowed := true }
def PlanGreatestUptoSaid : Prop := planGreatestUptoRow.holds Try.pinned (OpenSpec.upto planGreatestSpec)

/-- 'cutroomlaw31.PlanClosedForm', WHERE WHAT IT READS IS OF BULK AT MOST 1048576: true; the input reads as it did. -/
def planClosedFormUptoRow : OpenClaim := { program := "ytlmdhmieiejkfaa", sum := "ef82c56ef475d1abb073104fe6122919739d3ecb876f34a02cd5c54b38386d5c", func := "cutroom/cutroomlaw31.PlanClosedForm", spec := "planClosedForm", unfollowed := true, recurses := true, apart := false, narrowed := true }
def PlanClosedFormUptoSaid : Prop := planClosedFormUptoRow.holds Try.pinned (OpenSpec.upto planClosedFormSpec)

/-- 'cutroomlaw31.PlanNothingMore', WHERE WHAT IT READS IS OF BULK AT MOST 1048576: true; the input reads as it did. -/
def planNothingMoreUptoRow : OpenClaim := { program := "ytlmdhmieiejkfaa", sum := "ef82c56ef475d1abb073104fe6122919739d3ecb876f34a02cd5c54b38386d5c", func := "cutroom/cutroomlaw31.PlanNothingMore", spec := "planNothingMore", unfollowed := true, recurses := true, apart := false, narrowed := true }
def PlanNothingMoreUptoSaid : Prop := planNothingMoreUptoRow.holds Try.pinned (OpenSpec.upto planNothingMoreSpec)

/-- 'cutroomlaw31.PlanLocal', WHERE WHAT IT READS IS OF BULK AT MOST 1048576: true; the input reads as it did. -/
def planLocalUptoRow : OpenClaim := { program := "ytlmdhmieiejkfaa", sum := "ef82c56ef475d1abb073104fe6122919739d3ecb876f34a02cd5c54b38386d5c", func := "cutroom/cutroomlaw31.PlanLocal", spec := "planLocal", unfollowed := true, recurses := true, apart := false, narrowed := true }
def PlanLocalUptoSaid : Prop := planLocalUptoRow.holds Try.pinned (OpenSpec.upto planLocalSpec)

/-- 'cutroomlaw31.PlanValid', WHERE WHAT IT READS IS OF BULK AT MOST 1048576: true; the input reads as it did. -/
def planValidUptoRow : OpenClaim := { program := "ytlmdhmieiejkfaa", sum := "ef82c56ef475d1abb073104fe6122919739d3ecb876f34a02cd5c54b38386d5c", func := "cutroom/cutroomlaw31.PlanValid", spec := "planValid", unfollowed := true, recurses := true, apart := false, narrowed := true }
def PlanValidUptoSaid : Prop := planValidUptoRow.holds Try.pinned (OpenSpec.upto planValidSpec)

/-- 'cutroomlaw31.PlanCovers', WHERE WHAT IT READS IS OF BULK AT MOST 1048576: true; the input reads as it did. -/
def planCoversUptoRow : OpenClaim := { program := "ytlmdhmieiejkfaa", sum := "ef82c56ef475d1abb073104fe6122919739d3ecb876f34a02cd5c54b38386d5c", func := "cutroom/cutroomlaw31.PlanCovers", spec := "planCovers", unfollowed := true, recurses := true, apart := false, narrowed := true }
def PlanCoversUptoSaid : Prop := planCoversUptoRow.holds Try.pinned (OpenSpec.upto planCoversSpec)

end Rows
end Go.Proofs.Ytlmdhmieiejkfaa
