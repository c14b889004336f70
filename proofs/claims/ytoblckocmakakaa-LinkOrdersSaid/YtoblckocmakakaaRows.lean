/-
  No cell of these rows narrows 'for every input' (looked for: loops, veiled, ifaces, maps, wideKeys, modest, calm, conditions, laid).
  DERIVED. THE GIVEN ROWS OF THIS SEAT. 7 by the template 'for every input the law returns true; each argument reads behind the call as it read before'; 0 by the template 'total and deterministic' (their statements: YtoblckocmakakaaTotals.lean).
  GIVEN WITH THE SEED: the statements are not yours to turn. If you find one false, say at which input.
  Laid BY PROGRAM, IN A SANDBOX (cutbox-rows.mjs): the forced cells as the released guide's own fill.sh prints them over the translation 4ac3fda7cb0ce148… (all of the seat's roots in one cut). By AI agents, Wed Nov 11 2026. No macro, syntax, notation, axiom, sorry.
-/
import Derived.Test.YtoblckocmakakaaChecked
import GoSem.Claim
import GoSem.ClaimJoined
import GoSem.ClaimMapViews
import Derived.JoinedTies
import Derived.KernelRfl
namespace Go.Proofs.Ytoblckocmakakaa
/- THE CELL 'sum', in the pinned program and in every row, IS THE sha256 OF THE DUMP (.gsa) THAT YtoblckocmakakaaProg.lean LOADS. Nothing in Lean hashes anything: it is a label: what it is worth is what the hold of that sum in a sandbox is worth. -/
noncomputable def Try.pinned : Pinned := { name := "ytoblckocmakakaa", sum := "4ac3fda7cb0ce148c850b80059d65448404638d8b54108b5e39bf92c205e0eb5", checked := Try.checked }
namespace Rows
def none {H : Type} : Left H := { results := [], args := [] }

/-- 'alidadelaw11.LinkOrders': WHATEVER THE INPUT: true; the input reads as it did. -/
def linkOrdersSpec : ChangeSpec := { name := "linkOrders", fn := fun _ => fun
  | [d] => { results := [.lit (.bool true)], args := [d] }
  | _ => none }
def linkOrdersRow : OpenClaim := { program := "ytoblckocmakakaa", sum := "4ac3fda7cb0ce148c850b80059d65448404638d8b54108b5e39bf92c205e0eb5", func := "alidade/alidadelaw11.LinkOrders", spec := "linkOrders", unfollowed := true, recurses := true, apart := false }
def LinkOrdersSaid : Prop := linkOrdersRow.holds Try.pinned (OpenSpec.ofChange linkOrdersSpec)

/-- ITS FALSE NEIGHBOUR: 'it returns false'. Refute it at one input. -/
def linkOrdersWrong : ChangeSpec := { name := "linkOrders", fn := fun _ => fun
  | [d] => { results := [.lit (.bool false)], args := [d] }
  | _ => none }
def LinkOrdersWrongFalsely : Prop := linkOrdersRow.holds Try.pinned (OpenSpec.ofChange linkOrdersWrong)

/-- 'alidadelaw11.LinkComes': WHATEVER THE INPUT: true; the input reads as it did. -/
def linkComesSpec : ChangeSpec := { name := "linkComes", fn := fun _ => fun
  | [d] => { results := [.lit (.bool true)], args := [d] }
  | _ => none }
def linkComesRow : OpenClaim := { program := "ytoblckocmakakaa", sum := "4ac3fda7cb0ce148c850b80059d65448404638d8b54108b5e39bf92c205e0eb5", func := "alidade/alidadelaw11.LinkComes", spec := "linkComes", unfollowed := true, recurses := true, apart := false }
def LinkComesSaid : Prop := linkComesRow.holds Try.pinned (OpenSpec.ofChange linkComesSpec)

/-- ITS FALSE NEIGHBOUR: 'it returns false'. Refute it at one input. -/
def linkComesWrong : ChangeSpec := { name := "linkComes", fn := fun _ => fun
  | [d] => { results := [.lit (.bool false)], args := [d] }
  | _ => none }
def LinkComesWrongFalsely : Prop := linkComesRow.holds Try.pinned (OpenSpec.ofChange linkComesWrong)

/-- 'alidadelaw11.LinkTwice': WHATEVER THE INPUT: true; the input reads as it did. -/
def linkTwiceSpec : ChangeSpec := { name := "linkTwice", fn := fun _ => fun
  | [d1, d2] => { results := [.lit (.bool true)], args := [d1, d2] }
  | _ => none }
def linkTwiceRow : OpenClaim := { program := "ytoblckocmakakaa", sum := "4ac3fda7cb0ce148c850b80059d65448404638d8b54108b5e39bf92c205e0eb5", func := "alidade/alidadelaw11.LinkTwice", spec := "linkTwice", unfollowed := true, recurses := true, apart := false }
def LinkTwiceSaid : Prop := linkTwiceRow.holds Try.pinned (OpenSpec.ofChange linkTwiceSpec)

/-- ITS FALSE NEIGHBOUR: 'it returns false'. Refute it at one input. -/
def linkTwiceWrong : ChangeSpec := { name := "linkTwice", fn := fun _ => fun
  | [d1, d2] => { results := [.lit (.bool false)], args := [d1, d2] }
  | _ => none }
def LinkTwiceWrongFalsely : Prop := linkTwiceRow.holds Try.pinned (OpenSpec.ofChange linkTwiceWrong)

/-- 'alidadelaw11.LinkStays': WHATEVER THE INPUT: true; the input reads as it did. -/
def linkStaysSpec : ChangeSpec := { name := "linkStays", fn := fun _ => fun
  | [d1, d2, d3] => { results := [.lit (.bool true)], args := [d1, d2, d3] }
  | _ => none }
def linkStaysRow : OpenClaim := { program := "ytoblckocmakakaa", sum := "4ac3fda7cb0ce148c850b80059d65448404638d8b54108b5e39bf92c205e0eb5", func := "alidade/alidadelaw11.LinkStays", spec := "linkStays", unfollowed := true, recurses := true, apart := false }
def LinkStaysSaid : Prop := linkStaysRow.holds Try.pinned (OpenSpec.ofChange linkStaysSpec)

/-- ITS FALSE NEIGHBOUR: 'it returns false'. Refute it at one input. -/
def linkStaysWrong : ChangeSpec := { name := "linkStays", fn := fun _ => fun
  | [d1, d2, d3] => { results := [.lit (.bool false)], args := [d1, d2, d3] }
  | _ => none }
def LinkStaysWrongFalsely : Prop := linkStaysRow.holds Try.pinned (OpenSpec.ofChange linkStaysWrong)

/-- 'alidadelaw11.LinkFirst': WHATEVER THE INPUT: true; the input reads as it did. -/
def linkFirstSpec : ChangeSpec := { name := "linkFirst", fn := fun _ => fun
  | [d1, d2, d3] => { results := [.lit (.bool true)], args := [d1, d2, d3] }
  | _ => none }
def linkFirstRow : OpenClaim := { program := "ytoblckocmakakaa", sum := "4ac3fda7cb0ce148c850b80059d65448404638d8b54108b5e39bf92c205e0eb5", func := "alidade/alidadelaw11.LinkFirst", spec := "linkFirst", unfollowed := true, recurses := true, apart := false }
def LinkFirstSaid : Prop := linkFirstRow.holds Try.pinned (OpenSpec.ofChange linkFirstSpec)

/-- ITS FALSE NEIGHBOUR: 'it returns false'. Refute it at one input. -/
def linkFirstWrong : ChangeSpec := { name := "linkFirst", fn := fun _ => fun
  | [d1, d2, d3] => { results := [.lit (.bool false)], args := [d1, d2, d3] }
  | _ => none }
def LinkFirstWrongFalsely : Prop := linkFirstRow.holds Try.pinned (OpenSpec.ofChange linkFirstWrong)

/-- 'alidadelaw11.LinkWaits': WHATEVER THE INPUT: true; the input reads as it did. -/
def linkWaitsSpec : ChangeSpec := { name := "linkWaits", fn := fun _ => fun
  | [d] => { results := [.lit (.bool true)], args := [d] }
  | _ => none }
def linkWaitsRow : OpenClaim := { program := "ytoblckocmakakaa", sum := "4ac3fda7cb0ce148c850b80059d65448404638d8b54108b5e39bf92c205e0eb5", func := "alidade/alidadelaw11.LinkWaits", spec := "linkWaits", unfollowed := true, recurses := true, apart := false }
def LinkWaitsSaid : Prop := linkWaitsRow.holds Try.pinned (OpenSpec.ofChange linkWaitsSpec)

/-- ITS FALSE NEIGHBOUR: 'it returns false'. Refute it at one input. -/
def linkWaitsWrong : ChangeSpec := { name := "linkWaits", fn := fun _ => fun
  | [d] => { results := [.lit (.bool false)], args := [d] }
  | _ => none }
def LinkWaitsWrongFalsely : Prop := linkWaitsRow.holds Try.pinned (OpenSpec.ofChange linkWaitsWrong)

/-- 'alidadelaw11.LinkTells': WHATEVER THE INPUT: true; the input reads as it did. -/
def linkTellsSpec : ChangeSpec := { name := "linkTells", fn := fun _ => fun
  | [d] => { results := [.lit (.bool true)], args := [d] }
  | _ => none }
def linkTellsRow : OpenClaim := { program := "ytoblckocmakakaa", sum := "4ac3fda7cb0ce148c850b80059d65448404638d8b54108b5e39bf92c205e0eb5", func := "alidade/alidadelaw11.LinkTells", spec := "linkTells", unfollowed := true, recurses := true, apart := false }
def LinkTellsSaid : Prop := linkTellsRow.holds Try.pinned (OpenSpec.ofChange linkTellsSpec)

/-- ITS FALSE NEIGHBOUR: 'it returns false'. Refute it at one input. -/
def linkTellsWrong : ChangeSpec := { name := "linkTells", fn := fun _ => fun
  | [d] => { results := [.lit (.bool false)], args := [d] }
  | _ => none }
def LinkTellsWrongFalsely : Prop := linkTellsRow.holds Try.pinned (OpenSpec.ofChange linkTellsWrong)

/- THE SECOND FORM. 'bulk': how many values and letters a reading holds, each counted each time it is reached (what is shared counts as often as it is met; a slice's spare places count too). A statement '..UptoSaid' is the law's where the arguments, and the package variables that the reading takes, are together of bulk at most 1048576: NARROWER than '..Said'. Prove '..Said' where nothing that the law and all that it calls make is longer than what came in: it says more and counts as full. Else prove '..UptoSaid'. A law counts once. -/
mutual
def uptoBulk {H : Type} : DataW H → Nat
  | .lit (.string bytes) => bytes.length + 1
  | .lit _ => 1
  | .nil => 1
  | .ptr d => uptoBulk d + 1
  | .slice elems spare => uptoBulkAll elems + uptoBulkAll spare + 1
  | .agg parts => uptoBulkAll parts + 1
  | .iface _ d => uptoBulk d + 1
  | .map entries => uptoBulkEntries entries + 1
  | .held _ => 1
def uptoBulkAll {H : Type} : List (DataW H) → Nat
  | [] => 0
  | d :: r => uptoBulk d + uptoBulkAll r
def uptoBulkEntries {H : Type} : List (Lit × DataW H) → Nat
  | [] => 0
  | x :: r => uptoBulkEntry x + uptoBulkEntries r
def uptoBulkEntry {H : Type} : Lit × DataW H → Nat
  | (.string bytes, d) => bytes.length + uptoBulk d + 1
  | (_, d) => uptoBulk d + 1
 end
def uptoSmall : (H : Type) → List (DataW H) → Bool := fun _ ds => decide (uptoBulkAll ds ≤ 1048576)
def OpenSpec.upto (s : _root_.Go.ChangeSpec) : _root_.Go.OpenSpec := { _root_.Go.OpenSpec.ofChange s with cond := some uptoSmall }

/-- 'alidadelaw11.LinkOrders', WHERE WHAT IT READS IS OF BULK AT MOST 1048576: true; the input reads as it did. -/
def linkOrdersUptoRow : OpenClaim := { program := "ytoblckocmakakaa", sum := "4ac3fda7cb0ce148c850b80059d65448404638d8b54108b5e39bf92c205e0eb5", func := "alidade/alidadelaw11.LinkOrders", spec := "linkOrders", unfollowed := true, recurses := true, apart := false, narrowed := true }
def LinkOrdersUptoSaid : Prop := linkOrdersUptoRow.holds Try.pinned (OpenSpec.upto linkOrdersSpec)

/-- 'alidadelaw11.LinkComes', WHERE WHAT IT READS IS OF BULK AT MOST 1048576: true; the input reads as it did. -/
def linkComesUptoRow : OpenClaim := { program := "ytoblckocmakakaa", sum := "4ac3fda7cb0ce148c850b80059d65448404638d8b54108b5e39bf92c205e0eb5", func := "alidade/alidadelaw11.LinkComes", spec := "linkComes", unfollowed := true, recurses := true, apart := false, narrowed := true }
def LinkComesUptoSaid : Prop := linkComesUptoRow.holds Try.pinned (OpenSpec.upto linkComesSpec)

/-- 'alidadelaw11.LinkTwice', WHERE WHAT IT READS IS OF BULK AT MOST 1048576: true; the input reads as it did. -/
def linkTwiceUptoRow : OpenClaim := { program := "ytoblckocmakakaa", sum := "4ac3fda7cb0ce148c850b80059d65448404638d8b54108b5e39bf92c205e0eb5", func := "alidade/alidadelaw11.LinkTwice", spec := "linkTwice", unfollowed := true, recurses := true, apart := false, narrowed := true }
def LinkTwiceUptoSaid : Prop := linkTwiceUptoRow.holds Try.pinned (OpenSpec.upto linkTwiceSpec)

/-- 'alidadelaw11.LinkStays', WHERE WHAT IT READS IS OF BULK AT MOST 1048576: true; the input reads as it did. -/
def linkStaysUptoRow : OpenClaim := { program := "ytoblckocmakakaa", sum := "4ac3fda7cb0ce148c850b80059d65448404638d8b54108b5e39bf92c205e0eb5", func := "alidade/alidadelaw11.LinkStays", spec := "linkStays", unfollowed := true, recurses := true, apart := false, narrowed := true }
def LinkStaysUptoSaid : Prop := linkStaysUptoRow.holds Try.pinned (OpenSpec.upto linkStaysSpec)

/-- 'alidadelaw11.LinkFirst', WHERE WHAT IT READS IS OF BULK AT MOST 1048576: true; the input reads as it did. -/
def linkFirstUptoRow : OpenClaim := { program := "ytoblckocmakakaa", sum := "4ac3fda7cb0ce148c850b80059d65448404638d8b54108b5e39bf92c205e0eb5", func := "alidade/alidadelaw11.LinkFirst", spec := "linkFirst", unfollowed := true, recurses := true, apart := false, narrowed := true }
def LinkFirstUptoSaid : Prop := linkFirstUptoRow.holds Try.pinned (OpenSpec.upto linkFirstSpec)

/-- 'alidadelaw11.LinkWaits', WHERE WHAT IT READS IS OF BULK AT MOST 1048576: true; the input reads as it did. -/
def linkWaitsUptoRow : OpenClaim := { program := "ytoblckocmakakaa", sum := "4ac3fda7cb0ce148c850b80059d65448404638d8b54108b5e39bf92c205e0eb5", func := "alidade/alidadelaw11.LinkWaits", spec := "linkWaits", unfollowed := true, recurses := true, apart := false, narrowed := true }
def LinkWaitsUptoSaid : Prop := linkWaitsUptoRow.holds Try.pinned (OpenSpec.upto linkWaitsSpec)

/-- 'alidadelaw11.LinkTells', WHERE WHAT IT READS IS OF BULK AT MOST 1048576: true; the input reads as it did. -/
def linkTellsUptoRow : OpenClaim := { program := "ytoblckocmakakaa", sum := "4ac3fda7cb0ce148c850b80059d65448404638d8b54108b5e39bf92c205e0eb5", func := "alidade/alidadelaw11.LinkTells", spec := "linkTells", unfollowed := true, recurses := true, apart := false, narrowed := true }
def LinkTellsUptoSaid : Prop := linkTellsUptoRow.holds Try.pinned (OpenSpec.upto linkTellsSpec)

end Rows
end Go.Proofs.Ytoblckocmakakaa
