/-
  No cell of these rows narrows 'for every input' (looked for: loops, veiled, ifaces, maps, wideKeys, modest, calm, conditions, laid).
  DERIVED. THE GIVEN ROWS OF THIS SEAT. 7 by the template 'for every input the law returns true; each argument reads behind the call as it read before'; 0 by the template 'total and deterministic' (their statements: YtoibfkieadhelaaTotals.lean).
  GIVEN WITH THE SEED: the statements are not yours to turn. If you find one false, say at which input.
  Laid BY PROGRAM, IN A SANDBOX (cutbox-rows.mjs): the forced cells as the released guide's own fill.sh prints them over the translation f96d4a15116986d0… (all of the seat's roots in one cut). By AI agents, Wed Nov 11 2026. No macro, syntax, notation, axiom, sorry.
-/
import Derived.Test.YtoibfkieadhelaaChecked
import GoSem.Claim
import GoSem.ClaimJoined
import GoSem.ClaimMapViews
import Derived.JoinedTies
import Derived.KernelRfl
namespace Go.Proofs.Ytoibfkieadhelaa
/- THE CELL 'sum', in the pinned program and in every row, IS THE sha256 OF THE DUMP (.gsa) THAT YtoibfkieadhelaaProg.lean LOADS. Nothing in Lean hashes anything: it is a label: what it is worth is what the hold of that sum in a sandbox is worth. -/
noncomputable def Try.pinned : Pinned := { name := "ytoibfkieadhelaa", sum := "f96d4a15116986d00dbb250465ee58a2e8d98466dfed75326a2b7d0a0343e59c", checked := Try.checked }
namespace Rows
def none {H : Type} : Left H := { results := [], args := [] }

/-- 'alidadelaw12.RingFinds': WHATEVER THE INPUT: true; the input reads as it did. -/
def ringFindsSpec : ChangeSpec := { name := "ringFinds", fn := fun _ => fun
  | [d1, d2, d3] => { results := [.lit (.bool true)], args := [d1, d2, d3] }
  | _ => none }
def ringFindsRow : OpenClaim := { program := "ytoibfkieadhelaa", sum := "f96d4a15116986d00dbb250465ee58a2e8d98466dfed75326a2b7d0a0343e59c", func := "alidade/alidadelaw12.RingFinds", spec := "ringFinds", apart := false }
def RingFindsSaid : Prop := ringFindsRow.holds Try.pinned (OpenSpec.ofChange ringFindsSpec)

/-- ITS FALSE NEIGHBOUR: 'it returns false'. Refute it at one input. -/
def ringFindsWrong : ChangeSpec := { name := "ringFinds", fn := fun _ => fun
  | [d1, d2, d3] => { results := [.lit (.bool false)], args := [d1, d2, d3] }
  | _ => none }
def RingFindsWrongFalsely : Prop := ringFindsRow.holds Try.pinned (OpenSpec.ofChange ringFindsWrong)

/-- 'alidadelaw12.RingRows': WHATEVER THE INPUT: true; the input reads as it did. -/
def ringRowsSpec : ChangeSpec := { name := "ringRows", fn := fun _ => fun
  | [d] => { results := [.lit (.bool true)], args := [d] }
  | _ => none }
def ringRowsRow : OpenClaim := { program := "ytoibfkieadhelaa", sum := "f96d4a15116986d00dbb250465ee58a2e8d98466dfed75326a2b7d0a0343e59c", func := "alidade/alidadelaw12.RingRows", spec := "ringRows", apart := false }
def RingRowsSaid : Prop := ringRowsRow.holds Try.pinned (OpenSpec.ofChange ringRowsSpec)

/-- ITS FALSE NEIGHBOUR: 'it returns false'. Refute it at one input. -/
def ringRowsWrong : ChangeSpec := { name := "ringRows", fn := fun _ => fun
  | [d] => { results := [.lit (.bool false)], args := [d] }
  | _ => none }
def RingRowsWrongFalsely : Prop := ringRowsRow.holds Try.pinned (OpenSpec.ofChange ringRowsWrong)

/-- 'alidadelaw12.RingApart': WHATEVER THE INPUT: true; the input reads as it did. -/
def ringApartSpec : ChangeSpec := { name := "ringApart", fn := fun _ => fun
  | [d] => { results := [.lit (.bool true)], args := [d] }
  | _ => none }
def ringApartRow : OpenClaim := { program := "ytoibfkieadhelaa", sum := "f96d4a15116986d00dbb250465ee58a2e8d98466dfed75326a2b7d0a0343e59c", func := "alidade/alidadelaw12.RingApart", spec := "ringApart", apart := false }
def RingApartSaid : Prop := ringApartRow.holds Try.pinned (OpenSpec.ofChange ringApartSpec)

/-- ITS FALSE NEIGHBOUR: 'it returns false'. Refute it at one input. -/
def ringApartWrong : ChangeSpec := { name := "ringApart", fn := fun _ => fun
  | [d] => { results := [.lit (.bool false)], args := [d] }
  | _ => none }
def RingApartWrongFalsely : Prop := ringApartRow.holds Try.pinned (OpenSpec.ofChange ringApartWrong)

/-- 'alidadelaw12.RingFills': WHATEVER THE INPUT: true; the input reads as it did. -/
def ringFillsSpec : ChangeSpec := { name := "ringFills", fn := fun _ => fun
  | [d1, d2] => { results := [.lit (.bool true)], args := [d1, d2] }
  | _ => none }
def ringFillsRow : OpenClaim := { program := "ytoibfkieadhelaa", sum := "f96d4a15116986d00dbb250465ee58a2e8d98466dfed75326a2b7d0a0343e59c", func := "alidade/alidadelaw12.RingFills", spec := "ringFills", apart := false }
def RingFillsSaid : Prop := ringFillsRow.holds Try.pinned (OpenSpec.ofChange ringFillsSpec)

/-- ITS FALSE NEIGHBOUR: 'it returns false'. Refute it at one input. -/
def ringFillsWrong : ChangeSpec := { name := "ringFills", fn := fun _ => fun
  | [d1, d2] => { results := [.lit (.bool false)], args := [d1, d2] }
  | _ => none }
def RingFillsWrongFalsely : Prop := ringFillsRow.holds Try.pinned (OpenSpec.ofChange ringFillsWrong)

/-- 'alidadelaw12.RingMerges': WHATEVER THE INPUT: true; the input reads as it did. -/
def ringMergesSpec : ChangeSpec := { name := "ringMerges", fn := fun _ => fun
  | [d1, d2] => { results := [.lit (.bool true)], args := [d1, d2] }
  | _ => none }
def ringMergesRow : OpenClaim := { program := "ytoibfkieadhelaa", sum := "f96d4a15116986d00dbb250465ee58a2e8d98466dfed75326a2b7d0a0343e59c", func := "alidade/alidadelaw12.RingMerges", spec := "ringMerges", apart := false }
def RingMergesSaid : Prop := ringMergesRow.holds Try.pinned (OpenSpec.ofChange ringMergesSpec)

/-- ITS FALSE NEIGHBOUR: 'it returns false'. Refute it at one input. -/
def ringMergesWrong : ChangeSpec := { name := "ringMerges", fn := fun _ => fun
  | [d1, d2] => { results := [.lit (.bool false)], args := [d1, d2] }
  | _ => none }
def RingMergesWrongFalsely : Prop := ringMergesRow.holds Try.pinned (OpenSpec.ofChange ringMergesWrong)

/-- 'alidadelaw12.RingBoth': WHATEVER THE INPUT: true; the input reads as it did. -/
def ringBothSpec : ChangeSpec := { name := "ringBoth", fn := fun _ => fun
  | [d1, d2, d3] => { results := [.lit (.bool true)], args := [d1, d2, d3] }
  | _ => none }
def ringBothRow : OpenClaim := { program := "ytoibfkieadhelaa", sum := "f96d4a15116986d00dbb250465ee58a2e8d98466dfed75326a2b7d0a0343e59c", func := "alidade/alidadelaw12.RingBoth", spec := "ringBoth", apart := false }
def RingBothSaid : Prop := ringBothRow.holds Try.pinned (OpenSpec.ofChange ringBothSpec)

/-- ITS FALSE NEIGHBOUR: 'it returns false'. Refute it at one input. -/
def ringBothWrong : ChangeSpec := { name := "ringBoth", fn := fun _ => fun
  | [d1, d2, d3] => { results := [.lit (.bool false)], args := [d1, d2, d3] }
  | _ => none }
def RingBothWrongFalsely : Prop := ringBothRow.holds Try.pinned (OpenSpec.ofChange ringBothWrong)

/-- 'alidadelaw12.RingTells': WHATEVER THE INPUT: true; the input reads as it did. -/
def ringTellsSpec : ChangeSpec := { name := "ringTells", fn := fun _ => fun
  | [d] => { results := [.lit (.bool true)], args := [d] }
  | _ => none }
def ringTellsRow : OpenClaim := { program := "ytoibfkieadhelaa", sum := "f96d4a15116986d00dbb250465ee58a2e8d98466dfed75326a2b7d0a0343e59c", func := "alidade/alidadelaw12.RingTells", spec := "ringTells", apart := false }
def RingTellsSaid : Prop := ringTellsRow.holds Try.pinned (OpenSpec.ofChange ringTellsSpec)

/-- ITS FALSE NEIGHBOUR: 'it returns false'. Refute it at one input. -/
def ringTellsWrong : ChangeSpec := { name := "ringTells", fn := fun _ => fun
  | [d] => { results := [.lit (.bool false)], args := [d] }
  | _ => none }
def RingTellsWrongFalsely : Prop := ringTellsRow.holds Try.pinned (OpenSpec.ofChange ringTellsWrong)

/- THE SECOND FORM. 'bulk': how many values and letters a reading holds, each counted each time it is reached (what is shared counts as often as it is met; a slice's spare places count too). A statement '..UptoSaid' is the law's where the arguments, and the package variables that the reading takes, are together of bulk at most 1048576: NARROWER than '..Said'. Prove '..Said' where nothing that the law and all that it calls make is longer than what came in: it says more and counts as full. Else prove '..UptoSaid'. A law counts once. -/
mutual
def uptoBulk {H : Type} : DataW H → Nat
  | .lit (.string bytes) => bytes.length + 1
  | .lit _ => 1
  | .nil => 1
  | .ptr d => uptoBulk d + 1
  | .slice elems spare => uptoBulkAll elems + uptoBulkAll spare + 1
  | .agg parts => uptoBulkAll parts + 1
  | .iface _ d => uptoBulk d + 1
  | .map entries => uptoBulkEntries entries + 1
  | .held _ => 1
def uptoBulkAll {H : Type} : List (DataW H) → Nat
  | [] => 0
  | d :: r => uptoBulk d + uptoBulkAll r
def uptoBulkEntries {H : Type} : List (Lit × DataW H) → Nat
  | [] => 0
  | x :: r => uptoBulkEntry x + uptoBulkEntries r
def uptoBulkEntry {H : Type} : Lit × DataW H → Nat
  | (.string bytes, d) => bytes.length + uptoBulk d + 1
  | (_, d) => uptoBulk d + 1
 end
def uptoSmall : (H : Type) → List (DataW H) → Bool := fun _ ds => decide (uptoBulkAll ds ≤ 1048576)
def OpenSpec.upto (s : _root_.Go.ChangeSpec) : _root_.Go.OpenSpec := { _root_.Go.OpenSpec.ofChange s with cond := some uptoSmall }

/-- 'alidadelaw12.RingFinds', WHERE WHAT IT READS IS OF BULK AT MOST 1048576: true; the input reads as it did. -/
def ringFindsUptoRow : OpenClaim := { program := "ytoibfkieadhelaa", sum := "f96d4a15116986d00dbb250465ee58a2e8d98466dfed75326a2b7d0a0343e59c", func := "alidade/alidadelaw12.RingFinds", spec := "ringFinds", apart := false, narrowed := true }
def RingFindsUptoSaid : Prop := ringFindsUptoRow.holds Try.pinned (OpenSpec.upto ringFindsSpec)

/-- 'alidadelaw12.RingRows', WHERE WHAT IT READS IS OF BULK AT MOST 1048576: true; the input reads as it did. -/
def ringRowsUptoRow : OpenClaim := { program := "ytoibfkieadhelaa", sum := "f96d4a15116986d00dbb250465ee58a2e8d98466dfed75326a2b7d0a0343e59c", func := "alidade/alidadelaw12.RingRows", spec := "ringRows", apart := false, narrowed := true }
def RingRowsUptoSaid : Prop := ringRowsUptoRow.holds Try.pinned (OpenSpec.upto ringRowsSpec)

/-- 'alidadelaw12.RingApart', WHERE WHAT IT READS IS OF BULK AT MOST 1048576: true; the input reads as it did. -/
def ringApartUptoRow : OpenClaim := { program := "ytoibfkieadhelaa", sum := "f96d4a15116986d00dbb250465ee58a2e8d98466dfed75326a2b7d0a0343e59c", func := "alidade/alidadelaw12.RingApart", spec := "ringApart", apart := false, narrowed := true }
def RingApartUptoSaid : Prop := ringApartUptoRow.holds Try.pinned (OpenSpec.upto ringApartSpec)

/-- 'alidadelaw12.RingFills', WHERE WHAT IT READS IS OF BULK AT MOST 1048576: true; the input reads as it did. -/
def ringFillsUptoRow : OpenClaim := { program := "ytoibfkieadhelaa", sum := "f96d4a15116986d00dbb250465ee58a2e8d98466dfed75326a2b7d0a0343e59c", func := "alidade/alidadelaw12.RingFills", spec := "ringFills", apart := false, narrowed := true }
def RingFillsUptoSaid : Prop := ringFillsUptoRow.holds Try.pinned (OpenSpec.upto ringFillsSpec)

/-- 'alidadelaw12.RingMerges', WHERE WHAT IT READS IS OF BULK AT MOST 1048576: true; the input reads as it did. -/
def ringMergesUptoRow : OpenClaim := { program := "ytoibfkieadhelaa", sum := "f96d4a15116986d00dbb250465ee58a2e8d98466dfed75326a2b7d0a0343e59c", func := "alidade/alidadelaw12.RingMerges", spec := "ringMerges", apart := false, narrowed := true }
def RingMergesUptoSaid : Prop := ringMergesUptoRow.holds Try.pinned (OpenSpec.upto ringMergesSpec)

/-- 'alidadelaw12.RingBoth', WHERE WHAT IT READS IS OF BULK AT MOST 1048576: true; the input reads as it did. -/
def ringBothUptoRow : OpenClaim := { program := "ytoibfkieadhelaa", sum := "f96d4a15116986d00dbb250465ee58a2e8d98466dfed75326a2b7d0a0343e59c", func := "alidade/alidadelaw12.RingBoth", spec := "ringBoth", apart := false, narrowed := true }
def RingBothUptoSaid : Prop := ringBothUptoRow.holds Try.pinned (OpenSpec.upto ringBothSpec)

/-- 'alidadelaw12.RingTells', WHERE WHAT IT READS IS OF BULK AT MOST 1048576: true; the input reads as it did. -/
def ringTellsUptoRow : OpenClaim := { program := "ytoibfkieadhelaa", sum := "f96d4a15116986d00dbb250465ee58a2e8d98466dfed75326a2b7d0a0343e59c", func := "alidade/alidadelaw12.RingTells", spec := "ringTells", apart := false, narrowed := true }
def RingTellsUptoSaid : Prop := ringTellsUptoRow.holds Try.pinned (OpenSpec.upto ringTellsSpec)

end Rows
end Go.Proofs.Ytoibfkieadhelaa
