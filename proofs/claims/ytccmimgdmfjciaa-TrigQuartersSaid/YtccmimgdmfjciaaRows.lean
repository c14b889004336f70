/-
  No cell of these rows narrows 'for every input' (looked for: loops, veiled, ifaces, maps, wideKeys, modest, calm, conditions, laid).
  DERIVED. THE GIVEN ROWS OF THIS SEAT. 6 by the template 'for every input the law returns true; each argument reads behind the call as it read before'; 0 by the template 'total and deterministic' (their statements: YtccmimgdmfjciaaTotals.lean).
  GIVEN WITH THE SEED: the statements are not yours to turn. If you find one false, say at which input.
  Laid BY PROGRAM, IN A SANDBOX (cutbox-rows.mjs): the forced cells as the released guide's own fill.sh prints them over the translation f2068c04e35acd3f… (all of the seat's roots in one cut). By AI agents, Wed Nov 11 2026. No macro, syntax, notation, axiom, sorry.
-/
import Derived.Test.YtccmimgdmfjciaaChecked
import GoSem.Claim
import GoSem.ClaimJoined
import GoSem.ClaimMapViews
import Derived.JoinedTies
import Derived.KernelRfl
namespace Go.Proofs.Ytccmimgdmfjciaa
/- THE CELL 'sum', in the pinned program and in every row, IS THE sha256 OF THE DUMP (.gsa) THAT YtccmimgdmfjciaaProg.lean LOADS. Nothing in Lean hashes anything: it is a label: what it is worth is what the hold of that sum in a sandbox is worth. -/
noncomputable def Try.pinned : Pinned := { name := "ytccmimgdmfjciaa", sum := "f2068c04e35acd3f5a5943cc380e5708521dfcbe90c73a40f6ee4f8c92bec088", checked := Try.checked }
namespace Rows
def none {H : Type} : Left H := { results := [], args := [] }

/-- 'alidadelaw02.TrigTells': WHATEVER THE INPUT: true; the input reads as it did. -/
def trigTellsSpec : ChangeSpec := { name := "trigTells", fn := fun _ => fun
  | [d] => { results := [.lit (.bool true)], args := [d] }
  | _ => none }
def trigTellsRow : OpenClaim := { program := "ytccmimgdmfjciaa", sum := "f2068c04e35acd3f5a5943cc380e5708521dfcbe90c73a40f6ee4f8c92bec088", func := "alidade/alidadelaw02.TrigTells", spec := "trigTells", unfollowed := true, recurses := true, apart := false }
def TrigTellsSaid : Prop := trigTellsRow.holds Try.pinned (OpenSpec.ofChange trigTellsSpec)

/-- ITS FALSE NEIGHBOUR: 'it returns false'. Refute it at one input. -/
def trigTellsWrong : ChangeSpec := { name := "trigTells", fn := fun _ => fun
  | [d] => { results := [.lit (.bool false)], args := [d] }
  | _ => none }
def TrigTellsWrongFalsely : Prop := trigTellsRow.holds Try.pinned (OpenSpec.ofChange trigTellsWrong)

/-- 'alidadelaw02.TrigHalves': WHATEVER THE INPUT: true; the input reads as it did. -/
def trigHalvesSpec : ChangeSpec := { name := "trigHalves", fn := fun _ => fun
  | [d] => { results := [.lit (.bool true)], args := [d] }
  | _ => none }
def trigHalvesRow : OpenClaim := { program := "ytccmimgdmfjciaa", sum := "f2068c04e35acd3f5a5943cc380e5708521dfcbe90c73a40f6ee4f8c92bec088", func := "alidade/alidadelaw02.TrigHalves", spec := "trigHalves", unfollowed := true, recurses := true, apart := false }
def TrigHalvesSaid : Prop := trigHalvesRow.holds Try.pinned (OpenSpec.ofChange trigHalvesSpec)

/-- ITS FALSE NEIGHBOUR: 'it returns false'. Refute it at one input. -/
def trigHalvesWrong : ChangeSpec := { name := "trigHalves", fn := fun _ => fun
  | [d] => { results := [.lit (.bool false)], args := [d] }
  | _ => none }
def TrigHalvesWrongFalsely : Prop := trigHalvesRow.holds Try.pinned (OpenSpec.ofChange trigHalvesWrong)

/-- 'alidadelaw02.TrigAngles': WHATEVER THE INPUT: true; the input reads as it did. -/
def trigAnglesSpec : ChangeSpec := { name := "trigAngles", fn := fun _ => fun
  | [d] => { results := [.lit (.bool true)], args := [d] }
  | _ => none }
def trigAnglesRow : OpenClaim := { program := "ytccmimgdmfjciaa", sum := "f2068c04e35acd3f5a5943cc380e5708521dfcbe90c73a40f6ee4f8c92bec088", func := "alidade/alidadelaw02.TrigAngles", spec := "trigAngles", unfollowed := true, recurses := true, apart := false }
def TrigAnglesSaid : Prop := trigAnglesRow.holds Try.pinned (OpenSpec.ofChange trigAnglesSpec)

/-- ITS FALSE NEIGHBOUR: 'it returns false'. Refute it at one input. -/
def trigAnglesWrong : ChangeSpec := { name := "trigAngles", fn := fun _ => fun
  | [d] => { results := [.lit (.bool false)], args := [d] }
  | _ => none }
def TrigAnglesWrongFalsely : Prop := trigAnglesRow.holds Try.pinned (OpenSpec.ofChange trigAnglesWrong)

/-- 'alidadelaw02.TrigSquares': WHATEVER THE INPUT: true; the input reads as it did. -/
def trigSquaresSpec : ChangeSpec := { name := "trigSquares", fn := fun _ => fun
  | [d] => { results := [.lit (.bool true)], args := [d] }
  | _ => none }
def trigSquaresRow : OpenClaim := { program := "ytccmimgdmfjciaa", sum := "f2068c04e35acd3f5a5943cc380e5708521dfcbe90c73a40f6ee4f8c92bec088", func := "alidade/alidadelaw02.TrigSquares", spec := "trigSquares", unfollowed := true, recurses := true, apart := false }
def TrigSquaresSaid : Prop := trigSquaresRow.holds Try.pinned (OpenSpec.ofChange trigSquaresSpec)

/-- ITS FALSE NEIGHBOUR: 'it returns false'. Refute it at one input. -/
def trigSquaresWrong : ChangeSpec := { name := "trigSquares", fn := fun _ => fun
  | [d] => { results := [.lit (.bool false)], args := [d] }
  | _ => none }
def TrigSquaresWrongFalsely : Prop := trigSquaresRow.holds Try.pinned (OpenSpec.ofChange trigSquaresWrong)

/-- 'alidadelaw02.TrigTurns': WHATEVER THE INPUT: true; the input reads as it did. -/
def trigTurnsSpec : ChangeSpec := { name := "trigTurns", fn := fun _ => fun
  | [d] => { results := [.lit (.bool true)], args := [d] }
  | _ => none }
def trigTurnsRow : OpenClaim := { program := "ytccmimgdmfjciaa", sum := "f2068c04e35acd3f5a5943cc380e5708521dfcbe90c73a40f6ee4f8c92bec088", func := "alidade/alidadelaw02.TrigTurns", spec := "trigTurns", unfollowed := true, recurses := true, apart := false }
def TrigTurnsSaid : Prop := trigTurnsRow.holds Try.pinned (OpenSpec.ofChange trigTurnsSpec)

/-- ITS FALSE NEIGHBOUR: 'it returns false'. Refute it at one input. -/
def trigTurnsWrong : ChangeSpec := { name := "trigTurns", fn := fun _ => fun
  | [d] => { results := [.lit (.bool false)], args := [d] }
  | _ => none }
def TrigTurnsWrongFalsely : Prop := trigTurnsRow.holds Try.pinned (OpenSpec.ofChange trigTurnsWrong)

/-- 'alidadelaw02.TrigQuarters': WHATEVER THE INPUT: true; the input reads as it did. -/
def trigQuartersSpec : ChangeSpec := { name := "trigQuarters", fn := fun _ => fun
  | [d1, d2] => { results := [.lit (.bool true)], args := [d1, d2] }
  | _ => none }
def trigQuartersRow : OpenClaim := { program := "ytccmimgdmfjciaa", sum := "f2068c04e35acd3f5a5943cc380e5708521dfcbe90c73a40f6ee4f8c92bec088", func := "alidade/alidadelaw02.TrigQuarters", spec := "trigQuarters", unfollowed := true, recurses := true, apart := false }
def TrigQuartersSaid : Prop := trigQuartersRow.holds Try.pinned (OpenSpec.ofChange trigQuartersSpec)

/-- ITS FALSE NEIGHBOUR: 'it returns false'. Refute it at one input. -/
def trigQuartersWrong : ChangeSpec := { name := "trigQuarters", fn := fun _ => fun
  | [d1, d2] => { results := [.lit (.bool false)], args := [d1, d2] }
  | _ => none }
def TrigQuartersWrongFalsely : Prop := trigQuartersRow.holds Try.pinned (OpenSpec.ofChange trigQuartersWrong)

/- THE SECOND FORM. 'bulk': how many values and letters a reading holds, each counted each time it is reached (what is shared counts as often as it is met; a slice's spare places count too). A statement '..UptoSaid' is the law's where the arguments, and the package variables that the reading takes, are together of bulk at most 1048576: NARROWER than '..Said'. Prove '..Said' where nothing that the law and all that it calls make is longer than what came in: it says more and counts as full. Else prove '..UptoSaid'. A law counts once. -/
mutual
def uptoBulk {H : Type} : DataW H → Nat
  | .lit (.string bytes) => bytes.length + 1
  | .lit _ => 1
  | .nil => 1
  | .ptr d => uptoBulk d + 1
  | .slice elems spare => uptoBulkAll elems + uptoBulkAll spare + 1
  | .agg parts => uptoBulkAll parts + 1
  | .iface _ d => uptoBulk d + 1
  | .map entries => uptoBulkEntries entries + 1
  | .held _ => 1
def uptoBulkAll {H : Type} : List (DataW H) → Nat
  | [] => 0
  | d :: r => uptoBulk d + uptoBulkAll r
def uptoBulkEntries {H : Type} : List (Lit × DataW H) → Nat
  | [] => 0
  | x :: r => uptoBulkEntry x + uptoBulkEntries r
def uptoBulkEntry {H : Type} : Lit × DataW H → Nat
  | (.string bytes, d) => bytes.length + uptoBulk d + 1
  | (_, d) => uptoBulk d + 1
 end
def uptoSmall : (H : Type) → List (DataW H) → Bool := fun _ ds => decide (uptoBulkAll ds ≤ 1048576)
def OpenSpec.upto (s : _root_.Go.ChangeSpec) : _root_.Go.OpenSpec := { _root_.Go.OpenSpec.ofChange s with cond := some uptoSmall }

/-- 'alidadelaw02.TrigTells', WHERE WHAT IT READS IS OF BULK AT MOST 1048576: true; the input reads as it did. -/
def trigTellsUptoRow : OpenClaim := { program := "ytccmimgdmfjciaa", sum := "f2068c04e35acd3f5a5943cc380e5708521dfcbe90c73a40f6ee4f8c92bec088", func := "alidade/alidadelaw02.TrigTells", spec := "trigTells", unfollowed := true, recurses := true, apart := false, narrowed := true }
def TrigTellsUptoSaid : Prop := trigTellsUptoRow.holds Try.pinned (OpenSpec.upto trigTellsSpec)

/-- 'alidadelaw02.TrigHalves', WHERE WHAT IT READS IS OF BULK AT MOST 1048576: true; the input reads as it did. -/
def trigHalvesUptoRow : OpenClaim := { program := "ytccmimgdmfjciaa", sum := "f2068c04e35acd3f5a5943cc380e5708521dfcbe90c73a40f6ee4f8c92bec088", func := "alidade/alidadelaw02.TrigHalves", spec := "trigHalves", unfollowed := true, recurses := true, apart := false, narrowed := true }
def TrigHalvesUptoSaid : Prop := trigHalvesUptoRow.holds Try.pinned (OpenSpec.upto trigHalvesSpec)

/-- 'alidadelaw02.TrigAngles', WHERE WHAT IT READS IS OF BULK AT MOST 1048576: true; the input reads as it did. -/
def trigAnglesUptoRow : OpenClaim := { program := "ytccmimgdmfjciaa", sum := "f2068c04e35acd3f5a5943cc380e5708521dfcbe90c73a40f6ee4f8c92bec088", func := "alidade/alidadelaw02.TrigAngles", spec := "trigAngles", unfollowed := true, recurses := true, apart := false, narrowed := true }
def TrigAnglesUptoSaid : Prop := trigAnglesUptoRow.holds Try.pinned (OpenSpec.upto trigAnglesSpec)

/-- 'alidadelaw02.TrigSquares', WHERE WHAT IT READS IS OF BULK AT MOST 1048576: true; the input reads as it did. -/
def trigSquaresUptoRow : OpenClaim := { program := "ytccmimgdmfjciaa", sum := "f2068c04e35acd3f5a5943cc380e5708521dfcbe90c73a40f6ee4f8c92bec088", func := "alidade/alidadelaw02.TrigSquares", spec := "trigSquares", unfollowed := true, recurses := true, apart := false, narrowed := true }
def TrigSquaresUptoSaid : Prop := trigSquaresUptoRow.holds Try.pinned (OpenSpec.upto trigSquaresSpec)

/-- 'alidadelaw02.TrigTurns', WHERE WHAT IT READS IS OF BULK AT MOST 1048576: true; the input reads as it did. -/
def trigTurnsUptoRow : OpenClaim := { program := "ytccmimgdmfjciaa", sum := "f2068c04e35acd3f5a5943cc380e5708521dfcbe90c73a40f6ee4f8c92bec088", func := "alidade/alidadelaw02.TrigTurns", spec := "trigTurns", unfollowed := true, recurses := true, apart := false, narrowed := true }
def TrigTurnsUptoSaid : Prop := trigTurnsUptoRow.holds Try.pinned (OpenSpec.upto trigTurnsSpec)

/-- 'alidadelaw02.TrigQuarters', WHERE WHAT IT READS IS OF BULK AT MOST 1048576: true; the input reads as it did. -/
def trigQuartersUptoRow : OpenClaim := { program := "ytccmimgdmfjciaa", sum := "f2068c04e35acd3f5a5943cc380e5708521dfcbe90c73a40f6ee4f8c92bec088", func := "alidade/alidadelaw02.TrigQuarters", spec := "trigQuarters", unfollowed := true, recurses := true, apart := false, narrowed := true }
def TrigQuartersUptoSaid : Prop := trigQuartersUptoRow.holds Try.pinned (OpenSpec.upto trigQuartersSpec)

end Rows
end Go.Proofs.Ytccmimgdmfjciaa
