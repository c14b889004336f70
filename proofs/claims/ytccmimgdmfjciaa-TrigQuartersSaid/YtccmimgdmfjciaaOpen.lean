/-
  Numbers and the laws' inputs that came in, opened: no conditions.
-/
import Derived.Test.YtccmimgdmfjciaaBase
import Derived.ProofKit
import Derived.OpenShut
namespace Go.Proofs.Ytccmimgdmfjciaa
open Go.ChangeShapes Go.WideShapes Go.ChangeAt Go.RowKit
variable {H : Type} {enc : TypeId × Value → H} {w : World} {base : Nat} {spare : Nat → Bool} {held : Bool}
theorem wf_u32 {n : Int} (h : (Lit.int .u32 n).wf = true) : 0 ≤ n ∧ n ≤ 4294967295 := by
  unfold Lit.wf at h
  rw [Bool.and_eq_true, decide_eq_true_iff, decide_eq_true_iff] at h
  exact h
theorem wf_i64 {n : Int} (h : (Lit.int .i64 n).wf = true) : -9223372036854775808 ≤ n ∧ n ≤ 9223372036854775807 := by
  unfold Lit.wf at h
  rw [Bool.and_eq_true, decide_eq_true_iff, decide_eq_true_iff] at h
  exact h
theorem cells22 : Try.prog.cellsOf 22 = 1 := by kernel_rfl
theorem cells23 : Try.prog.cellsOf 23 = 1 := by kernel_rfl
theorem cells3 : Try.prog.cellsOf 3 = 1 := by kernel_rfl
theorem cells25 : Try.prog.cellsOf 25 = 5 := by kernel_rfl
theorem cells35 : Try.prog.cellsOf 35 = 4 := by kernel_rfl
theorem opens_tells {r : Reach} {b0 : Nat} {v : Value} {d : DataW H} {pl : List MemPlace} (hv : Value.okWide Try.prog w r b0 25 v) (h : DataW.Trod enc Try.prog w base spare held 25 v d pl) :
    ∃ a b y x i : Int, v = .agg #[.int .u32 a, .int .u32 b, .int .i64 y, .int .i64 x, .int .i64 i] ∧ (0 ≤ a ∧ a ≤ 4294967295) ∧ (0 ≤ b ∧ b ≤ 4294967295) ∧ (-9223372036854775808 ≤ y ∧ y ≤ 9223372036854775807) ∧ (-9223372036854775808 ≤ x ∧ x ≤ 9223372036854775807) ∧ (-9223372036854775808 ≤ i ∧ i ≤ 9223372036854775807) := by
  obtain ⟨cs, rfl, _⟩ := okWide_struct Try.underlying25 hv
  obtain ⟨fuel, hf⟩ := h
  have hf : DataW.trod enc Try.prog w base spare held fuel 25 cs.toList = some (d, pl) := hf
  obtain ⟨xs, n, _, _, hl, hlen, hg⟩ := DataW.trod_struct Try.underlying25 hf
  have hlen : xs.length = 5 := hlen
  rw [cells25] at hl
  have g0 : DataW.trod enc Try.prog w base spare held n 22 ((cs.toList.drop 0).take (Try.prog.cellsOf 22)) = xs[0]? := hg 0 _ rfl
  have g1 : DataW.trod enc Try.prog w base spare held n 22 ((cs.toList.drop 1).take (Try.prog.cellsOf 22)) = xs[1]? := hg 1 _ rfl
  have g2 : DataW.trod enc Try.prog w base spare held n 23 ((cs.toList.drop 2).take (Try.prog.cellsOf 23)) = xs[2]? := hg 2 _ rfl
  have g3 : DataW.trod enc Try.prog w base spare held n 23 ((cs.toList.drop 3).take (Try.prog.cellsOf 23)) = xs[3]? := hg 3 _ rfl
  have g4 : DataW.trod enc Try.prog w base spare held n 3 ((cs.toList.drop 4).take (Try.prog.cellsOf 3)) = xs[4]? := hg 4 _ rfl
  clear hg
  rw [List.getElem?_eq_getElem (by omega)] at g0 g1 g2 g3 g4
  simp only [cells3, cells22, cells23] at g0 g1 g2 g3 g4
  obtain ⟨a, e0, _, w0⟩ := DataW.trod_int Try.underlying22 g0
  obtain ⟨b, e1, _, w1⟩ := DataW.trod_int Try.underlying22 g1
  obtain ⟨y, e2, _, w2⟩ := DataW.trod_int Try.underlying23 g2
  obtain ⟨x, e3, _, w3⟩ := DataW.trod_int Try.underlying23 g3
  obtain ⟨i, e4, _, w4⟩ := DataW.trod_int Try.underlying3 g4
  obtain ⟨cs⟩ := cs
  have hl : cs.length = 5 := hl
  match cs, hl with
  | [c0, c1, c2, c3, c4], _ =>
    simp at e0 e1 e2 e3 e4
    subst e0 e1 e2 e3 e4
    exact ⟨a, b, y, x, i, rfl, wf_u32 w0, wf_u32 w1, wf_i64 w2, wf_i64 w3, wf_i64 w4⟩
theorem opens_angles {r : Reach} {b0 : Nat} {v : Value} {d : DataW H} {pl : List MemPlace} (hv : Value.okWide Try.prog w r b0 35 v) (h : DataW.Trod enc Try.prog w base spare held 35 v d pl) :
    ∃ y x a b : Int, v = .agg #[.int .i64 y, .int .i64 x, .int .u32 a, .int .u32 b] ∧ (-9223372036854775808 ≤ y ∧ y ≤ 9223372036854775807) ∧ (-9223372036854775808 ≤ x ∧ x ≤ 9223372036854775807) ∧ (0 ≤ a ∧ a ≤ 4294967295) ∧ (0 ≤ b ∧ b ≤ 4294967295) := by
  obtain ⟨cs, rfl, _⟩ := okWide_struct Try.underlying35 hv
  obtain ⟨fuel, hf⟩ := h
  have hf : DataW.trod enc Try.prog w base spare held fuel 35 cs.toList = some (d, pl) := hf
  obtain ⟨xs, n, _, _, hl, hlen, hg⟩ := DataW.trod_struct Try.underlying35 hf
  have hlen : xs.length = 4 := hlen
  rw [cells35] at hl
  have g0 : DataW.trod enc Try.prog w base spare held n 23 ((cs.toList.drop 0).take (Try.prog.cellsOf 23)) = xs[0]? := hg 0 _ rfl
  have g1 : DataW.trod enc Try.prog w base spare held n 23 ((cs.toList.drop 1).take (Try.prog.cellsOf 23)) = xs[1]? := hg 1 _ rfl
  have g2 : DataW.trod enc Try.prog w base spare held n 22 ((cs.toList.drop 2).take (Try.prog.cellsOf 22)) = xs[2]? := hg 2 _ rfl
  have g3 : DataW.trod enc Try.prog w base spare held n 22 ((cs.toList.drop 3).take (Try.prog.cellsOf 22)) = xs[3]? := hg 3 _ rfl
  clear hg
  rw [List.getElem?_eq_getElem (by omega)] at g0 g1 g2 g3
  simp only [cells22, cells23] at g0 g1 g2 g3
  obtain ⟨y, e0, _, w0⟩ := DataW.trod_int Try.underlying23 g0
  obtain ⟨x, e1, _, w1⟩ := DataW.trod_int Try.underlying23 g1
  obtain ⟨a, e2, _, w2⟩ := DataW.trod_int Try.underlying22 g2
  obtain ⟨b, e3, _, w3⟩ := DataW.trod_int Try.underlying22 g3
  obtain ⟨cs⟩ := cs
  have hl : cs.length = 4 := hl
  match cs, hl with
  | [c0, c1, c2, c3], _ =>
    simp at e0 e1 e2 e3
    subst e0 e1 e2 e3
    exact ⟨y, x, a, b, rfl, wf_i64 w0, wf_i64 w1, wf_u32 w2, wf_u32 w3⟩
end Go.Proofs.Ytccmimgdmfjciaa
