/-
  The arguments of RingApart and of RingTells, opened: no conditions.
-/
import Derived.Test.YtoibfkieadhelaaApartW
import Derived.Test.YtoibfkieadhelaaOpen
namespace Go.Proofs.Ytoibfkieadhelaa
open Go.ChangeShapes Go.WideShapes Go.ChangeAt Go.RowKit
variable {H : Type} {enc : TypeId × Value → H} {w : World} {base : Nat} {spare : Nat → Bool} {held : Bool}
theorem cells41 : Try.prog.cellsOf 41 = 252 := by kernel_rfl
theorem cells49 : Try.prog.cellsOf 49 = 462 := by kernel_rfl

theorem take_list {cs : List Value} {off n : Nat} {l : List Value} (h : (cs.drop off).take n = l) (j : Nat) (hj : j < n) : cs[off + j]? = l[j]? := by
  rw [← h, List.getElem?_take, if_pos hj, List.getElem?_drop]
theorem take_ring {cs : List Value} {off : Nat} {p : Nat → Int} {s : Nat → Smp} (h : (cs.drop off).take 224 = (mk p s).toList) : cs.toArray.extract off (off + 224) = mk p s := by
  apply Array.toList_inj.1
  rw [← h]
  simp

/-- What lies in RingTells's argument. -/
structure IsTells (C : Array Value) (p : Nat → Int) (s : Nat → Smp) (q : Nat → Int) (r : Nat → Smp) (k : Int) (S : Smp) : Prop where
  a : C.extract 0 (0 + 224) = mk p s
  b : C.extract 224 (224 + 224) = mk q r
  k : C[448]? = some (.int .i64 k)
  s : ∀ j, j < 13 → C[449 + j]? = S.cells[j]?

theorem opens_apart {r : Reach} {b0 : Nat} {v : Value} {d : DataW H} {pl : List MemPlace} (hv : Value.okWide Try.prog w r b0 41 v) (h : DataW.Trod enc Try.prog w base spare held 41 v d pl) :
    ∃ C p s a b S T, v = .agg C ∧ IsApart C p s a b S T ∧ a ≤ 9223372036854775807 ∧ b ≤ 9223372036854775807 := by
  obtain ⟨cs, rfl, _⟩ := okWide_struct Try.underlying41 hv
  obtain ⟨fuel, hf⟩ := h
  have hf : DataW.trod enc Try.prog w base spare held fuel 41 cs.toList = some (d, pl) := hf
  obtain ⟨xs, n, _, _, hl, hlen, hg⟩ := DataW.trod_struct Try.underlying41 hf
  have hlen : xs.length = 5 := hlen
  have g0 : DataW.trod enc Try.prog w base spare held n 30 ((cs.toList.drop 0).take (Try.prog.cellsOf 30)) = xs[0]? := hg 0 _ rfl
  have g1 : DataW.trod enc Try.prog w base spare held n 2 ((cs.toList.drop 224).take (Try.prog.cellsOf 2)) = xs[1]? := hg 1 _ rfl
  have g2 : DataW.trod enc Try.prog w base spare held n 2 ((cs.toList.drop 225).take (Try.prog.cellsOf 2)) = xs[2]? := hg 2 _ rfl
  have g3 : DataW.trod enc Try.prog w base spare held n 27 ((cs.toList.drop 226).take (Try.prog.cellsOf 27)) = xs[3]? := hg 3 _ rfl
  have g4 : DataW.trod enc Try.prog w base spare held n 27 ((cs.toList.drop 239).take (Try.prog.cellsOf 27)) = xs[4]? := hg 4 _ rfl
  rw [List.getElem?_eq_getElem (by omega)] at g0 g1 g2 g3 g4
  rw [cells30] at g0
  rw [cells2] at g1 g2
  rw [cells27] at g3 g4
  obtain ⟨p, s, e0⟩ := open_ring g0
  obtain ⟨a, e1, _, wa⟩ := DataW.trod_int Try.underlying2 g1
  obtain ⟨b, e2, _, wb⟩ := DataW.trod_int Try.underlying2 g2
  obtain ⟨S, e3⟩ := open_smp g3
  obtain ⟨T, e4⟩ := open_smp g4
  refine ⟨cs, p, s, a, b, S, T, rfl, ⟨by simpa using take_ring e0, by simpa using take_list e1 0 (by omega), by simpa using take_list e2 0 (by omega), fun j hj => by simpa using take_list e3 j hj, fun j hj => by simpa using take_list e4 j hj⟩, ?_, ?_⟩
  · simp [Lit.wf, IntKind.min, IntKind.max, IntKind.signed, IntKind.bits] at wa; omega
  · simp [Lit.wf, IntKind.min, IntKind.max, IntKind.signed, IntKind.bits] at wb; omega

theorem opens_tells {r : Reach} {b0 : Nat} {v : Value} {d : DataW H} {pl : List MemPlace} (hv : Value.okWide Try.prog w r b0 49 v) (h : DataW.Trod enc Try.prog w base spare held 49 v d pl) :
    ∃ C p s q t k S, v = .agg C ∧ IsTells C p s q t k S := by
  obtain ⟨cs, rfl, _⟩ := okWide_struct Try.underlying49 hv
  obtain ⟨fuel, hf⟩ := h
  have hf : DataW.trod enc Try.prog w base spare held fuel 49 cs.toList = some (d, pl) := hf
  obtain ⟨xs, n, _, _, hl, hlen, hg⟩ := DataW.trod_struct Try.underlying49 hf
  have hlen : xs.length = 4 := hlen
  have g0 : DataW.trod enc Try.prog w base spare held n 30 ((cs.toList.drop 0).take (Try.prog.cellsOf 30)) = xs[0]? := hg 0 _ rfl
  have g1 : DataW.trod enc Try.prog w base spare held n 30 ((cs.toList.drop 224).take (Try.prog.cellsOf 30)) = xs[1]? := hg 1 _ rfl
  have g2 : DataW.trod enc Try.prog w base spare held n 2 ((cs.toList.drop 448).take (Try.prog.cellsOf 2)) = xs[2]? := hg 2 _ rfl
  have g3 : DataW.trod enc Try.prog w base spare held n 27 ((cs.toList.drop 449).take (Try.prog.cellsOf 27)) = xs[3]? := hg 3 _ rfl
  rw [List.getElem?_eq_getElem (by omega)] at g0 g1 g2 g3
  rw [cells30] at g0 g1
  rw [cells2] at g2
  rw [cells27] at g3
  obtain ⟨p, s, e0⟩ := open_ring g0
  obtain ⟨q, t, e1⟩ := open_ring g1
  obtain ⟨k, e2, _, _⟩ := DataW.trod_int Try.underlying2 g2
  obtain ⟨S, e3⟩ := open_smp g3
  exact ⟨cs, p, s, q, t, k, S, rfl, ⟨by simpa using take_ring e0, by simpa using take_ring e1, by simpa using take_list e2 0 (by omega), fun j hj => by simpa using take_list e3 j hj⟩⟩
end Go.Proofs.Ytoibfkieadhelaa
