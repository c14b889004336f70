/-
  A script that came in, opened: no conditions.
-/
import Derived.Test.YtoblckocmakakaaOpen
namespace Go.Proofs.Ytoblckocmakakaa
open Go.ChangeShapes Go.WideShapes Go.ChangeAt Go.RowKit Go.Deep
variable {H : Type} {enc : TypeId × Value → H} {w : World} {base : Nat} {spare : Nat → Bool} {held : Bool}
theorem cells35 : Try.prog.cellsOf 35 = 3 := by kernel_rfl
/-- A step of a script. -/
structure Act3 where
  (en what n : Int)
def Act3.cells (t : Act3) : Array Value := #[.int .i64 t.en, .int .i64 t.what, .int .i64 t.n]
def Act3.ok (t : Act3) : Prop := (-9223372036854775808 ≤ t.en ∧ t.en ≤ 9223372036854775807) ∧ (-9223372036854775808 ≤ t.what ∧ t.what ≤ 9223372036854775807) ∧ (-9223372036854775808 ≤ t.n ∧ t.n ≤ 9223372036854775807)
/-- What is known of the steps of a script. -/
def ActsAt (w : World) (b off len : Nat) (t : Nat → Act3) : Prop := ∀ i, i < len → (t i).ok ∧ ∀ j, j < 3 → w.cell? ⟨b, off + i * 3 + j, none⟩ = (t i).cells[j]?
theorem open_act {fuel : Nat} {cs : List Value} {x : DataW H × List MemPlace} (hf : DataW.trod enc Try.prog w base spare held fuel 35 cs = some x) : ∃ t : Act3, cs = t.cells.toList ∧ t.ok := by
  obtain ⟨xs, n, _, _, hl, hlen, hg⟩ := DataW.trod_struct Try.underlying35 hf
  have hlen : xs.length = 3 := hlen
  rw [cells35] at hl
  have g0 : DataW.trod enc Try.prog w base spare held n 3 ((cs.drop 0).take (Try.prog.cellsOf 3)) = xs[0]? := hg 0 _ rfl
  have g1 : DataW.trod enc Try.prog w base spare held n 3 ((cs.drop 1).take (Try.prog.cellsOf 3)) = xs[1]? := hg 1 _ rfl
  have g2 : DataW.trod enc Try.prog w base spare held n 3 ((cs.drop 2).take (Try.prog.cellsOf 3)) = xs[2]? := hg 2 _ rfl
  clear hg
  rw [List.getElem?_eq_getElem (by omega)] at g0 g1 g2
  simp only [cells3] at g0 g1 g2
  obtain ⟨z0, e0, _, w0⟩ := DataW.trod_int Try.underlying3 g0
  obtain ⟨z1, e1, _, w1⟩ := DataW.trod_int Try.underlying3 g1
  obtain ⟨z2, e2, _, w2⟩ := DataW.trod_int Try.underlying3 g2
  match cs, hl with
  | [c0, c1, c2], _ =>
    simp at e0 e1 e2
    subst e0 e1 e2
    exact ⟨⟨z0, z1, z2⟩, rfl, wf_i64 w0, wf_i64 w1, wf_i64 w2⟩
theorem opens_acts {r : Reach} {b0 : Nat} {v : Value} {d : DataW H} {pl : List MemPlace} (hv : Value.okWide Try.prog w r b0 22 v) (h : DataW.Trod enc Try.prog w base spare held 22 v d pl) :
    ∃ (a : Option Addr) (len cap : Nat), v = .slice a len cap ∧ len ≤ 9223372036854775807 ∧ (len = 0 ∨ ∃ b off t, a = some ⟨b, off, none⟩ ∧ b < w.heap.size ∧ ActsAt w b off len t) := by
  obtain ⟨a0, len0, cap0, rfl⟩ := okWide_slice Try.underlying22 hv
  obtain ⟨fuel, hf⟩ := h
  rcases open_slice Try.underlying22 hf with ⟨hcs, _⟩ | ⟨a, len, cap, m, n, D, Pl, hcs, hb, hl, hm, hmm, hx, hi⟩
  · simp [Value.cells] at hcs
    obtain ⟨rfl, rfl, rfl⟩ := hcs
    exact ⟨none, 0, 0, rfl, by omega, Or.inl rfl⟩
  · simp [Value.cells] at hcs
    obtain ⟨rfl, rfl, rfl⟩ := hcs
    unfold maxLen at hm
    refine ⟨some a, len0, cap0, rfl, by omega, ?_⟩
    by_cases h0 : len0 = 0
    · exact Or.inl h0
    · right
      have hlm : len0 ≤ m := by rw [hmm]; split <;> omega
      have hS : ∀ i, i < len0 → ∃ t : Act3, t.ok ∧ ∀ j, j < 3 → w.cell? (a.add (i * 3 + j)) = t.cells[j]? := by
        intro i hil
        obtain ⟨cs', hc, ht⟩ := hi i (by omega)
        rw [cells35] at hc
        obtain ⟨t, e, ok⟩ := open_act ht
        obtain ⟨_, hcl, hat⟩ := World.cells?_some hc
        refine ⟨t, ok, fun j hj => ?_⟩
        have h1 := hat j hj
        rw [Go.Deep.add_add] at h1
        rw [h1, e, Array.getElem?_toList]
      obtain ⟨b, off, spot⟩ := a
      obtain ⟨t0, _, e0⟩ := hS 0 (by omega)
      have h00 := e0 0 (by omega)
      have hspot : spot = none := by
        have : w.cell? (Addr.mk b off spot) = some (.int .i64 t0.en) := by simpa [Addr.add, Act3.cells] using h00
        simpa using World.cell?_spot this
      subst hspot
      have hlt : b < w.heap.size := by
        have : w.cell? ⟨b, off, none⟩ = some (.int .i64 t0.en) := by simpa [Addr.add, Act3.cells] using h00
        exact World.block_lt_of_cell? w _ this
      refine ⟨b, off, fun i => if h : i < len0 then Classical.choose (hS i h) else ⟨0, 0, 0⟩, rfl, hlt, ?_⟩
      intro i hil
      have := Classical.choose_spec (hS i hil)
      simp only [dif_pos hil]
      refine ⟨this.1, fun j hj => ?_⟩
      have q := this.2 j hj
      rw [Addr.add_mid] at q
      rw [← q, Nat.add_assoc]
end Go.Proofs.Ytoblckocmakakaa
