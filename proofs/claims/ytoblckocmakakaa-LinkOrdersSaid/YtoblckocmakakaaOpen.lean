/-
  Rows of numbers, ends and packets that came in, opened: no conditions.
-/
import Derived.Test.YtoblckocmakakaaWj
import Derived.ProofKit
import Derived.OpenShut
import Derived.Deep.Slices
namespace Go.Proofs.Ytoblckocmakakaa
open Go.ChangeShapes Go.WideShapes Go.ChangeAt Go.RowKit Go.Deep
variable {H : Type} {enc : TypeId × Value → H} {w : World} {base : Nat} {spare : Nat → Bool} {held : Bool}
theorem wf_i64 {n : Int} (h : (Lit.int .i64 n).wf = true) : -9223372036854775808 ≤ n ∧ n ≤ 9223372036854775807 := by
  unfold Lit.wf at h
  rw [Bool.and_eq_true, decide_eq_true_iff, decide_eq_true_iff] at h
  exact h
theorem cells2 : Try.prog.cellsOf 2 = 1 := by kernel_rfl
theorem cells3 : Try.prog.cellsOf 3 = 1 := by kernel_rfl
theorem cells24 : Try.prog.cellsOf 24 = 1 := by kernel_rfl
theorem cells26 : Try.prog.cellsOf 26 = 5 := by kernel_rfl
theorem cells38 : Try.prog.cellsOf 38 = 5 := by kernel_rfl
/-- A row of numbers that came in. -/
theorem trod_row {fuel : Nat} {cs : List Value} {x : DataW H × List MemPlace} (hf : DataW.trod enc Try.prog w base spare held fuel 24 cs = some x) :
    ∃ (a : Option Addr) (zs : List Int) (cap : Nat), cs = [.slice a zs.length cap] ∧ zs.length ≤ cap ∧ zs.length ≤ 9223372036854775807 ∧ SlIs w a zs := by
  rcases open_slice Try.underlying24 hf with ⟨hcs, _⟩ | ⟨a, len0, cap0, m, n, D, Pl, hcs, hb, hl, hm, hmm, hx, hi⟩
  · exact ⟨none, [], 0, hcs, by simp, by simp, SlIs.nil _ _⟩
  · subst hcs
    unfold maxLen at hm
    by_cases h0 : len0 = 0
    · subst h0
      exact ⟨some a, [], cap0, rfl, by simp, by simp, SlIs.nil _ _⟩
    · have hlm : len0 ≤ m := by rw [hmm]; split <;> omega
      have hS : ∀ i, i < len0 → ∃ t : Int, w.cell? (a.add i) = some (.int .i64 t) := by
        intro i hil
        obtain ⟨cs', hc, ht⟩ := hi i (by omega)
        rw [cells2] at hc
        obtain ⟨_, hcl, hat⟩ := World.cells?_some hc
        obtain ⟨t, e, _⟩ := DataW.trod_int Try.underlying2 ht
        refine ⟨t, ?_⟩
        have h1 := hat 0 (by omega)
        rw [Go.Deep.add_add] at h1
        rw [e] at h1
        simpa using h1
      obtain ⟨b, off, spot⟩ := a
      obtain ⟨t0, e0⟩ := hS 0 (by omega)
      have hspot : spot = none := by
        have : w.cell? (Addr.mk b off spot) = some (.int .i64 t0) := by simpa [Addr.add] using e0
        simpa using World.cell?_spot this
      subst hspot
      have hlt : b < w.heap.size := by
        have : w.cell? ⟨b, off, none⟩ = some (.int .i64 t0) := by simpa [Addr.add] using e0
        exact World.block_lt_of_cell? w _ this
      have hS : ∀ i, i < len0 → ∃ t : Int, w.cell? ⟨b, off + i, none⟩ = some (.int .i64 t) := fun i hi => by
        obtain ⟨t, ht⟩ := hS i hi
        rw [Go.Addr.add_lit] at ht
        exact ⟨t, ht⟩
      let f : Nat → Int := fun i => if h : i < len0 then Classical.choose (hS i h) else 0
      have hfl : ((List.range len0).map f).length = len0 := by simp
      refine ⟨some ⟨b, off, none⟩, (List.range len0).map f, cap0, by rw [hfl], by rw [hfl]; exact hl, by rw [hfl]; omega, Or.inr ⟨b, off, rfl, hlt, fun j hj => ?_⟩⟩
      rw [hfl] at hj
      have := Classical.choose_spec (hS j hj)
      rw [this]
      simp [f, hj]
theorem opens_row {r : Reach} {b0 : Nat} {v : Value} {d : DataW H} {pl : List MemPlace} (hv : Value.okWide Try.prog w r b0 24 v) (h : DataW.Trod enc Try.prog w base spare held 24 v d pl) :
    ∃ (a : Option Addr) (zs : List Int) (cap : Nat), v = .slice a zs.length cap ∧ zs.length ≤ cap ∧ zs.length ≤ 9223372036854775807 ∧ SlIs w a zs := by
  obtain ⟨a0, len0, cap0, rfl⟩ := okWide_slice Try.underlying24 hv
  obtain ⟨fuel, hf⟩ := h
  obtain ⟨a, zs, cap, e, h1, h2, h3⟩ := trod_row hf
  simp [Value.cells] at e
  obtain ⟨rfl, rfl, rfl⟩ := e
  exact ⟨a0, zs, cap0, rfl, h1, h2, h3⟩
/-- An end's numbers lie in their kind's bounds, and its row's length too. -/
def LkIn (l : Lk) (cap : Nat) : Prop := l.sent.length ≤ cap ∧ l.sent.length ≤ 9223372036854775807 ∧ (-9223372036854775808 ≤ l.own ∧ l.own ≤ 9223372036854775807) ∧ (-9223372036854775808 ≤ l.other ∧ l.other ≤ 9223372036854775807) ∧ (-9223372036854775808 ≤ l.first ∧ l.first ≤ 9223372036854775807) ∧ (-9223372036854775808 ≤ l.next ∧ l.next ≤ 9223372036854775807)
def PkIn (p : Pk) (cap : Nat) : Prop := p.words.length ≤ cap ∧ p.words.length ≤ 9223372036854775807 ∧ (-9223372036854775808 ≤ p.fr ∧ p.fr ≤ 9223372036854775807) ∧ (-9223372036854775808 ≤ p.to ∧ p.to ≤ 9223372036854775807) ∧ (-9223372036854775808 ≤ p.place ∧ p.place ≤ 9223372036854775807) ∧ (-9223372036854775808 ≤ p.wait ∧ p.wait ≤ 9223372036854775807)
theorem trod_lk {fuel : Nat} {cs : List Value} {x : DataW H × List MemPlace} (hf : DataW.trod enc Try.prog w base spare held fuel 26 cs = some x) :
    ∃ (l : Lk) (a : Option Addr) (cap : Nat), cs = (lkA l a cap).toList ∧ LkIn l cap ∧ SlIs w a l.sent := by
  obtain ⟨xs, n, _, _, hl, hlen, hg⟩ := DataW.trod_struct Try.underlying26 hf
  have hlen : xs.length = 5 := hlen
  rw [cells26] at hl
  have g0 : DataW.trod enc Try.prog w base spare held n 2 ((cs.drop 0).take (Try.prog.cellsOf 2)) = xs[0]? := hg 0 _ rfl
  have g1 : DataW.trod enc Try.prog w base spare held n 2 ((cs.drop 1).take (Try.prog.cellsOf 2)) = xs[1]? := hg 1 _ rfl
  have g2 : DataW.trod enc Try.prog w base spare held n 2 ((cs.drop 2).take (Try.prog.cellsOf 2)) = xs[2]? := hg 2 _ rfl
  have g3 : DataW.trod enc Try.prog w base spare held n 24 ((cs.drop 3).take (Try.prog.cellsOf 24)) = xs[3]? := hg 3 _ rfl
  have g4 : DataW.trod enc Try.prog w base spare held n 2 ((cs.drop 4).take (Try.prog.cellsOf 2)) = xs[4]? := hg 4 _ rfl
  clear hg
  rw [List.getElem?_eq_getElem (by omega)] at g0 g1 g2 g3 g4
  simp only [cells2, cells24] at g0 g1 g2 g3 g4
  obtain ⟨z0, e0, _, w0⟩ := DataW.trod_int Try.underlying2 g0
  obtain ⟨z1, e1, _, w1⟩ := DataW.trod_int Try.underlying2 g1
  obtain ⟨z2, e2, _, w2⟩ := DataW.trod_int Try.underlying2 g2
  obtain ⟨a, zs, cap, e3, h1, h2, h3⟩ := trod_row g3
  obtain ⟨z4, e4, _, w4⟩ := DataW.trod_int Try.underlying2 g4
  match cs, hl with
  | [c0, c1, c2, c3, c4], _ =>
    simp at e0 e1 e2 e3 e4
    subst e0 e1 e2 e3 e4
    exact ⟨⟨z0, z1, z2, zs, z4⟩, a, cap, rfl, ⟨h1, h2, wf_i64 w0, wf_i64 w1, wf_i64 w2, wf_i64 w4⟩, h3⟩
theorem opens_lk {r : Reach} {b0 : Nat} {v : Value} {d : DataW H} {pl : List MemPlace} (hv : Value.okWide Try.prog w r b0 26 v) (h : DataW.Trod enc Try.prog w base spare held 26 v d pl) :
    ∃ (l : Lk) (a : Option Addr) (cap : Nat), v = .agg (lkA l a cap) ∧ LkIn l cap ∧ SlIs w a l.sent := by
  obtain ⟨cs, rfl, _⟩ := okWide_struct Try.underlying26 hv
  obtain ⟨fuel, hf⟩ := h
  have hf : DataW.trod enc Try.prog w base spare held fuel 26 cs.toList = some (d, pl) := hf
  obtain ⟨l, a, cap, e, h1, h2⟩ := trod_lk hf
  exact ⟨l, a, cap, by rw [Array.toList_inj.1 e], h1, h2⟩
theorem trod_pk {fuel : Nat} {cs : List Value} {x : DataW H × List MemPlace} (hf : DataW.trod enc Try.prog w base spare held fuel 38 cs = some x) :
    ∃ (p : Pk) (a : Option Addr) (cap : Nat), cs = (pkA p a cap).toList ∧ PkIn p cap ∧ SlIs w a p.words := by
  obtain ⟨xs, n, _, _, hl, hlen, hg⟩ := DataW.trod_struct Try.underlying38 hf
  have hlen : xs.length = 5 := hlen
  rw [cells38] at hl
  have g0 : DataW.trod enc Try.prog w base spare held n 2 ((cs.drop 0).take (Try.prog.cellsOf 2)) = xs[0]? := hg 0 _ rfl
  have g1 : DataW.trod enc Try.prog w base spare held n 2 ((cs.drop 1).take (Try.prog.cellsOf 2)) = xs[1]? := hg 1 _ rfl
  have g2 : DataW.trod enc Try.prog w base spare held n 2 ((cs.drop 2).take (Try.prog.cellsOf 2)) = xs[2]? := hg 2 _ rfl
  have g3 : DataW.trod enc Try.prog w base spare held n 24 ((cs.drop 3).take (Try.prog.cellsOf 24)) = xs[3]? := hg 3 _ rfl
  have g4 : DataW.trod enc Try.prog w base spare held n 2 ((cs.drop 4).take (Try.prog.cellsOf 2)) = xs[4]? := hg 4 _ rfl
  clear hg
  rw [List.getElem?_eq_getElem (by omega)] at g0 g1 g2 g3 g4
  simp only [cells2, cells24] at g0 g1 g2 g3 g4
  obtain ⟨z0, e0, _, w0⟩ := DataW.trod_int Try.underlying2 g0
  obtain ⟨z1, e1, _, w1⟩ := DataW.trod_int Try.underlying2 g1
  obtain ⟨z2, e2, _, w2⟩ := DataW.trod_int Try.underlying2 g2
  obtain ⟨a, zs, cap, e3, h1, h2, h3⟩ := trod_row g3
  obtain ⟨z4, e4, _, w4⟩ := DataW.trod_int Try.underlying2 g4
  match cs, hl with
  | [c0, c1, c2, c3, c4], _ =>
    simp at e0 e1 e2 e3 e4
    subst e0 e1 e2 e3 e4
    exact ⟨⟨z0, z1, z2, zs, z4⟩, a, cap, rfl, ⟨h1, h2, wf_i64 w0, wf_i64 w1, wf_i64 w2, wf_i64 w4⟩, h3⟩
theorem opens_pk {r : Reach} {b0 : Nat} {v : Value} {d : DataW H} {pl : List MemPlace} (hv : Value.okWide Try.prog w r b0 38 v) (h : DataW.Trod enc Try.prog w base spare held 38 v d pl) :
    ∃ (p : Pk) (a : Option Addr) (cap : Nat), v = .agg (pkA p a cap) ∧ PkIn p cap ∧ SlIs w a p.words := by
  obtain ⟨cs, rfl, _⟩ := okWide_struct Try.underlying38 hv
  obtain ⟨fuel, hf⟩ := h
  have hf : DataW.trod enc Try.prog w base spare held fuel 38 cs.toList = some (d, pl) := hf
  obtain ⟨l, a, cap, e, h1, h2⟩ := trod_pk hf
  exact ⟨l, a, cap, by rw [Array.toList_inj.1 e], h1, h2⟩
end Go.Proofs.Ytoblckocmakakaa
