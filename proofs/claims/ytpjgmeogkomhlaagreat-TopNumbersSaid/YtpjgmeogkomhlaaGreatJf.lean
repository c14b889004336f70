/-
  The three inputs of the law, opened. No conditions but those named.
-/
import Derived.Test.YtpjgmeogkomhlaaGreatPl
import Derived.ProofKit
import Derived.OpenShut
import Derived.Deep.Slices
namespace Go.Proofs.YtpjgmeogkomhlaaGreat
open Go.ChangeShapes Go.WideShapes Go.ChangeAt Go.RowKit Go.Deep
variable {H : Type} {enc : TypeId × Value → H} {w : World} {base : Nat} {spare : Nat → Bool} {held : Bool}
theorem cells3 : Tryz.prog.cellsOf 3 = 1 := by kernel_rfl
theorem cells4 : Tryz.prog.cellsOf 4 = 1 := by kernel_rfl
theorem cells22 : Tryz.prog.cellsOf 22 = 1 := by kernel_rfl
theorem cells24 : Tryz.prog.cellsOf 24 = 6 := by kernel_rfl
theorem cells26 : Tryz.prog.cellsOf 26 = 4 := by kernel_rfl
theorem cells27 : Tryz.prog.cellsOf 27 = 1 := by kernel_rfl
theorem cells29 : Tryz.prog.cellsOf 29 = 3 := by kernel_rfl
theorem cells31 : Tryz.prog.cellsOf 31 = 6 := by kernel_rfl
theorem cells32 : Tryz.prog.cellsOf 32 = 18 := by kernel_rfl
theorem cells33 : Tryz.prog.cellsOf 33 = 4 := by kernel_rfl
theorem cells35 : Tryz.prog.cellsOf 35 = 29 := by kernel_rfl
theorem cells37 : Tryz.prog.cellsOf 37 = 3 := by kernel_rfl
theorem cells39 : Tryz.prog.cellsOf 39 = 13 := by kernel_rfl
theorem cut {α : Type} (cs : List α) {k m k' : Nat} (h : k + m = k') : cs.drop k = (cs.drop k).take m ++ cs.drop k' := by
  subst h
  rw [← List.drop_drop]
  exact (List.take_append_drop m _).symm
/-- A row of numbers that came in. -/
theorem trod_27 {fuel : Nat} {cs : List Value} {x : DataW H × List MemPlace} (hf : DataW.trod enc Tryz.prog w base spare held fuel 27 cs = some x) : ∃ s l, cs = [s] ∧ RowI w s l := by
  rcases open_slice Tryz.underlying27 hf with ⟨hcs, _⟩ | ⟨a, len0, cap0, m, n, D, Pl, hcs, hb, hl, hm, hmm, hx, hi⟩
  · exact ⟨_, [], hcs, .inl ⟨none, 0, rfl, rfl⟩⟩
  · subst hcs
    by_cases h0 : len0 = 0
    · subst h0
      exact ⟨_, [], rfl, .inl ⟨some a, cap0, rfl, rfl⟩⟩
    · have hlm : len0 ≤ m := by rw [hmm]; split <;> omega
      have hS : ∀ i, i < len0 → ∃ t : Int, w.cell? (a.add i) = some (.int .i64 t) := by
        intro i hil
        obtain ⟨cs', hc, ht⟩ := hi i (by omega)
        rw [cells22] at hc
        obtain ⟨_, hcl, hat⟩ := World.cells?_some hc
        obtain ⟨t, e, _⟩ := DataW.trod_int Tryz.underlying22 ht
        refine ⟨t, ?_⟩
        have h1 := hat 0 (by omega)
        rw [Go.Deep.add_add] at h1
        rw [e] at h1
        simpa using h1
      obtain ⟨b, off, spot⟩ := a
      obtain ⟨t0, e0⟩ := hS 0 (by omega)
      have hspot : spot = none := by
        have : w.cell? (Addr.mk b off spot) = some (.int .i64 t0) := by simpa [Addr.add] using e0
        simpa using World.cell?_spot this
      subst hspot
      have hlt : b < w.heap.size := by
        have : w.cell? ⟨b, off, none⟩ = some (.int .i64 t0) := by simpa [Addr.add] using e0
        exact World.block_lt_of_cell? w _ this
      have hS : ∀ i, i < len0 → ∃ t : Int, w.cell? ⟨b, off + i, none⟩ = some (.int .i64 t) := fun i hi => by
        obtain ⟨t, ht⟩ := hS i hi
        rw [Go.Addr.add_lit] at ht
        exact ⟨t, ht⟩
      let f : Nat → Int := fun i => if h : i < len0 then Classical.choose (hS i h) else 0
      have hfl : ((List.range len0).map f).length = len0 := by simp
      refine ⟨_, (List.range len0).map f, rfl, .inr ⟨b, off, cap0, by rw [hfl], by rw [hfl]; exact hl, hlt, fun i x hx => ?_⟩⟩
      have hil : i < len0 := by have := (List.getElem?_eq_some_iff.1 hx).1; omega
      rw [List.getElem?_map, List.getElem?_range hil] at hx
      cases hx
      rw [Classical.choose_spec (hS i hil)]
      simp [f, hil]
theorem trod_29 {fuel : Nat} {cs : List Value} {x : DataW H × List MemPlace} (hf : DataW.trod enc Tryz.prog w base spare held fuel 29 cs = some x) : ∃ (r c : Int) (s : Value) (l : List Int), cs = [.int .i64 r, .int .i64 c, s] ∧ RowI w s l := by
  obtain ⟨xs, n, _, _, hl, hlen, hg⟩ := DataW.trod_struct Tryz.underlying29 hf
  have hlen : xs.length = 3 := hlen
  rw [cells29] at hl
  have g0 : DataW.trod enc Tryz.prog w base spare held n 3 ((cs.drop 0).take (Tryz.prog.cellsOf 3)) = xs[0]? := hg 0 _ rfl
  have g1 : DataW.trod enc Tryz.prog w base spare held n 3 ((cs.drop 1).take (Tryz.prog.cellsOf 3)) = xs[1]? := hg 1 _ rfl
  have g2 : DataW.trod enc Tryz.prog w base spare held n 27 ((cs.drop 2).take (Tryz.prog.cellsOf 27)) = xs[2]? := hg 2 _ rfl
  clear hg
  rw [List.getElem?_eq_getElem (by omega)] at g0 g1 g2
  rw [cells3] at g0 g1
  rw [cells27] at g2
  obtain ⟨z0, e0, _, _⟩ := DataW.trod_int Tryz.underlying3 g0
  obtain ⟨z1, e1, _, _⟩ := DataW.trod_int Tryz.underlying3 g1
  obtain ⟨s, l, e2, h2⟩ := trod_27 g2
  have E : cs.drop 0 = [.int .i64 z0, .int .i64 z1, s] := by
    rw [cut cs (k := 0) (m := 1) rfl, cut cs (k := 1) (m := 1) rfl, cut cs (k := 2) (m := 1) rfl, e0, e1, e2, List.drop_eq_nil_of_le (i := 2 + 1) (by omega)]
    rfl
  exact ⟨z0, z1, s, l, E, h2⟩
theorem trod_31 {fuel : Nat} {cs : List Value} {x : DataW H × List MemPlace} (hf : DataW.trod enc Tryz.prog w base spare held fuel 31 cs = some x) : ∃ (a b : Int) (s : Value) (l : List Int) (d e : Int) (s' : Value) (l' : List Int), cs = [.int .i64 a, .int .i64 b, s, .int .i64 d, .int .i64 e, s'] ∧ RowI w s l ∧ RowI w s' l' := by
  obtain ⟨xs, n, _, _, hl, hlen, hg⟩ := DataW.trod_struct Tryz.underlying31 hf
  have hlen : xs.length = 2 := hlen
  rw [cells31] at hl
  have g0 : DataW.trod enc Tryz.prog w base spare held n 29 ((cs.drop 0).take (Tryz.prog.cellsOf 29)) = xs[0]? := hg 0 _ rfl
  have g1 : DataW.trod enc Tryz.prog w base spare held n 29 ((cs.drop 3).take (Tryz.prog.cellsOf 29)) = xs[1]? := hg 1 _ rfl
  clear hg
  rw [List.getElem?_eq_getElem (by omega)] at g0 g1
  rw [cells29] at g0 g1
  obtain ⟨a, b, s, l, e0, h0⟩ := trod_29 g0
  obtain ⟨d, e, s', l', e1, h1⟩ := trod_29 g1
  have E : cs.drop 0 = [.int .i64 a, .int .i64 b, s, .int .i64 d, .int .i64 e, s'] := by
    rw [cut cs (k := 0) (m := 3) rfl, cut cs (k := 3) (m := 3) rfl, e0, e1, List.drop_eq_nil_of_le (i := 3 + 3) (by omega)]
    rfl
  exact ⟨a, b, s, l, d, e, s', l', E, h0, h1⟩
def trkSix (a b : Int) (s : Value) (d e : Int) (s' : Value) : List Value := [.int .i64 a, .int .i64 b, s, .int .i64 d, .int .i64 e, s']
set_option maxRecDepth 100000 in
theorem trod_32 {fuel : Nat} {cs : List Value} {x : DataW H × List MemPlace} (hf : DataW.trod enc Tryz.prog w base spare held fuel 32 cs = some x) : ∃ (a b : Int) (s : Value) (l : List Int) (d e : Int) (s' : Value) (l' : List Int) (a2 b2 : Int) (s2 : Value) (l2 : List Int) (d2 e2 : Int) (s2' : Value) (l2' : List Int) (a3 b3 : Int) (s3 : Value) (l3 : List Int) (d3 e3 : Int) (s3' : Value) (l3' : List Int), cs = trkSix a b s d e s' ++ (trkSix a2 b2 s2 d2 e2 s2' ++ trkSix a3 b3 s3 d3 e3 s3') ∧ RowI w s l ∧ RowI w s' l' ∧ RowI w s2 l2 ∧ RowI w s2' l2' ∧ RowI w s3 l3 ∧ RowI w s3' l3' := by
  obtain ⟨xs, n, _, _, hl, hlen, hg⟩ := DataW.trod_array Tryz.underlying32 hf
  rw [cells32] at hl
  have g0 := hg 0 (by omega)
  have g1 := hg 1 (by omega)
  have g2 := hg 2 (by omega)
  clear hg
  rw [List.getElem?_eq_getElem (by omega)] at g0 g1 g2
  rw [cells31] at g0 g1 g2
  obtain ⟨a, b, s, l, d, e, s', l', k0, h0, h0'⟩ := trod_31 g0
  obtain ⟨a2, b2, s2, l2, d2, e2, s2', l2', k1, h1, h1'⟩ := trod_31 g1
  obtain ⟨a3, b3, s3, l3, d3, e3, s3', l3', k2, h2, h2'⟩ := trod_31 g2
  have E : cs.drop (0 * 6) = trkSix a b s d e s' ++ (trkSix a2 b2 s2 d2 e2 s2' ++ trkSix a3 b3 s3 d3 e3 s3') := by
    rw [cut cs (k := 0 * 6) (m := 6) (k' := 1 * 6) rfl, cut cs (k := 1 * 6) (m := 6) (k' := 2 * 6) rfl, cut cs (k := 2 * 6) (m := 6) (k' := 18) rfl, k0, k1, k2, List.drop_eq_nil_of_le (i := 18) (by omega)]
    rfl
  exact ⟨a, b, s, l, d, e, s', l', a2, b2, s2, l2, d2, e2, s2', l2', a3, b3, s3, l3, d3, e3, s3', l3', E, h0, h0', h1, h1', h2, h2'⟩
set_option maxRecDepth 100000 in
theorem trod_26 {fuel : Nat} {cs : List Value} {x : DataW H × List MemPlace} (hf : DataW.trod enc Tryz.prog w base spare held fuel 26 cs = some x) : ∃ a b c d : Int, cs = [.int .i64 a, .int .i64 b, .int .i64 c, .int .i64 d] := by
  obtain ⟨xs, n, _, _, hl, hlen, hg⟩ := DataW.trod_array Tryz.underlying26 hf
  rw [cells26] at hl
  have g0 := hg 0 (by omega)
  have g1 := hg 1 (by omega)
  have g2 := hg 2 (by omega)
  have g3 := hg 3 (by omega)
  clear hg
  rw [List.getElem?_eq_getElem (by omega)] at g0 g1 g2 g3
  rw [cells22] at g0 g1 g2 g3
  obtain ⟨a, e0, _⟩ := DataW.trod_int Tryz.underlying22 g0
  obtain ⟨b, e1, _⟩ := DataW.trod_int Tryz.underlying22 g1
  obtain ⟨c, e2, _⟩ := DataW.trod_int Tryz.underlying22 g2
  obtain ⟨d, e3, _⟩ := DataW.trod_int Tryz.underlying22 g3
  have E : cs.drop (0 * 1) = [.int .i64 a, .int .i64 b, .int .i64 c, .int .i64 d] := by
    rw [cut cs (k := 0 * 1) (m := 1) (k' := 1 * 1) rfl, cut cs (k := 1 * 1) (m := 1) (k' := 2 * 1) rfl, cut cs (k := 2 * 1) (m := 1) (k' := 3 * 1) rfl, cut cs (k := 3 * 1) (m := 1) (k' := 4) rfl, e0, e1, e2, e3, List.drop_eq_nil_of_le (i := 4) (by omega)]
    rfl
  exact ⟨a, b, c, d, E⟩
set_option maxRecDepth 100000 in
theorem trod_33 {fuel : Nat} {cs : List Value} {x : DataW H × List MemPlace} (hf : DataW.trod enc Tryz.prog w base spare held fuel 33 cs = some x) : ∃ a b c d : Int, cs = [.int .i64 a, .int .i64 b, .int .i64 c, .int .i64 d] := by
  obtain ⟨xs, n, _, _, hl, hlen, hg⟩ := DataW.trod_array Tryz.underlying33 hf
  rw [cells33] at hl
  have g0 := hg 0 (by omega)
  have g1 := hg 1 (by omega)
  have g2 := hg 2 (by omega)
  have g3 := hg 3 (by omega)
  clear hg
  rw [List.getElem?_eq_getElem (by omega)] at g0 g1 g2 g3
  rw [cells3] at g0 g1 g2 g3
  obtain ⟨a, e0, _⟩ := DataW.trod_int Tryz.underlying3 g0
  obtain ⟨b, e1, _⟩ := DataW.trod_int Tryz.underlying3 g1
  obtain ⟨c, e2, _⟩ := DataW.trod_int Tryz.underlying3 g2
  obtain ⟨d, e3, _⟩ := DataW.trod_int Tryz.underlying3 g3
  have E : cs.drop (0 * 1) = [.int .i64 a, .int .i64 b, .int .i64 c, .int .i64 d] := by
    rw [cut cs (k := 0 * 1) (m := 1) (k' := 1 * 1) rfl, cut cs (k := 1 * 1) (m := 1) (k' := 2 * 1) rfl, cut cs (k := 2 * 1) (m := 1) (k' := 3 * 1) rfl, cut cs (k := 3 * 1) (m := 1) (k' := 4) rfl, e0, e1, e2, e3, List.drop_eq_nil_of_le (i := 4) (by omega)]
    rfl
  exact ⟨a, b, c, d, E⟩
set_option maxRecDepth 100000 in
theorem trod_37 {fuel : Nat} {cs : List Value} {x : DataW H × List MemPlace} (hf : DataW.trod enc Tryz.prog w base spare held fuel 37 cs = some x) : ∃ a b c : Int, cs = [.int .i64 a, .int .i64 b, .int .i64 c] := by
  obtain ⟨xs, n, _, _, hl, hlen, hg⟩ := DataW.trod_array Tryz.underlying37 hf
  rw [cells37] at hl
  have g0 := hg 0 (by omega)
  have g1 := hg 1 (by omega)
  have g2 := hg 2 (by omega)
  clear hg
  rw [List.getElem?_eq_getElem (by omega)] at g0 g1 g2
  rw [cells22] at g0 g1 g2
  obtain ⟨a, e0, _⟩ := DataW.trod_int Tryz.underlying22 g0
  obtain ⟨b, e1, _⟩ := DataW.trod_int Tryz.underlying22 g1
  obtain ⟨c, e2, _⟩ := DataW.trod_int Tryz.underlying22 g2
  have E : cs.drop (0 * 1) = [.int .i64 a, .int .i64 b, .int .i64 c] := by
    rw [cut cs (k := 0 * 1) (m := 1) (k' := 1 * 1) rfl, cut cs (k := 1 * 1) (m := 1) (k' := 2 * 1) rfl, cut cs (k := 2 * 1) (m := 1) (k' := 3) rfl, e0, e1, e2, List.drop_eq_nil_of_le (i := 3) (by omega)]
    rfl
  exact ⟨a, b, c, E⟩
set_option maxRecDepth 100000 in
/-- The setting. -/
theorem opens_24 {r : Reach} {b0 : Nat} {v : Value} {d : DataW H} {pl : List MemPlace} (hv : Value.okWide Tryz.prog w r b0 24 v) (h : DataW.Trod enc Tryz.prog w base spare held 24 v d pl) : ∃ c0 c1 c2 c3 c4 c5 : Int, v = .agg #[.int .i64 c0, .int .i64 c1, .int .i64 c2, .int .i64 c3, .int .i64 c4, .int .i64 c5] := by
  obtain ⟨cs, rfl, _⟩ := okWide_struct Tryz.underlying24 hv
  obtain ⟨fuel, hf⟩ := h
  have hf : DataW.trod enc Tryz.prog w base spare held fuel 24 cs.toList = some (d, pl) := hf
  obtain ⟨xs, n, _, _, hl, hlen, hg⟩ := DataW.trod_struct Tryz.underlying24 hf
  have hlen : xs.length = 6 := hlen
  rw [cells24] at hl
  generalize hcs : cs.toList = ks at *
  have g0 : DataW.trod enc Tryz.prog w base spare held n 22 ((ks.drop 0).take (Tryz.prog.cellsOf 22)) = xs[0]? := hg 0 _ rfl
  have g1 : DataW.trod enc Tryz.prog w base spare held n 22 ((ks.drop 1).take (Tryz.prog.cellsOf 22)) = xs[1]? := hg 1 _ rfl
  have g2 : DataW.trod enc Tryz.prog w base spare held n 22 ((ks.drop 2).take (Tryz.prog.cellsOf 22)) = xs[2]? := hg 2 _ rfl
  have g3 : DataW.trod enc Tryz.prog w base spare held n 22 ((ks.drop 3).take (Tryz.prog.cellsOf 22)) = xs[3]? := hg 3 _ rfl
  have g4 : DataW.trod enc Tryz.prog w base spare held n 22 ((ks.drop 4).take (Tryz.prog.cellsOf 22)) = xs[4]? := hg 4 _ rfl
  have g5 : DataW.trod enc Tryz.prog w base spare held n 22 ((ks.drop 5).take (Tryz.prog.cellsOf 22)) = xs[5]? := hg 5 _ rfl
  clear hg
  rw [List.getElem?_eq_getElem (by omega)] at g0 g1 g2 g3 g4 g5
  rw [cells22] at g0 g1 g2 g3 g4 g5
  obtain ⟨z0, e0, _⟩ := DataW.trod_int Tryz.underlying22 g0
  obtain ⟨z1, e1, _⟩ := DataW.trod_int Tryz.underlying22 g1
  obtain ⟨z2, e2, _⟩ := DataW.trod_int Tryz.underlying22 g2
  obtain ⟨z3, e3, _⟩ := DataW.trod_int Tryz.underlying22 g3
  obtain ⟨z4, e4, _⟩ := DataW.trod_int Tryz.underlying22 g4
  obtain ⟨z5, e5, _⟩ := DataW.trod_int Tryz.underlying22 g5
  have E : ks.drop 0 = [.int .i64 z0, .int .i64 z1, .int .i64 z2, .int .i64 z3, .int .i64 z4, .int .i64 z5] := by
    rw [cut ks (k := 0) (m := 1) rfl, cut ks (k := 1) (m := 1) rfl, cut ks (k := 2) (m := 1) rfl, cut ks (k := 3) (m := 1) rfl, cut ks (k := 4) (m := 1) rfl, cut ks (k := 5) (m := 1) rfl, e0, e1, e2, e3, e4, e5, List.drop_eq_nil_of_le (i := 5 + 1) (by omega)]
    rfl
  have E : ks = _ := E
  refine ⟨z0, z1, z2, z3, z4, z5, ?_⟩
  rw [← hcs] at E
  rw [Array.toList_inj.1 (E.trans (by simp : _ = (#[Value.int .i64 z0, .int .i64 z1, .int .i64 z2, .int .i64 z3, .int .i64 z4, .int .i64 z5] : Array Value).toList))]
set_option maxRecDepth 100000 in
/-- The estimator. -/
theorem opens_35 {r : Reach} {b0 : Nat} {v : Value} {d : DataW H} {pl : List MemPlace} (hv : Value.okWide Tryz.prog w r b0 35 v) (h : DataW.Trod enc Tryz.prog w base spare held 35 v d pl) :
    ∃ (q0 q1 q2 q3 : Int) (a1 b1 : Int) (sx1 : Value) (lx1 : List Int) (d1 e1 : Int) (sp1 : Value) (lp1 : List Int) (a2 b2 : Int) (sx2 : Value) (lx2 : List Int) (d2 e2 : Int) (sp2 : Value) (lp2 : List Int) (a3 b3 : Int) (sx3 : Value) (lx3 : List Int) (d3 e3 : Int) (sp3 : Value) (lp3 : List Int) (st co o0 o1 o2 o3 : Int) (sat : Bool),
      v = .agg #[.int .i64 q0, .int .i64 q1, .int .i64 q2, .int .i64 q3, .int .i64 a1, .int .i64 b1, sx1, .int .i64 d1, .int .i64 e1, sp1, .int .i64 a2, .int .i64 b2, sx2, .int .i64 d2, .int .i64 e2, sp2, .int .i64 a3, .int .i64 b3, sx3, .int .i64 d3, .int .i64 e3, sp3, .int .i64 st, .int .i64 co, .int .i64 o0, .int .i64 o1, .int .i64 o2, .int .i64 o3, .bool sat] ∧
      RowI w sx1 lx1 ∧ RowI w sp1 lp1 ∧ RowI w sx2 lx2 ∧ RowI w sp2 lp2 ∧ RowI w sx3 lx3 ∧ RowI w sp3 lp3 := by
  obtain ⟨cs, rfl, _⟩ := okWide_struct Tryz.underlying35 hv
  obtain ⟨fuel, hf⟩ := h
  have hf : DataW.trod enc Tryz.prog w base spare held fuel 35 cs.toList = some (d, pl) := hf
  obtain ⟨xs, n, _, _, hl, hlen, hg⟩ := DataW.trod_struct Tryz.underlying35 hf
  have hlen : xs.length = 6 := hlen
  rw [cells35] at hl
  generalize hcs : cs.toList = ks at *
  have g0 : DataW.trod enc Tryz.prog w base spare held n 26 ((ks.drop 0).take (Tryz.prog.cellsOf 26)) = xs[0]? := hg 0 _ rfl
  have g1 : DataW.trod enc Tryz.prog w base spare held n 32 ((ks.drop 4).take (Tryz.prog.cellsOf 32)) = xs[1]? := hg 1 _ rfl
  have g2 : DataW.trod enc Tryz.prog w base spare held n 3 ((ks.drop 22).take (Tryz.prog.cellsOf 3)) = xs[2]? := hg 2 _ rfl
  have g3 : DataW.trod enc Tryz.prog w base spare held n 3 ((ks.drop 23).take (Tryz.prog.cellsOf 3)) = xs[3]? := hg 3 _ rfl
  have g4 : DataW.trod enc Tryz.prog w base spare held n 33 ((ks.drop 24).take (Tryz.prog.cellsOf 33)) = xs[4]? := hg 4 _ rfl
  have g5 : DataW.trod enc Tryz.prog w base spare held n 4 ((ks.drop 28).take (Tryz.prog.cellsOf 4)) = xs[5]? := hg 5 _ rfl
  clear hg
  rw [List.getElem?_eq_getElem (by omega)] at g0 g1 g2 g3 g4 g5
  rw [cells26] at g0
  rw [cells32] at g1
  rw [cells3] at g2 g3
  rw [cells33] at g4
  rw [cells4] at g5
  obtain ⟨q0, q1, q2, q3, e0⟩ := trod_26 g0
  obtain ⟨a1, b1, sx1, lx1, d1, e1, sp1, lp1, a2, b2, sx2, lx2, d2, e2, sp2, lp2, a3, b3, sx3, lx3, d3, e3, sp3, lp3, k1, r1, r2, r3, r4, r5, r6⟩ := trod_32 g1
  obtain ⟨st, k2, _⟩ := DataW.trod_int Tryz.underlying3 g2
  obtain ⟨co, k3, _⟩ := DataW.trod_int Tryz.underlying3 g3
  obtain ⟨o0, o1, o2, o3, k4⟩ := trod_33 g4
  obtain ⟨sat, k5, _⟩ := DataW.trod_bool Tryz.underlying4 g5
  have E : ks.drop 0 = (#[.int .i64 q0, .int .i64 q1, .int .i64 q2, .int .i64 q3, .int .i64 a1, .int .i64 b1, sx1, .int .i64 d1, .int .i64 e1, sp1, .int .i64 a2, .int .i64 b2, sx2, .int .i64 d2, .int .i64 e2, sp2, .int .i64 a3, .int .i64 b3, sx3, .int .i64 d3, .int .i64 e3, sp3, .int .i64 st, .int .i64 co, .int .i64 o0, .int .i64 o1, .int .i64 o2, .int .i64 o3, .bool sat] : Array Value).toList := by
    rw [cut ks (k := 0) (m := 4) (k' := 4) rfl, cut ks (k := 4) (m := 18) (k' := 22) rfl, cut ks (k := 22) (m := 1) (k' := 23) rfl, cut ks (k := 23) (m := 1) (k' := 24) rfl, cut ks (k := 24) (m := 4) (k' := 28) rfl, cut ks (k := 28) (m := 1) (k' := 29) rfl, e0, k1, k2, k3, k4, k5, List.drop_eq_nil_of_le (i := 29) (by omega)]
    rfl
  have E : ks = _ := E
  refine ⟨q0, q1, q2, q3, a1, b1, sx1, lx1, d1, e1, sp1, lp1, a2, b2, sx2, lx2, d2, e2, sp2, lp2, a3, b3, sx3, lx3, d3, e3, sp3, lp3, st, co, o0, o1, o2, o3, sat, ?_, r1, r2, r3, r4, r5, r6⟩
  rw [← hcs] at E
  rw [Array.toList_inj.1 E]
set_option maxRecDepth 100000 in
/-- The sample. -/
theorem opens_39 {r : Reach} {b0 : Nat} {v : Value} {d : DataW H} {pl : List MemPlace} (hv : Value.okWide Tryz.prog w r b0 39 v) (h : DataW.Trod enc Tryz.prog w base spare held 39 v d pl) :
    ∃ (m : Bool) (s0 s1 s2 s3 s4 s5 : Int) (b : Bool) (s6 : Int) (g : Bool) (s7 s8 s9 : Int), v = .agg #[.bool m, .int .i64 s0, .int .i64 s1, .int .i64 s2, .int .i64 s3, .int .i64 s4, .int .i64 s5, .bool b, .int .i64 s6, .bool g, .int .i64 s7, .int .i64 s8, .int .i64 s9] := by
  obtain ⟨cs, rfl, _⟩ := okWide_struct Tryz.underlying39 hv
  obtain ⟨fuel, hf⟩ := h
  have hf : DataW.trod enc Tryz.prog w base spare held fuel 39 cs.toList = some (d, pl) := hf
  obtain ⟨xs, n, _, _, hl, hlen, hg⟩ := DataW.trod_struct Tryz.underlying39 hf
  have hlen : xs.length = 7 := hlen
  rw [cells39] at hl
  generalize hcs : cs.toList = ks at *
  have g0 : DataW.trod enc Tryz.prog w base spare held n 4 ((ks.drop 0).take (Tryz.prog.cellsOf 4)) = xs[0]? := hg 0 _ rfl
  have g1 : DataW.trod enc Tryz.prog w base spare held n 37 ((ks.drop 1).take (Tryz.prog.cellsOf 37)) = xs[1]? := hg 1 _ rfl
  have g2 : DataW.trod enc Tryz.prog w base spare held n 37 ((ks.drop 4).take (Tryz.prog.cellsOf 37)) = xs[2]? := hg 2 _ rfl
  have g3 : DataW.trod enc Tryz.prog w base spare held n 4 ((ks.drop 7).take (Tryz.prog.cellsOf 4)) = xs[3]? := hg 3 _ rfl
  have g4 : DataW.trod enc Tryz.prog w base spare held n 22 ((ks.drop 8).take (Tryz.prog.cellsOf 22)) = xs[4]? := hg 4 _ rfl
  have g5 : DataW.trod enc Tryz.prog w base spare held n 4 ((ks.drop 9).take (Tryz.prog.cellsOf 4)) = xs[5]? := hg 5 _ rfl
  have g6 : DataW.trod enc Tryz.prog w base spare held n 37 ((ks.drop 10).take (Tryz.prog.cellsOf 37)) = xs[6]? := hg 6 _ rfl
  clear hg
  rw [List.getElem?_eq_getElem (by omega)] at g0 g1 g2 g3 g4 g5 g6
  rw [cells4] at g0 g3 g5
  rw [cells37] at g1 g2 g6
  rw [cells22] at g4
  obtain ⟨m, k0, _⟩ := DataW.trod_bool Tryz.underlying4 g0
  obtain ⟨s0, s1, s2, k1⟩ := trod_37 g1
  obtain ⟨s3, s4, s5, k2⟩ := trod_37 g2
  obtain ⟨b, k3, _⟩ := DataW.trod_bool Tryz.underlying4 g3
  obtain ⟨s6, k4, _⟩ := DataW.trod_int Tryz.underlying22 g4
  obtain ⟨g, k5, _⟩ := DataW.trod_bool Tryz.underlying4 g5
  obtain ⟨s7, s8, s9, k6⟩ := trod_37 g6
  have E : ks.drop 0 = (#[.bool m, .int .i64 s0, .int .i64 s1, .int .i64 s2, .int .i64 s3, .int .i64 s4, .int .i64 s5, .bool b, .int .i64 s6, .bool g, .int .i64 s7, .int .i64 s8, .int .i64 s9] : Array Value).toList := by
    rw [cut ks (k := 0) (m := 1) (k' := 1) rfl, cut ks (k := 1) (m := 3) (k' := 4) rfl, cut ks (k := 4) (m := 3) (k' := 7) rfl, cut ks (k := 7) (m := 1) (k' := 8) rfl, cut ks (k := 8) (m := 1) (k' := 9) rfl, cut ks (k := 9) (m := 1) (k' := 10) rfl, cut ks (k := 10) (m := 3) (k' := 13) rfl, k0, k1, k2, k3, k4, k5, k6, List.drop_eq_nil_of_le (i := 13) (by omega)]
    rfl
  have E : ks = _ := E
  refine ⟨m, s0, s1, s2, s3, s4, s5, b, s6, g, s7, s8, s9, ?_⟩
  rw [← hcs] at E
  rw [Array.toList_inj.1 E]
end Go.Proofs.YtpjgmeogkomhlaaGreat
