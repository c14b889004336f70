/-
  A ring and a sample that came in, opened: no conditions.
-/
import Derived.Test.YtoibfkieadhelaaBase
import Derived.ProofKit
import Derived.OpenShut
namespace Go.Proofs.Ytoibfkieadhelaa
open Go.ChangeShapes Go.WideShapes Go.ChangeAt Go.RowKit
variable {H : Type} {enc : TypeId × Value → H} {w : World} {base : Nat} {spare : Nat → Bool} {held : Bool}

theorem cells4 : Try.prog.cellsOf 4 = 1 := by kernel_rfl
theorem cells25 : Try.prog.cellsOf 25 = 3 := by kernel_rfl
theorem cells22 : Try.prog.cellsOf 22 = 16 := by kernel_rfl
theorem cells28 : Try.prog.cellsOf 28 = 208 := by kernel_rfl
theorem cells30 : Try.prog.cellsOf 30 = 224 := by kernel_rfl

theorem open_vec {fuel : Nat} {cs : List Value} {x : DataW H × List MemPlace} (h : DataW.trod enc Try.prog w base spare held fuel 25 cs = some x) : ∃ a b c : Int, cs = [.int .i64 a, .int .i64 b, .int .i64 c] := by
  obtain ⟨xs, m, _, _, hl, hlen, hf⟩ := DataW.trod_array Try.underlying25 h
  rw [cells25] at hl
  have hg : ∀ i, i < 3 → ∃ n : Int, (cs.drop (i * 1)).take 1 = [.int .i64 n] := by
    intro i hi
    have h1 := hf i hi
    rw [cells23, List.getElem?_eq_getElem (by omega)] at h1
    obtain ⟨n, e, _, _⟩ := DataW.trod_int Try.underlying23 h1
    exact ⟨n, e⟩
  match cs, hl with
  | [c0, c1, c2], _ =>
    obtain ⟨a, ha⟩ := hg 0 (by omega)
    obtain ⟨b, hb⟩ := hg 1 (by omega)
    obtain ⟨c, hc⟩ := hg 2 (by omega)
    simp at ha hb hc
    exact ⟨a, b, c, by rw [ha, hb, hc]⟩

theorem open_smp {fuel : Nat} {cs : List Value} {x : DataW H × List MemPlace} (h : DataW.trod enc Try.prog w base spare held fuel 27 cs = some x) : ∃ t : Smp, cs = t.cells.toList := by
  obtain ⟨xs, n, _, _, hl, hlen, hf⟩ := DataW.trod_struct Try.underlying27 h
  rw [cells27] at hl
  have hlen : xs.length = 7 := hlen
  have g0 : DataW.trod enc Try.prog w base spare held n 4 ((cs.drop 0).take (Try.prog.cellsOf 4)) = xs[0]? := hf 0 _ rfl
  have g1 : DataW.trod enc Try.prog w base spare held n 25 ((cs.drop 1).take (Try.prog.cellsOf 25)) = xs[1]? := hf 1 _ rfl
  have g2 : DataW.trod enc Try.prog w base spare held n 25 ((cs.drop 4).take (Try.prog.cellsOf 25)) = xs[2]? := hf 2 _ rfl
  have g3 : DataW.trod enc Try.prog w base spare held n 4 ((cs.drop 7).take (Try.prog.cellsOf 4)) = xs[3]? := hf 3 _ rfl
  have g4 : DataW.trod enc Try.prog w base spare held n 23 ((cs.drop 8).take (Try.prog.cellsOf 23)) = xs[4]? := hf 4 _ rfl
  have g5 : DataW.trod enc Try.prog w base spare held n 4 ((cs.drop 9).take (Try.prog.cellsOf 4)) = xs[5]? := hf 5 _ rfl
  have g6 : DataW.trod enc Try.prog w base spare held n 25 ((cs.drop 10).take (Try.prog.cellsOf 25)) = xs[6]? := hf 6 _ rfl
  clear hf
  rw [List.getElem?_eq_getElem (by omega)] at g0 g1 g2 g3 g4 g5 g6
  simp only [cells4, cells25, cells23] at g0 g1 g2 g3 g4 g5 g6
  obtain ⟨b0, e0, _⟩ := DataW.trod_bool Try.underlying4 g0
  obtain ⟨x1, y1, z1, e1⟩ := open_vec g1
  obtain ⟨x2, y2, z2, e2⟩ := open_vec g2
  obtain ⟨b3, e3, _⟩ := DataW.trod_bool Try.underlying4 g3
  obtain ⟨n4, e4, _, _⟩ := DataW.trod_int Try.underlying23 g4
  obtain ⟨b5, e5, _⟩ := DataW.trod_bool Try.underlying4 g5
  obtain ⟨x6, y6, z6, e6⟩ := open_vec g6
  clear g0 g1 g2 g3 g4 g5 g6
  match cs, hl with
  | [c0, c1, c2, c3, c4, c5, c6, c7, c8, c9, c10, c11, c12], _ =>
    simp at e0 e1 e2 e3 e4 e5 e6
    obtain ⟨rfl, rfl, rfl⟩ := e1
    obtain ⟨rfl, rfl, rfl⟩ := e2
    obtain ⟨rfl, rfl, rfl⟩ := e6
    subst e0 e3 e4 e5
    exact ⟨⟨b0, b3, b5, x1, y1, z1, x2, y2, z2, n4, x6, y6, z6⟩, rfl⟩

theorem open_ring {fuel : Nat} {cs : List Value} {x : DataW H × List MemPlace} (h : DataW.trod enc Try.prog w base spare held fuel 30 cs = some x) : ∃ p s, cs = (mk p s).toList := by
  obtain ⟨xs, n, _, _, hl, hlen, hf⟩ := DataW.trod_struct Try.underlying30 h
  rw [cells30] at hl
  have hlen : xs.length = 2 := hlen
  have g0 : DataW.trod enc Try.prog w base spare held n 22 ((cs.drop 0).take (Try.prog.cellsOf 22)) = xs[0]? := hf 0 _ rfl
  have g1 : DataW.trod enc Try.prog w base spare held n 28 ((cs.drop 16).take (Try.prog.cellsOf 28)) = xs[1]? := hf 1 _ rfl
  clear hf
  rw [List.getElem?_eq_getElem (by omega)] at g0 g1
  simp only [cells22, cells28] at g0 g1
  obtain ⟨xs0, m0, _, _, _, hlen0, hf0⟩ := DataW.trod_array Try.underlying22 g0
  obtain ⟨xs1, m1, _, _, _, hlen1, hf1⟩ := DataW.trod_array Try.underlying28 g1
  have hp : ∀ i, i < 16 → ∃ n : Int, cs[i]? = some (.int .i64 n) := by
    intro i hi
    have h1 := hf0 i hi
    rw [cells2, List.getElem?_eq_getElem (by omega)] at h1
    obtain ⟨n, e, _, _⟩ := DataW.trod_int Try.underlying2 h1
    refine ⟨n, ?_⟩
    have := congrArg (fun l : List Value => l[0]?) e
    simp only [List.getElem?_take, List.getElem?_drop, List.getElem?_cons_zero, Nat.lt_one_iff, if_true, Nat.mul_one, Nat.add_zero, Nat.zero_add] at this
    rw [if_pos (by omega)] at this
    exact this
  have hs : ∀ i, i < 16 → ∃ t : Smp, ∀ j, j < 13 → cs[16 + i * 13 + j]? = t.cells[j]? := by
    intro i hi
    have h1 := hf1 i hi
    rw [cells27, List.getElem?_eq_getElem (by omega)] at h1
    obtain ⟨t, e⟩ := open_smp h1
    refine ⟨t, fun j hj => ?_⟩
    have := congrArg (fun l : List Value => l[j]?) e
    simp only [List.getElem?_take, List.getElem?_drop, Array.getElem?_toList] at this
    rw [if_pos hj, if_pos (by omega)] at this
    rw [← this]
    congr 1
    omega
  refine ⟨fun i => if h : i < 16 then Classical.choose (hp i h) else 0, fun i => if h : i < 16 then Classical.choose (hs i h) else Smp.zero, ?_⟩
  have key : cs.toArray = mk (fun i => if h : i < 16 then Classical.choose (hp i h) else 0) (fun i => if h : i < 16 then Classical.choose (hs i h) else Smp.zero) := by
    apply mk_of
    · simpa using hl
    · intro i hi
      rw [dif_pos hi]
      simpa using Classical.choose_spec (hp i hi)
    · intro i hi j hj
      rw [dif_pos hi]
      simpa using Classical.choose_spec (hs i hi) j hj
  rw [← key]

/-- A ring that came in. -/
theorem opens_ring {r : Reach} {b0 : Nat} {v : Value} {d : DataW H} {p : List MemPlace} (hv : Value.okWide Try.prog w r b0 30 v) (h : DataW.Trod enc Try.prog w base spare held 30 v d p) : ∃ p s, v = .agg (mk p s) := by
  obtain ⟨cs, rfl, _⟩ := okWide_struct Try.underlying30 hv
  obtain ⟨fuel, hf⟩ := h
  obtain ⟨p, s, e⟩ := open_ring hf
  exact ⟨p, s, by rw [show cs = mk p s from Array.toList_inj.1 e]⟩
theorem opens_smp {r : Reach} {b0 : Nat} {v : Value} {d : DataW H} {p : List MemPlace} (hv : Value.okWide Try.prog w r b0 27 v) (h : DataW.Trod enc Try.prog w base spare held 27 v d p) : ∃ t : Smp, v = .agg t.cells := by
  obtain ⟨cs, rfl, _⟩ := okWide_struct Try.underlying27 hv
  obtain ⟨fuel, hf⟩ := h
  obtain ⟨t, e⟩ := open_smp hf
  exact ⟨t, by rw [show cs = t.cells from Array.toList_inj.1 e]⟩
end Go.Proofs.Ytoibfkieadhelaa
