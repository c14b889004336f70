/-
  LinkTells' input, opened: no conditions.
-/
import Derived.Test.YtoblckocmakakaaOpen
namespace Go.Proofs.Ytoblckocmakakaa
open Go.ChangeShapes Go.WideShapes Go.ChangeAt Go.RowKit Go.Deep
variable {H : Type} {enc : TypeId × Value → H} {w : World} {base : Nat} {spare : Nat → Bool} {held : Bool}
theorem cells51 : Try.prog.cellsOf 51 = 16 := by kernel_rfl
theorem row_nil {fuel : Nat} {a : Option Addr} {n cap : Nat} {x : DataW H × List MemPlace} (hf : DataW.trod enc Try.prog w base spare held fuel 24 [.slice a n cap] = some x) : a = none → cap = 0 := by
  intro ha
  rcases open_slice Try.underlying24 hf with ⟨hcs, _⟩ | ⟨a', len0, cap0, m, n', D, Pl, hcs, _⟩
  · simp at hcs; exact hcs.2.2
  · simp at hcs; rw [ha] at hcs; simp at hcs
theorem lk_nil {fuel : Nat} {l : Lk} {a : Option Addr} {cap : Nat} {x : DataW H × List MemPlace} (hf : DataW.trod enc Try.prog w base spare held fuel 26 (lkA l a cap).toList = some x) : a = none → cap = 0 := by
  obtain ⟨xs, n, _, _, hl, hlen, hg⟩ := DataW.trod_struct Try.underlying26 hf
  have hlen : xs.length = 5 := hlen
  have g3 : DataW.trod enc Try.prog w base spare held n 24 (((lkA l a cap).toList.drop 3).take (Try.prog.cellsOf 24)) = xs[3]? := hg 3 _ rfl
  rw [List.getElem?_eq_getElem (by omega), cells24] at g3
  exact row_nil g3
def tellsA (l : Lk) (a : Option Addr) (cap : Nat) (m : Lk) (b : Option Addr) (capb : Nat) (p : Pk) (pa : Option Addr) (pcap : Nat) (x : Int) : Array Value :=
  #[.int .i64 l.own, .int .i64 l.other, .int .i64 l.first, .slice a l.sent.length cap, .int .i64 l.next, .int .i64 m.own, .int .i64 m.other, .int .i64 m.first, .slice b m.sent.length capb, .int .i64 m.next, .int .i64 p.fr, .int .i64 p.to, .int .i64 p.place, .slice pa p.words.length pcap, .int .i64 p.wait, .int .i64 x]
/-- What LinkTells is asked of. -/
theorem opens_tells {r : Reach} {b0 : Nat} {v : Value} {d : DataW H} {pl : List MemPlace} (hv : Value.okWide Try.prog w r b0 51 v) (h : DataW.Trod enc Try.prog w base spare held 51 v d pl) :
    ∃ (l : Lk) (a : Option Addr) (cap : Nat) (m : Lk) (b : Option Addr) (capb : Nat) (p : Pk) (pa : Option Addr) (pcap : Nat) (x : Int), v = .agg (tellsA l a cap m b capb p pa pcap x) ∧ (LkIn l cap ∧ SlIs w a l.sent ∧ (a = none → cap = 0)) ∧ (LkIn m capb ∧ SlIs w b m.sent) ∧ (PkIn p pcap ∧ SlIs w pa p.words) := by
  obtain ⟨cs, rfl, _⟩ := okWide_struct Try.underlying51 hv
  obtain ⟨fuel, hf⟩ := h
  have hf : DataW.trod enc Try.prog w base spare held fuel 51 cs.toList = some (d, pl) := hf
  obtain ⟨xs, n, _, _, hl, hlen, hg⟩ := DataW.trod_struct Try.underlying51 hf
  have hlen : xs.length = 4 := hlen
  rw [cells51] at hl
  have g0 : DataW.trod enc Try.prog w base spare held n 26 ((cs.toList.drop 0).take (Try.prog.cellsOf 26)) = xs[0]? := hg 0 _ rfl
  have g1 : DataW.trod enc Try.prog w base spare held n 26 ((cs.toList.drop 5).take (Try.prog.cellsOf 26)) = xs[1]? := hg 1 _ rfl
  have g2 : DataW.trod enc Try.prog w base spare held n 38 ((cs.toList.drop 10).take (Try.prog.cellsOf 38)) = xs[2]? := hg 2 _ rfl
  have g3 : DataW.trod enc Try.prog w base spare held n 2 ((cs.toList.drop 15).take (Try.prog.cellsOf 2)) = xs[3]? := hg 3 _ rfl
  clear hg
  rw [List.getElem?_eq_getElem (by omega)] at g0 g1 g2 g3
  rw [cells26] at g0 g1
  rw [cells38] at g2
  rw [cells2] at g3
  obtain ⟨l, a, cap, e0, k0, s0⟩ := trod_lk g0
  obtain ⟨m, b, capb, e1, k1, s1⟩ := trod_lk g1
  obtain ⟨p, pa, pcap, e2, k2, s2⟩ := trod_pk g2
  obtain ⟨x, e3, _, _⟩ := DataW.trod_int Try.underlying2 g3
  rw [e0] at g0
  refine ⟨l, a, cap, m, b, capb, p, pa, pcap, x, ?_, ⟨k0, s0, lk_nil g0⟩, ⟨k1, s1⟩, ⟨k2, s2⟩⟩
  obtain ⟨cs⟩ := cs
  have hl : cs.length = 16 := hl
  match cs, hl with
  | [c0, c1, c2, c3, c4, c5, c6, c7, c8, c9, c10, c11, c12, c13, c14, c15], _ =>
    simp [lkA, pkA] at e0 e1 e2 e3
    obtain ⟨rfl, rfl, rfl, rfl, rfl⟩ := e0
    obtain ⟨rfl, rfl, rfl, rfl, rfl⟩ := e1
    obtain ⟨rfl, rfl, rfl, rfl, rfl⟩ := e2
    subst e3
    rfl
end Go.Proofs.Ytoblckocmakakaa
