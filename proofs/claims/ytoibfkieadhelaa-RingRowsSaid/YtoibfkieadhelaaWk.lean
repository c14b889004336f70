/-
  What a walk keeps of a world; the reference's Right by its two answers.
-/
import Derived.Test.YtoibfkieadhelaaWj
namespace Go.Proofs.Ytoibfkieadhelaa
open Go.RowKit

/-- What a walk keeps of a world: nothing below B has changed, and these blocks hold this. -/
def Inv (B : Nat) (w : World) (L : List (Nat × Obj)) (W : World) : Prop := Below B w W ∧ B ≤ W.heap.size ∧ ∀ x ∈ L, W.heap[x.1]? = some x.2
theorem Inv.start (w : World) : Inv w.heap.size w [] w := ⟨Below.refl _ _, Nat.le_refl _, fun x hx => by cases hx⟩
theorem Inv.alloc {B : Nat} {w W : World} {L : List (Nat × Obj)} (h : Inv B w L W) (o : Obj) : Inv B w ((W.heap.size, o) :: L) (W.alloc o) := by
  refine ⟨h.1.alloc h.2.1 o, by have := h.2.1; simp; omega, fun x hx => ?_⟩
  rcases List.mem_cons.1 hx with rfl | hx
  · exact heap_alloc_new W o
  · have := h.2.2 x hx
    have hlt := (Array.getElem?_eq_some_iff.1 this).1
    exact (heap_alloc_old W o hlt).trans this
theorem Inv.alloc' {B : Nat} {w W : World} {L : List (Nat × Obj)} (h : Inv B w L W) (o : Obj) : Inv B w L (W.alloc o) :=
  ⟨(h.alloc o).1, (h.alloc o).2.1, fun x hx => (h.alloc o).2.2 x (List.mem_cons_of_mem _ hx)⟩
theorem Inv.call {B : Nat} {w W W' : World} {L : List (Nat × Obj)} (h : Inv B w L W) (hb : Below W.heap.size W W') : Inv B w L W' :=
  ⟨h.1.trans (hb.mono h.2.1), Nat.le_trans h.2.1 hb.size, fun x hx => by
    have := h.2.2 x hx
    exact (hb.block _ (Array.getElem?_eq_some_iff.1 this).1).trans this⟩
theorem Inv.drew {B : Nat} {w W : World} {L : List (Nat × Obj)} (h : Inv B w L W) : Inv B w L W.drew := ⟨h.1.drew, h.2.1, h.2.2⟩
theorem Inv.drewN {B : Nat} {w W : World} {L : List (Nat × Obj)} (h : Inv B w L W) (n : Nat) : Inv B w L (W.drewN n) := ⟨below_drewN h.1 n, h.2.1, h.2.2⟩
theorem Inv.get {B : Nat} {w W : World} {L : List (Nat × Obj)} (h : Inv B w L W) (i : Nat) (o : Obj) (hx : (i, o) ∈ L) : W.heap[i]? = some o := h.2.2 _ hx
theorem Inv.lt {B : Nat} {w W : World} {L : List (Nat × Obj)} (h : Inv B w L W) (i : Nat) (o : Obj) (hx : (i, o) ∈ L) : i < W.heap.size := (Array.getElem?_eq_some_iff.1 (h.2.2 _ hx)).1
theorem Inv.sub {B : Nat} {w W : World} {L L' : List (Nat × Obj)} (h : Inv B w L W) (hs : ∀ x ∈ L', x ∈ L) : Inv B w L' W := ⟨h.1, h.2.1, fun x hx => h.2.2 x (hs x hx)⟩
theorem Inv.setRow {B : Nat} {w W : World} {L : List (Nat × Obj)} {g : Nat} {c c' : Array Value} {t : TypeId} (h : Inv B w ((g, .cells c t) :: L) W) (hg : B ≤ g) (hL : ∀ x ∈ L, x.1 ≠ g) : Inv B w ((g, .cells c' t) :: L) (W.setRow g c') := by
  refine ⟨below_setRow h.1 hg c', by rw [setRow_size]; exact h.2.1, fun x hx => ?_⟩
  rcases List.mem_cons.1 hx with rfl | hx
  · exact setRow_heap _ _ _ _ _ _ (h.2.2 _ (List.mem_cons_self ..))
  · rw [setRow_other _ _ _ _ (hL x hx)]; exact h.2.2 x (List.mem_cons_of_mem _ hx)

/-- A ring's block. -/
def ringO (p : Nat → Int) (s : Nat → Smp) : Obj := .cells (mk p s) 30 (0, 0)
def smpO (t : Smp) : Obj := .cells t.cells 27 (0, 0)

theorem rright_t {p : Nat → Int} {s : Nat → Smp} (h : rightB p s = true) (w : World) : Calls Try.prog 11 #[.agg (mk p s)] w fun e w' => e = .returned (.bool true) ∧ Below w.heap.size w w' := by
  rw [← h]; exact rright_any p s w
theorem rright_f {p : Nat → Int} {s : Nat → Smp} (h : rightB p s = false) (w : World) : Calls Try.prog 11 #[.agg (mk p s)] w fun e w' => e = .returned (.bool false) ∧ Below w.heap.size w w' := by
  rw [← h]; exact rright_any p s w
end Go.Proofs.Ytoibfkieadhelaa
