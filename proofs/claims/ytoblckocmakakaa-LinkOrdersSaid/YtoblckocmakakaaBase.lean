/-
  What a walk keeps of a world; a row of numbers behind a slice; ends and packets: no conditions.
-/
import Derived.Test.YtoblckocmakakaaRows
import Derived.WalkKit
import Derived.Below
import Derived.Outline
import Derived.Deep.RegionWith
import Derived.Deep.Cut
import Derived.WalkSmall
import Derived.WalkLawsBesides
import Derived.Lib.Hide
import Derived.StillTailTactics
import Derived.Deep.WholeRow
import Derived.Laws.Rows
import Derived.Laws.Tables
import Derived.Laws.CopyOwn
import Derived.Great.BuildSlice
import Derived.BigQuiet
namespace Go.Proofs.Ytoblckocmakakaa
open Go.RowKit
theorem below_setRow {B : Nat} {a w : World} (h : Below B a w) {g : Nat} (hg : B ≤ g) (cs : Array Value) : Below B a (w.setRow g cs) :=
  ⟨h.os, h.tape, h.output, by rw [setRow_size]; exact h.size, fun k hk => by rw [setRow_other _ _ _ _ (by omega)]; exact h.block k hk⟩

/-- What a walk keeps of a world: nothing below B has changed, and these blocks hold this. -/
def Inv (B : Nat) (w : World) (L : List (Nat × Obj)) (W : World) : Prop := Below B w W ∧ B ≤ W.heap.size ∧ ∀ x ∈ L, W.heap[x.1]? = some x.2
theorem Inv.start (w : World) : Inv w.heap.size w [] w := ⟨Below.refl _ _, Nat.le_refl _, fun x hx => by cases hx⟩
theorem Inv.alloc {B : Nat} {w W : World} {L : List (Nat × Obj)} (h : Inv B w L W) (o : Obj) : Inv B w ((W.heap.size, o) :: L) (W.alloc o) := by
  refine ⟨h.1.alloc h.2.1 o, by have := h.2.1; simp; omega, fun x hx => ?_⟩
  rcases List.mem_cons.1 hx with rfl | hx
  · exact heap_alloc_new W o
  · have := h.2.2 x hx
    have hlt := (Array.getElem?_eq_some_iff.1 this).1
    exact (heap_alloc_old W o hlt).trans this
theorem Inv.alloc' {B : Nat} {w W : World} {L : List (Nat × Obj)} (h : Inv B w L W) (o : Obj) : Inv B w L (W.alloc o) :=
  ⟨(h.alloc o).1, (h.alloc o).2.1, fun x hx => (h.alloc o).2.2 x (List.mem_cons_of_mem _ hx)⟩
theorem Inv.call {B : Nat} {w W W' : World} {L : List (Nat × Obj)} (h : Inv B w L W) (hb : Below W.heap.size W W') : Inv B w L W' :=
  ⟨h.1.trans (hb.mono h.2.1), Nat.le_trans h.2.1 hb.size, fun x hx => by
    have := h.2.2 x hx
    exact (hb.block _ (Array.getElem?_eq_some_iff.1 this).1).trans this⟩
theorem Inv.drew {B : Nat} {w W : World} {L : List (Nat × Obj)} (h : Inv B w L W) : Inv B w L W.drew := ⟨h.1.drew, h.2.1, h.2.2⟩
theorem Inv.drewN {B : Nat} {w W : World} {L : List (Nat × Obj)} (h : Inv B w L W) (n : Nat) : Inv B w L (W.drewN n) := ⟨below_drewN h.1 n, h.2.1, h.2.2⟩
theorem Inv.get {B : Nat} {w W : World} {L : List (Nat × Obj)} (h : Inv B w L W) (i : Nat) (o : Obj) (hx : (i, o) ∈ L) : W.heap[i]? = some o := h.2.2 _ hx
theorem Inv.lt {B : Nat} {w W : World} {L : List (Nat × Obj)} (h : Inv B w L W) (i : Nat) (o : Obj) (hx : (i, o) ∈ L) : i < W.heap.size := (Array.getElem?_eq_some_iff.1 (h.2.2 _ hx)).1
theorem Inv.sub {B : Nat} {w W : World} {L L' : List (Nat × Obj)} (h : Inv B w L W) (hs : ∀ x ∈ L', x ∈ L) : Inv B w L' W := ⟨h.1, h.2.1, fun x hx => h.2.2 x (hs x hx)⟩
theorem Inv.setOne {B : Nat} {w W : World} {L L' : List (Nat × Obj)} {g : Nat} {v v' : Value} {t : TypeId} (h : Inv B w L W) (hg : B ≤ g) (hm : (g, .cells #[v] t) ∈ L) (hL : ∀ x ∈ L', x = (g, .cells #[v'] t) ∨ (x ∈ L ∧ x.1 ≠ g)) : Inv B w L' (W.setCell ⟨g, 0, none⟩ v') := by
  have hb := h.2.2 _ hm
  rw [setCell_eq_setRow W g 0 #[v] t (0, 0) v' hb]
  refine ⟨below_setRow h.1 hg _, by rw [setRow_size]; exact h.2.1, fun x hx => ?_⟩
  rcases hL x hx with rfl | ⟨hx, hne⟩
  · exact setRow_heap _ _ _ _ _ _ hb
  · rw [setRow_other _ _ _ _ hne]; exact h.2.2 x hx

theorem Below.snoc {B : Nat} {w W W' : World} (h : Hid (Below B w W ∧ B ≤ W.heap.size)) (hb : Below W.heap.size W W') : Hid (Below B w W' ∧ B ≤ W'.heap.size) :=
  Lib.hid ⟨h.out.1.trans (hb.mono h.out.2), Nat.le_trans h.out.2 hb.size⟩
/-- The slice (a, n, ..) is a row of these numbers. -/
def SlIs (W : World) (a : Option Addr) (zs : List Int) : Prop := zs = [] ∨ ∃ b off, a = some ⟨b, off, none⟩ ∧ b < W.heap.size ∧ ∀ j (h : j < zs.length), W.cell? ⟨b, off + j, none⟩ = some (.int .i64 zs[j])
theorem SlIs.below {W W' : World} {a : Option Addr} {zs : List Int} (h : SlIs W a zs) (hb : Below W.heap.size W W') : SlIs W' a zs := by
  rcases h with h | ⟨b, off, rfl, hlt, hc⟩
  · exact Or.inl h
  · exact Or.inr ⟨b, off, rfl, Nat.lt_of_lt_of_le hlt hb.size, fun j hj => (hb.cell (p := ⟨b, off + j, none⟩) hlt).trans (hc j hj)⟩
theorem SlIs.nil (W : World) (a : Option Addr) : SlIs W a [] := Or.inl rfl
/-- The rest of a row, from a place on. -/
theorem SlIs.drop {W : World} {b off : Nat} {zs : List Int} (h : SlIs W (some ⟨b, off, none⟩) zs) (n : Nat) : SlIs W (some ⟨b, off + n, none⟩) (zs.drop n) := by
  rcases h with h | ⟨b', off', e, hlt, hc⟩
  · left; rw [h]; simp
  · cases e
    right
    refine ⟨b, off + n, rfl, hlt, fun j hj => ?_⟩
    rw [List.length_drop] at hj
    have := hc (n + j) (by omega)
    rw [← Nat.add_assoc] at this
    rw [this, List.getElem_drop]
/-- No slice of this block; a slice of the same block; a slice of a block from n on. -/
def Apart (g : Nat) (a : Option Addr) : Prop := ∀ b off, a = some ⟨b, off, none⟩ → b ≠ g
def From (a a' : Option Addr) : Prop := ∀ b off, a' = some ⟨b, off, none⟩ → ∃ off', a = some ⟨b, off', none⟩
def Since' (n : Nat) (a : Option Addr) : Prop := ∀ b off, a = some ⟨b, off, none⟩ → n ≤ b
theorem From.refl (a : Option Addr) : From a a := fun _ off e => ⟨off, e⟩
theorem From.apart {g : Nat} {a a' : Option Addr} (h : From a a') (ha : Apart g a) : Apart g a' := fun b off e => by
  obtain ⟨off', e'⟩ := h b off e
  exact ha b off' e'
theorem From.since {n : Nat} {a a' : Option Addr} (h : From a a') (ha : Since' n a) : Since' n a' := fun b off e => by
  obtain ⟨off', e'⟩ := h b off e
  exact ha b off' e'
theorem Since'.apart {n g : Nat} {a : Option Addr} (h : Since' n a) (hg : g < n) : Apart g a := fun b off e => by
  have := h b off e
  omega
theorem Apart.nil (g : Nat) : Apart g none := fun _ _ e => by cases e
theorem Since'.nil (n : Nat) : Since' n none := fun _ _ e => by cases e
structure Lk where
  (own other first : Int)
  (sent : List Int)
  (next : Int)
structure Pk where
  (fr to place : Int)
  (words : List Int)
  (wait : Int)
end Go.Proofs.Ytoblckocmakakaa
