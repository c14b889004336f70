/-
  The turns, what a walk keeps of a world, whole rows stored: no conditions but those named.
-/
import Derived.Test.YtccmimgdmfjciaaRows
import Derived.WalkKit
import Derived.Below
import Derived.Outline
import Derived.Deep.RegionWith
import Derived.Deep.Cut
import Derived.WalkSmall
import Derived.WalkLawsBesides
import Derived.Lib.Hide
import Derived.StillTailTactics
import Derived.Deep.WholeRow
import Derived.Laws.Rows
import Derived.Laws.Tables
namespace Go.Proofs.Ytccmimgdmfjciaa
open Go.RowKit
def tl : List Int := [536870912, 316933406, 167458907, 85004756, 42667331, 21354465, 10679838, 5340245, 2670163, 1335087, 667544, 333772, 166886, 83443, 41722, 20861, 10430, 5215, 2608, 1304, 652, 326, 163, 81, 41, 20, 10, 5, 3, 1]
def tn (i : Nat) : Int := tl.getD i 0
def tv : Array Value := (tl.map (Value.int .i32)).toArray
theorem tv_at (i : Nat) (h : i < 30) : tv[i]? = some (.int .i32 (tn i)) := by
  unfold tv tn
  rw [List.getElem?_toArray, List.getElem?_map, List.getD_eq_getElem?_getD]
  have : i < tl.length := h
  rw [List.getElem?_eq_getElem this]; rfl
theorem tv_size : tv.size = 30 := rfl
theorem tn_rng (i : Nat) : 0 ≤ tn i ∧ tn i ≤ 536870912 := by
  by_cases h : i < 30
  · have : ∀ i : Fin 30, 0 ≤ tn i.val ∧ tn i.val ≤ 536870912 := by decide +kernel
    exact this ⟨i, h⟩
  · have : tn i = 0 := by
      unfold tn
      rw [List.getD_eq_getElem?_getD, List.getElem?_eq_none (by show 30 ≤ i; omega)]; rfl
    omega
theorem size47 : (Try.prog.info? 47).map (·.size) = some 30 := by kernel_rfl
theorem tv_one : tv.all (·.oneCell') = true := by decide +kernel
theorem build47 (w : World) (a : Act) (o : Oper) (ho : o.op = (Op.build 47 #[(0, Operand.const (Value.int IntKind.i32 536870912)),
              (1, Operand.const (Value.int IntKind.i32 316933406)),
              (2, Operand.const (Value.int IntKind.i32 167458907)), (3, Operand.const (Value.int IntKind.i32 85004756)),
              (4, Operand.const (Value.int IntKind.i32 42667331)), (5, Operand.const (Value.int IntKind.i32 21354465)),
              (6, Operand.const (Value.int IntKind.i32 10679838)), (7, Operand.const (Value.int IntKind.i32 5340245)),
              (8, Operand.const (Value.int IntKind.i32 2670163)), (9, Operand.const (Value.int IntKind.i32 1335087)),
              (10, Operand.const (Value.int IntKind.i32 667544)), (11, Operand.const (Value.int IntKind.i32 333772)),
              (12, Operand.const (Value.int IntKind.i32 166886)), (13, Operand.const (Value.int IntKind.i32 83443)),
              (14, Operand.const (Value.int IntKind.i32 41722)), (15, Operand.const (Value.int IntKind.i32 20861)),
              (16, Operand.const (Value.int IntKind.i32 10430)), (17, Operand.const (Value.int IntKind.i32 5215)),
              (18, Operand.const (Value.int IntKind.i32 2608)), (19, Operand.const (Value.int IntKind.i32 1304)),
              (20, Operand.const (Value.int IntKind.i32 652)), (21, Operand.const (Value.int IntKind.i32 326)),
              (22, Operand.const (Value.int IntKind.i32 163)), (23, Operand.const (Value.int IntKind.i32 81)),
              (24, Operand.const (Value.int IntKind.i32 41)), (25, Operand.const (Value.int IntKind.i32 20)),
              (26, Operand.const (Value.int IntKind.i32 10)), (27, Operand.const (Value.int IntKind.i32 5)),
              (28, Operand.const (Value.int IntKind.i32 3)), (29, Operand.const (Value.int IntKind.i32 1))])) : (execOp a.eval o).run Try.prog w = .ok (.value (.agg tv)) w := by
  unfold execOp
  simp only [ho]
  kernel_rfl
theorem wl_val {P : Program} {ops : Array Oper} {rest : List Oper} {o : Oper} {a : Act} {w : World} {Q : Exit → Act → World → Prop} {v : Value} (hw : Region.wanted o (yielded ops a.tmps) = true)
    (hrun : (execOp a.eval o).run P w = .ok (.value v) w) (h : wpList P ops Q rest (a.put o.dst v) w) : wpList P ops Q (o :: rest) a w :=
  wpList_step fun K hK => by
    rw [if_pos hw]
    unfold Oper.wp
    rw [hrun, Oper.upon_value]
    exact hK _ _ h
theorem setRow_new (w : World) (c c' : Array Value) (t : TypeId) (n : Nat) (hn : n = w.heap.size) : (w.alloc (.cells c t)).setRow n c' = w.alloc (.cells c' t) := by
  subst hn; exact World.setRow_alloc_new w c c' t
theorem heap_at (w : World) (o : Obj) (i : Nat) (h : i = w.heap.size) : (w.alloc o).heap[i]? = some o := by subst h; exact heap_alloc_new w o
/-- A whole row into the block that was made last. -/
theorem wl_store_new {P : Program} {ops : Array Oper} {rest : List Oper} {o : Oper} {a : Act} {W : World} {Q : Exit → Act → World → Prop} (hgd : o.guard = none) (ty : TypeId) (x y : Operand) (ho : o.op = .store ty x y)
    (b : Nat) (cells : Array Value) (hx : a.eval x = .pointer (some ⟨b, 0, none⟩)) (hy : a.eval y = .agg cells) (t : TypeId) (old : Array Value) (w : World) (hW : W = w.alloc (.cells old t)) (hb : b = w.heap.size)
    (hi : (P.info? ty).map (·.size) = some cells.size) (hold : old.size = cells.size) (h1 : cells.all (·.oneCell') = true)
    (h : wpList P ops Q rest (a.put o.dst undef) (w.alloc (.cells cells t))) : wpList P ops Q (o :: rest) a W := by
  subst hW
  refine wpList_store_row hgd ty x y ho b cells hx hy t old (heap_at _ _ _ hb) hi hold h1 ?_
  rw [setRow_new _ _ _ _ _ hb]
  exact h
attribute [irreducible] tv

theorem below_setRow {B : Nat} {a w : World} (h : Below B a w) {g : Nat} (hg : B ≤ g) (cs : Array Value) : Below B a (w.setRow g cs) :=
  ⟨h.os, h.tape, h.output, by rw [setRow_size]; exact h.size, fun k hk => by rw [setRow_other _ _ _ _ (by omega)]; exact h.block k hk⟩

/-- What a walk keeps of a world: nothing below B has changed, and these blocks hold this. -/
def Inv (B : Nat) (w : World) (L : List (Nat × Obj)) (W : World) : Prop := Below B w W ∧ B ≤ W.heap.size ∧ ∀ x ∈ L, W.heap[x.1]? = some x.2
theorem Inv.start (w : World) : Inv w.heap.size w [] w := ⟨Below.refl _ _, Nat.le_refl _, fun x hx => by cases hx⟩
theorem Inv.alloc {B : Nat} {w W : World} {L : List (Nat × Obj)} (h : Inv B w L W) (o : Obj) : Inv B w ((W.heap.size, o) :: L) (W.alloc o) := by
  refine ⟨h.1.alloc h.2.1 o, by have := h.2.1; simp; omega, fun x hx => ?_⟩
  rcases List.mem_cons.1 hx with rfl | hx
  · exact heap_alloc_new W o
  · have := h.2.2 x hx
    have hlt := (Array.getElem?_eq_some_iff.1 this).1
    exact (heap_alloc_old W o hlt).trans this
theorem Inv.alloc' {B : Nat} {w W : World} {L : List (Nat × Obj)} (h : Inv B w L W) (o : Obj) : Inv B w L (W.alloc o) :=
  ⟨(h.alloc o).1, (h.alloc o).2.1, fun x hx => (h.alloc o).2.2 x (List.mem_cons_of_mem _ hx)⟩
theorem Inv.call {B : Nat} {w W W' : World} {L : List (Nat × Obj)} (h : Inv B w L W) (hb : Below W.heap.size W W') : Inv B w L W' :=
  ⟨h.1.trans (hb.mono h.2.1), Nat.le_trans h.2.1 hb.size, fun x hx => by
    have := h.2.2 x hx
    exact (hb.block _ (Array.getElem?_eq_some_iff.1 this).1).trans this⟩
theorem Inv.drew {B : Nat} {w W : World} {L : List (Nat × Obj)} (h : Inv B w L W) : Inv B w L W.drew := ⟨h.1.drew, h.2.1, h.2.2⟩
theorem Inv.drewN {B : Nat} {w W : World} {L : List (Nat × Obj)} (h : Inv B w L W) (n : Nat) : Inv B w L (W.drewN n) := ⟨below_drewN h.1 n, h.2.1, h.2.2⟩
theorem Inv.get {B : Nat} {w W : World} {L : List (Nat × Obj)} (h : Inv B w L W) (i : Nat) (o : Obj) (hx : (i, o) ∈ L) : W.heap[i]? = some o := h.2.2 _ hx
theorem Inv.lt {B : Nat} {w W : World} {L : List (Nat × Obj)} (h : Inv B w L W) (i : Nat) (o : Obj) (hx : (i, o) ∈ L) : i < W.heap.size := (Array.getElem?_eq_some_iff.1 (h.2.2 _ hx)).1
theorem Inv.sub {B : Nat} {w W : World} {L L' : List (Nat × Obj)} (h : Inv B w L W) (hs : ∀ x ∈ L', x ∈ L) : Inv B w L' W := ⟨h.1, h.2.1, fun x hx => h.2.2 x (hs x hx)⟩
theorem Inv.setOne {B : Nat} {w W : World} {L L' : List (Nat × Obj)} {g : Nat} {v v' : Value} {t : TypeId} (h : Inv B w L W) (hg : B ≤ g) (hm : (g, .cells #[v] t) ∈ L) (hL : ∀ x ∈ L', x = (g, .cells #[v'] t) ∨ (x ∈ L ∧ x.1 ≠ g)) : Inv B w L' (W.setCell ⟨g, 0, none⟩ v') := by
  have hb := h.2.2 _ hm
  rw [setCell_eq_setRow W g 0 #[v] t (0, 0) v' hb]
  refine ⟨below_setRow h.1 hg _, by rw [setRow_size]; exact h.2.1, fun x hx => ?_⟩
  rcases hL x hx with rfl | ⟨hx, hne⟩
  · exact setRow_heap _ _ _ _ _ _ hb
  · rw [setRow_other _ _ _ _ hne]; exact h.2.2 x hx
set_option maxHeartbeats 400000 in
theorem turns_any (w : World) : Calls Try.prog 27 #[] w fun e w' => e = .returned (.agg tv) ∧ Below w.heap.size w w' := by
  go_enter Try.func27, Try.ntmps27
  go_wp2_with (first
    | ((with_reducible show wpList _ _ _ (Oper.mk _ (Op.build 47 _) _ _ _ _ :: _) _ _); refine wl_val rfl (build47 _ _ _ rfl) ?_)
    | ((with_reducible show wpList _ _ _ (Oper.mk _ (Op.store 47 _ _) _ _ _ _ :: _) _ _); refine wl_store_new rfl 47 _ _ rfl _ tv rfl rfl 47 _ _ rfl rfl (by rw [tv_size]; exact size47) (by rw [tv_size]; rfl) tv_one ?_))
  exact bodyPost_ret (v := .agg tv) (results_cell_row Try.results27 _ _ _ 47 tv (0, 0) _ rfl (heap_at _ _ _ rfl) Try.underlying47 rfl (by rw [tv_size]; exact size47)) rfl ⟨rfl, (Below.refl _ _).alloc (Nat.le_refl _) _⟩
end Go.Proofs.Ytccmimgdmfjciaa
