/-
  The operations of a ring's region, each by a lemma of its own; a region walked in a class of worlds.
-/
import Derived.Test.YtoibfkieadhelaaWm
namespace Go.Proofs.Ytoibfkieadhelaa
open Go.RowKit

theorem wp_region_quiet_C {P : Program} (C : World → Prop) {id : Nat} {Q : Exit → Act → World → Prop} {a : Act} {w : World} {l : List Oper} (hm : P.follows .mixedOrders = true) (hB : Region.lexB .any l.toArray = true)
    (hC : C w.drew) (h : wpQuiet P l.toArray C (fun a' => ∀ w', C w' → Q .normal a' w') l a) : (Code.region id l.toArray true).wp P Q a w :=
  wp_region_quiet (C := C) hm hB hC (by simpa using h)

theorem exec_field0 (ρ : Operand → Value) (o : Oper) (w : World) (x : Operand) (ho : o.op = .fieldAddr 30 x 0) (b : Nat) (hx : ρ x = .pointer (some ⟨b, 0, none⟩)) :
    (execOp ρ o).run Try.prog w = .ok (.value (.pointer (some ⟨b, 0, none⟩))) w := by
  unfold execOp
  simp only [ho, hx]
  go_simp
theorem exec_load22 (ρ : Operand → Value) (o : Oper) (w : World) (x : Operand) (ho : o.op = .load 22 x) (b : Nat) (hx : ρ x = .pointer (some ⟨b, 0, none⟩)) (p : Nat → Int) (s : Nat → Smp) (hb : w.heap[b]? = some (.cells (mk p s) 30 (0, 0))) :
    (execOp ρ o).run Try.prog w = .ok (.value (.agg ((mk p s).extract 0 16))) w := by
  have hr := World.rangeAt_of_block hb 0 16
  unfold execOp
  simp only [ho, hx, Instr.loadAt, Instr.sureAddr, Sem.run_bind, Sem.run_pure, Result.andThen_ok, run_loadVar_mid w b 0 22 _ _ hr Try.underlying22 rfl (by rw [size22]; simp [mk_size])]
theorem guard22 : Try.prog.eqGuardType Try.prog.depth 22 = false := by kernel_rfl
theorem exec_eql22 (ρ : Operand → Value) (o : Oper) (w : World) (x y : Operand) (ho : o.op = .binOp .eql 22 x y 22) (p : Nat → Int) (s : Nat → Smp) (p' : Nat → Int) (s' : Nat → Smp) (hx : ρ x = .agg ((mk p s).extract 0 16)) (hy : ρ y = .agg ((mk p' s').extract 0 16)) (h : ∀ i, i < 16 → p i = p' i) :
    (execOp ρ o).run Try.prog w = .ok (.value (.bool true)) w := by
  have hX : ∀ (p : Nat → Int) (s : Nat → Smp) (i : Nat), i < 16 → ((mk p s).extract 0 16)[i]? = some (.int .i64 (p i)) := by
    intro p s i hi
    rw [Array.getElem?_extract, mk_size, if_pos (by simp; omega)]; simpa using mk_place p s i hi
  unfold execOp
  simp only [ho, hx, hy, Sem.run_bind, run_eqGuard_agg w .eql 22 x y _ _ guard22, Result.andThen_ok, run_eql_struct]
  rw [show (10000 : Nat) = 9998 + 2 from rfl, eq22 w 9998 _ _ p p' (hX p s) (hX p' s')]
  have : (List.range 16).all (fun i => p i == p' i) = true := by
    rw [List.all_eq_true]
    intro i hi
    rw [beq_iff_eq]; exact h i (by simpa using hi)
  rw [this]
  rfl
theorem exec_pickT {P : Program} (ρ : Operand → Value) (o : Oper) (w : World) (c x y : Operand) (ho : o.op = .pick c x y) (hc : ρ c = .bool true) (v : Value) (hv : ρ x = v) :
    (execOp ρ o).run P w = .ok (.value v) w := by
  subst hv
  unfold execOp
  simp only [ho, hc]
  simp [go_sem]
theorem exec_pickF {P : Program} (ρ : Operand → Value) (o : Oper) (w : World) (c x y : Operand) (ho : o.op = .pick c x y) (hc : ρ c = .bool false) (v : Value) (hv : ρ y = v) :
    (execOp ρ o).run P w = .ok (.value v) w := by
  subst hv
  unfold execOp
  simp only [ho, hc]
  simp [go_sem]
theorem exec_call11 (ρ : Operand → Value) (o : Oper) (w : World) (x0 : Operand) (ts : Array TypeId) (ho : o.op = .call { callee := .value (.func 11), args := #[x0], argTypes := ts }) (hf : ρ (.func 11) = .func (.func 11) #[] #[]) (v0 : Value) (hx0 : ρ x0 = v0) :
    (execOp ρ o).run Try.prog w = .ok (.enter 11 #[v0]) w := by
  unfold execOp
  simp only [ho]
  go_simp
theorem exec_call12 (ρ : Operand → Value) (o : Oper) (w : World) (x0 x1 x2 : Operand) (ts : Array TypeId) (ho : o.op = .call { callee := .value (.func 12), args := #[x0, x1, x2], argTypes := ts }) (hf : ρ (.func 12) = .func (.func 12) #[] #[]) (v0 v1 v2 : Value) (hx0 : ρ x0 = v0) (hx1 : ρ x1 = v1) (hx2 : ρ x2 = v2) :
    (execOp ρ o).run Try.prog w = .ok (.enter 12 #[v0, v1, v2]) w := by
  unfold execOp
  simp only [ho]
  go_simp
theorem exec_call13 (ρ : Operand → Value) (o : Oper) (w : World) (x0 x1 : Operand) (ts : Array TypeId) (ho : o.op = .call { callee := .value (.func 13), args := #[x0, x1], argTypes := ts }) (hf : ρ (.func 13) = .func (.func 13) #[] #[]) (v0 v1 : Value) (hx0 : ρ x0 = v0) (hx1 : ρ x1 = v1) :
    (execOp ρ o).run Try.prog w = .ok (.enter 13 #[v0, v1]) w := by
  unfold execOp
  simp only [ho]
  go_simp
theorem exec_call14 (ρ : Operand → Value) (o : Oper) (w : World) (x0 : Operand) (ts : Array TypeId) (ho : o.op = .call { callee := .value (.func 14), args := #[x0], argTypes := ts }) (hf : ρ (.func 14) = .func (.func 14) #[] #[]) (v0 : Value) (hx0 : ρ x0 = v0) :
    (execOp ρ o).run Try.prog w = .ok (.enter 14 #[v0]) w := by
  unfold execOp
  simp only [ho]
  go_simp
theorem exec_call15 (ρ : Operand → Value) (o : Oper) (w : World) (x0 x1 : Operand) (ts : Array TypeId) (ho : o.op = .call { callee := .value (.func 15), args := #[x0, x1], argTypes := ts }) (hf : ρ (.func 15) = .func (.func 15) #[] #[]) (v0 v1 : Value) (hx0 : ρ x0 = v0) (hx1 : ρ x1 = v1) :
    (execOp ρ o).run Try.prog w = .ok (.enter 15 #[v0, v1]) w := by
  unfold execOp
  simp only [ho]
  go_simp
theorem exec_call16 (ρ : Operand → Value) (o : Oper) (w : World) (x0 x1 : Operand) (ts : Array TypeId) (ho : o.op = .call { callee := .value (.func 16), args := #[x0, x1], argTypes := ts }) (hf : ρ (.func 16) = .func (.func 16) #[] #[]) (v0 v1 : Value) (hx0 : ρ x0 = v0) (hx1 : ρ x1 = v1) :
    (execOp ρ o).run Try.prog w = .ok (.enter 16 #[v0, v1]) w := by
  unfold execOp
  simp only [ho]
  go_simp
theorem exec_call18 (ρ : Operand → Value) (o : Oper) (w : World) (x0 x1 : Operand) (ts : Array TypeId) (ho : o.op = .call { callee := .value (.func 18), args := #[x0, x1], argTypes := ts }) (hf : ρ (.func 18) = .func (.func 18) #[] #[]) (v0 v1 : Value) (hx0 : ρ x0 = v0) (hx1 : ρ x1 = v1) :
    (execOp ρ o).run Try.prog w = .ok (.enter 18 #[v0, v1]) w := by
  unfold execOp
  simp only [ho]
  go_simp
theorem exec_call19 (ρ : Operand → Value) (o : Oper) (w : World) (x0 x1 x2 : Operand) (ts : Array TypeId) (ho : o.op = .call { callee := .value (.func 19), args := #[x0, x1, x2], argTypes := ts }) (hf : ρ (.func 19) = .func (.func 19) #[] #[]) (v0 v1 v2 : Value) (hx0 : ρ x0 = v0) (hx1 : ρ x1 = v1) (hx2 : ρ x2 = v2) :
    (execOp ρ o).run Try.prog w = .ok (.enter 19 #[v0, v1, v2]) w := by
  unfold execOp
  simp only [ho]
  go_simp
theorem exec_call20 (ρ : Operand → Value) (o : Oper) (w : World) (x0 : Operand) (ts : Array TypeId) (ho : o.op = .call { callee := .value (.func 20), args := #[x0], argTypes := ts }) (hf : ρ (.func 20) = .func (.func 20) #[] #[]) (v0 : Value) (hx0 : ρ x0 = v0) :
    (execOp ρ o).run Try.prog w = .ok (.enter 20 #[v0]) w := by
  unfold execOp
  simp only [ho]
  go_simp
theorem exec_call21 (ρ : Operand → Value) (o : Oper) (w : World) (x0 x1 : Operand) (ts : Array TypeId) (ho : o.op = .call { callee := .value (.func 21), args := #[x0, x1], argTypes := ts }) (hf : ρ (.func 21) = .func (.func 21) #[] #[]) (v0 v1 : Value) (hx0 : ρ x0 = v0) (hx1 : ρ x1 = v1) :
    (execOp ρ o).run Try.prog w = .ok (.enter 21 #[v0, v1]) w := by
  unfold execOp
  simp only [ho]
  go_simp
theorem exec_call22 (ρ : Operand → Value) (o : Oper) (w : World) (x0 x1 : Operand) (ts : Array TypeId) (ho : o.op = .call { callee := .value (.func 22), args := #[x0, x1], argTypes := ts }) (hf : ρ (.func 22) = .func (.func 22) #[] #[]) (v0 v1 : Value) (hx0 : ρ x0 = v0) (hx1 : ρ x1 = v1) :
    (execOp ρ o).run Try.prog w = .ok (.enter 22 #[v0, v1]) w := by
  unfold execOp
  simp only [ho]
  go_simp
theorem exec_load27 (ρ : Operand → Value) (o : Oper) (w : World) (x : Operand) (ho : o.op = .load 27 x) (b : Nat) (hx : ρ x = .pointer (some ⟨b, 0, none⟩)) (t : Smp) (hb : w.heap[b]? = some (.cells t.cells 27 (0, 0))) :
    (execOp ρ o).run Try.prog w = .ok (.value (.agg t.cells)) w := by
  unfold execOp
  simp only [ho, hx, Instr.loadAt, Instr.sureAddr, Sem.run_bind, Sem.run_pure, Result.andThen_ok, run_loadVar_row w b 27 27 t.cells (0, 0) _ hb Try.underlying27 rfl (by rw [Smp.cells_size]; exact size27)]
end Go.Proofs.Ytoibfkieadhelaa
