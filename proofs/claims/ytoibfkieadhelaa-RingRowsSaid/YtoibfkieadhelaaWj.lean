/-
  The example at the head of all the ring's statements: it is true.
-/
import Derived.Test.YtoibfkieadhelaaWf
import Derived.Test.YtoibfkieadhelaaWi
namespace Go.Proofs.Ytoibfkieadhelaa
open Go.RowKit

theorem run_build30 (w : World) : (Instr.build 30 #[]).run Try.prog w = .ok (.agg (mk zp zs)) w := by kernel_rfl
theorem wl_build30 {ops : Array Oper} {rest : List Oper} {o : Oper} {a : Act} {w : World} {Q : Exit → Act → World → Prop} (hgd : o.guard = none) (ho : o.op = .build 30 #[])
    (h : wpList Try.prog ops Q rest (a.put o.dst (.agg (mk zp zs))) w) : wpList Try.prog ops Q (o :: rest) a w := by
  refine wpList_plain hgd fun K hK => ?_
  unfold Oper.wp execOp
  simp only [ho, List.map_toArray, List.map_nil, Sem.run_bind, run_build30 w, Result.andThen_ok, Sem.run_pure]
  exact hK _ _ h

theorem wl_load30g {ops : Array Oper} {rest : List Oper} {o : Oper} {a : Act} {w : World} {Q : Exit → Act → World → Prop} (hw : Region.wanted o (yielded ops a.tmps) = true) (x : Operand) (ho : o.op = .load 30 x)
    (b : Nat) (hx : a.eval x = .pointer (some ⟨b, 0, none⟩)) (p : Nat → Int) (s : Nat → Smp) (hb : w.heap[b]? = some (.cells (mk p s) 30 (0, 0)))
    (h : wpList Try.prog ops Q rest (a.put o.dst (.agg (mk p s))) w) : wpList Try.prog ops Q (o :: rest) a w :=
  wpList_step fun _ hK => by
    rw [if_pos hw]
    exact wp_load_row 30 x ho b hx 30 (mk p s) (0, 0) _ hb Try.underlying30 rfl (by rw [mk_size]; exact size30) (hK _ _ h)

def t7 : Smp := ⟨false, false, false, 0, 0, 0, 0, 0, 0, 7, 0, 0, 0⟩
def rg3 : Rg := ⟨upP zp 3, upS zs 3 t7⟩

set_option maxHeartbeats 2000000 in
theorem shown_any (w : World) : Calls Try.prog 10 #[] w fun e w' => e = .returned (.bool true) ∧ Below w.heap.size w w' := by
  go_enter Try.func10, Try.ntmps10
  go_wp2_with (((with_reducible show wpList _ _ _ (Oper.mk _ (Op.build 30 _) _ _ _ _ :: _) _ _); refine wl_build30 rfl rfl ?_))
  have hput : ∀ W, Hid (Calls Try.prog 12 #[.agg (mk zp zs), .int .i64 3, .agg t7.cells] W fun e w' => e = .returned (.agg (mk rg3.p rg3.s)) ∧ Below W.heap.size W w') :=
    fun W => Lib.hid (put_yes zp zs 3 t7 W (by omega) (by omega) (by decide))
  refine (hput _).out.mono ?_
  clear hput
  rintro e w1 ⟨rfl, hb1⟩
  go_wp2_with (first
    | ((with_reducible show wpList _ _ _ (Oper.mk _ (Op.store 30 _ _) _ _ _ _ :: _) _ _); refine wl_store30n rfl _ _ rfl _ rg3.p rg3.s rfl rfl _ zp zs rfl (by simp) ?_)
    | ((with_reducible show wpList _ _ _ (Oper.mk _ (Op.load 30 _) _ _ _ _ :: _) _ _); refine wl_load30 rfl _ rfl _ rfl rg3.p rg3.s (by exact w1_0 _ _) ?_))
  have hget : ∀ W, Hid (Calls Try.prog 13 #[.agg (mk rg3.p rg3.s), .int .i64 3] W fun e w' => e = .returned (.tuple #[.agg #[.bool false, .int .i64 0, .int .i64 0, .int .i64 0, .int .i64 0, .int .i64 0, .int .i64 0, .bool false, .int .i64 7, .bool false, .int .i64 0, .int .i64 0, .int .i64 0], .bool true]) ∧ Below W.heap.size W w') :=
    fun W => Lib.hid (get_yes rg3.p rg3.s 3 W (by omega) (by omega) (by rw [mk_place _ _ _ (slotN_lt 3)]; rfl))
  refine (hget _).out.mono ?_
  clear hget
  rintro e w2 ⟨rfl, hb2⟩
  have B2 : Hid (w2.heap[w1.heap.size]? = some (.cells (mk rg3.p rg3.s) 30 (0, 0)) ∧ Below w.heap.size w w2 ∧ w1.heap.size < w2.heap.size) :=
    Lib.hid ⟨(hb2.block _ (by simp)).trans (w1_0 _ _), (hb1.alloc hb1.size _).trans (hb2.mono (by have := hb1.size; simp; omega)), by have := hb2.size; simp at this; omega⟩
  clear hb1 hb2
  go_wp2_with (((with_reducible show wpList _ _ _ (Oper.mk _ (Op.load 30 _) _ _ _ none :: _) _ _); refine wl_load30 rfl _ rfl _ rfl rg3.p rg3.s (by exact (heap_alloc_old _ _ B2.out.2.2).trans B2.out.1) ?_))
  have hget : ∀ W, Hid (Calls Try.prog 13 #[.agg (mk rg3.p rg3.s), .int .i64 19] W fun e w' => e = .returned (.tuple #[.agg #[.bool false, .int .i64 0, .int .i64 0, .int .i64 0, .int .i64 0, .int .i64 0, .int .i64 0, .bool false, .int .i64 0, .bool false, .int .i64 0, .int .i64 0, .int .i64 0], .bool false]) ∧ Below W.heap.size W w') :=
    fun W => Lib.hid (get_no rg3.p rg3.s 19 W (by decide))
  refine (hget _).out.mono ?_
  clear hget
  rintro e w3 ⟨rfl, hb3⟩
  have B3 : Hid (w3.heap[w1.heap.size]? = some (.cells (mk rg3.p rg3.s) 30 (0, 0)) ∧ Below w.heap.size w w3 ∧ w1.heap.size < w3.heap.size) :=
    Lib.hid ⟨(hb3.block _ (by have := B2.out.2.2; simp; omega)).trans ((heap_alloc_old _ _ B2.out.2.2).trans B2.out.1), (B2.out.2.1.alloc B2.out.2.1.size _).trans (hb3.mono (by have := B2.out.2.1.size; simp; omega)), by have := hb3.size; have := B2.out.2.2; simp at *; omega⟩
  obtain ⟨hc3, hf3⟩ := bcell hb3
  have hz3 : w2.heap.size < w3.heap.size := by have := hb3.size; simp at this; omega
  go_wp2_with (first
    | ((with_reducible show wpList _ _ _ (Oper.mk _ (Op.load 30 _) _ _ _ (some _) :: _) _ _); refine wl_load30g rfl _ rfl _ rfl rg3.p rg3.s (by exact (heap_alloc_old _ _ B3.out.2.2).trans B3.out.1) ?_))
  clear hc3 hf3
  have hnew : ∀ W, Hid (Calls Try.prog 14 #[.agg (mk rg3.p rg3.s)] W fun e w' => e = .returned (.int .i64 3) ∧ Below W.heap.size W w') :=
    fun W => Lib.hid ((newest_any rg3.p rg3.s W).mono fun e w' h => ⟨by rw [h.1]; rfl, h.2⟩)
  refine (hnew _).out.mono ?_
  clear hnew
  rintro e w4 ⟨rfl, hb4⟩
  have B4 : Hid (w4.heap[w1.heap.size]? = some (.cells (mk rg3.p rg3.s) 30 (0, 0)) ∧ Below w.heap.size w w4 ∧ w1.heap.size < w4.heap.size) :=
    Lib.hid ⟨(hb4.block _ (by have := B3.out.2.2; simp; omega)).trans ((heap_alloc_old _ _ B3.out.2.2).trans B3.out.1), (B3.out.2.1.alloc B3.out.2.1.size _).trans (hb4.mono (by have := B3.out.2.1.size; simp; omega)), by have := hb4.size; have := B3.out.2.2; simp at *; omega⟩
  clear hb3 hb4
  go_wp2_with (first
    | ((with_reducible show wpList _ _ _ (Oper.mk _ (Op.load 30 _) _ _ _ (some _) :: _) _ _); refine wl_load30g rfl _ rfl _ rfl rg3.p rg3.s (by exact B4.out.1) ?_))
  have hr : ∀ W, Hid (Calls Try.prog 17 #[.agg (mk rg3.p rg3.s)] W fun e w' => e = .returned (.bool true) ∧ Below W.heap.size W w') :=
    fun W => Lib.hid ((right_any rg3.p rg3.s W).mono fun e w' h => ⟨by rw [h.1]; rfl, h.2⟩)
  refine (hr _).out.mono ?_
  clear hr
  rintro e w5 ⟨rfl, hb5⟩
  have B5 := Lib.hid (B4.out.2.1.trans (hb5.mono B4.out.2.1.size))
  clear hb5
  go_wp2_with fail
  go_ret
  exact ⟨rfl, B5.out⟩
end Go.Proofs.Ytoibfkieadhelaa
