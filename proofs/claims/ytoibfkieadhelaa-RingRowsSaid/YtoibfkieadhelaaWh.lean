/-
  Merge: for every two rings.
-/
import Derived.Test.YtoibfkieadhelaaWg
namespace Go.Proofs.Ytoibfkieadhelaa
open Go.RowKit

/-- A ring, as its places and its samples. -/
structure Rg where
  p : Nat → Int
  s : Nat → Smp
def putR (r : Rg) (k : Int) (t : Smp) : Rg := if 1 ≤ k ∧ k ≤ 4611686018427387904 ∧ r.p (slotN k) ≤ k then ⟨upP r.p k, upS r.s k t⟩ else r
def mkR (r : Rg) : Array Value := mk r.p r.s

theorem put_any (r : Rg) (k : Int) (t : Smp) (w : World) :
    Calls Try.prog 12 #[.agg (mk r.p r.s), .int .i64 k, .agg t.cells] w fun e w' => e = .returned (.agg (mk (putR r k t).p (putR r k t).s)) ∧ Below w.heap.size w w' := by
  unfold putR
  by_cases h : 1 ≤ k ∧ k ≤ 4611686018427387904 ∧ r.p (slotN k) ≤ k
  · rw [if_pos h]
    exact put_yes r.p r.s k t w h.1 h.2.1 h.2.2
  · rw [if_neg h]
    exact put_no r.p r.s k t w h

def mergeTo (a b : Rg) : Nat → Rg
  | 0 => a
  | n + 1 => if b.p n = (mergeTo a b n).p n then mergeTo a b n else putR (mergeTo a b n) (b.p n) (b.s n)

theorem wpStill_value {P : Program} {ops : Array Oper} {w : World} {Q : Act → Prop} {a : Act} {o : Oper} {rest : List Oper} {v : Value} (hg : o.guard = none)
    (hrun : (execOp a.eval o).run P w = .ok (.value v) w) (h : wpStill P ops w Q rest (a.put o.dst v)) : wpStill P ops w Q (o :: rest) a := by
  refine wpStill_step (fun K hK => ?_)
  rw [if_pos (by simp [Region.wanted, hg])]
  unfold Oper.still
  rw [hrun]
  exact ⟨rfl, hK _ h⟩
theorem exec_load30 (ρ : Operand → Value) (o : Oper) (w : World) (x : Operand) (ho : o.op = .load 30 x) (b : Nat) (hx : ρ x = .pointer (some ⟨b, 0, none⟩)) (p : Nat → Int) (s : Nat → Smp) (hb : w.heap[b]? = some (.cells (mk p s) 30 (0, 0))) :
    (execOp ρ o).run Try.prog w = .ok (.value (.agg (mk p s))) w := by
  unfold execOp
  simp only [ho, hx, Instr.loadAt, Instr.sureAddr, Sem.run_bind, Sem.run_pure, Result.andThen_ok, run_loadVar_row w b 30 30 (mk p s) (0, 0) _ hb Try.underlying30 rfl (by rw [mk_size]; exact size30)]

theorem row13 {w : World} {g : Nat} {p : Nat → Int} {s : Nat → Smp} {t : TypeId} {fr : Nat × Nat} (hb : w.heap[g]? = some (.cells (mk p s) t fr)) (i : Nat) (h : i < 16) :
    w.cell? ⟨g, 16 + i * 13, none⟩ = some (.bool (s i).m) ∧ w.cell? ⟨g, 16 + i * 13 + 1, none⟩ = some (.int .i64 (s i).g0) ∧ w.cell? ⟨g, 16 + i * 13 + 2, none⟩ = some (.int .i64 (s i).g1) ∧ w.cell? ⟨g, 16 + i * 13 + 3, none⟩ = some (.int .i64 (s i).g2) ∧ w.cell? ⟨g, 16 + i * 13 + 4, none⟩ = some (.int .i64 (s i).a0) ∧ w.cell? ⟨g, 16 + i * 13 + 5, none⟩ = some (.int .i64 (s i).a1) ∧ w.cell? ⟨g, 16 + i * 13 + 6, none⟩ = some (.int .i64 (s i).a2) ∧ w.cell? ⟨g, 16 + i * 13 + 7, none⟩ = some (.bool (s i).hb) ∧ w.cell? ⟨g, 16 + i * 13 + 8, none⟩ = some (.int .i64 (s i).b) ∧ w.cell? ⟨g, 16 + i * 13 + 9, none⟩ = some (.bool (s i).hg) ∧ w.cell? ⟨g, 16 + i * 13 + 10, none⟩ = some (.int .i64 (s i).n0) ∧ w.cell? ⟨g, 16 + i * 13 + 11, none⟩ = some (.int .i64 (s i).n1) ∧ w.cell? ⟨g, 16 + i * 13 + 12, none⟩ = some (.int .i64 (s i).n2) := by
  have c := fun j => cell_of_row w g j (mk p s) t fr hb
  obtain ⟨c0, c1, c2, c3, c4, c5, c6, c7, c8, c9, c10, c11, c12⟩ := mk13 p s i h
  exact ⟨by rw [c, c0], by rw [c, c1], by rw [c, c2], by rw [c, c3], by rw [c, c4], by rw [c, c5], by rw [c, c6], by rw [c, c7], by rw [c, c8], by rw [c, c9], by rw [c, c10], by rw [c, c11], by rw [c, c12]⟩

theorem below_drewN {B : Nat} {a w : World} (h : Below B a w) (n : Nat) : Below B a (w.drewN n) := ⟨h.os, h.tape, h.output, h.size, h.block⟩

set_option maxHeartbeats 2000000 in
theorem merge_any (a b : Rg) (w : World) :
    Calls Try.prog 16 #[.agg (mk a.p a.s), .agg (mk b.p b.s)] w fun e w' => e = .returned (.agg (mk (mergeTo a b 16).p (mergeTo a b 16).s)) ∧ Below w.heap.size w w' := by
  go_enter Try.func16, Try.ntmps16
  go_wp2
  go_loopw [6, 5] (fun i _ wr => ∃ n : Nat, n ≤ 16 ∧ i = .int .i64 n ∧ Hid (wr.heap[w.heap.size]? = some (.cells (mk (mergeTo a b n).p (mergeTo a b n).s) 30 (0, 0)) ∧ wr.heap[w.heap.size + 1]? = some (.cells (mk b.p b.s) 30 (0, 0)) ∧ wr.heap[w.heap.size + 1 + 1]? = some (.cells (mk zp zs) 30 (0, 0)) ∧ Below w.heap.size w wr)) (fun i _ _ => 16 - (intOf i).toNat)
  case atStart => exact ⟨0, by omega, rfl, Lib.hid ⟨w3_0 _ _ _ _, w3_1 _ _ _ _, w3_2 _ _ _ _, (((Below.refl _ _).alloc (Nat.le_refl _) _).alloc (by simp) _).alloc (by simp; omega) _⟩⟩
  case round =>
    obtain ⟨n, hn, rfl, HW⟩ := hrel
    have hms : mergeTo a b (n + 1) = if b.p n = (mergeTo a b n).p n then mergeTo a b n else putR (mergeTo a b n) (b.p n) (b.s n) := rfl
    generalize hr : mergeTo a b n = r at HW hms
    have HR := Lib.hid hr
    clear hr
    by_cases hlt : n < 16
    · have hA : wr.cell? ⟨w.heap.size, n, none⟩ = some (.int .i64 (r.p n)) := by rw [cell_of_row _ _ _ _ _ _ HW.out.1, mk_place _ _ _ hlt]
      have hB : wr.cell? ⟨w.heap.size + 1, n, none⟩ = some (.int .i64 (b.p n)) := by rw [cell_of_row _ _ _ _ _ _ HW.out.2.1, mk_place _ _ _ hlt]
      by_cases he : b.p n = r.p n
      · have hd : (b.p n != r.p n) = false := by rw [bne_eq_false_iff_eq]; exact he
        rw [if_pos he] at hms
        have HM := Lib.hid hms
        clear hms he
        go_wp2
        go_quiet (fail)
        go_wp2
        go_roundw
        case rel => exact ⟨n + 1, by omega, by go_num, Lib.hid (by rw [HM.out]; exact ⟨HW.out.1, HW.out.2.1, HW.out.2.2.1, below_drewN HW.out.2.2.2 _⟩)⟩
        case measure => simp [intOf]; omega
      · have hd : (b.p n != r.p n) = true := by rw [bne_iff_ne]; exact he
        rw [if_neg he] at hms
        have HM := Lib.hid hms
        clear hms he
        go_wp2
        go_quiet (fail)
        go_wp2
        have H2 : Hid ((wr.drewN nq).drew.heap[w.heap.size]? = some (.cells (mk r.p r.s) 30 (0, 0)) ∧ (wr.drewN nq).drew.heap[w.heap.size + 1]? = some (.cells (mk b.p b.s) 30 (0, 0)) ∧ (wr.drewN nq).drew.heap[w.heap.size + 1 + 1]? = some (.cells (mk zp zs) 30 (0, 0)) ∧ Below w.heap.size w (wr.drewN nq).drew) := Lib.hid ⟨HW.out.1, HW.out.2.1, HW.out.2.2.1, (below_drewN HW.out.2.2.2 _).drew⟩
        clear hA hB HW
        generalize wr.drewN nq = w1 at H2 ⊢
        refine wp_region_still_tail 9 (by kernel_rfl) (by kernel_rfl) ?_
        simp only [List.take_succ_cons, List.take_zero, List.drop_succ_cons, List.drop_zero, World.drew_eq]
        generalize w1.drew = w2 at H2 ⊢
        have hB : w2.cell? ⟨w.heap.size + 1, n, none⟩ = some (.int .i64 (b.p n)) := by rw [cell_of_row _ _ _ _ _ _ H2.out.2.1, mk_place _ _ _ hlt]
        obtain ⟨c0, c1, c2, c3, c4, c5, c6, c7, c8, c9, c10, c11, c12⟩ := row13 H2.out.2.1 n hlt
        refine wpStill_value rfl (exec_load30 _ _ _ _ rfl _ rfl r.p r.s (by exact H2.out.1)) ?_
        repeat still_step
        refine wpStill_nil ?_
        clear hB c0 c1 c2 c3 c4 c5 c6 c7 c8 c9 c10 c11 c12
        go_wp2_with fail
        refine (put_any r (b.p n) (b.s n) _).mono ?_
        rintro e w3 ⟨rfl, hb3⟩
        have hz := H2.out.2.2.2.size
        have hsz : w.heap.size + 1 + 1 < w2.heap.size := by
          have := H2.out.2.2.1
          exact (Array.getElem?_eq_some_iff.1 this).1
        have H3 : Hid (w3.heap[w.heap.size]? = some (.cells (mk r.p r.s) 30 (0, 0)) ∧ w3.heap[w.heap.size + 1]? = some (.cells (mk b.p b.s) 30 (0, 0)) ∧ w3.heap[w.heap.size + 1 + 1]? = some (.cells (mk zp zs) 30 (0, 0)) ∧ Below w.heap.size w w3) :=
          Lib.hid ⟨(hb3.block _ (by omega)).trans H2.out.1, (hb3.block _ (by omega)).trans H2.out.2.1, (hb3.block _ (by omega)).trans H2.out.2.2.1, H2.out.2.2.2.trans (hb3.mono hz)⟩
        rw [← HM.out]
        clear H2 hb3 hz hsz
        generalize hr2 : mergeTo a b (n + 1) = r2 at HM ⊢
        have HR2 := Lib.hid hr2
        clear hr2
        go_wp2_with (((with_reducible show wpList _ _ _ (Oper.mk _ (Op.store 30 _ _) _ _ _ _ :: _) _ _); refine wl_store30 rfl _ _ rfl _ r2.p r2.s rfl rfl r.p r.s (by exact H3.out.1) ?_))
        go_roundw
        case rel => exact ⟨n + 1, by omega, by go_num, Lib.hid (by rw [HR2.out]; exact ⟨setRow_heap _ _ _ _ _ _ H3.out.1, by rw [setRow_other _ _ _ _ (by omega)]; exact H3.out.2.1, by rw [setRow_other _ _ _ _ (by omega)]; exact H3.out.2.2.1, below_setRow H3.out.2.2.2 (Nat.le_refl _) _⟩)⟩
        case measure => simp [intOf]; omega
    · obtain rfl : n = 16 := by omega
      clear hms
      go_wp2_with (first
        | ((with_reducible show wpList _ _ _ (Oper.mk _ (Op.load 30 _) _ _ _ _ :: _) _ _); refine wl_load30 rfl _ rfl _ rfl r.p r.s (by exact HW.out.1) ?_)
        | ((with_reducible show wpList _ _ _ (Oper.mk _ (Op.store 30 _ _) _ _ _ _ :: _) _ _); refine wl_store30 rfl _ _ rfl _ r.p r.s rfl rfl zp zs (by exact HW.out.2.2.1) ?_))
      refine bodyPost_ret (v := .agg (mk r.p r.s)) ?_ rfl ⟨by rw [← HR.out], ?_⟩
      · refine results30 Try.results16 _ _ (w.heap.size + 1 + 1) _ _ rfl ?_
        exact setRow_heap _ _ _ _ _ _ HW.out.2.2.1
      exact below_setRow HW.out.2.2.2 (by omega) _
end Go.Proofs.Ytoibfkieadhelaa
