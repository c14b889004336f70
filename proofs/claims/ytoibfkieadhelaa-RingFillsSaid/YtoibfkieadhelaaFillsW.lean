/-
  RingFills: whatever ring and place, the law returns true and changes nothing that was there. No conditions.
-/
import Derived.Test.YtoibfkieadhelaaWk
namespace Go.Proofs.Ytoibfkieadhelaa
open Go.RowKit

set_option maxHeartbeats 2000000 in
theorem ringFills_walk (p : Nat → Int) (s : Nat → Smp) (k : Int) (w : World) :
    Calls Try.prog 6 #[.agg (mk p s), .int .i64 k] w fun e w' => e = .returned (.bool true) ∧ Below w.heap.size w w' := by
  have I0 := Lib.hid ((Inv.start w).alloc (.cells (mk p s) 30))
  go_enter Try.func6, Try.ntmps6
  go_wp2_with fail
  refine (shown_any _).mono ?_
  rintro e w1 ⟨rfl, hb⟩
  have I1 := Lib.hid (I0.out.call hb)
  clear hb I0
  go_wp2_with ((with_reducible show wpList _ _ _ (Oper.mk _ (Op.load 30 _) _ _ _ none :: _) _ _); refine wl_load30 rfl _ rfl _ rfl p s (by exact I1.out.get _ _ (by simp)) ?_)
  cases hr : rightB p s with
  | false =>
    refine (rright_f hr _).mono ?_
    rintro e w2 ⟨rfl, hb⟩
    have I2 := Lib.hid (I1.out.call hb)
    clear hb I1
    go_wp2_with fail
    go_ret
    exact ⟨rfl, I2.out.1⟩
  | true =>
    refine (rright_t hr _).mono ?_
    rintro e w2 ⟨rfl, hb⟩
    have I2 := Lib.hid (I1.out.call hb)
    clear hb I1
    go_wp2_with ((with_reducible show wpList _ _ _ (Oper.mk _ (Op.load 30 _) _ _ _ none :: _) _ _); refine wl_load30 rfl _ rfl _ rfl p s (by exact I2.out.get _ _ (by simp)) ?_)
    by_cases hk : 1 ≤ k ∧ k ≤ 4611686018427387904 ∧ p (slotN k) = k
    · have c1 := fun W => get_yes p s k W hk.1 hk.2.1 (by rw [mk_place _ _ _ (slotN_lt k), hk.2.2])
      have c2 := fun W => fill_yes p s k W hk.1 hk.2.1 hk.2.2
      clear hk
      generalize s (slotN k) = t at c1 c2
      unfold Smp.cells at c1 c2
      have C1 := fun W => Lib.hid (c1 W)
      have C2 := fun W => Lib.hid (c2 W)
      clear c1 c2
      refine (C1 _).out.mono ?_
      rintro e w3 ⟨rfl, hb⟩
      have I3 := Lib.hid ((I2.out.call hb).alloc (.cells t.cells 27))
      clear hb I2 C1
      unfold Smp.cells at I3
      go_wp2_with ((with_reducible show wpList _ _ _ (Oper.mk _ (Op.load 30 _) _ _ _ none :: _) _ _); refine wl_load30 rfl _ rfl _ rfl p s (by exact I3.out.get _ _ (by simp)) ?_)
      refine (C2 _).out.mono ?_
      rintro e w4 ⟨rfl, hb⟩
      obtain ⟨hc, hf⟩ := bcell hb
      have hz : w3.heap.size < w4.heap.size := by have := hb.size; simp at this; omega
      have I4 := Lib.hid (I3.out.call hb)
      clear hb I3 C2
      go_wp2_with ((with_reducible show wpList _ _ _ (Oper.mk _ (Op.binOp BinOp.eql 27 _ _ _) _ _ _ _ :: _) _ _); refine wl_val rfl (exec_eql27 _ _ _ _ _ rfl t t rfl rfl true (smpEq_self t)) ?_)
      go_ret
      exact ⟨rfl, (I4.out.alloc' _).1⟩
    · have C1 := fun W => Lib.hid (get_no p s k W hk)
      have C2 := fun W => Lib.hid (fill_no p s k W hk)
      clear hk
      unfold Smp.cells at C1 C2
      refine (C1 _).out.mono ?_
      rintro e w3 ⟨rfl, hb⟩
      have I3 := Lib.hid ((I2.out.call hb).alloc (.cells Smp.zero.cells 27))
      clear hb I2 C1
      unfold Smp.cells at I3
      simp only [Smp.zero, Smp.miss] at I3 C2 ⊢
      go_wp2_with ((with_reducible show wpList _ _ _ (Oper.mk _ (Op.load 30 _) _ _ _ none :: _) _ _); refine wl_load30 rfl _ rfl _ rfl p s (by exact I3.out.get _ _ (by simp)) ?_)
      refine (C2 _).out.mono ?_
      rintro e w4 ⟨rfl, hb⟩
      obtain ⟨hc, hf⟩ := bcell hb
      have hz : w3.heap.size < w4.heap.size := by have := hb.size; simp at this; omega
      have I4 := Lib.hid (I3.out.call hb)
      clear hb I3 C2
      go_wp2_with (first
        | ((with_reducible show wpList _ _ _ (Oper.mk _ (Op.binOp BinOp.eql 27 _ _ _) _ _ _ _ :: _) _ _); refine wl_val rfl (exec_eql27 _ _ _ _ _ rfl Smp.miss Smp.miss rfl rfl true (smpEq_self _)) ?_)
        | ((with_reducible show wpList _ _ _ (Oper.mk _ (Op.binOp BinOp.eql 27 _ _ _) _ _ _ _ :: _) _ _); refine wl_val rfl (exec_eql27 _ _ _ _ _ rfl Smp.zero Smp.zero rfl rfl true (smpEq_self _)) ?_))
      go_ret
      exact ⟨rfl, (I4.out.alloc' _).1⟩
end Go.Proofs.Ytoibfkieadhelaa
