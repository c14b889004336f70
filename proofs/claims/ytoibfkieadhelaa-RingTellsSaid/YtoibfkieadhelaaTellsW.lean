/-
  RingTells: whatever two rings, place and sample, the law returns true and changes nothing that was there. No conditions.
-/
import Derived.Test.YtoibfkieadhelaaOpenIn
import Derived.Deep.Cut
namespace Go.Proofs.Ytoibfkieadhelaa
open Go.RowKit Go.BigFrame

/-! ### The program's answers and the reference's are the same -/
/-- The reference's Put: where the place may be. -/
def rputR (r : Rg) (k : Int) (t : Smp) : Rg := putR r k t
theorem rput_any (r : Rg) (k : Int) (t : Smp) (w : World) :
    Calls Try.prog 19 #[.agg (mk r.p r.s), .int .i64 k, .agg t.cells] w fun e w' => e = .returned (.agg (mk (putR r k t).p (putR r k t).s)) ∧ Below w.heap.size w w' := by
  unfold putR
  by_cases h : 1 ≤ k ∧ k ≤ 4611686018427387904 ∧ r.p (slotN k) ≤ k
  · rw [if_pos h]
    exact rput_yes r.p r.s k t w h.1 h.2.1 h.2.2
  · rw [if_neg h]
    by_cases h1 : 1 ≤ k ∧ k ≤ 4611686018427387904
    · exact rput_low r.p r.s k t w h1.1 h1.2 (by omega)
    · exact rput_out r.p r.s k t w (by omega)

/-- Get's answer. -/
def gB (p : Nat → Int) (k : Int) : Bool := decide (1 ≤ k ∧ k ≤ 4611686018427387904 ∧ p (slotN k) = k)
def gS (p : Nat → Int) (s : Nat → Smp) (k : Int) : Smp := if 1 ≤ k ∧ k ≤ 4611686018427387904 ∧ p (slotN k) = k then s (slotN k) else Smp.zero
def gF (p : Nat → Int) (s : Nat → Smp) (k : Int) : Smp := if 1 ≤ k ∧ k ≤ 4611686018427387904 ∧ p (slotN k) = k then s (slotN k) else Smp.miss
theorem get_any (p : Nat → Int) (s : Nat → Smp) (k : Int) (w : World) :
    Calls Try.prog 13 #[.agg (mk p s), .int .i64 k] w fun e w' => e = .returned (.tuple #[.agg (gS p s k).cells, .bool (gB p k)]) ∧ Below w.heap.size w w' := by
  unfold gS gB
  by_cases h : 1 ≤ k ∧ k ≤ 4611686018427387904 ∧ p (slotN k) = k
  · rw [if_pos h, decide_eq_true h]
    exact get_yes p s k w h.1 h.2.1 (by rw [mk_place _ _ _ (slotN_lt k), h.2.2])
  · rw [if_neg h, decide_eq_false h]
    exact get_no p s k w h
theorem fill_any (p : Nat → Int) (s : Nat → Smp) (k : Int) (w : World) :
    Calls Try.prog 15 #[.agg (mk p s), .int .i64 k] w fun e w' => e = .returned (.agg (gF p s k).cells) ∧ Below w.heap.size w w' := by
  unfold gF
  by_cases h : 1 ≤ k ∧ k ≤ 4611686018427387904 ∧ p (slotN k) = k
  · rw [if_pos h]; exact fill_yes p s k w h.1 h.2.1 h.2.2
  · rw [if_neg h]; exact fill_no p s k w h
theorem rfind_yes {p : Nat → Int} {s : Nat → Smp} {k : Int} (hr : rightB p s = true) (h : 1 ≤ k ∧ k ≤ 4611686018427387904 ∧ p (slotN k) = k) : ∀ j, j < slotN k → p j ≠ k := by
  intro j hj e
  have hl := slotN_lt k
  have := (okAt_pos (rightB_true hr j (by omega)) (by omega)).2.2
  rw [e] at this
  omega
theorem rfind_no {p : Nat → Int} {s : Nat → Smp} {k : Int} (hr : rightB p s = true) (h : ¬ (1 ≤ k ∧ k ≤ 4611686018427387904 ∧ p (slotN k) = k)) : k ≤ 0 ∨ ∀ j, j < 16 → p j ≠ k := by
  by_cases h0 : k ≤ 0
  · exact Or.inl h0
  · refine Or.inr (fun j hj e => h ?_)
    obtain ⟨h1, h2, h3⟩ := okAt_pos (rightB_true hr j hj) (by omega)
    rw [e] at h1 h2 h3
    exact ⟨h1, h2, by rw [h3, e]⟩
theorem rget_any (p : Nat → Int) (s : Nat → Smp) (k : Int) (hr : rightB p s = true) (w : World) :
    Calls Try.prog 18 #[.agg (mk p s), .int .i64 k] w fun e w' => e = .returned (.tuple #[.agg (gS p s k).cells, .bool (gB p k)]) ∧ Below w.heap.size w w' := by
  unfold gS gB
  by_cases h : 1 ≤ k ∧ k ≤ 4611686018427387904 ∧ p (slotN k) = k
  · rw [if_pos h, decide_eq_true h]
    exact rget_yes p s k (slotN k) w (by omega) (slotN_lt k) h.2.2 (rfind_yes hr h)
  · rw [if_neg h, decide_eq_false h]
    exact rget_no p s k w (rfind_no hr h)
theorem rfill_any (p : Nat → Int) (s : Nat → Smp) (k : Int) (hr : rightB p s = true) (w : World) :
    Calls Try.prog 22 #[.agg (mk p s), .int .i64 k] w fun e w' => e = .returned (.agg (gF p s k).cells) ∧ Below w.heap.size w w' := by
  unfold gF
  by_cases h : 1 ≤ k ∧ k ≤ 4611686018427387904 ∧ p (slotN k) = k
  · rw [if_pos h]; exact rfill_yes p s k w (slotN k) (by omega) (slotN_lt k) h.2.2 (rfind_yes hr h)
  · rw [if_neg h]; exact rfill_no p s k w (rfind_no hr h)
theorem mx_same (p : Nat → Int) (s : Nat → Smp) (hr : rightB p s = true) : mxTo p 16 = rmxTo p 16 := by
  have key : ∀ n, n ≤ 16 → 1 ≤ n → mxTo p n = rmxTo p n := by
    intro n
    induction n with
    | zero => intro _ h; omega
    | succ n ih =>
      intro hn _
      show (if mxTo p n < p n then p n else mxTo p n) = if rmxTo p n < p n then p n else rmxTo p n
      by_cases h0 : n = 0
      · subst h0
        have := okAt_ge (rightB_true hr 0 (by omega))
        show (if p 0 < p 0 then p 0 else p 0) = if 0 < p 0 then p 0 else 0
        split <;> split <;> omega
      · rw [ih (by omega) (by omega)]
  exact key 16 (Nat.le_refl _) (by omega)
theorem exec_eq2 (ρ : Operand → Value) (o : Oper) (w : World) (x y : Operand) (ho : o.op = .binOp .eql 2 x y 2) (a b : Int) (hx : ρ x = .int .i64 a) (hy : ρ y = .int .i64 b) (h : a = b) :
    (execOp ρ o).run Try.prog w = .ok (.value (.bool true)) w := by
  subst h
  unfold execOp
  simp only [ho, hx, hy]
  go_simp
theorem exec_eq4 (ρ : Operand → Value) (o : Oper) (w : World) (x y : Operand) (ho : o.op = .binOp .eql 4 x y 4) (a : Bool) (hx : ρ x = .bool a) (hy : ρ y = .bool a) :
    (execOp ρ o).run Try.prog w = .ok (.value (.bool true)) w := by
  unfold execOp
  simp only [ho, hx, hy]
  go_simp

set_option maxHeartbeats 4000000 in
theorem ringTells_main (C : Array Value) (p : Nat → Int) (s : Nat → Smp) (q : Nat → Int) (r : Nat → Smp) (k : Int) (S : Smp) (w : World) (h : IsTells C p s q r k S) (ha : rightB p s = true) (hb : rightB q r = true) :
    Calls Try.prog 9 #[.agg C] w fun e w' => e = .returned (.bool true) ∧ Below w.heap.size w w' := by
  have HA := Lib.hid ha
  have HB := Lib.hid hb
  clear ha hb
  have hk := h.k
  have HCa := Lib.hid h.a
  have HCb := Lib.hid h.b
  have s0 := h.s 0 (by omega)
  have s1 := h.s 1 (by omega)
  have s2 := h.s 2 (by omega)
  have s3 := h.s 3 (by omega)
  have s4 := h.s 4 (by omega)
  have s5 := h.s 5 (by omega)
  have s6 := h.s 6 (by omega)
  have s7 := h.s 7 (by omega)
  have s8 := h.s 8 (by omega)
  have s9 := h.s 9 (by omega)
  have s10 := h.s 10 (by omega)
  have s11 := h.s 11 (by omega)
  have s12 := h.s 12 (by omega)
  simp only [Smp.cells, Nat.reduceAdd] at s0 s1 s2 s3 s4 s5 s6 s7 s8 s9 s10 s11 s12
  clear h
  go_enter Try.func9, Try.ntmps9
  go_wp2_with (first
    | ((with_reducible show wpList _ _ _ (Oper.mk _ (Op.load 30 _) _ _ _ none :: _) _ _); refine wl_load30m rfl _ rfl _ 0 rfl p s HCa.out (by exact w1_0 _ _) ?_)
    | ((with_reducible show wpList _ _ _ (Oper.mk _ (Op.load 30 _) _ _ _ none :: _) _ _); refine wl_load30m rfl _ rfl _ 224 rfl q r HCb.out (by exact w2_0 _ _ _) ?_)
    | ((with_reducible show wpList _ _ _ (Oper.mk _ (Op.store 30 _ _) _ _ _ _ :: _) _ _); refine wl_store30n rfl _ _ rfl _ p s rfl rfl _ zp zs rfl (by simp) ?_)
    | ((with_reducible show wpList _ _ _ (Oper.mk _ (Op.store 30 _ _) _ _ _ _ :: _) _ _); refine wl_store30n rfl _ _ rfl _ q r rfl rfl _ zp zs rfl (by simp) ?_))
  have I0 := Lib.hid ((((Inv.start w).alloc' (.cells C 49)).alloc (.cells (mk p s) 30)).alloc (.cells (mk q r) 30) |>.alloc (.cells S.cells 27))
  clear hk s0 s1 s2 s3 s4 s5 s6 s7 s8 s9 s10 s11 s12
  refine (shown_any _).mono ?_
  rintro e w1 ⟨rfl, hb⟩
  have I1 := Lib.hid (I0.out.call hb)
  clear hb I0
  go_wp2_with ((with_reducible show wpList _ _ _ (Oper.mk _ (Op.load 30 _) _ _ _ none :: _) _ _); refine wl_load30 rfl _ rfl _ rfl p s (by exact I1.out.get _ _ (by simp)) ?_)
  refine (rright_t HA.out _).mono ?_
  rintro e w2 ⟨rfl, hb⟩
  have I2 := Lib.hid (I1.out.call hb)
  clear hb I1
  go_wp2_with ((with_reducible show wpList _ _ _ (Oper.mk _ (Op.load 30 _) _ _ _ none :: _) _ _); refine wl_load30 rfl _ rfl _ rfl p s (by exact I2.out.get _ _ (by simp)) ?_)
  have HQ : ∀ W, Hid (Calls Try.prog 17 #[.agg (mk p s)] W fun e w' => e = .returned (.bool true) ∧ Below W.heap.size W w') := fun W => Lib.hid (by have := right_any p s W; rwa [HA.out] at this)
  refine (HQ _).out.mono ?_
  rintro e w3 ⟨rfl, hb⟩
  have I3 := Lib.hid (I2.out.call hb)
  clear hb I2 HQ
  go_wp2_with ((with_reducible show wpList _ _ _ (Oper.mk _ (Op.load 30 _) _ _ _ (some _) :: _) _ _); refine wl_load30g rfl _ rfl _ rfl q r (by exact I3.out.get _ _ (by simp)) ?_)
  refine (rright_t HB.out _).mono ?_
  rintro e w4 ⟨rfl, hb⟩
  have I4 := Lib.hid (I3.out.call hb)
  clear hb I3
  have C13 := fun W => Lib.hid (get_any p s k W)
  have D13 := fun W => Lib.hid (rget_any p s k HA.out W)
  have E15 := fun W => Lib.hid (fill_any p s k W)
  have F22 := fun W => Lib.hid (rfill_any p s k HA.out W)
  generalize gS p s k = gs at *
  generalize gB p k = gb at *
  generalize gF p s k = gf at *
  unfold Smp.cells at C13 D13
  go_wp2_with ((with_reducible show wpList _ _ _ (Oper.mk _ (Op.load 30 _) _ _ _ none :: _) _ _); refine wl_load30 rfl _ rfl _ rfl p s (by exact I4.out.get _ _ (by simp)) ?_)
  refine (C13 _).out.mono ?_
  rintro e w5 ⟨rfl, hb⟩
  have I5 := Lib.hid ((I4.out.call hb).alloc (.cells gs.cells 27))
  clear hb I4 C13
  unfold Smp.cells at I5
  go_wp2_with ((with_reducible show wpList _ _ _ (Oper.mk _ (Op.load 30 _) _ _ _ none :: _) _ _); refine wl_load30 rfl _ rfl _ rfl p s (by exact I5.out.get (w.heap.size + 1) (.cells (mk p s) 30) (by simp)) ?_)
  refine (D13 _).out.mono ?_
  rintro e w6 ⟨rfl, hb⟩
  have I6 := Lib.hid ((I5.out.call hb).alloc (.cells gs.cells 27))
  clear hb I5 D13
  unfold Smp.cells at I6
  go_wp2_with fail
  generalize w6.alloc _ = W0 at *
  generalize w6.heap.size = n6 at *
  generalize w5.heap.size = n5 at *
  have I7 : Inv w.heap.size w [(n6, .cells gs.cells 27), (n5, .cells gs.cells 27), (w.heap.size + 1 + 1 + 1, .cells S.cells 27), (w.heap.size + 1 + 1, .cells (mk q r) 30), (w.heap.size + 1, .cells (mk p s) 30)] W0 :=
    I6.out.sub (by intro x hx; simp only [World.size_alloc, List.mem_cons, List.mem_nil_iff, or_false] at hx ⊢; rcases hx with rfl | rfl | rfl | rfl | rfl <;> simp [Smp.cells])
  clear I6
  refine wp_region_quiet_C (fun W => Inv w.heap.size w [(n6, .cells gs.cells 27), (n5, .cells gs.cells 27), (w.heap.size + 1 + 1 + 1, .cells S.cells 27), (w.heap.size + 1 + 1, .cells (mk q r) 30), (w.heap.size + 1, .cells (mk p s) 30)] W) (by kernel_rfl) (by kernel_rfl) I7.drew ?_
  go_big_quiet_want
  go_big_quiet_op
  go_big_quiet_on
  go_big_quiet_want
  go_big_quiet_op
  go_big_quiet_on
  go_big_quiet_want
  refine quiet_val (fun W hW => exec_load30 _ _ W _ rfl (w.heap.size + 1) rfl p s (hW.get (w.heap.size + 1) (.cells (mk p s) 30) (by simp))) ?_
  simp only [Act.put, List.setIfInBounds_toArray, List.set_cons_succ, List.set_cons_zero]
  go_big_quiet_on
  go_big_quiet_want
  go_big_quiet_op
  go_big_quiet_on
  go_big_quiet_want
  refine quiet_val (fun W hW => exec_load27 _ _ W _ rfl (w.heap.size + 1 + 1 + 1) rfl S (hW.get (w.heap.size + 1 + 1 + 1) (.cells (S).cells 27) (by simp))) ?_
  simp only [Act.put, List.setIfInBounds_toArray, List.set_cons_succ, List.set_cons_zero]
  go_big_quiet_on
  go_big_quiet_want
  refine quiet_call (fun W hW => exec_call12 _ _ W _ _ _ _ rfl rfl (.agg (mk p s)) (.int .i64 k) (.agg S.cells) rfl rfl rfl) (fun W hW => (put_any (Rg.mk p s) k S W).mono (fun e w1 h => ⟨h.1, hW.call h.2⟩)) ?_
  simp only [Act.put, List.setIfInBounds_toArray, List.set_cons_succ, List.set_cons_zero]
  go_big_quiet_on
  go_big_quiet_want
  refine quiet_val (fun W hW => exec_load30 _ _ W _ rfl (w.heap.size + 1) rfl p s (hW.get (w.heap.size + 1) (.cells (mk p s) 30) (by simp))) ?_
  simp only [Act.put, List.setIfInBounds_toArray, List.set_cons_succ, List.set_cons_zero]
  go_big_quiet_on
  go_big_quiet_want
  go_big_quiet_op
  go_big_quiet_on
  go_big_quiet_want
  refine quiet_val (fun W hW => exec_load27 _ _ W _ rfl (w.heap.size + 1 + 1 + 1) rfl S (hW.get (w.heap.size + 1 + 1 + 1) (.cells (S).cells 27) (by simp))) ?_
  simp only [Act.put, List.setIfInBounds_toArray, List.set_cons_succ, List.set_cons_zero]
  go_big_quiet_on
  go_big_quiet_want
  refine quiet_call (fun W hW => exec_call19 _ _ W _ _ _ _ rfl rfl (.agg (mk p s)) (.int .i64 k) (.agg S.cells) rfl rfl rfl) (fun W hW => (rput_any (Rg.mk p s) k S W).mono (fun e w1 h => ⟨h.1, hW.call h.2⟩)) ?_
  simp only [Act.put, List.setIfInBounds_toArray, List.set_cons_succ, List.set_cons_zero]
  go_big_quiet_on
  go_big_quiet_want
  refine quiet_val (fun W hW => exec_eql30 _ _ W _ _ rfl (putR (Rg.mk p s) k S).p (putR (Rg.mk p s) k S).s (putR (Rg.mk p s) k S).p (putR (Rg.mk p s) k S).s rfl rfl true (sameRing_self _ _)) ?_
  simp only [Act.put, List.setIfInBounds_toArray, List.set_cons_succ, List.set_cons_zero]
  go_big_quiet_on
  go_big_quiet_want
  refine quiet_val (v := .bool true) (fun W hW => exec_pickT _ _ W _ _ _ rfl rfl _ rfl) ?_
  simp only [Act.put, List.setIfInBounds_toArray, List.set_cons_succ, List.set_cons_zero]
  go_big_quiet_on
  go_big_quiet_want
  go_big_quiet_op
  go_big_quiet_on
  go_big_quiet_want
  refine quiet_val (fun W hW => exec_load27 _ _ W _ rfl n5 rfl gs (hW.get n5 (.cells (gs).cells 27) (by simp))) ?_
  simp only [Act.put, List.setIfInBounds_toArray, List.set_cons_succ, List.set_cons_zero]
  go_big_quiet_on
  go_big_quiet_want
  refine quiet_val (fun W hW => exec_load27 _ _ W _ rfl n6 rfl gs (hW.get n6 (.cells (gs).cells 27) (by simp))) ?_
  simp only [Act.put, List.setIfInBounds_toArray, List.set_cons_succ, List.set_cons_zero]
  go_big_quiet_on
  go_big_quiet_want
  refine quiet_val (fun W hW => exec_eql27 _ _ W _ _ rfl gs gs rfl rfl true (smpEq_self gs)) ?_
  simp only [Act.put, List.setIfInBounds_toArray, List.set_cons_succ, List.set_cons_zero]
  go_big_quiet_on
  go_big_quiet_want
  refine quiet_val (v := .bool true) (fun W hW => exec_pickT _ _ W _ _ _ rfl rfl _ rfl) ?_
  simp only [Act.put, List.setIfInBounds_toArray, List.set_cons_succ, List.set_cons_zero]
  go_big_quiet_on
  go_big_quiet_want
  go_big_quiet_op
  go_big_quiet_on
  go_big_quiet_want
  go_big_quiet_op
  go_big_quiet_on
  go_big_quiet_want
  go_big_quiet_op
  go_big_quiet_on
  go_big_quiet_want
  refine quiet_val (fun W hW => exec_eq4 _ _ W _ _ rfl gb rfl rfl) ?_
  simp only [Act.put, List.setIfInBounds_toArray, List.set_cons_succ, List.set_cons_zero]
  go_big_quiet_on
  go_big_quiet_want
  refine quiet_val (v := .bool true) (fun W hW => exec_pickT _ _ W _ _ _ rfl rfl _ rfl) ?_
  simp only [Act.put, List.setIfInBounds_toArray, List.set_cons_succ, List.set_cons_zero]
  go_big_quiet_on
  go_big_quiet_want
  go_big_quiet_op
  go_big_quiet_on
  go_big_quiet_want
  refine quiet_val (fun W hW => exec_load30 _ _ W _ rfl (w.heap.size + 1) rfl p s (hW.get (w.heap.size + 1) (.cells (mk p s) 30) (by simp))) ?_
  simp only [Act.put, List.setIfInBounds_toArray, List.set_cons_succ, List.set_cons_zero]
  go_big_quiet_on
  go_big_quiet_want
  refine quiet_call (fun W hW => exec_call14 _ _ W _ _ rfl rfl (.agg (mk p s)) rfl) (fun W hW => (newest_any p s W).mono (fun e w1 h => ⟨h.1, hW.call h.2⟩)) ?_
  simp only [Act.put, List.setIfInBounds_toArray, List.set_cons_succ, List.set_cons_zero]
  go_big_quiet_on
  go_big_quiet_want
  refine quiet_val (fun W hW => exec_load30 _ _ W _ rfl (w.heap.size + 1) rfl p s (hW.get (w.heap.size + 1) (.cells (mk p s) 30) (by simp))) ?_
  simp only [Act.put, List.setIfInBounds_toArray, List.set_cons_succ, List.set_cons_zero]
  go_big_quiet_on
  go_big_quiet_want
  refine quiet_call (fun W hW => exec_call20 _ _ W _ _ rfl rfl (.agg (mk p s)) rfl) (fun W hW => (rnewest_any p s W).mono (fun e w1 h => ⟨h.1, hW.call h.2⟩)) ?_
  simp only [Act.put, List.setIfInBounds_toArray, List.set_cons_succ, List.set_cons_zero]
  go_big_quiet_on
  go_big_quiet_want
  refine quiet_val (fun W hW => exec_eq2 _ _ W _ _ rfl (mxTo p 16) (rmxTo p 16) rfl rfl (mx_same p s HA.out)) ?_
  simp only [Act.put, List.setIfInBounds_toArray, List.set_cons_succ, List.set_cons_zero]
  go_big_quiet_on
  go_big_quiet_want
  refine quiet_val (v := .bool true) (fun W hW => exec_pickT _ _ W _ _ _ rfl rfl _ rfl) ?_
  simp only [Act.put, List.setIfInBounds_toArray, List.set_cons_succ, List.set_cons_zero]
  go_big_quiet_on
  go_big_quiet_want
  go_big_quiet_op
  go_big_quiet_on
  go_big_quiet_want
  refine quiet_val (fun W hW => exec_load30 _ _ W _ rfl (w.heap.size + 1) rfl p s (hW.get (w.heap.size + 1) (.cells (mk p s) 30) (by simp))) ?_
  simp only [Act.put, List.setIfInBounds_toArray, List.set_cons_succ, List.set_cons_zero]
  go_big_quiet_on
  go_big_quiet_want
  refine quiet_val (fun W hW => exec_load30 _ _ W _ rfl (w.heap.size + 1 + 1) rfl q r (hW.get (w.heap.size + 1 + 1) (.cells (mk q r) 30) (by simp))) ?_
  simp only [Act.put, List.setIfInBounds_toArray, List.set_cons_succ, List.set_cons_zero]
  go_big_quiet_on
  go_big_quiet_want
  refine quiet_call (fun W hW => exec_call16 _ _ W _ _ _ rfl rfl (.agg (mk p s)) (.agg (mk q r)) rfl rfl) (fun W hW => (merge_right (Rg.mk p s) (Rg.mk q r) HA.out HB.out W).mono (fun e w1 h => ⟨h.1, hW.call h.2⟩)) ?_
  simp only [Act.put, List.setIfInBounds_toArray, List.set_cons_succ, List.set_cons_zero]
  go_big_quiet_on
  go_big_quiet_want
  refine quiet_val (fun W hW => exec_load30 _ _ W _ rfl (w.heap.size + 1) rfl p s (hW.get (w.heap.size + 1) (.cells (mk p s) 30) (by simp))) ?_
  simp only [Act.put, List.setIfInBounds_toArray, List.set_cons_succ, List.set_cons_zero]
  go_big_quiet_on
  go_big_quiet_want
  refine quiet_val (fun W hW => exec_load30 _ _ W _ rfl (w.heap.size + 1 + 1) rfl q r (hW.get (w.heap.size + 1 + 1) (.cells (mk q r) 30) (by simp))) ?_
  simp only [Act.put, List.setIfInBounds_toArray, List.set_cons_succ, List.set_cons_zero]
  go_big_quiet_on
  go_big_quiet_want
  refine quiet_call (fun W hW => exec_call21 _ _ W _ _ _ rfl rfl (.agg (mk p s)) (.agg (mk q r)) rfl rfl) (fun W hW => (rmerge_any (Rg.mk p s) (Rg.mk q r) W).mono (fun e w1 h => ⟨h.1, hW.call h.2⟩)) ?_
  simp only [Act.put, List.setIfInBounds_toArray, List.set_cons_succ, List.set_cons_zero]
  go_big_quiet_on
  go_big_quiet_want
  refine quiet_val (fun W hW => exec_eql30 _ _ W _ _ rfl (rmP (Rg.mk p s) (Rg.mk q r) 16) (rmS (Rg.mk p s) (Rg.mk q r) 16) (rmP (Rg.mk p s) (Rg.mk q r) 16) (rmS (Rg.mk p s) (Rg.mk q r) 16) rfl rfl true (sameRing_self _ _)) ?_
  simp only [Act.put, List.setIfInBounds_toArray, List.set_cons_succ, List.set_cons_zero]
  go_big_quiet_on
  go_big_quiet_want
  refine quiet_val (v := .bool true) (fun W hW => exec_pickT _ _ W _ _ _ rfl rfl _ rfl) ?_
  simp only [Act.put, List.setIfInBounds_toArray, List.set_cons_succ, List.set_cons_zero]
  go_big_quiet_on
  go_big_quiet_want
  go_big_quiet_op
  go_big_quiet_on
  go_big_quiet_want
  refine quiet_val (fun W hW => exec_load30 _ _ W _ rfl (w.heap.size + 1) rfl p s (hW.get (w.heap.size + 1) (.cells (mk p s) 30) (by simp))) ?_
  simp only [Act.put, List.setIfInBounds_toArray, List.set_cons_succ, List.set_cons_zero]
  go_big_quiet_on
  go_big_quiet_want
  go_big_quiet_op
  go_big_quiet_on
  go_big_quiet_want
  refine quiet_call (fun W hW => exec_call15 _ _ W _ _ _ rfl rfl (.agg (mk p s)) (.int .i64 k) rfl rfl) (fun W hW => ((E15 W).out).mono (fun e w1 h => ⟨h.1, hW.call h.2⟩)) ?_
  simp only [Act.put, List.setIfInBounds_toArray, List.set_cons_succ, List.set_cons_zero]
  go_big_quiet_on
  go_big_quiet_want
  refine quiet_val (fun W hW => exec_load30 _ _ W _ rfl (w.heap.size + 1) rfl p s (hW.get (w.heap.size + 1) (.cells (mk p s) 30) (by simp))) ?_
  simp only [Act.put, List.setIfInBounds_toArray, List.set_cons_succ, List.set_cons_zero]
  go_big_quiet_on
  go_big_quiet_want
  go_big_quiet_op
  go_big_quiet_on
  go_big_quiet_want
  refine quiet_call (fun W hW => exec_call22 _ _ W _ _ _ rfl rfl (.agg (mk p s)) (.int .i64 k) rfl rfl) (fun W hW => ((F22 W).out).mono (fun e w1 h => ⟨h.1, hW.call h.2⟩)) ?_
  simp only [Act.put, List.setIfInBounds_toArray, List.set_cons_succ, List.set_cons_zero]
  go_big_quiet_on
  go_big_quiet_want
  refine quiet_val (fun W hW => exec_eql27 _ _ W _ _ rfl gf gf rfl rfl true (smpEq_self gf)) ?_
  simp only [Act.put, List.setIfInBounds_toArray, List.set_cons_succ, List.set_cons_zero]
  go_big_quiet_on
  go_big_quiet_want
  refine quiet_val (v := .bool true) (fun W hW => exec_pickT _ _ W _ _ _ rfl rfl _ rfl) ?_
  simp only [Act.put, List.setIfInBounds_toArray, List.set_cons_succ, List.set_cons_zero]
  go_big_quiet_on
  go_big_quiet_want
  go_big_quiet_op
  go_big_quiet_on
  refine wpQuiet_nil ?_
  intro W hW
  go_wp2_with fail
  go_ret
  exact ⟨rfl, hW.1⟩

set_option maxHeartbeats 2000000 in
theorem ringTells_bad (C : Array Value) (p : Nat → Int) (s : Nat → Smp) (q : Nat → Int) (r : Nat → Smp) (k : Int) (S : Smp) (w : World) (h : IsTells C p s q r k S) (ha : rightB p s = false) :
    Calls Try.prog 9 #[.agg C] w fun e w' => e = .returned (.bool true) ∧ Below w.heap.size w w' := by
  have HA := Lib.hid ha
  clear ha
  have hk := h.k
  have HCa := Lib.hid h.a
  have HCb := Lib.hid h.b
  have s0 := h.s 0 (by omega)
  have s1 := h.s 1 (by omega)
  have s2 := h.s 2 (by omega)
  have s3 := h.s 3 (by omega)
  have s4 := h.s 4 (by omega)
  have s5 := h.s 5 (by omega)
  have s6 := h.s 6 (by omega)
  have s7 := h.s 7 (by omega)
  have s8 := h.s 8 (by omega)
  have s9 := h.s 9 (by omega)
  have s10 := h.s 10 (by omega)
  have s11 := h.s 11 (by omega)
  have s12 := h.s 12 (by omega)
  simp only [Smp.cells, Nat.reduceAdd] at s0 s1 s2 s3 s4 s5 s6 s7 s8 s9 s10 s11 s12
  clear h
  go_enter Try.func9, Try.ntmps9
  go_wp2_with (first
    | ((with_reducible show wpList _ _ _ (Oper.mk _ (Op.load 30 _) _ _ _ none :: _) _ _); refine wl_load30m rfl _ rfl _ 0 rfl p s HCa.out (by exact w1_0 _ _) ?_)
    | ((with_reducible show wpList _ _ _ (Oper.mk _ (Op.load 30 _) _ _ _ none :: _) _ _); refine wl_load30m rfl _ rfl _ 224 rfl q r HCb.out (by exact w2_0 _ _ _) ?_)
    | ((with_reducible show wpList _ _ _ (Oper.mk _ (Op.store 30 _ _) _ _ _ _ :: _) _ _); refine wl_store30n rfl _ _ rfl _ p s rfl rfl _ zp zs rfl (by simp) ?_)
    | ((with_reducible show wpList _ _ _ (Oper.mk _ (Op.store 30 _ _) _ _ _ _ :: _) _ _); refine wl_store30n rfl _ _ rfl _ q r rfl rfl _ zp zs rfl (by simp) ?_))
  have I0 := Lib.hid ((((Inv.start w).alloc' (.cells C 49)).alloc (.cells (mk p s) 30)).alloc (.cells (mk q r) 30) |>.alloc (.cells S.cells 27))
  clear hk s0 s1 s2 s3 s4 s5 s6 s7 s8 s9 s10 s11 s12
  refine (shown_any _).mono ?_
  rintro e w1 ⟨rfl, hb⟩
  have I1 := Lib.hid (I0.out.call hb)
  clear hb I0
  go_wp2_with ((with_reducible show wpList _ _ _ (Oper.mk _ (Op.load 30 _) _ _ _ none :: _) _ _); refine wl_load30 rfl _ rfl _ rfl p s (by exact I1.out.get _ _ (by simp)) ?_)
  refine (rright_f HA.out _).mono ?_
  rintro e w2 ⟨rfl, hb⟩
  have I2 := Lib.hid (I1.out.call hb)
  clear hb I1
  go_wp2_with ((with_reducible show wpList _ _ _ (Oper.mk _ (Op.load 30 _) _ _ _ none :: _) _ _); refine wl_load30 rfl _ rfl _ rfl p s (by exact I2.out.get _ _ (by simp)) ?_)
  have HQ : ∀ W, Hid (Calls Try.prog 17 #[.agg (mk p s)] W fun e w' => e = .returned (.bool false) ∧ Below W.heap.size W w') := fun W => Lib.hid (by have := right_any p s W; rwa [HA.out] at this)
  refine (HQ _).out.mono ?_
  rintro e w3 ⟨rfl, hb⟩
  have I3 := Lib.hid (I2.out.call hb)
  clear hb I2 HQ
  go_wp2_with fail
  go_ret
  exact ⟨rfl, I3.out.1⟩

set_option maxHeartbeats 2000000 in
theorem ringTells_bad2 (C : Array Value) (p : Nat → Int) (s : Nat → Smp) (q : Nat → Int) (r : Nat → Smp) (k : Int) (S : Smp) (w : World) (h : IsTells C p s q r k S) (ha : rightB p s = true) (hb : rightB q r = false) :
    Calls Try.prog 9 #[.agg C] w fun e w' => e = .returned (.bool true) ∧ Below w.heap.size w w' := by
  have HA := Lib.hid ha
  have HB := Lib.hid hb
  clear ha hb
  have hk := h.k
  have HCa := Lib.hid h.a
  have HCb := Lib.hid h.b
  have s0 := h.s 0 (by omega)
  have s1 := h.s 1 (by omega)
  have s2 := h.s 2 (by omega)
  have s3 := h.s 3 (by omega)
  have s4 := h.s 4 (by omega)
  have s5 := h.s 5 (by omega)
  have s6 := h.s 6 (by omega)
  have s7 := h.s 7 (by omega)
  have s8 := h.s 8 (by omega)
  have s9 := h.s 9 (by omega)
  have s10 := h.s 10 (by omega)
  have s11 := h.s 11 (by omega)
  have s12 := h.s 12 (by omega)
  simp only [Smp.cells, Nat.reduceAdd] at s0 s1 s2 s3 s4 s5 s6 s7 s8 s9 s10 s11 s12
  clear h
  go_enter Try.func9, Try.ntmps9
  go_wp2_with (first
    | ((with_reducible show wpList _ _ _ (Oper.mk _ (Op.load 30 _) _ _ _ none :: _) _ _); refine wl_load30m rfl _ rfl _ 0 rfl p s HCa.out (by exact w1_0 _ _) ?_)
    | ((with_reducible show wpList _ _ _ (Oper.mk _ (Op.load 30 _) _ _ _ none :: _) _ _); refine wl_load30m rfl _ rfl _ 224 rfl q r HCb.out (by exact w2_0 _ _ _) ?_)
    | ((with_reducible show wpList _ _ _ (Oper.mk _ (Op.store 30 _ _) _ _ _ _ :: _) _ _); refine wl_store30n rfl _ _ rfl _ p s rfl rfl _ zp zs rfl (by simp) ?_)
    | ((with_reducible show wpList _ _ _ (Oper.mk _ (Op.store 30 _ _) _ _ _ _ :: _) _ _); refine wl_store30n rfl _ _ rfl _ q r rfl rfl _ zp zs rfl (by simp) ?_))
  have I0 := Lib.hid ((((Inv.start w).alloc' (.cells C 49)).alloc (.cells (mk p s) 30)).alloc (.cells (mk q r) 30) |>.alloc (.cells S.cells 27))
  clear hk s0 s1 s2 s3 s4 s5 s6 s7 s8 s9 s10 s11 s12
  refine (shown_any _).mono ?_
  rintro e w1 ⟨rfl, hb⟩
  have I1 := Lib.hid (I0.out.call hb)
  clear hb I0
  go_wp2_with ((with_reducible show wpList _ _ _ (Oper.mk _ (Op.load 30 _) _ _ _ none :: _) _ _); refine wl_load30 rfl _ rfl _ rfl p s (by exact I1.out.get _ _ (by simp)) ?_)
  refine (rright_t HA.out _).mono ?_
  rintro e w2 ⟨rfl, hb⟩
  have I2 := Lib.hid (I1.out.call hb)
  clear hb I1
  go_wp2_with ((with_reducible show wpList _ _ _ (Oper.mk _ (Op.load 30 _) _ _ _ none :: _) _ _); refine wl_load30 rfl _ rfl _ rfl p s (by exact I2.out.get _ _ (by simp)) ?_)
  have HQ : ∀ W, Hid (Calls Try.prog 17 #[.agg (mk p s)] W fun e w' => e = .returned (.bool true) ∧ Below W.heap.size W w') := fun W => Lib.hid (by have := right_any p s W; rwa [HA.out] at this)
  refine (HQ _).out.mono ?_
  rintro e w3 ⟨rfl, hb⟩
  have I3 := Lib.hid (I2.out.call hb)
  clear hb I2 HQ
  go_wp2_with ((with_reducible show wpList _ _ _ (Oper.mk _ (Op.load 30 _) _ _ _ (some _) :: _) _ _); refine wl_load30g rfl _ rfl _ rfl q r (by exact I3.out.get _ _ (by simp)) ?_)
  refine (rright_f HB.out _).mono ?_
  rintro e w4 ⟨rfl, hb⟩
  have I4 := Lib.hid (I3.out.call hb)
  clear hb I3
  go_wp2_with fail
  go_ret
  exact ⟨rfl, I4.out.1⟩

theorem ringTells_walk (C : Array Value) (p : Nat → Int) (s : Nat → Smp) (q : Nat → Int) (r : Nat → Smp) (k : Int) (S : Smp) (w : World) (h : IsTells C p s q r k S) :
    Calls Try.prog 9 #[.agg C] w fun e w' => e = .returned (.bool true) ∧ Below w.heap.size w w' := by
  cases ha : rightB p s with
  | false => exact ringTells_bad C p s q r k S w h ha
  | true =>
    cases hb : rightB q r with
    | false => exact ringTells_bad2 C p s q r k S w h ha hb
    | true => exact ringTells_main C p s q r k S w h ha hb
end Go.Proofs.Ytoibfkieadhelaa
