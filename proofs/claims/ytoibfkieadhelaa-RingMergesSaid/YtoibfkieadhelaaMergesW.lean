/-
  RingMerges: whatever two rings, the law returns true and changes nothing that was there. No conditions.
-/
import Derived.Test.YtoibfkieadhelaaWn
import Derived.Deep.Cut
namespace Go.Proofs.Ytoibfkieadhelaa
open Go.RowKit Go.BigFrame

/-! ### What the law's tests come to -/
theorem rm_le (a b : Rg) (i : Nat) (h : i < 16) : a.p i ≤ rmP a b 16 i ∧ b.p i ≤ rmP a b 16 i ∧ (rmP a b 16 i = a.p i ∨ rmP a b 16 i = b.p i) := by
  rw [rmP_at a b i h]
  split <;> omega
theorem rm_comm (a b : Rg) (i : Nat) (h : i < 16) : rmP a b 16 i = rmP b a 16 i := by
  rw [rmP_at a b i h, rmP_at b a i h]
  split <;> split <;> omega
theorem rm_right (a b : Rg) (ha : rightB a.p a.s = true) (hb : rightB b.p b.s = true) : rightB (rmP a b 16) (rmS a b 16) = true := by
  apply rightB_mk
  intro i hi
  have h1 := rightB_true ha i hi
  have h2 := rightB_true hb i hi
  unfold okAt at *
  rw [rmP_at a b i hi, rmS_at a b i hi]
  split
  · exact h2
  · exact h1
theorem rm_self (a : Rg) : sameRing (rmP a a 16) (rmS a a 16) a.p a.s = true :=
  (sameRing_iff _ _ _ _).2 ⟨fun i hi => by rw [rmP_at a a i hi]; simp, fun i hi => by rw [rmS_at a a i hi]; simp⟩
theorem rm_again (a m : Rg) (h : ∀ i, i < 16 → a.p i ≤ m.p i) : sameRing (rmP m a 16) (rmS m a 16) m.p m.s = true :=
  (sameRing_iff _ _ _ _).2 ⟨fun i hi => by rw [rmP_at m a i hi, if_neg (by have := h i hi; omega)], fun i hi => by rw [rmS_at m a i hi, if_neg (by have := h i hi; omega)]⟩

set_option maxHeartbeats 1000000 in
theorem ringMerges_main (a b : Rg) (w : World) (ha : rightB a.p a.s = true) (hb : rightB b.p b.s = true) :
    Calls Try.prog 7 #[.agg (mk a.p a.s), .agg (mk b.p b.s)] w fun e w' => e = .returned (.bool true) ∧ Below w.heap.size w w' := by
  have I0 := Lib.hid (((Inv.start w).alloc (.cells (mk a.p a.s) 30)).alloc (.cells (mk b.p b.s) 30))
  have HA := Lib.hid ha
  have HB := Lib.hid hb
  clear ha hb
  go_enter Try.func7, Try.ntmps7
  go_wp2_with fail
  refine (shown_any _).mono ?_
  rintro e w1 ⟨rfl, hb⟩
  have I1 := Lib.hid (I0.out.call hb)
  clear hb I0
  go_wp2_with ((with_reducible show wpList _ _ _ (Oper.mk _ (Op.load 30 _) _ _ _ none :: _) _ _); refine wl_load30 rfl _ rfl _ rfl a.p a.s (by exact I1.out.get _ _ (by simp)) ?_)
  refine (rright_t HA.out _).mono ?_
  rintro e w2 ⟨rfl, hb⟩
  have I2 := Lib.hid (I1.out.call hb)
  clear hb I1
  go_wp2_with ((with_reducible show wpList _ _ _ (Oper.mk _ (Op.load 30 _) _ _ _ (some _) :: _) _ _); refine wl_load30g rfl _ rfl _ rfl b.p b.s (by exact I2.out.get _ _ (by simp)) ?_)
  refine (rright_t HB.out _).mono ?_
  rintro e w3 ⟨rfl, hb⟩
  have I3 := Lib.hid (I2.out.call hb)
  clear hb I2
  go_wp2_with (first
    | ((with_reducible show wpList _ _ _ (Oper.mk _ (Op.load 30 _) _ _ _ none :: _) _ _); refine wl_load30 rfl _ rfl _ rfl a.p a.s (by exact I3.out.get w.heap.size (.cells (mk a.p a.s) 30) (by simp)) ?_)
    | ((with_reducible show wpList _ _ _ (Oper.mk _ (Op.load 30 _) _ _ _ none :: _) _ _); refine wl_load30 rfl _ rfl _ rfl b.p b.s (by exact I3.out.get (w.heap.size + 1) (.cells (mk b.p b.s) 30) (by simp)) ?_))
  refine (merge_right a b HA.out HB.out _).mono ?_
  have HL := Lib.hid (rm_le a b)
  have HC := Lib.hid (rm_comm a b)
  have HM := Lib.hid (rm_right a b HA.out HB.out)
  have C16 := fun W => Lib.hid (merge_right b a HB.out HA.out W)
  have D16 := fun W => Lib.hid (merge_right ⟨rmP a b 16, rmS a b 16⟩ a HM.out HA.out W)
  have HG := Lib.hid (rm_again a ⟨rmP a b 16, rmS a b 16⟩ (fun i hi => (rm_le a b i hi).1))
  rintro e w4 ⟨rfl, hb⟩
  generalize rmP (Rg.mk (rmP a b 16) (rmS a b 16)) a 16 = p2 at *
  generalize rmS (Rg.mk (rmP a b 16) (rmS a b 16)) a 16 = s2 at *
  generalize rmP a b 16 = p' at *
  generalize rmS a b 16 = s' at *
  generalize rmP b a 16 = q' at *
  generalize rmS b a 16 = r' at *
  have I4 := Lib.hid ((I3.out.call hb).alloc (.cells (mk p' s') 30))
  clear hb I3
  go_wp2_with (first
    | ((with_reducible show wpList _ _ _ (Oper.mk _ (Op.store 30 _ _) _ _ _ _ :: _) _ _); refine wl_store30n rfl _ _ rfl _ p' s' rfl rfl _ zp zs rfl (by simp) ?_)
    | ((with_reducible show wpList _ _ _ (Oper.mk _ (Op.load 30 _) _ _ _ none :: _) _ _); refine wl_load30 rfl _ rfl _ rfl a.p a.s (by exact I4.out.get w.heap.size (.cells (mk a.p a.s) 30) (by simp)) ?_)
    | ((with_reducible show wpList _ _ _ (Oper.mk _ (Op.load 30 _) _ _ _ none :: _) _ _); refine wl_load30 rfl _ rfl _ rfl b.p b.s (by exact I4.out.get (w.heap.size + 1) (.cells (mk b.p b.s) 30) (by simp)) ?_))
  refine (C16 _).out.mono ?_
  rintro e w5 ⟨rfl, hb⟩
  have I5 := Lib.hid ((I4.out.call hb).alloc (.cells (mk q' r') 30))
  clear hb I4 C16
  go_wp2_with (first
    | ((with_reducible show wpList _ _ _ (Oper.mk _ (Op.store 30 _ _) _ _ _ _ :: _) _ _); refine wl_store30n rfl _ _ rfl _ q' r' rfl rfl _ zp zs rfl (by simp) ?_))
  rw [World.size_alloc] at I5
  generalize w5.heap.size = n7 at *
  generalize w4.heap.size = n6 at *
  generalize w5.alloc _ = W0 at *
  go_loopw [8] (fun i wr => ∃ j : Nat, j ≤ 16 ∧ i = .int .i64 j ∧ Hid (Inv w.heap.size w [(n7, .cells (mk q' r') 30), (n6, .cells (mk p' s') 30), (w.heap.size + 1, .cells (mk b.p b.s) 30), (w.heap.size, .cells (mk a.p a.s) 30)] wr)) (fun i _ => 16 - (intOf i).toNat)
  case atStart => exact ⟨0, by omega, rfl, I5⟩
  case round =>
    obtain ⟨j, hj, rfl, IW⟩ := hrel
    clear I5
    by_cases hlt : j < 16
    · have hM : wr.cell? ⟨n6, j, none⟩ = some (.int .i64 (p' j)) := by rw [cell_of_row _ _ _ _ _ _ (IW.out.get n6 (.cells (mk p' s') 30) (by simp)), mk_place _ _ _ hlt]
      have hB : wr.cell? ⟨w.heap.size + 1, j, none⟩ = some (.int .i64 (b.p j)) := by rw [cell_of_row _ _ _ _ _ _ (IW.out.get (w.heap.size + 1) (.cells (mk b.p b.s) 30) (by simp)), mk_place _ _ _ hlt]
      have hA : wr.cell? ⟨w.heap.size, j, none⟩ = some (.int .i64 (a.p j)) := by rw [cell_of_row _ _ _ _ _ _ (IW.out.get w.heap.size (.cells (mk a.p a.s) 30) (by simp)), mk_place _ _ _ hlt]
      obtain ⟨l1, l2, l3⟩ := HL.out j hlt
      generalize p' j = M at *
      generalize a.p j = A at *
      generalize b.p j = B at *
      have hm1 : decide (M < A) = false := decide_eq_false (by omega)
      have hm2 : decide (M < B) = false := decide_eq_false (by omega)
      by_cases e1 : M = A
      · have hd : (M != A) = false := by rw [bne_eq_false_iff_eq]; exact e1
        clear e1 l3
        go_wp2
        refine wp_region_quiet_lit (by kernel_rfl) (by kernel_rfl) ?_
        repeat (go_big_quiet_step (fail))
        refine wpQuiet_nil ?_
        rintro _ ⟨nq, rfl⟩
        go_wp2
        go_roundw
        case rel => exact ⟨j + 1, by omega, by go_num, Lib.hid (IW.out.drewN _)⟩
        case measure => simp [intOf]; omega
      · have hd : (M != A) = true := by rw [bne_iff_ne]; exact e1
        have hd2 : (M != B) = false := by rw [bne_eq_false_iff_eq]; omega
        clear e1 l3
        go_wp2
        refine wp_region_quiet_lit (by kernel_rfl) (by kernel_rfl) ?_
        repeat (go_big_quiet_step (fail))
        refine wpQuiet_nil ?_
        rintro _ ⟨nq, rfl⟩
        go_wp2
        go_roundw
        case rel => exact ⟨j + 1, by omega, by go_num, Lib.hid (IW.out.drewN _)⟩
        case measure => simp [intOf]; omega
    · go_upto_region 11 with (fail)
      refine wp_region_quiet_C (fun W => Inv w.heap.size w [(n7, .cells (mk q' r') 30), (n6, .cells (mk p' s') 30), (w.heap.size + 1, .cells (mk b.p b.s) 30), (w.heap.size, .cells (mk a.p a.s) 30)] W) (by kernel_rfl) (by kernel_rfl) IW.out.drew ?_
      go_big_quiet_want
      go_big_quiet_op
      go_big_quiet_on
      go_big_quiet_want
      go_big_quiet_op
      go_big_quiet_on
      go_big_quiet_want
      refine quiet_val (fun W hW => exec_field0 _ _ W _ rfl n6 rfl) ?_
      simp only [Act.put, List.setIfInBounds_toArray, List.set_cons_succ, List.set_cons_zero]
      go_big_quiet_on
      go_big_quiet_want
      refine quiet_val (fun W hW => exec_load22 _ _ W _ rfl n6 rfl p' s' (hW.get n6 (.cells (mk p' s') 30) (by simp))) ?_
      simp only [Act.put, List.setIfInBounds_toArray, List.set_cons_succ, List.set_cons_zero]
      go_big_quiet_on
      go_big_quiet_want
      refine quiet_val (fun W hW => exec_field0 _ _ W _ rfl n7 rfl) ?_
      simp only [Act.put, List.setIfInBounds_toArray, List.set_cons_succ, List.set_cons_zero]
      go_big_quiet_on
      go_big_quiet_want
      refine quiet_val (fun W hW => exec_load22 _ _ W _ rfl n7 rfl q' r' (hW.get n7 (.cells (mk q' r') 30) (by simp))) ?_
      simp only [Act.put, List.setIfInBounds_toArray, List.set_cons_succ, List.set_cons_zero]
      go_big_quiet_on
      go_big_quiet_want
      refine quiet_val (v := .bool true) (fun W hW => exec_eql22 _ _ W _ _ rfl p' s' q' r' rfl rfl HC.out) ?_
      simp only [Act.put, List.setIfInBounds_toArray, List.set_cons_succ, List.set_cons_zero]
      go_big_quiet_on
      go_big_quiet_want
      refine quiet_val (v := .bool true) (fun W hW => exec_pickT _ _ W _ _ _ rfl rfl _ rfl) ?_
      simp only [Act.put, List.setIfInBounds_toArray, List.set_cons_succ, List.set_cons_zero]
      go_big_quiet_on
      go_big_quiet_want
      go_big_quiet_op
      go_big_quiet_on
      go_big_quiet_want
      refine quiet_val (fun W hW => exec_load30 _ _ W _ rfl n6 rfl p' s' (hW.get n6 (.cells (mk p' s') 30) (by simp))) ?_
      simp only [Act.put, List.setIfInBounds_toArray, List.set_cons_succ, List.set_cons_zero]
      go_big_quiet_on
      go_big_quiet_want
      refine quiet_call (fun W hW => exec_call11 _ _ W _ _ rfl rfl (.agg (mk p' s')) rfl) (fun W hW => (rright_t HM.out W).mono (fun e w1 h => ⟨h.1, hW.call h.2⟩)) ?_
      simp only [Act.put, List.setIfInBounds_toArray, List.set_cons_succ, List.set_cons_zero]
      go_big_quiet_on
      go_big_quiet_want
      refine quiet_val (v := .bool true) (fun W hW => exec_pickT _ _ W _ _ _ rfl rfl _ rfl) ?_
      simp only [Act.put, List.setIfInBounds_toArray, List.set_cons_succ, List.set_cons_zero]
      go_big_quiet_on
      go_big_quiet_want
      go_big_quiet_op
      go_big_quiet_on
      go_big_quiet_want
      refine quiet_val (fun W hW => exec_load30 _ _ W _ rfl w.heap.size rfl a.p a.s (hW.get w.heap.size (.cells (mk a.p a.s) 30) (by simp))) ?_
      simp only [Act.put, List.setIfInBounds_toArray, List.set_cons_succ, List.set_cons_zero]
      go_big_quiet_on
      go_big_quiet_want
      refine quiet_val (fun W hW => exec_load30 _ _ W _ rfl w.heap.size rfl a.p a.s (hW.get w.heap.size (.cells (mk a.p a.s) 30) (by simp))) ?_
      simp only [Act.put, List.setIfInBounds_toArray, List.set_cons_succ, List.set_cons_zero]
      go_big_quiet_on
      go_big_quiet_want
      refine quiet_call (fun W hW => exec_call16 _ _ W _ _ _ rfl rfl (.agg (mk a.p a.s)) (.agg (mk a.p a.s)) rfl rfl) (fun W hW => (merge_right a a HA.out HA.out W).mono (fun e w1 h => ⟨h.1, hW.call h.2⟩)) ?_
      simp only [Act.put, List.setIfInBounds_toArray, List.set_cons_succ, List.set_cons_zero]
      go_big_quiet_on
      go_big_quiet_want
      refine quiet_val (fun W hW => exec_load30 _ _ W _ rfl w.heap.size rfl a.p a.s (hW.get w.heap.size (.cells (mk a.p a.s) 30) (by simp))) ?_
      simp only [Act.put, List.setIfInBounds_toArray, List.set_cons_succ, List.set_cons_zero]
      go_big_quiet_on
      go_big_quiet_want
      refine quiet_val (fun W hW => exec_eql30 _ _ W _ _ rfl (rmP a a 16) (rmS a a 16) a.p a.s rfl rfl true (rm_self a)) ?_
      simp only [Act.put, List.setIfInBounds_toArray, List.set_cons_succ, List.set_cons_zero]
      go_big_quiet_on
      go_big_quiet_want
      refine quiet_val (v := .bool true) (fun W hW => exec_pickT _ _ W _ _ _ rfl rfl _ rfl) ?_
      simp only [Act.put, List.setIfInBounds_toArray, List.set_cons_succ, List.set_cons_zero]
      go_big_quiet_on
      go_big_quiet_want
      go_big_quiet_op
      go_big_quiet_on
      go_big_quiet_want
      refine quiet_val (fun W hW => exec_load30 _ _ W _ rfl n6 rfl p' s' (hW.get n6 (.cells (mk p' s') 30) (by simp))) ?_
      simp only [Act.put, List.setIfInBounds_toArray, List.set_cons_succ, List.set_cons_zero]
      go_big_quiet_on
      go_big_quiet_want
      refine quiet_val (fun W hW => exec_load30 _ _ W _ rfl w.heap.size rfl a.p a.s (hW.get w.heap.size (.cells (mk a.p a.s) 30) (by simp))) ?_
      simp only [Act.put, List.setIfInBounds_toArray, List.set_cons_succ, List.set_cons_zero]
      go_big_quiet_on
      go_big_quiet_want
      refine quiet_call (fun W hW => exec_call16 _ _ W _ _ _ rfl rfl (.agg (mk p' s')) (.agg (mk a.p a.s)) rfl rfl) (fun W hW => ((D16 W).out).mono (fun e w1 h => ⟨h.1, hW.call h.2⟩)) ?_
      simp only [Act.put, List.setIfInBounds_toArray, List.set_cons_succ, List.set_cons_zero]
      go_big_quiet_on
      go_big_quiet_want
      refine quiet_val (fun W hW => exec_load30 _ _ W _ rfl n6 rfl p' s' (hW.get n6 (.cells (mk p' s') 30) (by simp))) ?_
      simp only [Act.put, List.setIfInBounds_toArray, List.set_cons_succ, List.set_cons_zero]
      go_big_quiet_on
      go_big_quiet_want
      refine quiet_val (fun W hW => exec_eql30 _ _ W _ _ rfl p2 s2 p' s' rfl rfl true HG.out) ?_
      simp only [Act.put, List.setIfInBounds_toArray, List.set_cons_succ, List.set_cons_zero]
      go_big_quiet_on
      go_big_quiet_want
      refine quiet_val (v := .bool true) (fun W hW => exec_pickT _ _ W _ _ _ rfl rfl _ rfl) ?_
      simp only [Act.put, List.setIfInBounds_toArray, List.set_cons_succ, List.set_cons_zero]
      go_big_quiet_on
      go_big_quiet_want
      go_big_quiet_op
      go_big_quiet_on
      refine wpQuiet_nil ?_
      intro W hW
      go_wp2_with fail
      go_ret
      exact ⟨rfl, hW.1⟩

set_option maxHeartbeats 1000000 in
theorem ringMerges_bad (a b : Rg) (w : World) (ha : rightB a.p a.s = false) :
    Calls Try.prog 7 #[.agg (mk a.p a.s), .agg (mk b.p b.s)] w fun e w' => e = .returned (.bool true) ∧ Below w.heap.size w w' := by
  have I0 := Lib.hid (((Inv.start w).alloc (.cells (mk a.p a.s) 30)).alloc (.cells (mk b.p b.s) 30))
  have HA := Lib.hid ha
  clear ha
  go_enter Try.func7, Try.ntmps7
  go_wp2_with fail
  refine (shown_any _).mono ?_
  rintro e w1 ⟨rfl, hb⟩
  have I1 := Lib.hid (I0.out.call hb)
  clear hb I0
  go_wp2_with ((with_reducible show wpList _ _ _ (Oper.mk _ (Op.load 30 _) _ _ _ none :: _) _ _); refine wl_load30 rfl _ rfl _ rfl a.p a.s (by exact I1.out.get _ _ (by simp)) ?_)
  refine (rright_f HA.out _).mono ?_
  rintro e w2 ⟨rfl, hb⟩
  have I2 := Lib.hid (I1.out.call hb)
  clear hb I1
  go_wp2_with fail
  go_ret
  exact ⟨rfl, I2.out.1⟩

set_option maxHeartbeats 1000000 in
theorem ringMerges_bad2 (a b : Rg) (w : World) (ha : rightB a.p a.s = true) (hb : rightB b.p b.s = false) :
    Calls Try.prog 7 #[.agg (mk a.p a.s), .agg (mk b.p b.s)] w fun e w' => e = .returned (.bool true) ∧ Below w.heap.size w w' := by
  have I0 := Lib.hid (((Inv.start w).alloc (.cells (mk a.p a.s) 30)).alloc (.cells (mk b.p b.s) 30))
  have HA := Lib.hid ha
  have HB := Lib.hid hb
  clear ha hb
  go_enter Try.func7, Try.ntmps7
  go_wp2_with fail
  refine (shown_any _).mono ?_
  rintro e w1 ⟨rfl, hb⟩
  have I1 := Lib.hid (I0.out.call hb)
  clear hb I0
  go_wp2_with ((with_reducible show wpList _ _ _ (Oper.mk _ (Op.load 30 _) _ _ _ none :: _) _ _); refine wl_load30 rfl _ rfl _ rfl a.p a.s (by exact I1.out.get _ _ (by simp)) ?_)
  refine (rright_t HA.out _).mono ?_
  rintro e w2 ⟨rfl, hb⟩
  have I2 := Lib.hid (I1.out.call hb)
  clear hb I1
  go_wp2_with ((with_reducible show wpList _ _ _ (Oper.mk _ (Op.load 30 _) _ _ _ (some _) :: _) _ _); refine wl_load30g rfl _ rfl _ rfl b.p b.s (by exact I2.out.get _ _ (by simp)) ?_)
  refine (rright_f HB.out _).mono ?_
  rintro e w3 ⟨rfl, hb⟩
  have I3 := Lib.hid (I2.out.call hb)
  clear hb I2
  go_wp2_with fail
  go_ret
  exact ⟨rfl, I3.out.1⟩

theorem ringMerges_walk (p : Nat → Int) (s : Nat → Smp) (q : Nat → Int) (r : Nat → Smp) (w : World) :
    Calls Try.prog 7 #[.agg (mk p s), .agg (mk q r)] w fun e w' => e = .returned (.bool true) ∧ Below w.heap.size w w' := by
  cases ha : rightB p s with
  | false => exact ringMerges_bad ⟨p, s⟩ ⟨q, r⟩ w ha
  | true =>
    cases hb : rightB q r with
    | false => exact ringMerges_bad2 ⟨p, s⟩ ⟨q, r⟩ w ha hb
    | true => exact ringMerges_main ⟨p, s⟩ ⟨q, r⟩ w ha hb
end Go.Proofs.Ytoibfkieadhelaa
