/-
  RingFinds: whatever ring, place and sample, the law returns true and changes nothing that was there. No conditions.
-/
import Derived.Test.YtoibfkieadhelaaWl
namespace Go.Proofs.Ytoibfkieadhelaa
open Go.RowKit Go.BigFrame

set_option maxHeartbeats 4000000 in
theorem ringFinds_low (p : Nat → Int) (s : Nat → Smp) (k : Int) (t : Smp) (w : World) (h1 : 1 ≤ k) (h2 : k ≤ 4611686018427387904) (hr : rightB p s = true) (h3 : k < p (slotN k)) :
    Calls Try.prog 3 #[.agg (mk p s), .int .i64 k, .agg t.cells] w fun e w' => e = .returned (.bool true) ∧ Below w.heap.size w w' := by
  have I0 := Lib.hid (((Inv.start w).alloc (.cells (mk p s) 30)).alloc (.cells t.cells 27))
  have HR := Lib.hid hr
  have H3 := Lib.hid h3
  clear hr h3
  unfold Smp.cells at I0 ⊢
  go_enter Try.func3, Try.ntmps3
  go_wp2_with fail
  refine (shown_any _).mono ?_
  rintro e w1 ⟨rfl, hb⟩
  have I1 := Lib.hid (I0.out.call hb)
  clear hb I0
  go_wp2_with ((with_reducible show wpList _ _ _ (Oper.mk _ (Op.load 30 _) _ _ _ none :: _) _ _); refine wl_load30 rfl _ rfl _ rfl p s (by exact I1.out.get _ _ (by simp)) ?_)
  refine (rright_t HR.out _).mono ?_
  rintro e w2 ⟨rfl, hb⟩
  have I2 := Lib.hid (I1.out.call hb)
  have hc2 : ∀ o, w2.cell? ⟨w.heap.size + 1, o, none⟩ = (t.cells)[o]? := fun o => cell_of_row w2 (w.heap.size + 1) o t.cells 27 (0, 0) (I2.out.get _ _ (by simp [Smp.cells]))
  unfold Smp.cells at hc2
  clear hb I1
  go_wp2_with ((with_reducible show wpList _ _ _ (Oper.mk _ (Op.load 30 _) _ _ _ none :: _) _ _); refine wl_load30 rfl _ rfl _ rfl p s (by exact I2.out.get _ _ (by simp)) ?_)
  refine (put_no p s k t _ (by have := H3.out; omega)).mono ?_
  rintro e w3 ⟨rfl, hb⟩
  have I3 := Lib.hid ((I2.out.call hb).alloc (.cells (mk p s) 30))
  clear hb I2 hc2
  go_wp2_with (first
    | ((with_reducible show wpList _ _ _ (Oper.mk _ (Op.store 30 _ _) _ _ _ _ :: _) _ _); refine wl_store30n rfl _ _ rfl _ p s rfl rfl _ zp zs rfl (by simp) ?_)
    | ((with_reducible show wpList _ _ _ (Oper.mk _ (Op.load 30 _) _ _ _ none :: _) _ _); refine wl_load30 rfl _ rfl _ rfl p s (by exact w1_0 _ _) ?_))
  refine (get_no p s k _ (by have := H3.out; omega)).mono ?_
  rintro e w4 ⟨rfl, hb⟩
  unfold Smp.cells Smp.zero
  have I4 := Lib.hid ((I3.out.call hb).alloc (.cells Smp.zero.cells 27))
  unfold Smp.cells Smp.zero at I4
  clear hb I3
  go_wp2_with fail
  generalize w4.heap.size = n9 at *
  generalize w3.heap.size = n8 at *
  go_loopw [11, 12] (fun c i wr => c = .int .i64 0 ∧ ∃ j : Nat, j ≤ 16 ∧ i = .int .i64 j ∧ Hid (Inv w.heap.size w [(n8, .cells (mk p s) 30), (w.heap.size, .cells (mk p s) 30)] wr)) (fun _ i _ => 16 - (intOf i).toNat)
  case atStart => exact ⟨rfl, 0, by omega, rfl, Lib.hid (I4.out.sub (by intro x hx; simp only [List.mem_cons, List.mem_nil_iff, or_false] at hx ⊢; rcases hx with rfl | rfl <;> simp))⟩
  case round =>
    obtain ⟨rfl, j, hj, rfl, IW⟩ := hrel
    clear I4
    by_cases hlt : j < 16
    · have hA : wr.cell? ⟨n8, j, none⟩ = some (.int .i64 (p j)) := by rw [cell_of_row _ _ _ _ _ _ (IW.out.get n8 (.cells (mk p s) 30) (by simp)), mk_place _ _ _ hlt]
      have hB : wr.cell? ⟨w.heap.size, j, none⟩ = some (.int .i64 (p j)) := by rw [cell_of_row _ _ _ _ _ _ (IW.out.get w.heap.size (.cells (mk p s) 30) (by simp)), mk_place _ _ _ hlt]
      obtain ⟨c0, c1, c2, c3, c4, c5, c6, c7, c8, c9, c10, c11, c12⟩ := row13 (IW.out.get n8 (.cells (mk p s) 30) (by simp)) j hlt
      obtain ⟨d0, d1, d2, d3, d4, d5, d6, d7, d8, d9, d10, d11, d12⟩ := row13 (IW.out.get w.heap.size (.cells (mk p s) 30) (by simp)) j hlt
      go_wp2
      refine wp_region_quiet_lit (by kernel_rfl) (by kernel_rfl) ?_
      repeat (go_big_quiet_step (fail))
      go_big_quiet_want
      refine quiet_val (fun W _ => exec_neq27 _ _ W _ _ rfl (s j) (s j) rfl rfl false (by rw [smpEq_self]; rfl)) ?_
      simp only [Act.put, List.setIfInBounds_toArray, List.set_cons_succ, List.set_cons_zero]
      go_big_quiet_on
      repeat (go_big_quiet_step (fail))
      refine wpQuiet_nil ?_
      rintro _ ⟨nq, rfl⟩
      go_wp2
      go_roundw
      case rel => exact ⟨rfl, j + 1, by omega, by go_num, Lib.hid (IW.out.drewN _)⟩
      case measure => simp [intOf]; omega
    · go_wp2_with (first
        | ((with_reducible show wpList _ _ _ (Oper.mk _ (Op.load 30 _) _ _ _ (some _) :: _) _ _); refine wl_load30g rfl _ rfl _ rfl p s (by exact IW.out.get _ _ (by simp)) ?_)
        | ((with_reducible show wpList _ _ _ (Oper.mk _ (Op.binOp BinOp.eql 30 _ _ _) _ _ _ _ :: _) _ _); refine wl_val rfl (exec_eql30 _ _ _ _ _ rfl p s p s rfl rfl true (sameRing_self p s)) ?_))
      go_ret
      exact ⟨rfl, IW.out.1⟩

set_option maxHeartbeats 4000000 in
theorem ringFinds_yes (p : Nat → Int) (s : Nat → Smp) (k : Int) (t : Smp) (w : World) (h1 : 1 ≤ k) (h2 : k ≤ 4611686018427387904) (hr : rightB p s = true) (h3 : p (slotN k) ≤ k) :
    Calls Try.prog 3 #[.agg (mk p s), .int .i64 k, .agg t.cells] w fun e w' => e = .returned (.bool true) ∧ Below w.heap.size w w' := by
  have I0 := Lib.hid (((Inv.start w).alloc (.cells (mk p s) 30)).alloc (.cells t.cells 27))
  have HR := Lib.hid hr
  have H3 := Lib.hid h3
  clear hr h3
  have C13 : ∀ W, Hid (Calls Try.prog 13 #[.agg (mk (upP p k) (upS s k t)), .int .i64 k] W fun e w' => e = .returned (.tuple #[.agg t.cells, .bool true]) ∧ Below W.heap.size W w') :=
    fun W => Lib.hid (by have := get_yes (upP p k) (upS s k t) k W h1 h2 (by rw [mk_place _ _ _ (slotN_lt k), upP_at]); rwa [upS_at] at this)
  have C12 : ∀ W, Hid (Calls Try.prog 12 #[.agg (mk p s), .int .i64 k, .agg t.cells] W fun e w' => e = .returned (.agg (mk (upP p k) (upS s k t))) ∧ Below W.heap.size W w') :=
    fun W => Lib.hid (put_yes p s k t W h1 h2 H3.out)
  have HG := Lib.hid (mxTo_ge (upP p k) 16 (slotN k) (slotN_lt k))
  rw [upP_at] at HG
  have HR2 := Lib.hid (okAt_up (t := t) h1 h2 HR.out)
  have HN := Lib.hid (fun i (h : i ≠ slotN k) => And.intro (upP_ne p k i h) (upS_ne s k t i h))
  have HN2 := Lib.hid (And.intro (upP_at p k) (upS_at s k t))
  generalize upP p k = p' at *
  generalize upS s k t = s' at *
  unfold Smp.cells at I0 C12 C13 ⊢
  go_enter Try.func3, Try.ntmps3
  go_wp2_with fail
  refine (shown_any _).mono ?_
  rintro e w1 ⟨rfl, hb⟩
  have I1 := Lib.hid (I0.out.call hb)
  clear hb I0
  go_wp2_with ((with_reducible show wpList _ _ _ (Oper.mk _ (Op.load 30 _) _ _ _ none :: _) _ _); refine wl_load30 rfl _ rfl _ rfl p s (by exact I1.out.get _ _ (by simp)) ?_)
  refine (rright_t HR.out _).mono ?_
  rintro e w2 ⟨rfl, hb⟩
  have I2 := Lib.hid (I1.out.call hb)
  have hc2 : ∀ o, w2.cell? ⟨w.heap.size + 1, o, none⟩ = (t.cells)[o]? := fun o => cell_of_row w2 (w.heap.size + 1) o t.cells 27 (0, 0) (I2.out.get _ _ (by simp [Smp.cells]))
  unfold Smp.cells at hc2
  clear hb I1
  go_wp2_with ((with_reducible show wpList _ _ _ (Oper.mk _ (Op.load 30 _) _ _ _ none :: _) _ _); refine wl_load30 rfl _ rfl _ rfl p s (by exact I2.out.get _ _ (by simp)) ?_)
  refine (C12 _).out.mono ?_
  rintro e w3 ⟨rfl, hb⟩
  have I3 := Lib.hid ((I2.out.call hb).alloc (.cells (mk p' s') 30))
  clear hb I2 hc2 C12
  go_wp2_with (first
    | ((with_reducible show wpList _ _ _ (Oper.mk _ (Op.store 30 _ _) _ _ _ _ :: _) _ _); refine wl_store30n rfl _ _ rfl _ p' s' rfl rfl _ zp zs rfl (by simp) ?_)
    | ((with_reducible show wpList _ _ _ (Oper.mk _ (Op.load 30 _) _ _ _ none :: _) _ _); refine wl_load30 rfl _ rfl _ rfl p' s' (by exact w1_0 _ _) ?_))
  refine (C13 _).out.mono ?_
  rintro e w4 ⟨rfl, hb⟩
  have I4 := Lib.hid ((I3.out.call hb).alloc (.cells t.cells 27))
  unfold Smp.cells at I4
  clear hb I3 C13
  go_wp2_with fail
  rw [World.size_alloc] at I4
  generalize w4.heap.size = n9 at *
  generalize w3.heap.size = n8 at *
  go_loopw [11, 12] (fun c i wr => ∃ m j : Nat, c = .int .i64 m ∧ m ≤ 1 ∧ j ≤ 16 ∧ i = .int .i64 j ∧ Hid (j ≤ slotN k → m = 0) ∧ Hid (Inv w.heap.size w [(n9, .cells t.cells 27), (n8, .cells (mk p' s') 30), (w.heap.size + 1, .cells t.cells 27), (w.heap.size, .cells (mk p s) 30)] wr)) (fun _ i _ => 16 - (intOf i).toNat)
  case atStart => exact ⟨0, 0, rfl, by omega, by omega, rfl, Lib.hid (fun _ => rfl), I4⟩
  case round =>
    obtain ⟨m, j, rfl, hm, hj, rfl, HM, IW⟩ := hrel
    clear I4
    by_cases hlt : j < 16
    · have hA : wr.cell? ⟨n8, j, none⟩ = some (.int .i64 (p' j)) := by rw [cell_of_row _ _ _ _ _ _ (IW.out.get n8 (.cells (mk p' s') 30) (by simp)), mk_place _ _ _ hlt]
      have hB : wr.cell? ⟨w.heap.size, j, none⟩ = some (.int .i64 (p j)) := by rw [cell_of_row _ _ _ _ _ _ (IW.out.get w.heap.size (.cells (mk p s) 30) (by simp)), mk_place _ _ _ hlt]
      have R8 := Lib.hid (IW.out.get n8 (.cells (mk p' s') 30) (by simp))
      have R0 := Lib.hid (IW.out.get w.heap.size (.cells (mk p s) 30) (by simp))
      by_cases he : j = slotN k
      · subst he
        obtain rfl : m = 0 := HM.out (Nat.le_refl _)
        obtain ⟨e1, e2⟩ := HN2.out
        rw [e1] at hA
        by_cases hp : k = p (slotN k)
        · have hd : (k != p (slotN k)) = false := by rw [bne_eq_false_iff_eq]; exact hp
          have HE2 := Lib.hid e2
          clear e1 e2 hp
          obtain ⟨c0, c1, c2, c3, c4, c5, c6, c7, c8, c9, c10, c11, c12⟩ := row13 R8.out (slotN k) hlt
          rw [HE2.out] at c0 c1 c2 c3 c4 c5 c6 c7 c8 c9 c10 c11 c12
          obtain ⟨d0, d1, d2, d3, d4, d5, d6, d7, d8, d9, d10, d11, d12⟩ := row13 R0.out (slotN k) hlt
          go_wp2
          cases hq : (!smpEq t (s (slotN k))) with
          | false =>
            refine wp_region_quiet_lit (by kernel_rfl) (by kernel_rfl) ?_
            repeat (go_big_quiet_step (fail))
            go_big_quiet_want
            refine quiet_val (fun W _ => exec_neq27 _ _ W _ _ rfl t (s (slotN k)) rfl rfl false hq) ?_
            simp only [Act.put, List.setIfInBounds_toArray, List.set_cons_succ, List.set_cons_zero]
            go_big_quiet_on
            repeat (go_big_quiet_step (fail))
            refine wpQuiet_nil ?_
            rintro _ ⟨nq, rfl⟩
            go_wp2
            go_roundw
            case rel => exact ⟨0, slotN k + 1, rfl, by omega, by omega, by go_num, Lib.hid (fun h => by omega), Lib.hid (IW.out.drewN _)⟩
            case measure => simp [intOf]; omega
          | true =>
            refine wp_region_quiet_lit (by kernel_rfl) (by kernel_rfl) ?_
            repeat (go_big_quiet_step (fail))
            go_big_quiet_want
            refine quiet_val (fun W _ => exec_neq27 _ _ W _ _ rfl t (s (slotN k)) rfl rfl true hq) ?_
            simp only [Act.put, List.setIfInBounds_toArray, List.set_cons_succ, List.set_cons_zero]
            go_big_quiet_on
            repeat (go_big_quiet_step (fail))
            refine wpQuiet_nil ?_
            rintro _ ⟨nq, rfl⟩
            go_wp2
            go_roundw
            case rel => exact ⟨1, slotN k + 1, rfl, by omega, by omega, by go_num, Lib.hid (fun h => by omega), Lib.hid (IW.out.drewN _)⟩
            case measure => simp [intOf]; omega
        · have hd : (k != p (slotN k)) = true := by rw [bne_iff_ne]; exact hp
          clear e1 e2 hp
          go_wp2
          refine wp_region_quiet_lit (by kernel_rfl) (by kernel_rfl) ?_
          repeat (go_big_quiet_step (fail))
          repeat (go_big_quiet_step (fail))
          refine wpQuiet_nil ?_
          rintro _ ⟨nq, rfl⟩
          go_wp2
          go_roundw
          case rel => exact ⟨1, slotN k + 1, rfl, by omega, by omega, by go_num, Lib.hid (fun h => by omega), Lib.hid (IW.out.drewN _)⟩
          case measure => simp [intOf]; omega
      · obtain ⟨e1, e2⟩ := HN.out j he
        rw [e1] at hA
        have HE := Lib.hid he
        have HE2 := Lib.hid e2
        clear e1 e2 he
        obtain ⟨c0, c1, c2, c3, c4, c5, c6, c7, c8, c9, c10, c11, c12⟩ := row13 R8.out j hlt
        rw [HE2.out] at c0 c1 c2 c3 c4 c5 c6 c7 c8 c9 c10 c11 c12
        obtain ⟨d0, d1, d2, d3, d4, d5, d6, d7, d8, d9, d10, d11, d12⟩ := row13 R0.out j hlt
        go_wp2
        refine wp_region_quiet_lit (by kernel_rfl) (by kernel_rfl) ?_
        repeat (go_big_quiet_step (fail))
        go_big_quiet_want
        refine quiet_val (fun W _ => exec_neq27 _ _ W _ _ rfl (s j) (s j) rfl rfl false (by rw [smpEq_self]; rfl)) ?_
        simp only [Act.put, List.setIfInBounds_toArray, List.set_cons_succ, List.set_cons_zero]
        go_big_quiet_on
        repeat (go_big_quiet_step (fail))
        refine wpQuiet_nil ?_
        rintro _ ⟨nq, rfl⟩
        go_wp2
        go_roundw
        case rel => exact ⟨m, j + 1, rfl, by omega, by omega, by go_num, Lib.hid (fun h => HM.out (by omega)), Lib.hid (IW.out.drewN _)⟩
        case measure => simp [intOf]; omega
    · have hc9 : ∀ o, wr.cell? ⟨n9, o, none⟩ = (t.cells)[o]? := fun o => cell_of_row wr n9 o t.cells 27 (0, 0) (IW.out.get _ _ (by simp))
      have hc1 : ∀ o, wr.cell? ⟨w.heap.size + 1, o, none⟩ = (t.cells)[o]? := fun o => cell_of_row wr (w.heap.size + 1) o t.cells 27 (0, 0) (IW.out.get _ _ (by simp))
      unfold Smp.cells at hc9 hc1
      have hm1 : decide ((m : Int) ≤ 1) = true := decide_eq_true (by omega)
      go_wp2_with (first
        | ((with_reducible show wpList _ _ _ (Oper.mk _ (Op.load 30 _) _ _ _ (some _) :: _) _ _); refine wl_load30g rfl _ rfl _ rfl p' s' (by exact IW.out.get _ _ (by simp)) ?_)
        | ((with_reducible show wpList _ _ _ (Oper.mk _ (Op.binOp BinOp.eql 27 _ _ _) _ _ _ _ :: _) _ _); refine wl_val rfl (exec_eql27 _ _ _ _ _ rfl t t rfl rfl true (smpEq_self t)) ?_))
      refine (rright_t HR2.out _).mono ?_
      rintro e w5 ⟨rfl, hb⟩
      have I5 := Lib.hid (IW.out.call hb)
      clear hb IW hc9 hc1
      go_wp2_with (first
        | ((with_reducible show wpList _ _ _ (Oper.mk _ (Op.load 30 _) _ _ _ (some _) :: _) _ _); refine wl_load30g rfl _ rfl _ rfl p' s' (by exact I5.out.get _ _ (by simp)) ?_))
      refine (newest_any p' s' _).mono ?_
      rintro e w6 ⟨rfl, hb⟩
      have I6 := Lib.hid (I5.out.call hb)
      have hg := HG.out
      clear hb I5
      go_wp2_with fail
      go_ret
      exact ⟨rfl, I6.out.1⟩


set_option maxHeartbeats 1000000 in
theorem ringFinds_bad (p : Nat → Int) (s : Nat → Smp) (k : Int) (t : Smp) (w : World) (hr : rightB p s = false) :
    Calls Try.prog 3 #[.agg (mk p s), .int .i64 k, .agg t.cells] w fun e w' => e = .returned (.bool true) ∧ Below w.heap.size w w' := by
  have I0 := Lib.hid (((Inv.start w).alloc (.cells (mk p s) 30)).alloc (.cells t.cells 27))
  have HR := Lib.hid hr
  clear hr
  go_enter Try.func3, Try.ntmps3
  go_wp2_with fail
  refine (shown_any _).mono ?_
  rintro e w1 ⟨rfl, hb⟩
  have I1 := Lib.hid (I0.out.call hb)
  clear hb I0
  go_wp2_with ((with_reducible show wpList _ _ _ (Oper.mk _ (Op.load 30 _) _ _ _ none :: _) _ _); refine wl_load30 rfl _ rfl _ rfl p s (by exact I1.out.get _ _ (by simp)) ?_)
  refine (rright_f HR.out _).mono ?_
  rintro e w2 ⟨rfl, hb⟩
  have I2 := Lib.hid (I1.out.call hb)
  clear hb I1
  go_wp2_with fail
  go_ret
  exact ⟨rfl, I2.out.1⟩

set_option maxHeartbeats 1000000 in
theorem ringFinds_out (p : Nat → Int) (s : Nat → Smp) (k : Int) (t : Smp) (w : World) (hr : rightB p s = true) (hk : k < 1 ∨ 4611686018427387904 < k) :
    Calls Try.prog 3 #[.agg (mk p s), .int .i64 k, .agg t.cells] w fun e w' => e = .returned (.bool true) ∧ Below w.heap.size w w' := by
  have I0 := Lib.hid (((Inv.start w).alloc (.cells (mk p s) 30)).alloc (.cells t.cells 27))
  have HR := Lib.hid hr
  clear hr
  by_cases h0 : k < 1
  all_goals
    first
      | (have h2 : 4611686018427387904 < k := by omega)
      | skip
    clear hk
    go_enter Try.func3, Try.ntmps3
    go_wp2_with fail
    refine (shown_any _).mono ?_
    rintro e w1 ⟨rfl, hb⟩
    have I1 := Lib.hid (I0.out.call hb)
    clear hb
    go_wp2_with ((with_reducible show wpList _ _ _ (Oper.mk _ (Op.load 30 _) _ _ _ none :: _) _ _); refine wl_load30 rfl _ rfl _ rfl p s (by exact I1.out.get _ _ (by simp)) ?_)
    refine (rright_t HR.out _).mono ?_
    rintro e w2 ⟨rfl, hb⟩
    have I2 := Lib.hid (I1.out.call hb)
    clear hb I1
    go_wp2_with fail
    go_ret
    exact ⟨rfl, I2.out.1⟩

theorem ringFinds_walk (p : Nat → Int) (s : Nat → Smp) (k : Int) (t : Smp) (w : World) :
    Calls Try.prog 3 #[.agg (mk p s), .int .i64 k, .agg t.cells] w fun e w' => e = .returned (.bool true) ∧ Below w.heap.size w w' := by
  cases hr : rightB p s with
  | false => exact ringFinds_bad p s k t w hr
  | true =>
    by_cases hk : 1 ≤ k ∧ k ≤ 4611686018427387904
    · by_cases h3 : p (slotN k) ≤ k
      · exact ringFinds_yes p s k t w hk.1 hk.2 hr h3
      · exact ringFinds_low p s k t w hk.1 hk.2 hr (by omega)
    · exact ringFinds_out p s k t w hr (by omega)
end Go.Proofs.Ytoibfkieadhelaa
