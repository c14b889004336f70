/-
  RingRows: whatever row of samples, the law returns true and changes nothing that was there. No conditions.
-/
import Derived.Test.YtoibfkieadhelaaWo
import Derived.StillTailTactics
import Derived.Deep.Cut
namespace Go.Proofs.Ytoibfkieadhelaa
open Go.RowKit Go.BigFrame

theorem rows13 {w : World} {b off len : Nat} {t : Nat → Smp} (h : RowsAt w b off len t) (i : Nat) (hi : i < len) :
    w.cell? ⟨b, off + i * 13, none⟩ = some (.bool (t i).m) ∧ w.cell? ⟨b, off + i * 13 + 1, none⟩ = some (.int .i64 (t i).g0) ∧ w.cell? ⟨b, off + i * 13 + 2, none⟩ = some (.int .i64 (t i).g1) ∧ w.cell? ⟨b, off + i * 13 + 3, none⟩ = some (.int .i64 (t i).g2) ∧ w.cell? ⟨b, off + i * 13 + 4, none⟩ = some (.int .i64 (t i).a0) ∧ w.cell? ⟨b, off + i * 13 + 5, none⟩ = some (.int .i64 (t i).a1) ∧ w.cell? ⟨b, off + i * 13 + 6, none⟩ = some (.int .i64 (t i).a2) ∧ w.cell? ⟨b, off + i * 13 + 7, none⟩ = some (.bool (t i).hb) ∧ w.cell? ⟨b, off + i * 13 + 8, none⟩ = some (.int .i64 (t i).b) ∧ w.cell? ⟨b, off + i * 13 + 9, none⟩ = some (.bool (t i).hg) ∧ w.cell? ⟨b, off + i * 13 + 10, none⟩ = some (.int .i64 (t i).n0) ∧ w.cell? ⟨b, off + i * 13 + 11, none⟩ = some (.int .i64 (t i).n1) ∧ w.cell? ⟨b, off + i * 13 + 12, none⟩ = some (.int .i64 (t i).n2) :=
  ⟨h i hi 0 (by omega), h i hi 1 (by omega), h i hi 2 (by omega), h i hi 3 (by omega), h i hi 4 (by omega), h i hi 5 (by omega), h i hi 6 (by omega), h i hi 7 (by omega), h i hi 8 (by omega), h i hi 9 (by omega), h i hi 10 (by omega), h i hi 11 (by omega), h i hi 12 (by omega)⟩
theorem RowsAt.below {w w' : World} {b off len : Nat} {t : Nat → Smp} (h : RowsAt w b off len t) (hlt : b < w.heap.size) (hb : Below w.heap.size w w') : RowsAt w' b off len t :=
  fun i hi j hj => (hb.cell (p := ⟨b, off + i * 13 + j, none⟩) hlt).trans (h i hi j hj)

set_option maxHeartbeats 1000000 in
theorem ringRows_many (a : Option Addr) (len cap : Nat) (w : World) (h : 60 < len) (h2 : len ≤ 9223372036854775807) :
    Calls Try.prog 4 #[.slice a len cap] w fun e w' => e = .returned (.bool true) ∧ Below w.heap.size w w' := by
  go_enter Try.func4, Try.ntmps4
  go_wp2_with fail
  refine (shown_any _).mono ?_
  rintro e w1 ⟨rfl, hb⟩
  have HB := Lib.hid hb
  clear hb
  go_wp2_with fail
  go_ret
  exact ⟨rfl, HB.out⟩

set_option maxHeartbeats 4000000 in
theorem ringRows_main (a : Option Addr) (len cap : Nat) (w : World) (h : len ≤ 60) (hA : len = 0 ∨ ∃ b off t, a = some ⟨b, off, none⟩ ∧ b < w.heap.size ∧ RowsAt w b off len t) :
    Calls Try.prog 4 #[.slice a len cap] w fun e w' => e = .returned (.bool true) ∧ Below w.heap.size w w' := by
  obtain ⟨t, HA⟩ : ∃ t, Hid (len = 0 ∨ ∃ b off, a = some ⟨b, off, none⟩ ∧ b < w.heap.size ∧ RowsAt w b off len t) := by
    rcases hA with h0 | ⟨b, off, t, h1⟩
    · exact ⟨zs, Lib.hid (Or.inl h0)⟩
    · exact ⟨t, Lib.hid (Or.inr ⟨b, off, h1⟩)⟩
  clear hA
  have I0 := Lib.hid (Inv.start w)
  have HG := Lib.hid (fun i (hi : i < len) => rows_get t len h i hi)
  have HN := Lib.hid (rows_new t len h)
  have HR := Lib.hid (rows_right t len h)
  go_enter Try.func4, Try.ntmps4
  go_wp2_with fail
  refine (shown_any _).mono ?_
  rintro e w1 ⟨rfl, hb⟩
  have I1 := Lib.hid ((I0.out.call hb).alloc (.cells (mk zp zs) 30))
  have hz := hb.size
  clear hb I0
  go_wp2_with (first
    | ((with_reducible show wpList _ _ _ (Oper.mk _ (Op.build 30 _) _ _ _ _ :: _) _ _); refine wl_build30 rfl rfl ?_)
    | ((with_reducible show wpList _ _ _ (Oper.mk _ (Op.store 30 _ _) _ _ _ _ :: _) _ _); refine wl_store30n rfl _ _ rfl _ zp zs rfl rfl _ zp zs rfl (by simp) ?_))
  generalize w1.alloc _ = W1 at *
  generalize w1.heap.size = nr at *
  go_loopw [5] (fun i wr => ∃ n : Nat, n ≤ len ∧ i = .int .i64 n ∧ Hid (Inv w.heap.size w [(nr, .cells (mk (rowsTo t n).p (rowsTo t n).s) 30)] wr)) (fun i _ => len - (intOf i).toNat)
  case atStart => exact ⟨0, by omega, rfl, I1⟩
  case round =>
    obtain ⟨n, hn, rfl, IW⟩ := hrel
    clear I1
    by_cases hlt : n < len
    · obtain ⟨b, off, rfl, hbl, HT⟩ : ∃ b off, a = some ⟨b, off, none⟩ ∧ b < w.heap.size ∧ RowsAt w b off len t := by
        rcases HA.out with h0 | h1
        · omega
        · exact h1
      clear HA
      have hnx : rowsTo t (n + 1) = putR (rowsTo t n) ((n : Int) + 1) (t n) := rfl
      generalize hr : rowsTo t n = r at *
      generalize hr2 : rowsTo t (n + 1) = r2 at *
      have HX := Lib.hid (And.intro hr2 hnx)
      clear hr hr2 hnx
      have I2 := Lib.hid IW.out.drew
      go_wp2
      refine wp_region_still_tail 7 (by kernel_rfl) (by kernel_rfl) ?_
      simp only [List.take_succ_cons, List.take_zero, List.drop_succ_cons, List.drop_zero, World.drew_eq]
      have HT2 := HT.below hbl I2.out.1
      generalize wr.drew = w2 at I2 HT2 ⊢
      obtain ⟨c0, c1, c2, c3, c4, c5, c6, c7, c8, c9, c10, c11, c12⟩ := rows13 HT2 n hlt
      have H2 := Lib.hid HT
      clear HT HT2 IW
      refine wpStill_value rfl (exec_load30 _ _ _ _ rfl _ rfl r.p r.s (by exact I2.out.get nr (.cells (mk r.p r.s) 30) (by simp))) ?_
      repeat still_step
      refine wpStill_nil ?_
      clear c0 c1 c2 c3 c4 c5 c6 c7 c8 c9 c10 c11 c12
      go_wp2_with fail
      refine (put_any r ((n : Int) + 1) (t n) _).mono ?_
      rintro e w3 ⟨rfl, hb⟩
      have I3 := Lib.hid (I2.out.call hb)
      clear hb I2
      rw [← HX.out.2]
      go_wp2_with ((with_reducible show wpList _ _ _ (Oper.mk _ (Op.store 30 _ _) _ _ _ _ :: _) _ _); refine wl_store30 rfl _ _ rfl _ r2.p r2.s rfl rfl r.p r.s (by exact I3.out.get nr (.cells (mk r.p r.s) 30) (by simp)) ?_)
      go_roundw
      case rel => exact ⟨n + 1, by omega, by go_num, Lib.hid (by rw [HX.out.1]; exact I3.out.setRow hz (fun x hx => by cases hx))⟩
      case measure => simp [intOf]; omega
    · obtain rfl : n = len := by omega
      clear hn hlt
      have I2 := IW
      generalize rowsTo t n = r at *
      clear IW
      go_wp2
      go_loopw [6] (fun i wr => ∃ j : Nat, j ≤ n ∧ i = .int .i64 j ∧ Hid (Inv w.heap.size w [(nr, .cells (mk r.p r.s) 30)] wr)) (fun i _ => n - (intOf i).toNat)
      case atStart => exact ⟨0, by omega, rfl, I2⟩
      case round =>
        obtain ⟨j, hj, rfl, IW⟩ := hrel
        clear I2
        by_cases hlt : j < n
        · obtain ⟨b, off, rfl, hbl, HT⟩ : ∃ b off, a = some ⟨b, off, none⟩ ∧ b < w.heap.size ∧ RowsAt w b off n t := by
            rcases HA.out with h0 | h1
            · omega
            · exact h1
          clear HA
          obtain ⟨g1, g2⟩ := HG.out j hlt
          have C13 := fun W => Lib.hid (get_gen r.p r.s ((j : Int) + 1) W (by omega) (by omega))
          generalize getS r.p r.s ((j : Int) + 1) = gs at *
          generalize getB r.p ((j : Int) + 1) = gb at *
          unfold Smp.cells at C13
          by_cases hc : n ≤ j + 16
          · obtain rfl := g2 hc
            obtain rfl : gb = true := by rw [g1]; exact decide_eq_true hc
            clear g1 g2
            have hd : decide ((n : Int) - 16 ≤ (j : Int)) = true := decide_eq_true (by omega)
            go_wp2_with ((with_reducible show wpList _ _ _ (Oper.mk _ (Op.load 30 _) _ _ _ none :: _) _ _); refine wl_load30 rfl _ rfl _ rfl r.p r.s (by exact IW.out.get nr (.cells (mk r.p r.s) 30) (by simp)) ?_)
            refine (C13 _).out.mono ?_
            rintro e w5 ⟨rfl, hb⟩
            have I5 := Lib.hid ((IW.out.call hb).alloc (.cells (t j).cells 27))
            clear hb IW C13
            unfold Smp.cells at I5
            go_wp2_with fail
            go_wp2_with fail
            have HC := fun o => cell_of_row _ w5.heap.size o (t j).cells 27 (0, 0) (I5.out.get w5.heap.size (.cells (t j).cells 27) (by simp [Smp.cells]))
            unfold Smp.cells at HC
            generalize w5.alloc _ = W5 at *
            generalize w5.heap.size = n5 at *
            have HT2 := Lib.hid (HT.below hbl I5.out.1)
            have H1 := Lib.hid HT
            clear HT
            have HR13 := rows13 HT2.out j hlt
            obtain ⟨c0, c1, c2, c3, c4, c5, c6, c7, c8, c9, c10, c11, c12⟩ := HR13
            refine wp_region_quiet_lit (by kernel_rfl) (by kernel_rfl) ?_
            repeat (go_big_quiet_step (fail))
            go_big_quiet_want
            refine quiet_val (fun W _ => exec_neq27 _ _ W _ _ rfl (t j) (t j) rfl rfl false (by rw [smpEq_self]; rfl)) ?_
            simp only [Act.put, List.setIfInBounds_toArray, List.set_cons_succ, List.set_cons_zero]
            go_big_quiet_on
            repeat (go_big_quiet_step (fail))
            refine wpQuiet_nil ?_
            rintro _ ⟨nq, rfl⟩
            clear c0 c1 c2 c3 c4 c5 c6 c7 c8 c9 c10 c11 c12 HC
            go_wp2
            go_roundw
            case rel => exact ⟨j + 1, by omega, by go_num, Lib.hid ((I5.out.drewN _).sub (fun x hx => List.mem_cons_of_mem _ hx))⟩
            case measure => simp [intOf]; omega
          · obtain rfl : gb = false := by rw [g1]; exact decide_eq_false hc
            clear g1 g2
            have hd : decide ((n : Int) - 16 ≤ (j : Int)) = false := decide_eq_false (by omega)
            go_wp2_with ((with_reducible show wpList _ _ _ (Oper.mk _ (Op.load 30 _) _ _ _ none :: _) _ _); refine wl_load30 rfl _ rfl _ rfl r.p r.s (by exact IW.out.get nr (.cells (mk r.p r.s) 30) (by simp)) ?_)
            refine (C13 _).out.mono ?_
            rintro e w5 ⟨rfl, hb⟩
            have I5 := Lib.hid ((IW.out.call hb).alloc (.cells gs.cells 27))
            clear hb IW C13
            unfold Smp.cells at I5
            go_wp2_with fail
            generalize w5.alloc _ = W5 at *
            generalize w5.heap.size = n5 at *
            have H1 := Lib.hid HT
            clear HT
            refine wp_region_quiet_lit (by kernel_rfl) (by kernel_rfl) ?_
            repeat (go_big_quiet_step (fail))
            refine wpQuiet_nil ?_
            rintro _ ⟨nq, rfl⟩
            go_wp2
            go_roundw
            case rel => exact ⟨j + 1, by omega, by go_num, Lib.hid ((I5.out.drewN _).sub (fun x hx => List.mem_cons_of_mem _ hx))⟩
            case measure => simp [intOf]; omega
        · have J1 := IW
          clear IW
          go_wp2_with ((with_reducible show wpList _ _ _ (Oper.mk _ (Op.load 30 _) _ _ _ (some _) :: _) _ _); refine wl_load30g rfl _ rfl _ rfl r.p r.s (by exact J1.out.get nr (.cells (mk r.p r.s) 30) (by simp)) ?_)
          refine (newest_any r.p r.s _).mono ?_
          rintro e w7 ⟨rfl, hb⟩
          rw [HN.out]
          have J2 := Lib.hid (J1.out.call hb)
          clear hb J1
          go_wp2_with ((with_reducible show wpList _ _ _ (Oper.mk _ (Op.load 30 _) _ _ _ (some _) :: _) _ _); refine wl_load30g rfl _ rfl _ rfl r.p r.s (by exact J2.out.get nr (.cells (mk r.p r.s) 30) (by simp)) ?_)
          refine (rright_t HR.out _).mono ?_
          rintro e w8 ⟨rfl, hb⟩
          have J3 := Lib.hid (J2.out.call hb)
          clear hb J2
          go_wp2_with fail
          go_ret
          exact ⟨rfl, J3.out.1⟩

theorem ringRows_walk (a : Option Addr) (len cap : Nat) (hl : len ≤ 9223372036854775807) (w : World) (hA : len = 0 ∨ ∃ b off t, a = some ⟨b, off, none⟩ ∧ b < w.heap.size ∧ RowsAt w b off len t) :
    Calls Try.prog 4 #[.slice a len cap] w fun e w' => e = .returned (.bool true) ∧ Below w.heap.size w w' := by
  by_cases h : len ≤ 60
  · exact ringRows_main a len cap w h hA
  · exact ringRows_many a len cap w (by omega) hl
end Go.Proofs.Ytoibfkieadhelaa
