/-
  The reference's Merge: for every two rings.
-/
import Derived.Test.YtoibfkieadhelaaWh
namespace Go.Proofs.Ytoibfkieadhelaa
open Go.RowKit

/-- The reference's merged ring, slot by slot. -/
def rmP (a b : Rg) (n : Nat) : Nat → Int := fun i => if i < n ∧ a.p i < b.p i then b.p i else a.p i
def rmS (a b : Rg) (n : Nat) : Nat → Smp := fun i => if i < n ∧ a.p i < b.p i then b.s i else a.s i
theorem rmP_zero (a b : Rg) : rmP a b 0 = a.p := by funext i; simp [rmP]
theorem rmS_zero (a b : Rg) : rmS a b 0 = a.s := by funext i; simp [rmS]
theorem rmP_yes (a b : Rg) (n : Nat) (h : a.p n < b.p n) : (fun i => if i = n then b.p n else rmP a b n i) = rmP a b (n + 1) := by
  funext i
  unfold rmP
  by_cases e : i = n
  · subst e; rw [if_pos rfl, if_pos ⟨by omega, h⟩]
  · rw [if_neg e]
    by_cases l : i < n
    · simp [l, Nat.lt_succ_of_lt l]
    · rw [if_neg (fun h => l h.1), if_neg (fun h => by have := h.1; omega)]
theorem rmS_yes (a b : Rg) (n : Nat) (h : a.p n < b.p n) : (fun i => if i = n then b.s n else rmS a b n i) = rmS a b (n + 1) := by
  funext i
  unfold rmS
  by_cases e : i = n
  · subst e; rw [if_pos rfl, if_pos ⟨by omega, h⟩]
  · rw [if_neg e]
    by_cases l : i < n
    · simp [l, Nat.lt_succ_of_lt l]
    · rw [if_neg (fun h => l h.1), if_neg (fun h => by have := h.1; omega)]
theorem rmP_no (a b : Rg) (n : Nat) (h : ¬ a.p n < b.p n) : rmP a b n = rmP a b (n + 1) := by
  funext i
  unfold rmP
  by_cases e : i = n
  · subst e; rw [if_neg (fun q => h q.2), if_neg (fun q => h q.2)]
  · by_cases l : i < n
    · simp [l, Nat.lt_succ_of_lt l]
    · rw [if_neg (fun h => l h.1), if_neg (fun h => by have := h.1; omega)]
theorem rmS_no (a b : Rg) (n : Nat) (h : ¬ a.p n < b.p n) : rmS a b n = rmS a b (n + 1) := by
  funext i
  unfold rmS
  by_cases e : i = n
  · subst e; rw [if_neg (fun q => h q.2), if_neg (fun q => h q.2)]
  · by_cases l : i < n
    · simp [l, Nat.lt_succ_of_lt l]
    · rw [if_neg (fun h => l h.1), if_neg (fun h => by have := h.1; omega)]

@[go_sem] theorem setCell_drewN (w : World) (n : Nat) (a : Addr) (v : Value) : (w.drewN n).setCell a v = (w.setCell a v).drewN n := rfl

set_option maxHeartbeats 2000000 in
theorem rmerge_any (a b : Rg) (w : World) :
    Calls Try.prog 21 #[.agg (mk a.p a.s), .agg (mk b.p b.s)] w fun e w' => e = .returned (.agg (mk (rmP a b 16) (rmS a b 16))) ∧ Below w.heap.size w w' := by
  have H0 := Lib.hid (rmP_zero a b)
  have H1 := Lib.hid (rmS_zero a b)
  go_enter Try.func21, Try.ntmps21
  go_wp2_with (first
      | ((with_reducible show wpList _ _ _ (Oper.mk _ (Op.load 30 _) _ _ _ _ :: _) _ _); refine wl_load30 rfl _ rfl _ rfl a.p a.s (by exact w3_0 _ _ _ _) ?_)
      | ((with_reducible show wpList _ _ _ (Oper.mk _ (Op.store 30 _ _) _ _ _ _ :: _) _ _); refine wl_store30n rfl _ _ rfl _ a.p a.s rfl rfl _ zp zs rfl (by simp) ?_))
  go_loopw [6] (fun i wr => ∃ n : Nat, n ≤ 16 ∧ i = .int .i64 n ∧ ∃ q r d, wr = (((((w.alloc (.cells (mk a.p a.s) 30)).alloc (.cells (mk b.p b.s) 30)).alloc (.cells (mk zp zs) 30)).alloc (.cells (mk q r) 30)).drewN d) ∧ Hid (q = rmP a b n ∧ r = rmS a b n)) (fun i _ => 16 - (intOf i).toNat)
  case atStart => exact ⟨0, by omega, rfl, a.p, a.s, 0, rfl, Lib.hid ⟨H0.out.symm, H1.out.symm⟩⟩
  case round =>
    obtain ⟨n, hn, rfl, q, r, d, rfl, HQ⟩ := hrel
    clear H0 H1
    by_cases hlt : n < 16
    · have hA := mk_place a.p a.s n hlt
      have hB := mk_place b.p b.s n hlt
      by_cases he : a.p n < b.p n
      · have HE := Lib.hid (rmP_yes a b n he)
        have HE' := Lib.hid (rmS_yes a b n he)
        go_wp2
        go_quiet (fail)
        clear hA
        have hC := mk_place q r n hlt
        obtain ⟨c0, c1, c2, c3, c4, c5, c6, c7, c8, c9, c10, c11, c12⟩ := mk13 b.p b.s n hlt
        obtain ⟨d0, d1, d2, d3, d4, d5, d6, d7, d8, d9, d10, d11, d12⟩ := mk13 q r n hlt
        have n0 : ∀ j, ¬ n = 16 + n * 13 + j := fun j => by omega
        have n1 : ¬ n = 16 + n * 13 := by omega
        go_wp2
        rw [put_fin _ _ _ hlt]
        go_roundw
        case rel => exact ⟨n + 1, by omega, by go_num, _, _, d + nq, rfl, Lib.hid (by obtain ⟨rfl, rfl⟩ := HQ.out; exact ⟨HE.out, HE'.out⟩)⟩
        case measure => simp [intOf]; omega
      · have HE := Lib.hid (rmP_no a b n he)
        have HE' := Lib.hid (rmS_no a b n he)
        go_wp2
        go_quiet (fail)
        clear hA
        go_wp2
        go_roundw
        case rel => exact ⟨n + 1, by omega, by go_num, q, r, d + nq, rfl, Lib.hid (by obtain ⟨rfl, rfl⟩ := HQ.out; exact ⟨HE.out, HE'.out⟩)⟩
        case measure => simp [intOf]; omega
    · obtain rfl : n = 16 := by omega
      obtain ⟨rfl, rfl⟩ := HQ.out
      clear HQ
      go_wp2_with (first
        | ((with_reducible show wpList _ _ _ (Oper.mk _ (Op.load 30 _) _ _ _ _ :: _) _ _); refine wl_load30 rfl _ rfl _ rfl (rmP a b 16) (rmS a b 16) (by exact w4_3 _ _ _ _ _) ?_)
        | ((with_reducible show wpList _ _ _ (Oper.mk _ (Op.store 30 _ _) _ _ _ _ :: _) _ _); refine wl_store30 rfl _ _ rfl _ (rmP a b 16) (rmS a b 16) rfl rfl zp zs (by exact w4_2 _ _ _ _ _) ?_))
      refine bodyPost_ret (v := .agg (mk (rmP a b 16) (rmS a b 16))) ?_ rfl ⟨rfl, ?_⟩
      · refine results30 Try.results21 _ _ (w.heap.size + 1 + 1) _ _ rfl ?_
        exact setRow_heap _ _ _ _ _ _ (w4_2 _ _ _ _ _)
      exact below_setRow (below_drewN (((((Below.refl _ _).alloc (Nat.le_refl _) _).alloc (by simp) _).alloc (by simp; omega) _).alloc (by simp; omega) _) _) (by omega) _
end Go.Proofs.Ytoibfkieadhelaa
