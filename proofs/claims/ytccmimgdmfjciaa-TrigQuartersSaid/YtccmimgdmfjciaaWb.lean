/-
  Turn, the program's and the reference's: the same, whatever place: no conditions but that it is an int.
-/
import Derived.Test.YtccmimgdmfjciaaBase
import Derived.Great.BuildSlice
namespace Go.Proofs.Ytccmimgdmfjciaa
open Go.RowKit
theorem index47 (n : Nat) (hn : n < 30) (w : World) : (Instr.index 47 (.agg tv) (.int .i64 n)).run Try.prog w = .ok (.int .i32 (tn n)) w := by
  have h1 : 0 ≤ (n : Int) ∧ (n : Int) < 30 := by omega
  have ht := tv_at n hn
  simp [Instr.index, run_underlying Try.underlying47, asIntOf, h1, go_sem, part, isAgg, run_underlying Try.underlying21, hn, ht]
theorem tn_out {n : Nat} (h : 30 ≤ n) : tn n = 0 := by
  unfold tn
  rw [List.getD_eq_getElem?_getD, List.getElem?_eq_none (by exact h)]; rfl
theorem turn_any (i : Int) (w : World) (h0 : -9223372036854775808 ≤ i) (h1 : i ≤ 9223372036854775807) : Calls Try.prog 14 #[.int .i64 i] w fun e w' => e = .returned (.int .i32 (if i < 0 then 0 else tn i.toNat)) ∧ Below w.heap.size w w' := by
  by_cases h : 0 ≤ i ∧ i < 30
  · obtain ⟨n, rfl⟩ : ∃ n : Nat, i = n := ⟨i.toNat, by omega⟩
    have hX := index47 n (by omega)
    rw [if_neg (by omega), Int.toNat_natCast]
    go_enter Try.func14, Try.ntmps14
    go_wp2_with (go_at_call 27; refine (turns_any _).mono ?_; rintro e w1 ⟨rfl, hb⟩)
    go_ret
    exact ⟨rfl, hb⟩
  · have hz : (if i < 0 then 0 else tn i.toNat) = 0 := by
      by_cases hn : i < 0
      · rw [if_pos hn]
      · rw [if_neg hn]; exact tn_out (by omega)
    rw [hz]
    by_cases hn : i < 0
    · clear hz h
      go_enter Try.func14, Try.ntmps14
      go_wp2
      go_ret
      exact ⟨rfl, Below.refl _ _⟩
    · have : 30 ≤ i := by omega
      clear hz h
      go_enter Try.func14, Try.ntmps14
      go_wp2
      go_ret
      exact ⟨rfl, Below.refl _ _⟩
theorem tv_eq : (tl.map (Value.int .i32)).toArray = tv := by unfold tv; rfl
theorem rturn_any (i : Int) (w : World) (h0 : -9223372036854775808 ≤ i) (h1 : i ≤ 9223372036854775807) : Calls Try.prog 15 #[.int .i64 i] w fun e w' => e = .returned (.int .i32 (if i < 0 then 0 else tn i.toNat)) ∧ Below w.heap.size w w' := by
  by_cases h : 0 ≤ i ∧ i < 30
  · obtain ⟨n, rfl⟩ : ∃ n : Nat, i = n := ⟨i.toNat, by omega⟩
    have ht : (w.alloc (.cells tv 21)).cell? ⟨w.heap.size, n, none⟩ = some (.int .i32 (tn n)) := by
      have := tv_at n (by omega)
      unfold World.cell?
      rw [heap_alloc_new]
      exact this
    rw [if_neg (by omega), Int.toNat_natCast]
    go_enter Try.func15, Try.ntmps15
    go_wp2_with ((with_reducible show wpList _ _ _ (Oper.mk _ (Op.buildSlice 49 30 _) _ _ _ _ :: _) _ _); refine wpList_buildFlat rfl 49 21 30 _ rfl .i32 tl Try.underlying49 (by kernel_rfl) (by kernel_rfl) rfl (by decide) (by decide) rfl ?_; rw [tv_eq])
    go_ret
    exact ⟨rfl, (Below.refl _ _).alloc (Nat.le_refl _) _⟩
  · have hz : (if i < 0 then 0 else tn i.toNat) = 0 := by
      by_cases hn : i < 0
      · rw [if_pos hn]
      · rw [if_neg hn]; exact tn_out (by omega)
    rw [hz]
    by_cases hn : i < 0
    · clear hz h
      go_enter Try.func15, Try.ntmps15
      go_wp2_with ((with_reducible show wpList _ _ _ (Oper.mk _ (Op.buildSlice 49 30 _) _ _ _ _ :: _) _ _); refine wpList_buildFlat rfl 49 21 30 _ rfl .i32 tl Try.underlying49 (by kernel_rfl) (by kernel_rfl) rfl (by decide) (by decide) rfl ?_; rw [tv_eq])
      go_ret
      exact ⟨rfl, (Below.refl _ _).alloc (Nat.le_refl _) _⟩
    · have : 30 ≤ i := by omega
      clear hz h
      go_enter Try.func15, Try.ntmps15
      go_wp2_with ((with_reducible show wpList _ _ _ (Oper.mk _ (Op.buildSlice 49 30 _) _ _ _ _ :: _) _ _); refine wpList_buildFlat rfl 49 21 30 _ rfl .i32 tl Try.underlying49 (by kernel_rfl) (by kernel_rfl) rfl (by decide) (by decide) rfl ?_; rw [tv_eq])
      go_ret
      exact ⟨rfl, (Below.refl _ _).alloc (Nat.le_refl _) _⟩
end Go.Proofs.Ytccmimgdmfjciaa
