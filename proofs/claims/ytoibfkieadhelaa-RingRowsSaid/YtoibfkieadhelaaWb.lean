/-
  Put where it lays a sample: the new ring; under the premises that the place may be and is not below the one that stands there.
-/
import Derived.Test.YtoibfkieadhelaaWa
namespace Go.Proofs.Ytoibfkieadhelaa
open Go.RowKit
set_option maxHeartbeats 4000000 in
theorem put_yes (p : Nat → Int) (s : Nat → Smp) (k : Int) (t : Smp) (w : World) (h1 : 1 ≤ k) (h2 : k ≤ 4611686018427387904) (h3 : p (slotN k) ≤ k) :
    Calls Try.prog 12 #[.agg (mk p s), .int .i64 k, .agg t.cells] w fun e w' => e = .returned (.agg (mk (fun i => if i = slotN k then k else p i) (fun i => if i = slotN k then t else s i))) ∧ Below w.heap.size w w' := by
  obtain ⟨p', hp'⟩ : ∃ p', p' = fun i => if i = slotN k then k else p i := ⟨_, rfl⟩
  obtain ⟨s', hs'⟩ : ∃ s', s' = fun i => if i = slotN k then t else s i := ⟨_, rfl⟩
  rw [← hp', ← hs']
  have P' := Lib.hid hp'
  have S' := Lib.hid hs'
  clear hp' hs'
  have hl := slotN_lt k
  have hR := mk_place p s (slotN k) hl
  obtain ⟨c0, c1, c2, c3, c4, c5, c6, c7, c8, c9, c10, c11, c12⟩ := mk13 p s (slotN k) hl
  unfold Smp.cells
  go_enter Try.func12, Try.ntmps12
  go_wp2_with (first
      | (go_at_call 24; refine (may_yes _ _ (by omega) (by omega)).mono ?_; rintro e w' ⟨rfl, rfl⟩)
      | (go_at_call 25; refine (slot_any _ _ (by omega) (by omega)).mono ?_; rintro e w' ⟨rfl, rfl⟩))
  have n0 : ∀ j, ¬ slotN k = 16 + slotN k * 13 + j := fun j => by omega
  have n1 : ¬ slotN k = 16 + slotN k * 13 := by omega
  go_region_with (first
      | (go_at_call 25; refine (slot_any _ _ (by omega) (by omega)).mono ?_; rintro e w' ⟨rfl, rfl⟩))
  all_goals
    rw [put_fin _ _ _ hl, ← P'.out, ← S'.out]
    clear c0 c1 c2 c3 c4 c5 c6 c7 c8 c9 c10 c11 c12 hR h3 n0 n1
    go_wp2_with (first
      | (refine wl_load30 rfl _ rfl _ rfl p' s' (by exact w3_0 _ _ _ _) ?_)
      | (refine wl_store30 rfl _ _ rfl _ p' s' rfl rfl zp zs (by exact w3_2 _ _ _ _) ?_))
    refine bodyPost_ret (v := .agg (mk p' s')) ?_ rfl ⟨rfl, ?_⟩
    · refine results30 Try.results12 _ _ (w.heap.size + 1 + 1) p' s' rfl ?_
      exact setRow_heap _ _ _ _ _ _ (w3_2 _ _ _ _)
    exact below_setRow ((((Below.refl _ _).alloc (Nat.le_refl _) _).alloc (by simp) _).alloc (by simp; omega) _).drew (by omega) _
end Go.Proofs.Ytoibfkieadhelaa
