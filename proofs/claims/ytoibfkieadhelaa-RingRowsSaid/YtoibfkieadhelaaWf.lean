/-
  Fill and the reference's Fill: under the premises named.
-/
import Derived.Test.YtoibfkieadhelaaWe
namespace Go.Proofs.Ytoibfkieadhelaa
open Go.RowKit
theorem bcell {W w1 : World} (hb : Below W.heap.size W w1) : (∀ b o, b < W.heap.size → w1.cell? ⟨b, o, none⟩ = W.cell? ⟨b, o, none⟩) ∧ (∀ b o, b < W.heap.size → w1.frozen? ⟨b, o, none⟩ = W.frozen? ⟨b, o, none⟩) :=
  ⟨fun b o h => hb.cell (p := ⟨b, o, none⟩) h, fun b o h => hb.frozen (p := ⟨b, o, none⟩) h⟩

def Smp.miss : Smp := ⟨true, false, false, 0, 0, 0, 0, 0, 0, 0, 0, 0, 0⟩

set_option maxHeartbeats 1000000 in
theorem fill_yes (p : Nat → Int) (s : Nat → Smp) (k : Int) (w : World) (h0 : 1 ≤ k) (h1 : k ≤ 4611686018427387904) (hp : p (slotN k) = k) :
    Calls Try.prog 15 #[.agg (mk p s), .int .i64 k] w fun e w' => e = .returned (.agg (s (slotN k)).cells) ∧ Below w.heap.size w w' := by
  have HC := fun W => Lib.hid (get_yes p s k W h0 h1 (by rw [mk_place p s _ (slotN_lt k), hp]))
  go_enter Try.func15, Try.ntmps15
  go_wp2_with (refine wl_load30 rfl _ rfl _ rfl p s (by exact w2_0 _ _ _) ?_)
  refine (HC _).out.mono ?_
  rintro e w1 ⟨rfl, hb⟩
  obtain ⟨hc, hf⟩ := bcell hb
  have hz : w.heap.size + 1 < w1.heap.size := by have := hb.size; simp at this; omega
  clear HC
  unfold Smp.cells
  go_wp2
  refine bodyPost_ret (v := .agg (s (slotN k)).cells) ?_ rfl ⟨rfl, ?_⟩
  · simp [results, Try.results15, go_sem, hc, hz, Smp.cells]
  · refine Below.alloc ?_ (by simp; omega) _
    repeat refine Below.setCell ?_ (by simp) _
    exact (((Below.refl _ _).alloc (Nat.le_refl _) _).alloc (by simp) _).trans (hb.mono (by simp; omega))

set_option maxHeartbeats 1000000 in
theorem fill_no (p : Nat → Int) (s : Nat → Smp) (k : Int) (w : World) (hp : ¬ (1 ≤ k ∧ k ≤ 4611686018427387904 ∧ p (slotN k) = k)) :
    Calls Try.prog 15 #[.agg (mk p s), .int .i64 k] w fun e w' => e = .returned (.agg Smp.miss.cells) ∧ Below w.heap.size w w' := by
  have HC := fun W => Lib.hid (get_no p s k W hp)
  go_enter Try.func15, Try.ntmps15
  go_wp2_with (refine wl_load30 rfl _ rfl _ rfl p s (by exact w2_0 _ _ _) ?_)
  refine (HC _).out.mono ?_
  rintro e w1 ⟨rfl, hb⟩
  obtain ⟨hc, hf⟩ := bcell hb
  have hz : w.heap.size + 1 < w1.heap.size := by have := hb.size; simp at this; omega
  clear HC
  unfold Smp.cells
  go_wp2
  refine bodyPost_ret (v := .agg Smp.miss.cells) ?_ rfl ⟨rfl, ?_⟩
  · simp [results, Try.results15, go_sem, hc, hz, Smp.cells, Smp.miss]
  · refine Below.alloc ?_ (by simp; omega) _
    repeat refine Below.setCell ?_ (by simp) _
    exact (((Below.refl _ _).alloc (Nat.le_refl _) _).alloc (by simp) _).trans (hb.mono (by simp; omega))

set_option maxHeartbeats 1000000 in
theorem rfill_yes (p : Nat → Int) (s : Nat → Smp) (k : Int) (w : World) (n : Nat) (h0 : 0 < k) (hn : n < 16) (hp : p n = k) (hf : ∀ j, j < n → p j ≠ k) :
    Calls Try.prog 22 #[.agg (mk p s), .int .i64 k] w fun e w' => e = .returned (.agg (s n).cells) ∧ Below w.heap.size w w' := by
  have HC := fun W => Lib.hid (rget_yes p s k n W h0 hn hp hf)
  go_enter Try.func22, Try.ntmps22
  go_wp2_with (refine wl_load30 rfl _ rfl _ rfl p s (by exact w2_0 _ _ _) ?_)
  refine (HC _).out.mono ?_
  rintro e w1 ⟨rfl, hb⟩
  obtain ⟨hc, hf⟩ := bcell hb
  have hz : w.heap.size + 1 < w1.heap.size := by have := hb.size; simp at this; omega
  clear HC
  unfold Smp.cells
  go_wp2
  refine bodyPost_ret (v := .agg (s n).cells) ?_ rfl ⟨rfl, ?_⟩
  · simp [results, Try.results22, go_sem, hc, hz, Smp.cells]
  · refine Below.alloc ?_ (by simp; omega) _
    repeat refine Below.setCell ?_ (by simp) _
    exact (((Below.refl _ _).alloc (Nat.le_refl _) _).alloc (by simp) _).trans (hb.mono (by simp; omega))

set_option maxHeartbeats 1000000 in
theorem rfill_no (p : Nat → Int) (s : Nat → Smp) (k : Int) (w : World) (hp : k ≤ 0 ∨ ∀ j, j < 16 → p j ≠ k) :
    Calls Try.prog 22 #[.agg (mk p s), .int .i64 k] w fun e w' => e = .returned (.agg Smp.miss.cells) ∧ Below w.heap.size w w' := by
  have HC := fun W => Lib.hid (rget_no p s k W hp)
  go_enter Try.func22, Try.ntmps22
  go_wp2_with (refine wl_load30 rfl _ rfl _ rfl p s (by exact w2_0 _ _ _) ?_)
  refine (HC _).out.mono ?_
  rintro e w1 ⟨rfl, hb⟩
  obtain ⟨hc, hf⟩ := bcell hb
  have hz : w.heap.size + 1 < w1.heap.size := by have := hb.size; simp at this; omega
  clear HC
  unfold Smp.cells
  go_wp2
  refine bodyPost_ret (v := .agg Smp.miss.cells) ?_ rfl ⟨rfl, ?_⟩
  · simp [results, Try.results22, go_sem, hc, hz, Smp.cells, Smp.miss]
  · refine Below.alloc ?_ (by simp; omega) _
    repeat refine Below.setCell ?_ (by simp) _
    exact (((Below.refl _ _).alloc (Nat.le_refl _) _).alloc (by simp) _).trans (hb.mono (by simp; omega))
end Go.Proofs.Ytoibfkieadhelaa
