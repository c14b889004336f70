/-
  The merged ring, slot by slot, of two right rings; Get by one contract: plain facts and two contracts.
-/
import Derived.Test.YtoibfkieadhelaaWl
namespace Go.Proofs.Ytoibfkieadhelaa
open Go.RowKit

theorem okAt_pos {p : Nat → Int} {s : Nat → Smp} {i : Nat} (h : okAt p s i = true) (h0 : p i ≠ 0) : 1 ≤ p i ∧ p i ≤ 4611686018427387904 ∧ slotN (p i) = i := by
  unfold okAt at h
  rw [if_neg h0] at h
  exact of_decide_eq_true h
theorem okAt_ge {p : Nat → Int} {s : Nat → Smp} {i : Nat} (h : okAt p s i = true) : 0 ≤ p i := by
  by_cases h0 : p i = 0
  · omega
  · have := okAt_pos h h0; omega

theorem mergeTo_spec (a b : Rg) (ha : rightB a.p a.s = true) (hb : rightB b.p b.s = true) : ∀ n, n ≤ 16 → ∀ i, i < 16 → (mergeTo a b n).p i = rmP a b n i ∧ (mergeTo a b n).s i = rmS a b n i
  | 0, _, i, hi => by simp [mergeTo, rmP, rmS]
  | n + 1, hn, i, hi => by
    have ih := mergeTo_spec a b ha hb n (by omega)
    have ihn := ih n (by omega)
    have ihi := ih i hi
    have hp : rmP a b n n = a.p n := by unfold rmP; rw [if_neg (fun h => by have := h.1; omega)]
    have hok := rightB_true hb n (by omega)
    have hoka := okAt_ge (rightB_true ha n (by omega))
    show (if b.p n = (mergeTo a b n).p n then mergeTo a b n else putR (mergeTo a b n) (b.p n) (b.s n)).p i = _ ∧ (if b.p n = (mergeTo a b n).p n then mergeTo a b n else putR (mergeTo a b n) (b.p n) (b.s n)).s i = _
    rw [ihn.1, hp]
    by_cases e : b.p n = a.p n
    · rw [if_pos e]
      rw [← congrFun (rmP_no a b n (by omega)) i, ← congrFun (rmS_no a b n (by omega)) i]
      exact ihi
    · rw [if_neg e]
      unfold putR
      by_cases lt : a.p n < b.p n
      · have h0 : b.p n ≠ 0 := by omega
        obtain ⟨h1, h2, h3⟩ := okAt_pos hok h0
        rw [h3, ihn.1, hp, if_pos ⟨h1, h2, by omega⟩]
        rw [← congrFun (rmP_yes a b n lt) i, ← congrFun (rmS_yes a b n lt) i]
        unfold upP upS
        rw [h3]
        by_cases q : i = n
        · simp [q]
        · simp only [if_neg q]; exact ihi
      · rw [← congrFun (rmP_no a b n lt) i, ← congrFun (rmS_no a b n lt) i]
        by_cases h0 : b.p n = 0
        · rw [if_neg (fun h => by have := h.1; omega)]; exact ihi
        · obtain ⟨h1, h2, h3⟩ := okAt_pos hok h0
          rw [h3, ihn.1, hp, if_neg (fun h => by have := h.2.2; omega)]
          exact ihi

theorem merge_right (a b : Rg) (ha : rightB a.p a.s = true) (hb : rightB b.p b.s = true) (w : World) :
    Calls Try.prog 16 #[.agg (mk a.p a.s), .agg (mk b.p b.s)] w fun e w' => e = .returned (.agg (mk (rmP a b 16) (rmS a b 16))) ∧ Below w.heap.size w w' := by
  have h := mergeTo_spec a b ha hb 16 (Nat.le_refl _)
  rw [← mk_congr (fun i hi => (h i hi).1) (fun i hi => (h i hi).2)]
  exact merge_any a b w

theorem rmP_at (a b : Rg) (i : Nat) (h : i < 16) : rmP a b 16 i = if a.p i < b.p i then b.p i else a.p i := by simp [rmP, h]
theorem rmS_at (a b : Rg) (i : Nat) (h : i < 16) : rmS a b 16 i = if a.p i < b.p i then b.s i else a.s i := by simp [rmS, h]

def getB (p : Nat → Int) (k : Int) : Bool := decide (p (slotN k) = k)
def getS (p : Nat → Int) (s : Nat → Smp) (k : Int) : Smp := if p (slotN k) = k then s (slotN k) else Smp.zero
theorem get_gen (p : Nat → Int) (s : Nat → Smp) (k : Int) (w : World) (h1 : 1 ≤ k) (h2 : k ≤ 4611686018427387904) :
    Calls Try.prog 13 #[.agg (mk p s), .int .i64 k] w fun e w' => e = .returned (.tuple #[.agg (getS p s k).cells, .bool (getB p k)]) ∧ Below w.heap.size w w' := by
  unfold getS getB
  by_cases h : p (slotN k) = k
  · rw [if_pos h, decide_eq_true h]
    exact get_yes p s k w h1 h2 (by rw [mk_place _ _ _ (slotN_lt k), h])
  · rw [if_neg h, decide_eq_false h]
    exact get_no p s k w (fun q => h q.2.2)
end Go.Proofs.Ytoibfkieadhelaa
