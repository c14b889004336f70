/-
  What the reference's In keeps: an end's own copy beside the three boxes; plain facts.
-/
import Derived.Test.YtoblckocmakakaaRb
import Derived.Test.YtoblckocmakakaaComesSt
namespace Go.Proofs.Ytoblckocmakakaa
open Go.RowKit
/-- The boxes of an end, a packet and a result, and a fourth one with an end of the call's own. -/
structure Rx (w : World) (n : Nat) (l : Lk) (a : Option Addr) (c : Nat) (p : Pk) (pa : Option Addr) (pc : Nat) (bo : Nat) (M : Lk) (s : Option Addr) (t : Nat) (W : World) : Prop where
  bel : Below n w W
  b0 : W.heap[n]? = some (lkO l a c)
  b1 : W.heap[n + 1]? = some (pkO p pa pc)
  b2 : W.heap[n + 1 + 1]? = some (.cells zlA 26)
  le : n + 3 ≤ bo
  hbo : W.heap[bo]? = some (lkO M s t)
  sl : SlIs W s M.sent
  ct : M.sent.length ≤ t
  ap : Apart bo s
  si : Since' (n + 3) s
  old : Old W s
section
variable {w : World} {n : Nat} {l : Lk} {a : Option Addr} {c : Nat} {p : Pk} {pa : Option Addr} {pc : Nat} {bo : Nat} {M : Lk} {s : Option Addr} {t : Nat} {W W' : World}
theorem Rx.lt (h : Rx w n l a c p pa pc bo M s t W) : bo < W.heap.size := (Array.getElem?_eq_some_iff.1 h.hbo).1
theorem Rx.below (h : Rx w n l a c p pa pc bo M s t W) (hb : Below W.heap.size W W') : Rx w n l a c p pa pc bo M s t W' :=
  { h with
    bel := h.bel.trans (hb.mono (by have := h.lt; have := h.le; omega))
    b0 := old_kept hb h.b0
    b1 := old_kept hb h.b1
    b2 := old_kept hb h.b2
    hbo := old_kept hb h.hbo
    sl := h.sl.below hb
    old := h.old.below hb }
/-- A row that grows turns none of it. -/
theorem Rx.grown (h : Rx w n l a c p pa pc bo M s t W) {row : Option Nat} (hg : W.grownBy W' row) (h0 : row ≠ some n) (h1 : row ≠ some (n + 1)) (h2 : row ≠ some (n + 1 + 1)) (h3 : row ≠ some bo) (hs : ∀ g, row = some g → Apart g s) (hn : ∀ g, row = some g → n ≤ g) : Rx w n l a c p pa pc bo M s t W' :=
  { h with
    bel := h.bel.grown hg (by have := h.lt; have := h.le; omega) hn
    b0 := grown_at hg h.b0 h0
    b1 := grown_at hg h.b1 h1
    b2 := grown_at hg h.b2 h2
    hbo := grown_at hg h.hbo h3
    sl := h.sl.grown hg hs
    old := fun b off e => Nat.lt_of_lt_of_le (h.old b off e) hg.size }
theorem Rx.setAt (h : Rx w n l a c p pa pc bo M s t W) {j : Nat} {v : Value} {M' : Lk} (hv : (lkA M s t).setIfInBounds j v = lkA M' s t) (hM : M'.sent = M.sent) : Rx w n l a c p pa pc bo M' s t (W.setCell ⟨bo, j, none⟩ v) where
  bel := h.bel.setCell (by have := h.le; show n ≤ bo; omega) _
  b0 := by rw [heap_setCell_other _ _ _ _ (by have := h.le; show n ≠ bo; omega)]; exact h.b0
  b1 := by rw [heap_setCell_other _ _ _ _ (by have := h.le; show n + 1 ≠ bo; omega)]; exact h.b1
  b2 := by rw [heap_setCell_other _ _ _ _ (by have := h.le; show n + 1 + 1 ≠ bo; omega)]; exact h.b2
  le := h.le
  hbo := by rw [heap_set_at v h.hbo, hv]; rfl
  sl := by rw [hM]; exact h.sl.set1 h.ap _ _
  ct := by rw [hM]; exact h.ct
  ap := h.ap
  si := h.si
  old := h.old.le (by simp)
theorem Rx.set1 (h : Rx w n l a c p pa pc bo M s t W) (x : Int) : Rx w n l a c p pa pc bo { M with other := x } s t (W.setCell ⟨bo, 1, none⟩ (.int .i64 x)) := h.setAt rfl rfl
theorem Rx.set2 (h : Rx w n l a c p pa pc bo M s t W) (x : Int) : Rx w n l a c p pa pc bo { M with first := x } s t (W.setCell ⟨bo, 2, none⟩ (.int .i64 x)) := h.setAt rfl rfl
theorem Rx.set4 (h : Rx w n l a c p pa pc bo M s t W) (x : Int) : Rx w n l a c p pa pc bo { M with next := x } s t (W.setCell ⟨bo, 4, none⟩ (.int .i64 x)) := h.setAt rfl rfl
/-- Its row is cut at its head. -/
theorem Rx.set3 (h : Rx w n l a c p pa pc bo M s t W) {zs : List Int} {s' : Option Addr} {t' : Nat} (hs : SlIs W s' zs) (ht : zs.length ≤ t') (hf : From s s') : Rx w n l a c p pa pc bo { M with sent := zs } s' t' (W.setCell ⟨bo, 3, none⟩ (.slice s' zs.length t')) where
  bel := h.bel.setCell (by have := h.le; show n ≤ bo; omega) _
  b0 := by rw [heap_setCell_other _ _ _ _ (by have := h.le; show n ≠ bo; omega)]; exact h.b0
  b1 := by rw [heap_setCell_other _ _ _ _ (by have := h.le; show n + 1 ≠ bo; omega)]; exact h.b1
  b2 := by rw [heap_setCell_other _ _ _ _ (by have := h.le; show n + 1 + 1 ≠ bo; omega)]; exact h.b2
  le := h.le
  hbo := by rw [heap_set_at _ h.hbo]; rfl
  sl := hs.set1 (hf.apart h.ap) _ _
  ct := ht
  ap := hf.apart h.ap
  si := hf.since h.si
  old := (hf.old h.old).le (by simp)
end
theorem mayP_iff {l : Lk} {p : Pk} : mayP l p = true ↔ ((1 ≤ p.fr ∧ p.fr ≤ 4611686018427387904) ∧ l.other ≤ p.fr ∧ (p.to = 0 ∨ p.to = l.own) ∧ (0 ≤ p.place ∧ p.place ≤ 4611686018427387896) ∧ (0 ≤ p.wait ∧ p.wait ≤ 4611686018427387904) ∧ p.words.length ≤ 8) := by
  unfold mayP mayB
  simp only [Bool.and_eq_true, Bool.or_eq_true, decide_eq_true_eq, beq_iff_eq]
  constructor
  · rintro ⟨⟨⟨⟨⟨h1, h2⟩, h3⟩, h4, h5⟩, h6, h7⟩, h8⟩
    exact ⟨⟨by split at h1 <;> omega, h2⟩, by split at h1 <;> omega, h3, ⟨h4, h5⟩, ⟨h6, h7⟩, h8⟩
  · rintro ⟨⟨h1, h2⟩, h3, h4, ⟨h5, h6⟩, ⟨h7, h8⟩, h9⟩
    exact ⟨⟨⟨⟨⟨by split <;> omega, h2⟩, h4⟩, h5, h6⟩, h7, h8⟩, h9⟩
end Go.Proofs.Ytoblckocmakakaa
