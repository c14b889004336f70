/-
  A word given to an end with room, the program's: no conditions but the window's.
-/
import Derived.Test.YtoblckocmakakaaWa
import Derived.ArgAppend
import Derived.Deep.RegionHeld
namespace Go.Proofs.Ytoblckocmakakaa
open Go.RowKit
theorem cell_last (w : World) (o1 o2 : Obj) (x : Int) : (((w.alloc o1).alloc o2).alloc (.cells #[.int .i64 x] 2)).cell? ⟨w.heap.size + 1 + 1, 0, none⟩ = some (.int .i64 x) := by
  have h := heap_alloc_new ((w.alloc o1).alloc o2) (.cells #[.int .i64 x] 2)
  simp only [World.size_alloc] at h
  exact cell_of_one h
theorem SlIs.none_nil {W : World} {zs : List Int} (h : SlIs W none zs) : zs = [] := by
  rcases h with h | ⟨b, off, e, _⟩
  · exact h
  · cases e
theorem SlIs.at {W : World} {b : Addr} {zs : List Int} (h : SlIs W (some b) zs) : ∀ j u, (zs.map (Value.int .i64))[j]? = some u → W.cell? (b.add j) = some u := by
  intro j u hj
  have h0 : 0 < zs.length := by
    have := (List.getElem?_eq_some_iff.1 hj).1
    simp at this; omega
  obtain ⟨ad, e, hc⟩ := src_at h h0
  cases e
  exact hc j u hj
theorem own_row {w : World} {base n : Nat} {v : Value} {zs : List Int} (hz : zs.length = n) (h0 : 0 < n) (h : w.ownsRow base 2 1 v n (zs.map (Value.int .i64))) : ∃ g cap, v = .slice (some ⟨g, 0, none⟩) n cap ∧ n ≤ cap ∧ base ≤ g ∧ SlIs w (some ⟨g, 0, none⟩) zs := by
  obtain ⟨_, h | ⟨g, cap, cur, rfl, hb, hh, hc, _, hs, ht⟩⟩ := h
  · omega
  · refine ⟨g, cap, rfl, hc, hb, Or.inr ⟨g, 0, rfl, (Array.getElem?_eq_some_iff.1 hh).1, fun j hj => ?_⟩⟩
    unfold World.cell?
    rw [hh]
    have e : (cur.toList.take (n * 1))[j]? = some (.int .i64 zs[j]) := by rw [ht]; simp [hj]
    rw [List.getElem?_take, if_pos (by omega), Array.getElem?_toList] at e
    simpa using e
theorem kept2 {w w3 : World} {o0 o1 o2 : Obj} (h : (((w.alloc o0).alloc o1).alloc o2).grownBy w3 none) : w3.heap[w.heap.size]? = some o0 ∧ w3.heap[w.heap.size + 1]? = some o1 ∧ w.heap.size + 1 + 1 + 1 ≤ w3.heap.size := by
  have k0 := h.block w.heap.size (by simp; omega) (by simp)
  have k1 := h.block (w.heap.size + 1) (by simp) (by simp)
  have k2 := h.size
  have e : w.heap.size + 1 = (w.alloc o0).heap.size := by simp
  rw [heap_alloc_old _ _ (by simp; omega), heap_alloc_old _ _ (by simp), heap_alloc_new] at k0
  rw [heap_alloc_old _ _ (by simp), e, heap_alloc_new] at k1
  simp only [World.size_alloc] at k2
  exact ⟨k0, by rw [e]; exact k1, k2⟩
theorem SlIs.set {W : World} {g : Nat} {zs : List Int} (h : SlIs W (some ⟨g, 0, none⟩) zs) {b : Nat} (hb : g ≠ b) (o : Nat) (v : Value) : SlIs (W.setCell ⟨b, o, none⟩ v) (some ⟨g, 0, none⟩) zs := by
  rcases h with h | ⟨b', off, e, hlt, hc⟩
  · exact Or.inl h
  · cases e
    refine Or.inr ⟨g, 0, rfl, by simpa using hlt, fun j hj => ?_⟩
    have := hc j hj
    rw [← this]
    exact World.cell?_setCell_far _ _ _ _ (Ne.symm hb)
theorem five {w : World} {b : Nat} {v0 v1 v2 v3 v4 : Value} {t : TypeId} (h : w.heap[b]? = some (.cells #[v0, v1, v2, v3, v4] t)) : w.cell? ⟨b, 0, none⟩ = some v0 ∧ w.cell? ⟨b, 1, none⟩ = some v1 ∧ w.cell? ⟨b, 2, none⟩ = some v2 ∧ w.cell? ⟨b, 3, none⟩ = some v3 ∧ w.cell? ⟨b, 4, none⟩ = some v4 ∧ w.frozen? ⟨b, 3, none⟩ = false := by
  simp [World.cell?, World.frozen?, h]
theorem five' {w : World} {b : Nat} {v0 v1 v2 v3 v4 : Value} {t : TypeId} (h : w.heap[b]? = some (.cells #[v0, v1, v2, v3, v4] t)) : w.cell? ⟨b, 0, none⟩ = some v0 ∧ w.cell? ⟨b, 1, none⟩ = some v1 ∧ w.cell? ⟨b, 2, none⟩ = some v2 ∧ w.cell? ⟨b, 3, none⟩ = some v3 ∧ w.cell? ⟨b, 4, none⟩ = some v4 ∧ w.frozen? ⟨b, 0, none⟩ = false ∧ w.frozen? ⟨b, 1, none⟩ = false ∧ w.frozen? ⟨b, 2, none⟩ = false ∧ w.frozen? ⟨b, 3, none⟩ = false ∧ w.frozen? ⟨b, 4, none⟩ = false := by
  simp [World.cell?, World.frozen?, h]
set_option maxHeartbeats 1000000 in
theorem send_yes (own other first : Int) (a : Option Addr) (zs : List Int) (cap : Nat) (next x : Int) (w : World) (h : SlIs w a zs) (hl : zs.length ≤ 7) (hcap : zs.length ≤ cap) :
    Calls Try.prog 12 #[.agg #[.int .i64 own, .int .i64 other, .int .i64 first, .slice a zs.length cap, .int .i64 next], .int .i64 x] w fun e w' =>
      ∃ a' cap', e = .returned (.tuple #[.agg #[.int .i64 own, .int .i64 other, .int .i64 first, .slice a' (zs ++ [x]).length cap', .int .i64 next], .int .i64 0]) ∧ Since' w.heap.size a' ∧ SlIs w' a' (zs ++ [x]) ∧ (zs ++ [x]).length ≤ cap' ∧ Below w.heap.size w w' := by
  obtain ⟨i2, j1, j2, j3, j4⟩ := info2
  have HS := Lib.hid h
  have HJ := Lib.hid (And.intro j1 (And.intro j2 (And.intro j3 j4)))
  clear h j1 j2 j3 j4
  go_enter Try.func12, Try.ntmps12
  have HB0 : Hid (∀ o1 o2 o3, Below w.heap.size w (((w.alloc o1).alloc o2).alloc o3)) := Lib.hid (fun o1 o2 o3 => (((Below.refl _ _).alloc (Nat.le_refl _) _).alloc (by simp) _).alloc (by simp; omega) _)
  go_wp2_with (at_builtin; refine wpList_append_grows _ rfl _ _ 24 rfl 2 i2 (.int .i64 0) 1 8 Try.underlying24 HJ.out.1 HJ.out.2.1 HJ.out.2.2.1 HJ.out.2.2.2 rfl (by omega) a zs.length zs.length (zs.map (Value.int .i64)) rfl (fun e => by subst e; have := HS.out.none_nil; rw [this]; exact ⟨rfl, rfl⟩) (by simp) (fun b e => by subst e; exact (HS.out.below (HB0.out _ _ _)).at) ⟨w.heap.size + 1 + 1, 0, none⟩ 1 1 [.int .i64 x] rfl rfl (fun j u hj => by cases j with | zero => (simp at hj; subst hj; exact cell_last _ _ _ _) | succ j => simp at hj) (by simp [Value.oneCell']) (by omega) (by unfold maxLen; omega) (by omega) ?_; intro v' w3 hown hgr; have X := own_row (n := zs.length + 1) (zs := zs ++ [x]) (by simp) (by omega) (by rw [List.map_append]; exact hown); obtain ⟨g, cap', hv', hc', hg', hS'⟩ := X; subst hv'; have B3 := Lib.hid ((HB0.out _ _ _).grown hgr (by simp; omega) (fun k h => by cases h)); have S3 := Lib.hid hS'; obtain ⟨k0, k1, z3⟩ := kept2 hgr; obtain ⟨c0, c1, c2, c3, c4, f3⟩ := five k0; obtain ⟨d0, d1, d2, d3, d4, e0, e1, e2, e3, e4⟩ := five' k1; simp only [World.size_alloc] at hg'; have KK := Lib.hid (And.intro k0 k1); have HC := Lib.hid hc'; clear hown hgr hS' k0 k1 hc')
  have hb1 : g ≠ w.heap.size := by omega
  have hb2 : g ≠ w.heap.size + 1 := by omega
  refine bodyPost_ret (v := .tuple #[.agg #[.int .i64 own, .int .i64 other, .int .i64 first, .slice (some ⟨g, 0, none⟩) (zs.length + 1) cap', .int .i64 next], .int .i64 0]) (by simp [results, Try.results12, go_sem, d0, d1, d2, d3, d4]) rfl ⟨some ⟨g, 0, none⟩, cap', by simp, fun _ _ e => by cases e; omega, ?_, by simpa using HC.out, ?_⟩
  · exact (((((S3.out.set hb1 _ _).set hb2 _ _).set hb2 _ _).set hb2 _ _).set hb2 _ _).set hb2 _ _
  · exact (((((B3.out.setCell (by simp) _).setCell (by simp) _).setCell (by simp) _).setCell (by simp) _).setCell (by simp) _).setCell (by simp) _
end Go.Proofs.Ytoblckocmakakaa
