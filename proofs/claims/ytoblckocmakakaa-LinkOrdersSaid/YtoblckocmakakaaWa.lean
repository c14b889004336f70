/-
  A row copied: no conditions but its length.
-/
import Derived.Test.YtoblckocmakakaaBase
import Derived.OwnWalk
namespace Go.Proofs.Ytoblckocmakakaa
open Go.RowKit
theorem info2 : ∃ i, Try.prog.info? 2 = some i ∧ i.zero = some (.int .i64 0) ∧ i.size = 1 ∧ i.bytes = 8 := info_parts (by kernel_rfl)
theorem size2 : (Try.prog.info? 2).map (·.size) = some 1 := by kernel_rfl
theorem own_cells {w : World} {base n g : Nat} {xs : List Value} (h : w.ownsRow base 2 1 (.slice (some ⟨g, 0, none⟩) n n) n xs) : ∃ L : List Value, L.length = n ∧ w.heap[g]? = some (.cells L.toArray 2 (0, 0)) := by
  obtain ⟨_, h | ⟨g', cap, cur, e, _, hh, _, _, hs, _⟩⟩ := h
  · exact absurd h.1 (by simp)
  · cases e
    exact ⟨cur.toList, by simpa using hs, by simpa using hh⟩
theorem src_at {W : World} {a : Option Addr} {zs : List Int} (h : SlIs W a zs) (h0 : 0 < zs.length) : ∃ ad, a = some ad ∧ ∀ j v, (zs.map (Value.int .i64))[j]? = some v → W.cell? (ad.add j) = some v := by
  rcases h with rfl | ⟨b, off, rfl, hlt, hc⟩
  · simp at h0
  · refine ⟨_, rfl, fun j v hv => ?_⟩
    rw [List.getElem?_map, Option.map_eq_some_iff] at hv
    obtain ⟨z, hz, rfl⟩ := hv
    obtain ⟨hj, rfl⟩ := List.getElem?_eq_some_iff.1 hz
    rw [Go.Addr.add_lit]
    exact hc j hj
theorem row_of {W : World} {g : Nat} {L : List Value} {zs : List Int} (h : Hid (W.heap[g]? = some (.cells (splice L 0 (zs.map (Value.int .i64))).toArray 2 (0, 0)))) (hL : L.length = zs.length) : SlIs W (some ⟨g, 0, none⟩) zs := by
  have hs : splice L 0 (zs.map (Value.int .i64)) = zs.map (Value.int .i64) := by simp [splice, hL]
  rw [hs] at h
  refine Or.inr ⟨g, 0, rfl, (Array.getElem?_eq_some_iff.1 h.out).1, fun j hj => ?_⟩
  unfold World.cell?
  rw [h.out]
  simp [hj]
theorem copied_any (a : Option Addr) (cap : Nat) (zs : List Int) (w : World) (h : SlIs w a zs) (hl : zs.length ≤ 100) :
    Calls Try.prog 25 #[.slice a zs.length cap] w fun e w' => ∃ g, w.heap.size ≤ g ∧ e = .returned (.slice (some ⟨g, 0, none⟩) zs.length zs.length) ∧ SlIs w' (some ⟨g, 0, none⟩) zs ∧ Below w.heap.size w w' := by
  obtain ⟨i2, j1, j2, j3, j4⟩ := info2
  have HS := Lib.hid h
  have HJ := Lib.hid (And.intro j1 (And.intro j2 (And.intro j3 j4)))
  clear h j1 j2 j3 j4
  go_enter Try.func25, Try.ntmps25
  go_wp2_with (first
    | (at_make; refine wpList_make_full _ rfl _ _ 24 rfl w.heap.size 2 i2 (.int .i64 0) 1 Try.underlying24 HJ.out.1 HJ.out.2.1 HJ.out.2.2.1 .i64 .i64 _ _ zs.length rfl rfl rfl rfl (by rw [HJ.out.2.2.2]; omega) (by unfold maxLen; omega) (Nat.le_refl _) ?_; intro w1 hown hgr; have B1 := Lib.hid ((Below.refl w.heap.size w).grown hgr (Nat.le_refl _) (fun k h => by cases h)); have O1 := Lib.hid (own_cells hown); clear hown hgr)
    | ((with_reducible show wpList _ _ _ (Oper.mk _ (Op.call _) _ _ _ _ :: _) _ _); obtain ⟨L, hL, hg⟩ := O1.out; refine wpList_copy_splice rfl _ _ 24 24 rfl 2 Try.underlying24 size2 _ _ _ _ _ _ rfl rfl w.heap.size 0 L 2 hg (zs.map (Value.int .i64)) (by simp) (fun h0 => ⟨rfl, src_at (HS.out.below B1.out) (by simpa using h0)⟩) (by simp; omega) (by simp [Value.oneCell']) w.heap.size w B1.out (Nat.le_refl _) ?_; intro w2 hc hb2; have B2 := Lib.hid hb2; have O2 := Lib.hid (row_of hc hL); clear hc hb2 hg))
  go_ret
  exact ⟨_, Nat.le_refl _, rfl, O2.out, B2.out⟩
end Go.Proofs.Ytoblckocmakakaa
