/-
  A word given to an end without room; an end's packet: the program's; no conditions but the window's.
-/
import Derived.Test.YtoblckocmakakaaWd
import Derived.StillTailTactics
import Derived.Deep.RegionHeld3
namespace Go.Proofs.Ytoblckocmakakaa
open Go.RowKit
theorem two_kept {w W : World} {o1 o2 : Obj} (h : Below (w.heap.size + 2) ((w.alloc o1).alloc o2) W) : W.heap[w.heap.size]? = some o1 ∧ W.heap[w.heap.size + 1]? = some o2 ∧ w.heap.size + 2 ≤ W.heap.size := by
  have k0 := h.block w.heap.size (by omega)
  have k1 := h.block (w.heap.size + 1) (by omega)
  have k2 := h.size
  have e : w.heap.size + 1 = (w.alloc o1).heap.size := by simp
  rw [heap_alloc_old _ _ (by simp), heap_alloc_new] at k0
  rw [e, heap_alloc_new] at k1
  simp only [World.size_alloc] at k2
  exact ⟨k0, by rw [e]; exact k1, k2⟩
/-- What a region that reads one box and writes another one keeps. -/
def BoxP (w : World) (n : Nat) (v0 v1 v2 v3 v4 : Value) (t t2 : TypeId) (W : World) : Prop := Below n w W ∧ W.heap[n]? = some (.cells #[v0, v1, v2, v3, v4] t) ∧ n + 2 ≤ W.heap.size ∧ ∃ u0 u1 u2 u3 u4, W.heap[n + 1]? = some (.cells #[u0, u1, u2, u3, u4] t2)
abbrev BoxS (w : World) (n : Nat) (v0 v1 v2 v3 v4 : Value) (t t2 : TypeId) (W : World) : Prop :=
  W.cell? ⟨n, 0, none⟩ = some v0 ∧ W.cell? ⟨n, 1, none⟩ = some v1 ∧ W.cell? ⟨n, 2, none⟩ = some v2 ∧ W.cell? ⟨n, 3, none⟩ = some v3 ∧ W.cell? ⟨n, 4, none⟩ = some v4 ∧ Hid (BoxP w n v0 v1 v2 v3 v4 t t2 W)
theorem BoxS.of {w : World} {n : Nat} {v0 v1 v2 v3 v4 : Value} {t t2 : TypeId} {W : World} (h : BoxP w n v0 v1 v2 v3 v4 t t2 W) : BoxS w n v0 v1 v2 v3 v4 t t2 W :=
  ⟨(five h.2.1).1, (five h.2.1).2.1, (five h.2.1).2.2.1, (five h.2.1).2.2.2.1, (five h.2.1).2.2.2.2.1, Lib.hid h⟩
theorem BoxS.start {w : World} {v0 v1 v2 v3 v4 u0 u1 u2 u3 u4 : Value} {t t2 : TypeId} : BoxS w w.heap.size v0 v1 v2 v3 v4 t t2 ((w.alloc (.cells #[v0, v1, v2, v3, v4] t)).alloc (.cells #[u0, u1, u2, u3, u4] t2)).drew :=
  have h := two_kept (Below.refl _ ((w.alloc (.cells #[v0, v1, v2, v3, v4] t)).alloc (.cells #[u0, u1, u2, u3, u4] t2)))
  .of ⟨(((Below.refl _ _).alloc (Nat.le_refl _) _).alloc (by simp) _).drew, h.1, by simp, _, _, _, _, _, h.2.1⟩
theorem BoxS.call {w : World} {n : Nat} {v0 v1 v2 v3 v4 : Value} {t t2 : TypeId} {W W1 : World} (h : BoxS w n v0 v1 v2 v3 v4 t t2 W) (hb : Below W.heap.size W W1) : BoxS w n v0 v1 v2 v3 v4 t t2 W1 := by
  obtain ⟨p1, p2, p3, u0, u1, u2, u3, u4, p4⟩ := h.2.2.2.2.2.out
  exact .of ⟨p1.trans (hb.mono (by omega)), (hb.block _ (by omega)).trans p2, Nat.le_trans p3 hb.size, _, _, _, _, _, (hb.block _ (by omega)).trans p4⟩
theorem BoxS.set {w : World} {n : Nat} {v0 v1 v2 v3 v4 : Value} {t t2 : TypeId} {W : World} (h : BoxS w n v0 v1 v2 v3 v4 t t2 W) (j : Nat) (v : Value) (hj : j < 5) : BoxS w n v0 v1 v2 v3 v4 t t2 (W.setCell ⟨n + 1, j, none⟩ v) := by
  obtain ⟨p1, p2, p3, u0, u1, u2, u3, u4, p4⟩ := h.2.2.2.2.2.out
  refine .of ⟨p1.setCell (by simp) _, ?_, by simpa using p3, ?_⟩
  · rw [← p2]
    exact heap_setCell_other _ _ _ _ (by simp)
  · rw [heap_setCell_same _ _ _ _ _ _ p4]
    match j, hj with
    | 0, _ => exact ⟨_, _, _, _, _, rfl⟩
    | 1, _ => exact ⟨_, _, _, _, _, rfl⟩
    | 2, _ => exact ⟨_, _, _, _, _, rfl⟩
    | 3, _ => exact ⟨_, _, _, _, _, rfl⟩
    | 4, _ => exact ⟨_, _, _, _, _, rfl⟩
theorem box_two {w : World} {n : Nat} {v0 v1 v2 v3 v4 : Value} {t t2 : TypeId} {W W1 : World} (h : Hid (BoxP w n v0 v1 v2 v3 v4 t t2 W)) (hb : Below W.heap.size W W1) : Hid (Below n w W1) ∧ ∃ u0 u1 u2 u3 u4, W1.cell? ⟨n + 1, 0, none⟩ = some u0 ∧ W1.cell? ⟨n + 1, 1, none⟩ = some u1 ∧ W1.cell? ⟨n + 1, 2, none⟩ = some u2 ∧ W1.cell? ⟨n + 1, 3, none⟩ = some u3 ∧ W1.cell? ⟨n + 1, 4, none⟩ = some u4 ∧ W1.frozen? ⟨n + 1, 0, none⟩ = false ∧ W1.frozen? ⟨n + 1, 1, none⟩ = false ∧ W1.frozen? ⟨n + 1, 2, none⟩ = false ∧ W1.frozen? ⟨n + 1, 3, none⟩ = false ∧ W1.frozen? ⟨n + 1, 4, none⟩ = false := by
  obtain ⟨p1, p2, p3, u0, u1, u2, u3, u4, p4⟩ := (BoxS.call (.of h.out) hb).2.2.2.2.2.out
  exact ⟨Lib.hid p1, _, _, _, _, _, five' p4⟩
theorem send_full (own other first : Int) (a : Option Addr) (n cap : Nat) (next x : Int) (w : World) (hl : 8 ≤ n) (h2 : n ≤ 9223372036854775807) :
    Calls Try.prog 12 #[.agg #[.int .i64 own, .int .i64 other, .int .i64 first, .slice a n cap, .int .i64 next], .int .i64 x] w fun e w' =>
      e = .returned (.tuple #[.agg #[.int .i64 own, .int .i64 other, .int .i64 first, .slice a n cap, .int .i64 next], .int .i64 7]) ∧ Below w.heap.size w w' := by
  go_enter Try.func12, Try.ntmps12
  go_wp2_with fail
  exact bodyPost_ret (v := .tuple #[.agg #[.int .i64 own, .int .i64 other, .int .i64 first, .slice a n cap, .int .i64 next], .int .i64 7]) (by simp [results, Try.results12, go_sem]) rfl ⟨rfl, ((Below.refl _ _).alloc (Nat.le_refl _) _).alloc (by simp) _⟩
set_option maxHeartbeats 1000000 in
theorem out_any (own other first : Int) (a : Option Addr) (zs : List Int) (cap : Nat) (next : Int) (w : World) (h : SlIs w a zs) (hl : zs.length ≤ 100) :
    Calls Try.prog 13 #[.agg #[.int .i64 own, .int .i64 other, .int .i64 first, .slice a zs.length cap, .int .i64 next]] w fun e w' =>
      ∃ a', e = .returned (.agg #[.int .i64 own, .int .i64 other, .int .i64 first, .slice a' zs.length zs.length, .int .i64 next]) ∧ Since' w.heap.size a' ∧ SlIs w' a' zs ∧ Below w.heap.size w w' := by
  have HS := Lib.hid h
  clear h
  go_enter Try.func13, Try.ntmps13
  go_upto_region 1 with (fail)
  go_region_held3 (fun W => W.cell? ⟨w.heap.size, 0, none⟩ = some (.int .i64 own) ∧ W.cell? ⟨w.heap.size, 1, none⟩ = some (.int .i64 other) ∧ W.cell? ⟨w.heap.size, 2, none⟩ = some (.int .i64 first) ∧ W.cell? ⟨w.heap.size, 3, none⟩ = some (.slice a zs.length cap) ∧ W.cell? ⟨w.heap.size, 4, none⟩ = some (.int .i64 next) ∧ Hid (BoxP w w.heap.size (.int .i64 own) (.int .i64 other) (.int .i64 first) (.slice a zs.length cap) (.int .i64 next) 26 38 W))
    (first | with_reducible exact BoxS.start | with_reducible exact BoxS.call (by assumption) (by assumption) | with_reducible exact (((((BoxS.set (by assumption) _ _ (by decide)).set _ _ (by decide)).set _ _ (by decide)).set _ _ (by decide)).set _ _ (by decide)))
    (first | (go_at_call 25; refine (copied_any _ _ zs _ (HS.out.below (((Below.refl _ _).alloc (Nat.le_refl _) _).alloc (by simp) _).drew) hl).mono ?_; rintro e w1 ⟨g, hg, rfl, hs, hb⟩; obtain ⟨-,-,-,-,-,hP⟩ : (_ ∧ _ ∧ _ ∧ _ ∧ _ ∧ Hid _) := (by assumption); obtain ⟨hB1, u0, u1, u2, u3, u4, d0, d1, d2, d3, d4, e0, e1, e2, e3, e4⟩ := box_two hP hb; clear hP))
  rename_i hK hHeld
  clear hHeld
  have hne : g ≠ w.heap.size + 1 := by simp at hg; omega
  have hge : w.heap.size ≤ g := by simp at hg; omega
  clear hg
  refine hK _ _ ?_
  go_wp2_with fail
  refine bodyPost_ret (v := .agg #[.int .i64 own, .int .i64 other, .int .i64 first, (.slice (some ⟨g, 0, none⟩) zs.length zs.length), .int .i64 next]) (by simp [results, Try.results13, go_sem, d0, d1, d2, d3, d4]) rfl ⟨some ⟨g, 0, none⟩, rfl, fun _ _ e => by cases e; exact hge, ?_, ?_⟩
  · exact ((((hs.set hne _ _).set hne _ _).set hne _ _).set hne _ _).set hne _ _
  · exact (((((hB1.out.setCell (by simp) _).setCell (by simp) _).setCell (by simp) _).setCell (by simp) _).setCell (by simp) _)
end Go.Proofs.Ytoblckocmakakaa
