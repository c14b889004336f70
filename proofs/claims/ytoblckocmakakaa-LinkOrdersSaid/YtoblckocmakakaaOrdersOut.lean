/-
  An end's own packet, its words' block told: no conditions but those named.
-/
import Derived.Test.YtoblckocmakakaaComesSt
namespace Go.Proofs.Ytoblckocmakakaa
open Go.RowKit
set_option maxHeartbeats 4000000 in
theorem copied_lt (a : Option Addr) (cap : Nat) (zs : List Int) (w : World) (h : SlIs w a zs) (hl : zs.length ≤ 100) :
    Calls Try.prog 25 #[.slice a zs.length cap] w fun e w' => ∃ g, (w.heap.size ≤ g ∧ g < w'.heap.size) ∧ e = .returned (.slice (some ⟨g, 0, none⟩) zs.length zs.length) ∧ SlIs w' (some ⟨g, 0, none⟩) zs ∧ Below w.heap.size w w' := by
  obtain ⟨i2, j1, j2, j3, j4⟩ := info2
  have HS := Lib.hid h
  have HJ := Lib.hid (And.intro j1 (And.intro j2 (And.intro j3 j4)))
  clear h j1 j2 j3 j4
  go_enter Try.func25, Try.ntmps25
  go_wp2_with (first
    | (at_make; refine wpList_make_full _ rfl _ _ 24 rfl w.heap.size 2 i2 (.int .i64 0) 1 Try.underlying24 HJ.out.1 HJ.out.2.1 HJ.out.2.2.1 .i64 .i64 _ _ zs.length rfl rfl rfl rfl (by rw [HJ.out.2.2.2]; omega) (by unfold maxLen; omega) (Nat.le_refl _) ?_; intro w1 hown hgr; have B1 := Lib.hid ((Below.refl w.heap.size w).grown hgr (Nat.le_refl _) (fun k h => by cases h)); have O1 := Lib.hid (own_cells hown); clear hown hgr)
    | ((with_reducible show wpList _ _ _ (Oper.mk _ (Op.call _) _ _ _ _ :: _) _ _); obtain ⟨L, hL, hg⟩ := O1.out; refine wpList_copy_splice rfl _ _ 24 24 rfl 2 Try.underlying24 size2 _ _ _ _ _ _ rfl rfl w.heap.size 0 L 2 hg (zs.map (Value.int .i64)) (by simp) (fun h0 => ⟨rfl, src_at (HS.out.below B1.out) (by simpa using h0)⟩) (by simp; omega) (by simp [Value.oneCell']) w.heap.size w B1.out (Nat.le_refl _) ?_; intro w2 hc hb2; have B2 := Lib.hid hb2; have O2 := Lib.hid (And.intro (row_of hc hL) (Array.getElem?_eq_some_iff.1 hc.out).1); clear hc hb2 hg))
  go_ret
  exact ⟨_, ⟨Nat.le_refl _, O2.out.2⟩, rfl, O2.out.1, B2.out⟩
set_option maxRecDepth 20000 in
set_option maxHeartbeats 4000000 in
theorem out_lt (own other first : Int) (a : Option Addr) (zs : List Int) (cap : Nat) (next : Int) (w : World) (h : SlIs w a zs) (hl : zs.length ≤ 100) :
    Calls Try.prog 13 #[.agg #[.int .i64 own, .int .i64 other, .int .i64 first, .slice a zs.length cap, .int .i64 next]] w fun e w' =>
      ∃ a', e = .returned (.agg #[.int .i64 own, .int .i64 other, .int .i64 first, .slice a' zs.length zs.length, .int .i64 next]) ∧ (Since' w.heap.size a' ∧ Old w' a') ∧ SlIs w' a' zs ∧ Below w.heap.size w w' := by
  have HS := Lib.hid h
  clear h
  go_enter Try.func13, Try.ntmps13
  go_upto_region 1 with (fail)
  go_region_held3 (fun W => W.cell? ⟨w.heap.size, 0, none⟩ = some (.int .i64 own) ∧ W.cell? ⟨w.heap.size, 1, none⟩ = some (.int .i64 other) ∧ W.cell? ⟨w.heap.size, 2, none⟩ = some (.int .i64 first) ∧ W.cell? ⟨w.heap.size, 3, none⟩ = some (.slice a zs.length cap) ∧ W.cell? ⟨w.heap.size, 4, none⟩ = some (.int .i64 next) ∧ Hid (BoxP w w.heap.size (.int .i64 own) (.int .i64 other) (.int .i64 first) (.slice a zs.length cap) (.int .i64 next) 26 38 W))
    (first | with_reducible exact BoxS.start | with_reducible exact BoxS.call (by assumption) (by assumption) | with_reducible exact (((((BoxS.set (by assumption) _ _ (by decide)).set _ _ (by decide)).set _ _ (by decide)).set _ _ (by decide)).set _ _ (by decide)))
    (first | (go_at_call 25; refine (copied_lt _ _ zs _ (HS.out.below (((Below.refl _ _).alloc (Nat.le_refl _) _).alloc (by simp) _).drew) hl).mono ?_; rintro e w1 ⟨g, ⟨hg, hgl⟩, rfl, hs, hb⟩; have HGL := Lib.hid hgl; clear hgl; obtain ⟨-,-,-,-,-,hP⟩ : (_ ∧ _ ∧ _ ∧ _ ∧ _ ∧ Hid _) := (by assumption); obtain ⟨hB1, u0, u1, u2, u3, u4, d0, d1, d2, d3, d4, e0, e1, e2, e3, e4⟩ := box_two hP hb; clear hP))
  rename_i hK hHeld
  clear hHeld
  have hne : g ≠ w.heap.size + 1 := by simp at hg; omega
  have hge : w.heap.size ≤ g := by simp at hg; omega
  clear hg
  refine hK _ _ ?_
  go_wp2_with fail
  refine bodyPost_ret (v := .agg #[.int .i64 own, .int .i64 other, .int .i64 first, (.slice (some ⟨g, 0, none⟩) zs.length zs.length), .int .i64 next]) (by simp [results, Try.results13, go_sem, d0, d1, d2, d3, d4]) rfl ⟨some ⟨g, 0, none⟩, rfl, ⟨fun _ _ e => (by cases e; exact hge), fun _ _ e => (by cases e; simpa using HGL.out)⟩, ?_, ?_⟩
  · exact ((((hs.set hne _ _).set hne _ _).set hne _ _).set hne _ _).set hne _ _
  · exact (((((hB1.out.setCell (by simp) _).setCell (by simp) _).setCell (by simp) _).setCell (by simp) _).setCell (by simp) _)
theorem outN (l : Lk) (a : Option Addr) (cap : Nat) (w : World) (h : SlIs w a l.sent) (hl : l.sent.length ≤ 100) :
    Calls Try.prog 13 #[.agg (lkA l a cap)] w fun e w' => ∃ a', e = .returned (.agg #[.int .i64 l.own, .int .i64 l.other, .int .i64 l.first, .slice a' l.sent.length l.sent.length, .int .i64 l.next]) ∧ (Since' w.heap.size a' ∧ Old w' a') ∧ SlIs w' a' l.sent ∧ Below w.heap.size w w' :=
  out_lt l.own l.other l.first a l.sent cap l.next w h hl
end Go.Proofs.Ytoblckocmakakaa
