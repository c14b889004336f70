/-
  Two ends are the same: the program's word and the reference's; no conditions but their rows' lengths.
-/
import Derived.Test.YtoblckocmakakaaWh
import Derived.Test.YtoblckocmakakaaWe
namespace Go.Proofs.Ytoblckocmakakaa
open Go.RowKit
/-- Are two ends the same? -/
def sameB (l m : Lk) : Bool := (((l.own == m.own && l.other == m.other) && l.first == m.first) && l.next == m.next) && l.sent == m.sent
theorem alloc2 (w : World) (o1 o2 : Obj) : Below w.heap.size w ((w.alloc o1).alloc o2) := ((Below.refl _ _).alloc (Nat.le_refl _) _).alloc (by simp) _
set_option maxRecDepth 20000 in
set_option maxHeartbeats 2000000 in
theorem same20 (l1 l2 l3 : Int) (xs : List Int) (l5 m1 m2 m3 : Int) (ys : List Int) (m5 : Int) (a b : Option Addr) (ca cb : Nat) (hx : xs.length ≤ 9223372036854775807) (w : World) (ha : SlIs w a xs) (hb : SlIs w b ys) :
    Calls Try.prog 20 #[.agg #[.int .i64 l1, .int .i64 l2, .int .i64 l3, .slice a xs.length ca, .int .i64 l5], .agg #[.int .i64 m1, .int .i64 m2, .int .i64 m3, .slice b ys.length cb, .int .i64 m5]] w fun e w' => e = .returned (.bool ((((l1 == m1 && l2 == m2) && l3 == m3) && l5 == m5) && xs == ys)) ∧ Below w.heap.size w w' := by
  have HA := Lib.hid ha
  have HB := Lib.hid hb
  clear ha hb
  cases h0 : l1 == m1 with
  | false =>
    go_enter Try.func20, Try.ntmps20
    go_wp2_with (first
      | (go_at_call 28; refine (equal28 _ _ _ _ _ _ hx _ (HA.out.below (alloc2 _ _ _)) (HB.out.below (alloc2 _ _ _))).mono ?_; rintro e w1 ⟨rfl, hb⟩; have B1 := Lib.hid ((alloc2 _ _ _).trans (hb.mono (by simp; omega))); have BX := Lib.hid hb; clear hb))
    go_ret
    exact ⟨rfl, alloc2 _ _ _⟩
  | true =>
    cases h1 : l2 == m2 with
    | false =>
      go_enter Try.func20, Try.ntmps20
      go_wp2_with (first
        | (go_at_call 28; refine (equal28 _ _ _ _ _ _ hx _ (HA.out.below (alloc2 _ _ _)) (HB.out.below (alloc2 _ _ _))).mono ?_; rintro e w1 ⟨rfl, hb⟩; have B1 := Lib.hid ((alloc2 _ _ _).trans (hb.mono (by simp; omega))); have BX := Lib.hid hb; clear hb))
      go_ret
      exact ⟨rfl, alloc2 _ _ _⟩
    | true =>
      cases h2 : l3 == m3 with
      | false =>
        go_enter Try.func20, Try.ntmps20
        go_wp2_with (first
          | (go_at_call 28; refine (equal28 _ _ _ _ _ _ hx _ (HA.out.below (alloc2 _ _ _)) (HB.out.below (alloc2 _ _ _))).mono ?_; rintro e w1 ⟨rfl, hb⟩; have B1 := Lib.hid ((alloc2 _ _ _).trans (hb.mono (by simp; omega))); have BX := Lib.hid hb; clear hb))
        go_ret
        exact ⟨rfl, alloc2 _ _ _⟩
      | true =>
        cases h3 : l5 == m5 with
        | false =>
          go_enter Try.func20, Try.ntmps20
          go_wp2_with (first
            | (go_at_call 28; refine (equal28 _ _ _ _ _ _ hx _ (HA.out.below (alloc2 _ _ _)) (HB.out.below (alloc2 _ _ _))).mono ?_; rintro e w1 ⟨rfl, hb⟩; have B1 := Lib.hid ((alloc2 _ _ _).trans (hb.mono (by simp; omega))); have BX := Lib.hid hb; clear hb))
          go_ret
          exact ⟨rfl, alloc2 _ _ _⟩
        | true =>
          go_enter Try.func20, Try.ntmps20
          go_wp2_with (first
            | (go_at_call 28; refine (equal28 _ _ _ _ _ _ hx _ (HA.out.below (alloc2 _ _ _)) (HB.out.below (alloc2 _ _ _))).mono ?_; rintro e w1 ⟨rfl, hb⟩; have B1 := Lib.hid ((alloc2 _ _ _).trans (hb.mono (by simp; omega))); have BX := Lib.hid hb; clear hb))
          go_ret
          exact ⟨rfl, B1.out⟩
set_option maxRecDepth 20000 in
set_option maxHeartbeats 2000000 in
theorem same17 (l1 l2 l3 : Int) (xs : List Int) (l5 m1 m2 m3 : Int) (ys : List Int) (m5 : Int) (a b : Option Addr) (ca cb : Nat) (hx : xs.length ≤ 9223372036854775807) (w : World) (ha : SlIs w a xs) (hb : SlIs w b ys) :
    Calls Try.prog 17 #[.agg #[.int .i64 l1, .int .i64 l2, .int .i64 l3, .slice a xs.length ca, .int .i64 l5], .agg #[.int .i64 m1, .int .i64 m2, .int .i64 m3, .slice b ys.length cb, .int .i64 m5]] w fun e w' => e = .returned (.bool (((((xs == ys) && l1 == m1) && l2 == m2) && l3 == m3) && l5 == m5)) ∧ Below w.heap.size w w' := by
  have HA := Lib.hid ha
  have HB := Lib.hid hb
  clear ha hb
  cases hX : xs == ys with
  | false =>
    go_enter Try.func17, Try.ntmps17
    have k := two_kept (Below.refl (w.heap.size + 2) ((w.alloc (.cells #[.int .i64 l1, .int .i64 l2, .int .i64 l3, .slice a xs.length ca, .int .i64 l5] 26)).alloc (.cells #[.int .i64 m1, .int .i64 m2, .int .i64 m3, .slice b ys.length cb, .int .i64 m5] 26)))
    have K := Lib.hid k
    clear k
    go_wp2_with (first
      | (go_at_call 15; refine (ints15 _ _ _ _ _ _ hx _ (HA.out.below (alloc2 _ _ _)) (HB.out.below (alloc2 _ _ _))).mono ?_; rintro e w1 ⟨rfl, hb⟩; rw [hX]; have B1 := Lib.hid ((alloc2 w _ _).trans (hb.mono (by simp; omega))); have k0 := (hb.block w.heap.size (by simp; omega)).trans K.out.1; have k1 := (hb.block (w.heap.size + 1) (by simp)).trans K.out.2.1; obtain ⟨c0, c1, c2, c3, c4, _⟩ := five k0; obtain ⟨d0, d1, d2, d3, d4, _⟩ := five k1; clear hb k0 k1))
    go_ret
    exact ⟨rfl, B1.out⟩
  | true =>
    cases h1 : l1 == m1 with
    | false =>
      go_enter Try.func17, Try.ntmps17
      have k := two_kept (Below.refl (w.heap.size + 2) ((w.alloc (.cells #[.int .i64 l1, .int .i64 l2, .int .i64 l3, .slice a xs.length ca, .int .i64 l5] 26)).alloc (.cells #[.int .i64 m1, .int .i64 m2, .int .i64 m3, .slice b ys.length cb, .int .i64 m5] 26)))
      have K := Lib.hid k
      clear k
      go_wp2_with (first
        | (go_at_call 15; refine (ints15 _ _ _ _ _ _ hx _ (HA.out.below (alloc2 _ _ _)) (HB.out.below (alloc2 _ _ _))).mono ?_; rintro e w1 ⟨rfl, hb⟩; rw [hX]; have B1 := Lib.hid ((alloc2 w _ _).trans (hb.mono (by simp; omega))); have k0 := (hb.block w.heap.size (by simp; omega)).trans K.out.1; have k1 := (hb.block (w.heap.size + 1) (by simp)).trans K.out.2.1; obtain ⟨c0, c1, c2, c3, c4, _⟩ := five k0; obtain ⟨d0, d1, d2, d3, d4, _⟩ := five k1; clear hb k0 k1))
      go_ret
      exact ⟨rfl, B1.out⟩
    | true =>
      cases h2 : l2 == m2 with
      | false =>
        go_enter Try.func17, Try.ntmps17
        have k := two_kept (Below.refl (w.heap.size + 2) ((w.alloc (.cells #[.int .i64 l1, .int .i64 l2, .int .i64 l3, .slice a xs.length ca, .int .i64 l5] 26)).alloc (.cells #[.int .i64 m1, .int .i64 m2, .int .i64 m3, .slice b ys.length cb, .int .i64 m5] 26)))
        have K := Lib.hid k
        clear k
        go_wp2_with (first
          | (go_at_call 15; refine (ints15 _ _ _ _ _ _ hx _ (HA.out.below (alloc2 _ _ _)) (HB.out.below (alloc2 _ _ _))).mono ?_; rintro e w1 ⟨rfl, hb⟩; rw [hX]; have B1 := Lib.hid ((alloc2 w _ _).trans (hb.mono (by simp; omega))); have k0 := (hb.block w.heap.size (by simp; omega)).trans K.out.1; have k1 := (hb.block (w.heap.size + 1) (by simp)).trans K.out.2.1; obtain ⟨c0, c1, c2, c3, c4, _⟩ := five k0; obtain ⟨d0, d1, d2, d3, d4, _⟩ := five k1; clear hb k0 k1))
        go_ret
        exact ⟨rfl, B1.out⟩
      | true =>
        cases h3 : l3 == m3 with
        | false =>
          go_enter Try.func17, Try.ntmps17
          have k := two_kept (Below.refl (w.heap.size + 2) ((w.alloc (.cells #[.int .i64 l1, .int .i64 l2, .int .i64 l3, .slice a xs.length ca, .int .i64 l5] 26)).alloc (.cells #[.int .i64 m1, .int .i64 m2, .int .i64 m3, .slice b ys.length cb, .int .i64 m5] 26)))
          have K := Lib.hid k
          clear k
          go_wp2_with (first
            | (go_at_call 15; refine (ints15 _ _ _ _ _ _ hx _ (HA.out.below (alloc2 _ _ _)) (HB.out.below (alloc2 _ _ _))).mono ?_; rintro e w1 ⟨rfl, hb⟩; rw [hX]; have B1 := Lib.hid ((alloc2 w _ _).trans (hb.mono (by simp; omega))); have k0 := (hb.block w.heap.size (by simp; omega)).trans K.out.1; have k1 := (hb.block (w.heap.size + 1) (by simp)).trans K.out.2.1; obtain ⟨c0, c1, c2, c3, c4, _⟩ := five k0; obtain ⟨d0, d1, d2, d3, d4, _⟩ := five k1; clear hb k0 k1))
          go_ret
          exact ⟨rfl, B1.out⟩
        | true =>
          cases h4 : l5 == m5 with
          | false =>
            go_enter Try.func17, Try.ntmps17
            have k := two_kept (Below.refl (w.heap.size + 2) ((w.alloc (.cells #[.int .i64 l1, .int .i64 l2, .int .i64 l3, .slice a xs.length ca, .int .i64 l5] 26)).alloc (.cells #[.int .i64 m1, .int .i64 m2, .int .i64 m3, .slice b ys.length cb, .int .i64 m5] 26)))
            have K := Lib.hid k
            clear k
            go_wp2_with (first
              | (go_at_call 15; refine (ints15 _ _ _ _ _ _ hx _ (HA.out.below (alloc2 _ _ _)) (HB.out.below (alloc2 _ _ _))).mono ?_; rintro e w1 ⟨rfl, hb⟩; rw [hX]; have B1 := Lib.hid ((alloc2 w _ _).trans (hb.mono (by simp; omega))); have k0 := (hb.block w.heap.size (by simp; omega)).trans K.out.1; have k1 := (hb.block (w.heap.size + 1) (by simp)).trans K.out.2.1; obtain ⟨c0, c1, c2, c3, c4, _⟩ := five k0; obtain ⟨d0, d1, d2, d3, d4, _⟩ := five k1; clear hb k0 k1))
            go_ret
            exact ⟨rfl, B1.out⟩
          | true =>
            go_enter Try.func17, Try.ntmps17
            have k := two_kept (Below.refl (w.heap.size + 2) ((w.alloc (.cells #[.int .i64 l1, .int .i64 l2, .int .i64 l3, .slice a xs.length ca, .int .i64 l5] 26)).alloc (.cells #[.int .i64 m1, .int .i64 m2, .int .i64 m3, .slice b ys.length cb, .int .i64 m5] 26)))
            have K := Lib.hid k
            clear k
            go_wp2_with (first
              | (go_at_call 15; refine (ints15 _ _ _ _ _ _ hx _ (HA.out.below (alloc2 _ _ _)) (HB.out.below (alloc2 _ _ _))).mono ?_; rintro e w1 ⟨rfl, hb⟩; rw [hX]; have B1 := Lib.hid ((alloc2 w _ _).trans (hb.mono (by simp; omega))); have k0 := (hb.block w.heap.size (by simp; omega)).trans K.out.1; have k1 := (hb.block (w.heap.size + 1) (by simp)).trans K.out.2.1; obtain ⟨c0, c1, c2, c3, c4, _⟩ := five k0; obtain ⟨d0, d1, d2, d3, d4, _⟩ := five k1; clear hb k0 k1))
            go_ret
            exact ⟨rfl, B1.out⟩
theorem same17_eq (l m : Lk) : (((((l.sent == m.sent) && l.own == m.own) && l.other == m.other) && l.first == m.first) && l.next == m.next) = sameB l m := by
  unfold sameB
  cases l.sent == m.sent <;> cases l.own == m.own <;> cases l.other == m.other <;> cases l.first == m.first <;> cases l.next == m.next <;> rfl
theorem sameB_iff (l m : Lk) : sameB l m = true ↔ l = m := by
  obtain ⟨a, b, c, d, e⟩ := l
  obtain ⟨a', b', c', d', e'⟩ := m
  unfold sameB
  simp only [Bool.and_eq_true, beq_iff_eq, Lk.mk.injEq]
  constructor
  · rintro ⟨⟨⟨⟨rfl, rfl⟩, rfl⟩, rfl⟩, rfl⟩; exact ⟨rfl, rfl, rfl, rfl, rfl⟩
  · rintro ⟨rfl, rfl, rfl, rfl, rfl⟩; exact ⟨⟨⟨⟨rfl, rfl⟩, rfl⟩, rfl⟩, rfl⟩
end Go.Proofs.Ytoblckocmakakaa
