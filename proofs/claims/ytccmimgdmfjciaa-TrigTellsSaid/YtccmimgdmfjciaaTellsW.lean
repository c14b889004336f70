/-
  TrigTells: whatever angles, numbers and place (of their types), the law returns true and changes nothing that was there.
-/
import Derived.Test.YtccmimgdmfjciaaWj
import Derived.Test.YtccmimgdmfjciaaWi
namespace Go.Proofs.Ytccmimgdmfjciaa
open Go.RowKit
theorem Below.snoc {B : Nat} {w W W' : World} (h : Hid (Below B w W ∧ B ≤ W.heap.size)) (hb : Below W.heap.size W W') : Hid (Below B w W' ∧ B ≤ W'.heap.size) :=
  Lib.hid ⟨h.out.1.trans (hb.mono h.out.2), Nat.le_trans h.out.2 hb.size⟩
set_option maxRecDepth 20000 in
set_option maxHeartbeats 1000000 in
theorem trigTells_walk (a b y x i : Int) (h0 : -9223372036854775808 ≤ i) (h1 : i ≤ 9223372036854775807) (w : World) :
    Calls Try.prog 3 #[.agg #[.int .u32 a, .int .u32 b, .int .i64 y, .int .i64 x, .int .i64 i]] w fun e w' => e = .returned (.bool true) ∧ Below w.heap.size w w' := by
  have B0 : Hid (Below w.heap.size w (w.alloc (.cells #[.int .u32 a, .int .u32 b, .int .i64 y, .int .i64 x, .int .i64 i] 25)) ∧ w.heap.size ≤ (w.alloc (.cells #[.int .u32 a, .int .u32 b, .int .i64 y, .int .i64 x, .int .i64 i] 25)).heap.size) :=
    Lib.hid ⟨(Below.refl _ _).alloc (Nat.le_refl _) _, by simp⟩
  have C10 := fun W => Lib.hid (sincos10 a W)
  have C11 := fun W => Lib.hid (rsincos11 a W)
  have C12 := fun W => Lib.hid (atan12 y x W)
  have C13 := fun W => Lib.hid (ratan13 y x W)
  have C14 := fun W => Lib.hid (turn_any i W h0 h1)
  have C15 := fun W => Lib.hid (rturn_any i W h0 h1)
  have C16 := fun W => Lib.hid (wrap16 a b W)
  have C17 := fun W => Lib.hid (wrap17 a b W)
  clear h0 h1
  generalize sinN a = s at *
  generalize cosN a = c at *
  generalize atN y x = t at *
  generalize (if i < 0 then 0 else tn i.toNat) = n at *
  generalize wrapD a b = d at *
  go_enter Try.func3, Try.ntmps3
  go_wp2_with (first
    | (go_at_call 9; refine (shown9 _).mono ?_; rintro e w1 ⟨rfl, h1⟩; have B0 := Below.snoc B0 h1; clear h1)
    | (go_at_call 10; refine (C10 _).out.mono ?_; rintro e w1 ⟨rfl, h1⟩; have B0 := Below.snoc B0 h1; clear h1)
    | (go_at_call 11; refine (C11 _).out.mono ?_; rintro e w1 ⟨rfl, h1⟩; have B0 := Below.snoc B0 h1; clear h1)
    | (go_at_call 12; refine (C12 _).out.mono ?_; rintro e w1 ⟨rfl, h1⟩; have B0 := Below.snoc B0 h1; clear h1)
    | (go_at_call 13; refine (C13 _).out.mono ?_; rintro e w1 ⟨rfl, h1⟩; have B0 := Below.snoc B0 h1; clear h1)
    | (go_at_call 14; refine (C14 _).out.mono ?_; rintro e w1 ⟨rfl, h1⟩; have B0 := Below.snoc B0 h1; clear h1)
    | (go_at_call 15; refine (C15 _).out.mono ?_; rintro e w1 ⟨rfl, h1⟩; have B0 := Below.snoc B0 h1; clear h1)
    | (go_at_call 16; refine (C16 _).out.mono ?_; rintro e w1 ⟨rfl, rfl⟩)
    | (go_at_call 17; refine (C17 _).out.mono ?_; rintro e w1 ⟨rfl, rfl⟩))
  go_ret
  exact ⟨rfl, B0.out.1⟩
end Go.Proofs.Ytccmimgdmfjciaa
