/-
  One turn, as the program's inner function makes it in the variables that it captures: no conditions but those named.
-/
import Derived.Test.YtccmimgdmfjciaaBase
namespace Go.Proofs.Ytccmimgdmfjciaa
open Go.RowKit
theorem inv_step {B : Nat} {w W : World} {bx by' bz : Nat} (x y z X Y Z : Int)
    (hI : Inv B w [(bz, .cells #[.int .i32 z] 21), (by', .cells #[.int .i64 y] 2), (bx, .cells #[.int .i64 x] 2)] W) (h1 : B ≤ bx) (h2 : bx < by') (h3 : by' < bz) :
    Inv B w [(bz, .cells #[.int .i32 Z] 21), (by', .cells #[.int .i64 Y] 2), (bx, .cells #[.int .i64 X] 2)]
      (((W.setCell ⟨bx, 0, none⟩ (.int .i64 X)).setCell ⟨by', 0, none⟩ (.int .i64 Y)).setCell ⟨bz, 0, none⟩ (.int .i32 Z)).drew := by
  have e1 : by' ≠ bx := by omega
  have e2 : bz ≠ bx := by omega
  have e3 : bz ≠ by' := by omega
  have I1 := hI.setOne (L' := [(bz, .cells #[.int .i32 z] 21), (by', .cells #[.int .i64 y] 2), (bx, .cells #[.int .i64 X] 2)]) h1 (v := .int .i64 x) (v' := .int .i64 X) (t := 2) (by simp)
    (by intro q hq; simp at hq; rcases hq with rfl | rfl | rfl <;> simp [e1, e2])
  have I2 := I1.setOne (L' := [(bz, .cells #[.int .i32 z] 21), (by', .cells #[.int .i64 Y] 2), (bx, .cells #[.int .i64 X] 2)]) (g := by') (by omega) (v := .int .i64 y) (v' := .int .i64 Y) (t := 2) (by simp)
    (by intro q hq; simp at hq; rcases hq with rfl | rfl | rfl <;> simp [e3, e1.symm])
  exact Inv.drew (I2.setOne (g := bz) (by omega) (v := .int .i32 z) (v' := .int .i32 Z) (t := 21) (by simp)
    (by intro q hq; simp at hq; rcases hq with rfl | rfl | rfl <;> simp [e2.symm, e3.symm]))
set_option maxHeartbeats 8000000 in
theorem step_any {B : Nat} {w W : World} {bx by' bz : Nat} (i : Nat) (t s x y z : Int) (hi : i < 30)
    (hI : Inv B w [(bz, .cells #[.int .i32 z] 21), (by', .cells #[.int .i64 y] 2), (bx, .cells #[.int .i64 x] 2)] W) (h1 : B ≤ bx) (h2 : bx < by') (h3 : by' < bz) :
    Calls Try.prog 28 #[.int .i64 i, .int .i32 t, .int .i64 s, .pointer (some ⟨bx, 0, none⟩), .pointer (some ⟨by', 0, none⟩), .pointer (some ⟨bz, 0, none⟩)] W fun e W' => e = .returned (.tuple #[]) ∧
      Inv B w [(bz, .cells #[.int .i32 (wrap32 (z - t))] 21), (by', .cells #[.int .i64 (IntKind.i64.wrap (y + IntKind.i64.wrap (s * (x / 2^i))))] 2), (bx, .cells #[.int .i64 (IntKind.i64.wrap (x - IntKind.i64.wrap (s * (y / 2^i))))] 2)] W' := by
  have HE := Lib.hid (fun X Y => inv_step x y z X Y (wrap32 (z - t)) hI h1 h2 h3)
  have cx := cell_of_one (hI.get bx (.cells #[.int .i64 x] 2) (by simp))
  have fx := free_of_one (hI.get bx (.cells #[.int .i64 x] 2) (by simp))
  have cy := cell_of_one (hI.get by' (.cells #[.int .i64 y] 2) (by simp))
  have fy := free_of_one (hI.get by' (.cells #[.int .i64 y] 2) (by simp))
  have cz := cell_of_one (hI.get bz (.cells #[.int .i32 z] 21) (by simp))
  have fz := free_of_one (hI.get bz (.cells #[.int .i32 z] 21) (by simp))
  clear hI
  go_enter Try.func28, Try.ntmps28
  refine wp_seq_k (fun K hK => ?_)
  have h0 : K ⟨#[.int .i64 i, .int .i32 t, .int .i64 s, .pointer (some ⟨bx, 0, none⟩), .pointer (some ⟨by', 0, none⟩), .pointer (some ⟨bz, 0, none⟩), undef, undef, undef,
      .int .i64 x, .int .i64 s, .int .i64 y, .int .i64 i, .int .i64 (y / 2^i), .int .i64 (IntKind.i64.wrap (s * (y / 2^i))), .int .i64 (IntKind.i64.wrap (x - IntKind.i64.wrap (s * (y / 2^i)))),
      .int .i64 y, .int .i64 s, .int .i64 x, .int .i64 i, .int .i64 (x / 2^i), .int .i64 (IntKind.i64.wrap (s * (x / 2^i))), .int .i64 (IntKind.i64.wrap (y + IntKind.i64.wrap (s * (x / 2^i)))), undef, undef, undef], []⟩
      ((W.setCell ⟨bx, 0, none⟩ (.int .i64 (IntKind.i64.wrap (x - IntKind.i64.wrap (s * (y / 2^i)))))).setCell ⟨by', 0, none⟩ (.int .i64 (IntKind.i64.wrap (y + IntKind.i64.wrap (s * (x / 2^i)))))).drew := by
    refine hK _ _ ?_
    clear cx fx cy fy hK
    have e1 : bz ≠ bx := by omega
    have e2 : bz ≠ by' := by omega
    generalize IntKind.i64.wrap (y + IntKind.i64.wrap (s * (x / 2^i))) = Y at *
    generalize IntKind.i64.wrap (x - IntKind.i64.wrap (s * (y / 2^i))) = X at *
    generalize IntKind.i64.wrap (s * (y / 2^i)) = p at *
    generalize IntKind.i64.wrap (s * (x / 2^i)) = q at *
    generalize y / 2^i = p' at *
    generalize x / 2^i = q' at *
    go_wp2
    go_end0
    exact ⟨rfl, HE.out X Y⟩
  have h1 := Lib.hid h0
  clear h0 hK HE
  go_region_with (fail)
  all_goals exact h1.out
end Go.Proofs.Ytccmimgdmfjciaa
