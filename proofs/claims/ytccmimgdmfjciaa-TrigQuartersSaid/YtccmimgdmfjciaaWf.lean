/-
  SinCos and Atan, the program's: what they answer, in plain numbers: no conditions but those named.
-/
import Derived.Test.YtccmimgdmfjciaaWd
import Derived.Test.YtccmimgdmfjciaaWe
namespace Go.Proofs.Ytccmimgdmfjciaa
open Go.RowKit
theorem halfN_rng (n : Int) (h1 : -2305843009213693952 ≤ n) (h2 : n ≤ 2305843009213693952) : -72057594037927936 ≤ halfN n ∧ halfN n ≤ 72057594037927936 := by
  unfold halfN; split <;> omega
def far (a : Int) : Bool := decide (1073741824 ≤ wrap32 a) || decide (wrap32 a < -1073741824)
def zof (a : Int) : Int := if far a = true then wrap32 ((a + 2147483648) % 4294967296) else wrap32 a
def scV (a : Int) : V := run upS ⟨652032874, 0, zof a⟩ 30
def sinN (a : Int) : Int := if far a = true then -(halfN (scV a).y) else halfN (scV a).y
def cosN (a : Int) : Int := if far a = true then -(halfN (scV a).x) else halfN (scV a).x
theorem zof_rng (a : Int) : -2147483648 ≤ zof a ∧ zof a ≤ 2147483647 := by unfold zof; split <;> exact wrap32_rng _
theorem scV_rng (a : Int) : (-2305843009213693952 ≤ (scV a).x ∧ (scV a).x ≤ 2305843009213693952) ∧ (-2305843009213693952 ≤ (scV a).y ∧ (scV a).y ≤ 2305843009213693952) := by
  have h := run_rng upS ⟨652032874, 0, zof a⟩ ⟨⟨by show -288230376151711744 ≤ (652032874 : Int); omega, by show (652032874 : Int) ≤ 288230376151711744; omega⟩, ⟨by show -288230376151711744 ≤ (0 : Int); omega, by show (0 : Int) ≤ 288230376151711744; omega⟩⟩ 30
  have h2 := mb_le 30 (by omega)
  unfold scV
  omega
theorem turnedS (z : Int) (w : World) (hz : -2147483648 ≤ z ∧ z ≤ 2147483647) : Calls Try.prog 19 #[.int .i64 652032874, .int .i64 0, .int .i32 z, .func (.func 20) #[] #[]] w fun e w' =>
    e = .returned (.tuple #[.int .i64 (run upS ⟨652032874, 0, z⟩ 30).x, .int .i64 (run upS ⟨652032874, 0, z⟩ 30).y, .int .i32 (run upS ⟨652032874, 0, z⟩ 30).z]) ∧ Below w.heap.size w w' :=
  turned20 ⟨652032874, 0, z⟩ w ⟨⟨by show -288230376151711744 ≤ (652032874 : Int); omega, by show (652032874 : Int) ≤ 288230376151711744; omega⟩, ⟨by show -288230376151711744 ≤ (0 : Int); omega, by show (0 : Int) ≤ 288230376151711744; omega⟩⟩ hz
set_option maxHeartbeats 1000000 in
theorem sincos10 (a : Int) (w : World) : Calls Try.prog 10 #[.int .u32 a] w fun e w' => e = .returned (.tuple #[.int .i64 (sinN a), .int .i64 (cosN a)]) ∧ Below w.heap.size w w' := by
  have HV := Lib.hid (scV_rng a)
  unfold sinN cosN
  by_cases hc : 1073741824 ≤ wrap32 a
  · have hf : far a = true := by unfold far; rw [decide_eq_true hc]; rfl
    rw [if_pos hf, if_pos hf]
    have hz : zof a = wrap32 ((a + 2147483648) % 4294967296) := by unfold zof; rw [if_pos hf]
    have hd : decide (1073741824 ≤ wrap32 a) = true := decide_eq_true hc
    clear hf
    have C19 : ∀ W, Hid (Calls Try.prog 19 #[.int .i64 652032874, .int .i64 0, .int .i32 (wrap32 ((a + 2147483648) % 4294967296)), .func (.func 20) #[] #[]] W fun e w' => e = .returned (.tuple #[.int .i64 (scV a).x, .int .i64 (scV a).y, .int .i32 (scV a).z]) ∧ Below W.heap.size W w') :=
      fun W => Lib.hid (by have h := turnedS (zof a) W (zof_rng a); unfold scV; rw [hz] at h ⊢; exact h)
    clear hz
    generalize scV a = s at *
    obtain ⟨⟨v1, v2⟩, v3, v4⟩ := HV.out
    have r1 := halfN_rng s.x v1 v2
    have r2 := halfN_rng s.y v3 v4
    go_enter Try.func10, Try.ntmps10
    go_wp2_with (first
      | (go_at_call 19; refine (C19 _).out.mono ?_; rintro e w1 ⟨rfl, hb⟩)
      | (go_at_call 21; refine (half21 _ _ (by omega) (by omega)).mono ?_; rintro e w2 ⟨rfl, rfl⟩))
    exact bodyPost_ret (v := .tuple #[.int .i64 (-halfN s.y), .int .i64 (-halfN s.x)]) (by simp [results, Try.results10, go_sem]) rfl ⟨rfl, hb⟩
  · by_cases hc2 : wrap32 a < -1073741824
    · have hf : far a = true := by unfold far; rw [decide_eq_true hc2, Bool.or_true]
      rw [if_pos hf, if_pos hf]
      have hz : zof a = wrap32 ((a + 2147483648) % 4294967296) := by unfold zof; rw [if_pos hf]
      have hd : decide (1073741824 ≤ wrap32 a) = false := decide_eq_false hc
      have hd2 : decide (wrap32 a < -1073741824) = true := decide_eq_true hc2
      clear hf
      have C19 : ∀ W, Hid (Calls Try.prog 19 #[.int .i64 652032874, .int .i64 0, .int .i32 (wrap32 ((a + 2147483648) % 4294967296)), .func (.func 20) #[] #[]] W fun e w' => e = .returned (.tuple #[.int .i64 (scV a).x, .int .i64 (scV a).y, .int .i32 (scV a).z]) ∧ Below W.heap.size W w') :=
        fun W => Lib.hid (by have h := turnedS (zof a) W (zof_rng a); unfold scV; rw [hz] at h ⊢; exact h)
      clear hz
      generalize scV a = s at *
      obtain ⟨⟨v1, v2⟩, v3, v4⟩ := HV.out
      have r1 := halfN_rng s.x v1 v2
      have r2 := halfN_rng s.y v3 v4
      go_enter Try.func10, Try.ntmps10
      go_wp2_with (first
        | (go_at_call 19; refine (C19 _).out.mono ?_; rintro e w1 ⟨rfl, hb⟩)
        | (go_at_call 21; refine (half21 _ _ (by omega) (by omega)).mono ?_; rintro e w2 ⟨rfl, rfl⟩))
      exact bodyPost_ret (v := .tuple #[.int .i64 (-halfN s.y), .int .i64 (-halfN s.x)]) (by simp [results, Try.results10, go_sem]) rfl ⟨rfl, hb⟩
    · have hf : ¬ far a = true := by unfold far; rw [decide_eq_false hc, decide_eq_false hc2]; simp
      rw [if_neg hf, if_neg hf]
      have hz : zof a = wrap32 a := by unfold zof; rw [if_neg hf]
      have hd : decide (1073741824 ≤ wrap32 a) = false := decide_eq_false hc
      have hd2 : decide (wrap32 a < -1073741824) = false := decide_eq_false hc2
      clear hf
      have C19 : ∀ W, Hid (Calls Try.prog 19 #[.int .i64 652032874, .int .i64 0, .int .i32 (wrap32 a), .func (.func 20) #[] #[]] W fun e w' => e = .returned (.tuple #[.int .i64 (scV a).x, .int .i64 (scV a).y, .int .i32 (scV a).z]) ∧ Below W.heap.size W w') :=
        fun W => Lib.hid (by have h := turnedS (zof a) W (zof_rng a); unfold scV; rw [hz] at h ⊢; exact h)
      clear hz
      generalize scV a = s at *
      obtain ⟨⟨v1, v2⟩, v3, v4⟩ := HV.out
      have r1 := halfN_rng s.x v1 v2
      have r2 := halfN_rng s.y v3 v4
      go_enter Try.func10, Try.ntmps10
      go_wp2_with (first
        | (go_at_call 19; refine (C19 _).out.mono ?_; rintro e w1 ⟨rfl, hb⟩)
        | (go_at_call 21; refine (half21 _ _ (by omega) (by omega)).mono ?_; rintro e w2 ⟨rfl, rfl⟩))
      exact bodyPost_ret (v := .tuple #[.int .i64 (halfN s.y), .int .i64 (halfN s.x)]) (by simp [results, Try.results10, go_sem]) rfl ⟨rfl, hb⟩

end Go.Proofs.Ytccmimgdmfjciaa
