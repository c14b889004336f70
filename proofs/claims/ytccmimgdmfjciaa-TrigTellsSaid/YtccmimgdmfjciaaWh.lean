/-
  SinCos and Atan, the reference's: the same answers: no conditions but those named.
-/
import Derived.Test.YtccmimgdmfjciaaWf
import Derived.Test.YtccmimgdmfjciaaWb
namespace Go.Proofs.Ytccmimgdmfjciaa
open Go.RowKit
theorem rturn_nat (k : Nat) (hk : k < 30) (w : World) : Calls Try.prog 15 #[.int .i64 k] w fun e w' => e = .returned (.int .i32 (tn k)) ∧ Below w.heap.size w w' := by
  have h := rturn_any k w (by omega) (by omega)
  rw [if_neg (by omega), Int.toNat_natCast] at h
  exact h
/-- What a round of the reference's loop wants: the two halves are in range, and so is what comes out. -/
theorem rnd_rng (k : Nat) (hk : k < 30) (s : V) (h : (-mb k ≤ s.x ∧ s.x ≤ mb k) ∧ (-mb k ≤ s.y ∧ s.y ≤ mb k)) :
    (-2305843009213693952 ≤ s.x ∧ s.x ≤ 2305843009213693952) ∧ (-2305843009213693952 ≤ s.y ∧ s.y ≤ 2305843009213693952) ∧
    (-2305843009213693953 ≤ s.x / 2 ^ k ∧ s.x / 2 ^ k ≤ 2305843009213693952) ∧ (-2305843009213693953 ≤ s.y / 2 ^ k ∧ s.y / 2 ^ k ≤ 2305843009213693952) := by
  have h1 := div_rng s.x (mb k) k h.1.1 h.1.2
  have h2 := div_rng s.y (mb k) k h.2.1 h.2.2
  have h3 := mb_le k (by omega)
  have h4 : mb k / 2 ^ k ≤ mb k := Int.ediv_le_self _ h3.1
  omega
theorem z_rng (s : V) (b : Bool) (k : Nat) : -2147483648 ≤ (stp b k s).z ∧ (stp b k s).z ≤ 2147483647 := by
  unfold stp; split <;> exact wrap32_rng _
set_option maxRecDepth 20000 in
set_option maxHeartbeats 2000000 in
theorem rsincos11 (a : Int) (w : World) : Calls Try.prog 11 #[.int .u32 a] w fun e w' => e = .returned (.tuple #[.int .i64 (sinN a), .int .i64 (cosN a)]) ∧ Below w.heap.size w w' := by
  unfold sinN cosN
  by_cases hc : 1073741824 ≤ wrap32 a
  · have hf : far a = true := by unfold far; rw [decide_eq_true hc]; rfl
    rw [if_pos hf, if_pos hf]
    have hz : zof a = wrap32 ((a + 2147483648) % 4294967296) := by unfold zof; rw [if_pos hf]
    have hd1 : decide (wrap32 a < -1073741824) = false := decide_eq_false (by omega)
    have hd : decide (1073741824 ≤ wrap32 a) = true := decide_eq_true hc
    clear hf
    have HV := Lib.hid (scV_rng a)
    obtain ⟨v0, hv0⟩ : ∃ v : V, v = ⟨652032874, 0, wrap32 ((a + 2147483648) % 4294967296)⟩ := ⟨_, rfl⟩
    have HR := Lib.hid (run_rng upS v0 (by rw [hv0]; exact ⟨⟨by show -288230376151711744 ≤ (652032874 : Int); omega, by show (652032874 : Int) ≤ 288230376151711744; omega⟩, ⟨by show -288230376151711744 ≤ (0 : Int); omega, by show (0 : Int) ≤ 288230376151711744; omega⟩⟩))
    have HE : Hid (run upS v0 30 = scV a) := Lib.hid (by unfold scV; rw [hz, hv0])
    have HV0 := Lib.hid hv0
    clear hz hv0
    go_enter Try.func11, Try.ntmps11
    go_wp2_with fail
    go_loopw [4, 6, 7, 8, 9, 10] (fun uz ux uy ui up uq wr => ∃ k : Nat, k ≤ 30 ∧ ui = .int .i64 k ∧ ux = .int .i64 (run upS v0 k).x ∧ uy = .int .i64 (run upS v0 k).y ∧ uz = .int .i32 (run upS v0 k).z ∧ Hid (Below w.heap.size w wr)) (fun uz ux uy ui up uq _ => 30 - (intOf ui).toNat)
    case atStart => exact ⟨0, by omega, rfl, by show _ = Value.int .i64 v0.x; rw [HV0.out], by show _ = Value.int .i64 v0.y; rw [HV0.out], by show _ = Value.int .i32 v0.z; rw [HV0.out], Lib.hid (Below.refl _ _)⟩
    case round =>
      obtain ⟨k, hk, rfl, rfl, rfl, rfl, B1⟩ := hrel
      have hR := HR.out k
      by_cases hlt : k < 30
      · have hs : run upS v0 (k + 1) = stp (upS (run upS v0 k).y (run upS v0 k).z) k (run upS v0 k) := rfl
        have HS := Lib.hid hs
        clear hs
        have ht := tn_rng k
        generalize run upS v0 k = s at *
        obtain ⟨⟨a1, a2⟩, ⟨a3, a4⟩, ⟨a5, a6⟩, a7, a8⟩ := rnd_rng k hlt s hR
        clear hR
        by_cases hu : 0 ≤ s.z
        · have hd : decide (0 ≤ s.z) = true := decide_eq_true hu
          have hst : stp (upS s.y s.z) k s = stp true k s := by unfold upS; rw [hd]
          rw [hst] at HS
          clear hst
          have HS2 : Hid (stp true k s = ⟨s.x - s.y / 2 ^ k, s.y + s.x / 2 ^ k, wrap32 (s.z - tn k)⟩) := Lib.hid rfl
          rw [HS2.out] at HS
          have D1 := fun W => Lib.hid (down22 s.x k W (by omega) (by omega) (by omega))
          have D2 := fun W => Lib.hid (down22 s.y k W (by omega) (by omega) (by omega))
          have T1 := fun W => Lib.hid (rturn_nat k hlt W)
          clear HS2
          generalize s.x / 2 ^ k = p at *
          generalize s.y / 2 ^ k = q at *
          have B2 := B1
          go_wp2_with (first
            | (go_at_call_of 22 s.x; refine (D1 _).out.mono ?_; rintro e w2 ⟨rfl, rfl⟩)
            | (go_at_call_of 22 s.y; refine (D2 _).out.mono ?_; rintro e w2 ⟨rfl, rfl⟩)
            | (go_at_call 15; refine (T1 _).out.mono ?_; rintro e w2 ⟨rfl, hb⟩))
          go_roundw
          case rel => exact ⟨k + 1, by omega, by go_num, by rw [HS.out], by rw [HS.out], by rw [HS.out], Lib.hid (B1.out.trans (hb.mono B1.out.size))⟩
          case measure => simp [intOf]; omega
        · have hd : decide (0 ≤ s.z) = false := decide_eq_false hu
          have hst : stp (upS s.y s.z) k s = stp false k s := by unfold upS; rw [hd]
          rw [hst] at HS
          clear hst
          have HS2 : Hid (stp false k s = ⟨s.x + s.y / 2 ^ k, s.y - s.x / 2 ^ k, wrap32 (s.z + tn k)⟩) := Lib.hid rfl
          rw [HS2.out] at HS
          have D1 := fun W => Lib.hid (down22 s.x k W (by omega) (by omega) (by omega))
          have D2 := fun W => Lib.hid (down22 s.y k W (by omega) (by omega) (by omega))
          have T1 := fun W => Lib.hid (rturn_nat k hlt W)
          clear HS2
          generalize s.x / 2 ^ k = p at *
          generalize s.y / 2 ^ k = q at *
          have B2 := B1
          go_wp2_with (first
            | (go_at_call_of 22 s.x; refine (D1 _).out.mono ?_; rintro e w2 ⟨rfl, rfl⟩)
            | (go_at_call_of 22 s.y; refine (D2 _).out.mono ?_; rintro e w2 ⟨rfl, rfl⟩)
            | (go_at_call 15; refine (T1 _).out.mono ?_; rintro e w2 ⟨rfl, hb⟩))
          go_roundw
          case rel => exact ⟨k + 1, by omega, by go_num, by rw [HS.out], by rw [HS.out], by rw [HS.out], Lib.hid (B1.out.trans (hb.mono B1.out.size))⟩
          case measure => simp [intOf]; omega
      · obtain rfl : k = 30 := by omega
        clear hR hlt hk
        have C23x := fun W => Lib.hid (rhalf23 (scV a).x W (by have := HV.out; omega) (by have := HV.out; omega))
        have C23y := fun W => Lib.hid (rhalf23 (scV a).y W (by have := HV.out; omega) (by have := HV.out; omega))
        have r1 := halfN_rng (scV a).x HV.out.1.1 HV.out.1.2
        have r2 := halfN_rng (scV a).y HV.out.2.1 HV.out.2.2
        rw [HE.out]
        generalize hsv : scV a = s at *
        have HSV := Lib.hid hsv
        clear hsv
        go_wp2_with (first
          | (go_at_call_of 23 s.y; refine (C23y _).out.mono ?_; rintro e w2 ⟨rfl, rfl⟩)
          | (go_at_call_of 23 s.x; refine (C23x _).out.mono ?_; rintro e w2 ⟨rfl, rfl⟩))
        exact bodyPost_ret (v := .tuple #[.int .i64 (-halfN s.y), .int .i64 (-halfN s.x)]) (by simp [results, Try.results11, go_sem]) rfl ⟨by rw [HSV.out], B1.out⟩
  · by_cases hc2 : wrap32 a < -1073741824
    · have hf : far a = true := by unfold far; rw [decide_eq_true hc2, Bool.or_true]
      rw [if_pos hf, if_pos hf]
      have hz : zof a = wrap32 ((a + 2147483648) % 4294967296) := by unfold zof; rw [if_pos hf]
      have hd : decide (wrap32 a < -1073741824) = true := decide_eq_true hc2
      clear hf
      have HV := Lib.hid (scV_rng a)
      obtain ⟨v0, hv0⟩ : ∃ v : V, v = ⟨652032874, 0, wrap32 ((a + 2147483648) % 4294967296)⟩ := ⟨_, rfl⟩
      have HR := Lib.hid (run_rng upS v0 (by rw [hv0]; exact ⟨⟨by show -288230376151711744 ≤ (652032874 : Int); omega, by show (652032874 : Int) ≤ 288230376151711744; omega⟩, ⟨by show -288230376151711744 ≤ (0 : Int); omega, by show (0 : Int) ≤ 288230376151711744; omega⟩⟩))
      have HE : Hid (run upS v0 30 = scV a) := Lib.hid (by unfold scV; rw [hz, hv0])
      have HV0 := Lib.hid hv0
      clear hz hv0
      go_enter Try.func11, Try.ntmps11
      go_wp2_with fail
      go_loopw [4, 6, 7, 8, 9, 10] (fun uz ux uy ui up uq wr => ∃ k : Nat, k ≤ 30 ∧ ui = .int .i64 k ∧ ux = .int .i64 (run upS v0 k).x ∧ uy = .int .i64 (run upS v0 k).y ∧ uz = .int .i32 (run upS v0 k).z ∧ Hid (Below w.heap.size w wr)) (fun uz ux uy ui up uq _ => 30 - (intOf ui).toNat)
      case atStart => exact ⟨0, by omega, rfl, by show _ = Value.int .i64 v0.x; rw [HV0.out], by show _ = Value.int .i64 v0.y; rw [HV0.out], by show _ = Value.int .i32 v0.z; rw [HV0.out], Lib.hid (Below.refl _ _)⟩
      case round =>
        obtain ⟨k, hk, rfl, rfl, rfl, rfl, B1⟩ := hrel
        have hR := HR.out k
        by_cases hlt : k < 30
        · have hs : run upS v0 (k + 1) = stp (upS (run upS v0 k).y (run upS v0 k).z) k (run upS v0 k) := rfl
          have HS := Lib.hid hs
          clear hs
          have ht := tn_rng k
          generalize run upS v0 k = s at *
          obtain ⟨⟨a1, a2⟩, ⟨a3, a4⟩, ⟨a5, a6⟩, a7, a8⟩ := rnd_rng k hlt s hR
          clear hR
          by_cases hu : 0 ≤ s.z
          · have hd : decide (0 ≤ s.z) = true := decide_eq_true hu
            have hst : stp (upS s.y s.z) k s = stp true k s := by unfold upS; rw [hd]
            rw [hst] at HS
            clear hst
            have HS2 : Hid (stp true k s = ⟨s.x - s.y / 2 ^ k, s.y + s.x / 2 ^ k, wrap32 (s.z - tn k)⟩) := Lib.hid rfl
            rw [HS2.out] at HS
            have D1 := fun W => Lib.hid (down22 s.x k W (by omega) (by omega) (by omega))
            have D2 := fun W => Lib.hid (down22 s.y k W (by omega) (by omega) (by omega))
            have T1 := fun W => Lib.hid (rturn_nat k hlt W)
            clear HS2
            generalize s.x / 2 ^ k = p at *
            generalize s.y / 2 ^ k = q at *
            have B2 := B1
            go_wp2_with (first
              | (go_at_call_of 22 s.x; refine (D1 _).out.mono ?_; rintro e w2 ⟨rfl, rfl⟩)
              | (go_at_call_of 22 s.y; refine (D2 _).out.mono ?_; rintro e w2 ⟨rfl, rfl⟩)
              | (go_at_call 15; refine (T1 _).out.mono ?_; rintro e w2 ⟨rfl, hb⟩))
            go_roundw
            case rel => exact ⟨k + 1, by omega, by go_num, by rw [HS.out], by rw [HS.out], by rw [HS.out], Lib.hid (B1.out.trans (hb.mono B1.out.size))⟩
            case measure => simp [intOf]; omega
          · have hd : decide (0 ≤ s.z) = false := decide_eq_false hu
            have hst : stp (upS s.y s.z) k s = stp false k s := by unfold upS; rw [hd]
            rw [hst] at HS
            clear hst
            have HS2 : Hid (stp false k s = ⟨s.x + s.y / 2 ^ k, s.y - s.x / 2 ^ k, wrap32 (s.z + tn k)⟩) := Lib.hid rfl
            rw [HS2.out] at HS
            have D1 := fun W => Lib.hid (down22 s.x k W (by omega) (by omega) (by omega))
            have D2 := fun W => Lib.hid (down22 s.y k W (by omega) (by omega) (by omega))
            have T1 := fun W => Lib.hid (rturn_nat k hlt W)
            clear HS2
            generalize s.x / 2 ^ k = p at *
            generalize s.y / 2 ^ k = q at *
            have B2 := B1
            go_wp2_with (first
              | (go_at_call_of 22 s.x; refine (D1 _).out.mono ?_; rintro e w2 ⟨rfl, rfl⟩)
              | (go_at_call_of 22 s.y; refine (D2 _).out.mono ?_; rintro e w2 ⟨rfl, rfl⟩)
              | (go_at_call 15; refine (T1 _).out.mono ?_; rintro e w2 ⟨rfl, hb⟩))
            go_roundw
            case rel => exact ⟨k + 1, by omega, by go_num, by rw [HS.out], by rw [HS.out], by rw [HS.out], Lib.hid (B1.out.trans (hb.mono B1.out.size))⟩
            case measure => simp [intOf]; omega
        · obtain rfl : k = 30 := by omega
          clear hR hlt hk
          have C23x := fun W => Lib.hid (rhalf23 (scV a).x W (by have := HV.out; omega) (by have := HV.out; omega))
          have C23y := fun W => Lib.hid (rhalf23 (scV a).y W (by have := HV.out; omega) (by have := HV.out; omega))
          have r1 := halfN_rng (scV a).x HV.out.1.1 HV.out.1.2
          have r2 := halfN_rng (scV a).y HV.out.2.1 HV.out.2.2
          rw [HE.out]
          generalize hsv : scV a = s at *
          have HSV := Lib.hid hsv
          clear hsv
          go_wp2_with (first
            | (go_at_call_of 23 s.y; refine (C23y _).out.mono ?_; rintro e w2 ⟨rfl, rfl⟩)
            | (go_at_call_of 23 s.x; refine (C23x _).out.mono ?_; rintro e w2 ⟨rfl, rfl⟩))
          exact bodyPost_ret (v := .tuple #[.int .i64 (-halfN s.y), .int .i64 (-halfN s.x)]) (by simp [results, Try.results11, go_sem]) rfl ⟨by rw [HSV.out], B1.out⟩
    · have hf : ¬ far a = true := by unfold far; rw [decide_eq_false hc, decide_eq_false hc2]; simp
      rw [if_neg hf, if_neg hf]
      have hz : zof a = wrap32 a := by unfold zof; rw [if_neg hf]
      have hd : decide (1073741824 ≤ wrap32 a) = false := decide_eq_false hc
      have hd2 : decide (wrap32 a < -1073741824) = false := decide_eq_false hc2
      clear hf
      have HV := Lib.hid (scV_rng a)
      obtain ⟨v0, hv0⟩ : ∃ v : V, v = ⟨652032874, 0, wrap32 a⟩ := ⟨_, rfl⟩
      have HR := Lib.hid (run_rng upS v0 (by rw [hv0]; exact ⟨⟨by show -288230376151711744 ≤ (652032874 : Int); omega, by show (652032874 : Int) ≤ 288230376151711744; omega⟩, ⟨by show -288230376151711744 ≤ (0 : Int); omega, by show (0 : Int) ≤ 288230376151711744; omega⟩⟩))
      have HE : Hid (run upS v0 30 = scV a) := Lib.hid (by unfold scV; rw [hz, hv0])
      have HV0 := Lib.hid hv0
      clear hz hv0
      go_enter Try.func11, Try.ntmps11
      go_wp2_with fail
      go_loopw [4, 6, 7, 8, 9, 10] (fun uz ux uy ui up uq wr => ∃ k : Nat, k ≤ 30 ∧ ui = .int .i64 k ∧ ux = .int .i64 (run upS v0 k).x ∧ uy = .int .i64 (run upS v0 k).y ∧ uz = .int .i32 (run upS v0 k).z ∧ Hid (Below w.heap.size w wr)) (fun uz ux uy ui up uq _ => 30 - (intOf ui).toNat)
      case atStart => exact ⟨0, by omega, rfl, by show _ = Value.int .i64 v0.x; rw [HV0.out], by show _ = Value.int .i64 v0.y; rw [HV0.out], by show _ = Value.int .i32 v0.z; rw [HV0.out], Lib.hid (Below.refl _ _)⟩
      case round =>
        obtain ⟨k, hk, rfl, rfl, rfl, rfl, B1⟩ := hrel
        have hR := HR.out k
        by_cases hlt : k < 30
        · have hs : run upS v0 (k + 1) = stp (upS (run upS v0 k).y (run upS v0 k).z) k (run upS v0 k) := rfl
          have HS := Lib.hid hs
          clear hs
          have ht := tn_rng k
          generalize run upS v0 k = s at *
          obtain ⟨⟨a1, a2⟩, ⟨a3, a4⟩, ⟨a5, a6⟩, a7, a8⟩ := rnd_rng k hlt s hR
          clear hR
          by_cases hu : 0 ≤ s.z
          · have hd : decide (0 ≤ s.z) = true := decide_eq_true hu
            have hst : stp (upS s.y s.z) k s = stp true k s := by unfold upS; rw [hd]
            rw [hst] at HS
            clear hst
            have HS2 : Hid (stp true k s = ⟨s.x - s.y / 2 ^ k, s.y + s.x / 2 ^ k, wrap32 (s.z - tn k)⟩) := Lib.hid rfl
            rw [HS2.out] at HS
            have D1 := fun W => Lib.hid (down22 s.x k W (by omega) (by omega) (by omega))
            have D2 := fun W => Lib.hid (down22 s.y k W (by omega) (by omega) (by omega))
            have T1 := fun W => Lib.hid (rturn_nat k hlt W)
            clear HS2
            generalize s.x / 2 ^ k = p at *
            generalize s.y / 2 ^ k = q at *
            have B2 := B1
            go_wp2_with (first
              | (go_at_call_of 22 s.x; refine (D1 _).out.mono ?_; rintro e w2 ⟨rfl, rfl⟩)
              | (go_at_call_of 22 s.y; refine (D2 _).out.mono ?_; rintro e w2 ⟨rfl, rfl⟩)
              | (go_at_call 15; refine (T1 _).out.mono ?_; rintro e w2 ⟨rfl, hb⟩))
            go_roundw
            case rel => exact ⟨k + 1, by omega, by go_num, by rw [HS.out], by rw [HS.out], by rw [HS.out], Lib.hid (B1.out.trans (hb.mono B1.out.size))⟩
            case measure => simp [intOf]; omega
          · have hd : decide (0 ≤ s.z) = false := decide_eq_false hu
            have hst : stp (upS s.y s.z) k s = stp false k s := by unfold upS; rw [hd]
            rw [hst] at HS
            clear hst
            have HS2 : Hid (stp false k s = ⟨s.x + s.y / 2 ^ k, s.y - s.x / 2 ^ k, wrap32 (s.z + tn k)⟩) := Lib.hid rfl
            rw [HS2.out] at HS
            have D1 := fun W => Lib.hid (down22 s.x k W (by omega) (by omega) (by omega))
            have D2 := fun W => Lib.hid (down22 s.y k W (by omega) (by omega) (by omega))
            have T1 := fun W => Lib.hid (rturn_nat k hlt W)
            clear HS2
            generalize s.x / 2 ^ k = p at *
            generalize s.y / 2 ^ k = q at *
            have B2 := B1
            go_wp2_with (first
              | (go_at_call_of 22 s.x; refine (D1 _).out.mono ?_; rintro e w2 ⟨rfl, rfl⟩)
              | (go_at_call_of 22 s.y; refine (D2 _).out.mono ?_; rintro e w2 ⟨rfl, rfl⟩)
              | (go_at_call 15; refine (T1 _).out.mono ?_; rintro e w2 ⟨rfl, hb⟩))
            go_roundw
            case rel => exact ⟨k + 1, by omega, by go_num, by rw [HS.out], by rw [HS.out], by rw [HS.out], Lib.hid (B1.out.trans (hb.mono B1.out.size))⟩
            case measure => simp [intOf]; omega
        · obtain rfl : k = 30 := by omega
          clear hR hlt hk
          have C23x := fun W => Lib.hid (rhalf23 (scV a).x W (by have := HV.out; omega) (by have := HV.out; omega))
          have C23y := fun W => Lib.hid (rhalf23 (scV a).y W (by have := HV.out; omega) (by have := HV.out; omega))
          have r1 := halfN_rng (scV a).x HV.out.1.1 HV.out.1.2
          have r2 := halfN_rng (scV a).y HV.out.2.1 HV.out.2.2
          rw [HE.out]
          generalize hsv : scV a = s at *
          have HSV := Lib.hid hsv
          clear hsv
          go_wp2_with (first
            | (go_at_call_of 23 s.y; refine (C23y _).out.mono ?_; rintro e w2 ⟨rfl, rfl⟩)
            | (go_at_call_of 23 s.x; refine (C23x _).out.mono ?_; rintro e w2 ⟨rfl, rfl⟩))
          exact bodyPost_ret (v := .tuple #[.int .i64 (halfN s.y), .int .i64 (halfN s.x)]) (by simp [results, Try.results11, go_sem]) rfl ⟨by rw [HSV.out], B1.out⟩
end Go.Proofs.Ytccmimgdmfjciaa
