/-
  SinCos and Atan, the reference's: the same answers: no conditions but those named.
-/
import Derived.Test.YtccmimgdmfjciaaWh
import Derived.Test.YtccmimgdmfjciaaWg
namespace Go.Proofs.Ytccmimgdmfjciaa
open Go.RowKit
set_option maxRecDepth 20000 in
set_option maxHeartbeats 2000000 in
theorem ratan13 (y x : Int) (w : World) : Calls Try.prog 13 #[.int .i64 y, .int .i64 x] w fun e w' => e = .returned (.int .u32 (atN y x)) ∧ Below w.heap.size w w' := by
  have rx := clampN_rng x
  have ry := clampN_rng y
  unfold atN
  generalize hu : clampN x = u at *
  generalize hv : clampN y = v at *
  have C26x : ∀ W, Hid (Calls Try.prog 26 #[.int .i64 x] W fun e w' => e = .returned (.tuple #[.int .i64 u, .bool (u != x)]) ∧ W = w') := fun W => Lib.hid (by rw [← hu]; exact clamp26 x W)
  have C26y : ∀ W, Hid (Calls Try.prog 26 #[.int .i64 y] W fun e w' => e = .returned (.tuple #[.int .i64 v, .bool (v != y)]) ∧ W = w') := fun W => Lib.hid (by rw [← hv]; exact clamp26 y W)
  clear hu hv
  by_cases h0 : u = 0 ∧ v = 0
  · rw [if_pos h0]
    obtain ⟨rfl, rfl⟩ := h0
    go_enter Try.func13, Try.ntmps13
    go_wp2_with (first
      | (go_at_call_of 26 y; refine (C26y _).out.mono ?_; rintro e w1 ⟨rfl, rfl⟩)
      | (go_at_call_of 26 x; refine (C26x _).out.mono ?_; rintro e w1 ⟨rfl, rfl⟩))
    go_ret
    exact ⟨rfl, Below.refl _ _⟩
  · rw [if_neg h0]
    by_cases hn : u < 0
    · rw [if_pos hn]
      have hb : (u == 0) = false := by rw [beq_eq_false_iff_ne]; omega
      clear h0
      obtain ⟨v0, hv0⟩ : ∃ q : V, q = ⟨-u * 4096, -v * 4096, 0⟩ := ⟨_, rfl⟩
      have HR := Lib.hid (run_rng upA v0 (by rw [hv0]; exact ⟨⟨by show -288230376151711744 ≤ -u * 4096; omega, by show -u * 4096 ≤ 288230376151711744; omega⟩, ⟨by show -288230376151711744 ≤ -v * 4096; omega, by show -v * 4096 ≤ 288230376151711744; omega⟩⟩))
      have HE : Hid (run upA v0 30 = atV (-u) (-v)) := Lib.hid (by unfold atV; rw [hv0])
      have HV0 := Lib.hid hv0
      clear hv0
      go_enter Try.func13, Try.ntmps13
      go_wp2_with (first
        | (go_at_call_of 26 y; refine (C26y _).out.mono ?_; rintro e w1 ⟨rfl, rfl⟩)
        | (go_at_call_of 26 x; refine (C26x _).out.mono ?_; rintro e w1 ⟨rfl, rfl⟩))
      go_loopw [10, 11, 12, 13, 14, 15] (fun ux uy uz ui up uq wr => ∃ k : Nat, k ≤ 30 ∧ ui = .int .i64 k ∧ ux = .int .i64 (run upA v0 k).x ∧ uy = .int .i64 (run upA v0 k).y ∧ uz = .int .i32 (run upA v0 k).z ∧ Hid (Below w.heap.size w wr)) (fun ux uy uz ui up uq _ => 30 - (intOf ui).toNat)
      case atStart => exact ⟨0, by omega, rfl, by show _ = Value.int .i64 v0.x; rw [HV0.out]; try rfl, by show _ = Value.int .i64 v0.y; rw [HV0.out]; try rfl, by show _ = Value.int .i32 v0.z; rw [HV0.out]; try rfl, Lib.hid (Below.refl _ _)⟩
      case round =>
        obtain ⟨k, hk, rfl, rfl, rfl, rfl, B1⟩ := hrel
        have hR := HR.out k
        by_cases hlt : k < 30
        · have hs : run upA v0 (k + 1) = stp (upA (run upA v0 k).y (run upA v0 k).z) k (run upA v0 k) := rfl
          have HS := Lib.hid hs
          clear hs
          have ht := tn_rng k
          generalize run upA v0 k = s at *
          obtain ⟨⟨a1, a2⟩, ⟨a3, a4⟩, ⟨a5, a6⟩, a7, a8⟩ := rnd_rng k hlt s hR
          clear hR
          by_cases hu : s.y < 0
          · have hd : decide (s.y < 0) = true := decide_eq_true hu
            have hst : stp (upA s.y s.z) k s = stp true k s := by unfold upA; rw [hd]
            rw [hst] at HS
            clear hst
            have HS2 : Hid (stp true k s = ⟨s.x - s.y / 2 ^ k, s.y + s.x / 2 ^ k, wrap32 (s.z - tn k)⟩) := Lib.hid rfl
            rw [HS2.out] at HS
            have D1 := fun W => Lib.hid (down22 s.x k W (by omega) (by omega) (by omega))
            have D2 := fun W => Lib.hid (down22 s.y k W (by omega) (by omega) (by omega))
            have T1 := fun W => Lib.hid (rturn_nat k hlt W)
            clear HS2
            generalize s.x / 2 ^ k = p at *
            generalize s.y / 2 ^ k = q at *
            have B2 := B1
            go_wp2_with (first
              | (go_at_call_of 22 s.x; refine (D1 _).out.mono ?_; rintro e w2 ⟨rfl, rfl⟩)
              | (go_at_call_of 22 s.y; refine (D2 _).out.mono ?_; rintro e w2 ⟨rfl, rfl⟩)
              | (go_at_call 15; refine (T1 _).out.mono ?_; rintro e w2 ⟨rfl, hb⟩))
            go_roundw
            case rel => exact ⟨k + 1, by omega, by go_num, by rw [HS.out], by rw [HS.out], by rw [HS.out], Lib.hid (B1.out.trans (hb.mono B1.out.size))⟩
            case measure => simp [intOf]; omega
          · have hd : decide (s.y < 0) = false := decide_eq_false hu
            have hst : stp (upA s.y s.z) k s = stp false k s := by unfold upA; rw [hd]
            rw [hst] at HS
            clear hst
            have HS2 : Hid (stp false k s = ⟨s.x + s.y / 2 ^ k, s.y - s.x / 2 ^ k, wrap32 (s.z + tn k)⟩) := Lib.hid rfl
            rw [HS2.out] at HS
            have D1 := fun W => Lib.hid (down22 s.x k W (by omega) (by omega) (by omega))
            have D2 := fun W => Lib.hid (down22 s.y k W (by omega) (by omega) (by omega))
            have T1 := fun W => Lib.hid (rturn_nat k hlt W)
            clear HS2
            generalize s.x / 2 ^ k = p at *
            generalize s.y / 2 ^ k = q at *
            have B2 := B1
            go_wp2_with (first
              | (go_at_call_of 22 s.x; refine (D1 _).out.mono ?_; rintro e w2 ⟨rfl, rfl⟩)
              | (go_at_call_of 22 s.y; refine (D2 _).out.mono ?_; rintro e w2 ⟨rfl, rfl⟩)
              | (go_at_call 15; refine (T1 _).out.mono ?_; rintro e w2 ⟨rfl, hb⟩))
            go_roundw
            case rel => exact ⟨k + 1, by omega, by go_num, by rw [HS.out], by rw [HS.out], by rw [HS.out], Lib.hid (B1.out.trans (hb.mono B1.out.size))⟩
            case measure => simp [intOf]; omega
        · obtain rfl : k = 30 := by omega
          clear hR hlt hk
          generalize hsv : atV (-u) (-v) = s at *
          have HSV := Lib.hid hsv
          clear hsv
          rw [HE.out]
          go_wp2
          go_ret
          exact ⟨by rw [HSV.out]; try rfl, B1.out⟩
    · rw [if_neg hn]
      by_cases h1 : u = 0
      · have hb2 : (v == 0) = false := by rw [beq_eq_false_iff_ne]; exact fun e => h0 ⟨h1, e⟩
        subst h1
        clear h0
        obtain ⟨v0, hv0⟩ : ∃ q : V, q = ⟨0 * 4096, v * 4096, 0⟩ := ⟨_, rfl⟩
        have HR := Lib.hid (run_rng upA v0 (by rw [hv0]; exact ⟨⟨by show -288230376151711744 ≤ 0 * 4096; omega, by show 0 * 4096 ≤ 288230376151711744; omega⟩, ⟨by show -288230376151711744 ≤ v * 4096; omega, by show v * 4096 ≤ 288230376151711744; omega⟩⟩))
        have HE : Hid (run upA v0 30 = atV (0) (v)) := Lib.hid (by unfold atV; rw [hv0])
        have HV0 := Lib.hid hv0
        clear hv0
        go_enter Try.func13, Try.ntmps13
        go_wp2_with (first
          | (go_at_call_of 26 y; refine (C26y _).out.mono ?_; rintro e w1 ⟨rfl, rfl⟩)
          | (go_at_call_of 26 x; refine (C26x _).out.mono ?_; rintro e w1 ⟨rfl, rfl⟩))
        go_loopw [10, 11, 12, 13, 14, 15] (fun ux uy uz ui up uq wr => ∃ k : Nat, k ≤ 30 ∧ ui = .int .i64 k ∧ ux = .int .i64 (run upA v0 k).x ∧ uy = .int .i64 (run upA v0 k).y ∧ uz = .int .i32 (run upA v0 k).z ∧ Hid (Below w.heap.size w wr)) (fun ux uy uz ui up uq _ => 30 - (intOf ui).toNat)
        case atStart => exact ⟨0, by omega, rfl, by show _ = Value.int .i64 v0.x; rw [HV0.out]; try rfl, by show _ = Value.int .i64 v0.y; rw [HV0.out]; try rfl, by show _ = Value.int .i32 v0.z; rw [HV0.out]; try rfl, Lib.hid (Below.refl _ _)⟩
        case round =>
          obtain ⟨k, hk, rfl, rfl, rfl, rfl, B1⟩ := hrel
          have hR := HR.out k
          by_cases hlt : k < 30
          · have hs : run upA v0 (k + 1) = stp (upA (run upA v0 k).y (run upA v0 k).z) k (run upA v0 k) := rfl
            have HS := Lib.hid hs
            clear hs
            have ht := tn_rng k
            generalize run upA v0 k = s at *
            obtain ⟨⟨a1, a2⟩, ⟨a3, a4⟩, ⟨a5, a6⟩, a7, a8⟩ := rnd_rng k hlt s hR
            clear hR
            by_cases hu : s.y < 0
            · have hd : decide (s.y < 0) = true := decide_eq_true hu
              have hst : stp (upA s.y s.z) k s = stp true k s := by unfold upA; rw [hd]
              rw [hst] at HS
              clear hst
              have HS2 : Hid (stp true k s = ⟨s.x - s.y / 2 ^ k, s.y + s.x / 2 ^ k, wrap32 (s.z - tn k)⟩) := Lib.hid rfl
              rw [HS2.out] at HS
              have D1 := fun W => Lib.hid (down22 s.x k W (by omega) (by omega) (by omega))
              have D2 := fun W => Lib.hid (down22 s.y k W (by omega) (by omega) (by omega))
              have T1 := fun W => Lib.hid (rturn_nat k hlt W)
              clear HS2
              generalize s.x / 2 ^ k = p at *
              generalize s.y / 2 ^ k = q at *
              have B2 := B1
              go_wp2_with (first
                | (go_at_call_of 22 s.x; refine (D1 _).out.mono ?_; rintro e w2 ⟨rfl, rfl⟩)
                | (go_at_call_of 22 s.y; refine (D2 _).out.mono ?_; rintro e w2 ⟨rfl, rfl⟩)
                | (go_at_call 15; refine (T1 _).out.mono ?_; rintro e w2 ⟨rfl, hb⟩))
              go_roundw
              case rel => exact ⟨k + 1, by omega, by go_num, by rw [HS.out], by rw [HS.out], by rw [HS.out], Lib.hid (B1.out.trans (hb.mono B1.out.size))⟩
              case measure => simp [intOf]; omega
            · have hd : decide (s.y < 0) = false := decide_eq_false hu
              have hst : stp (upA s.y s.z) k s = stp false k s := by unfold upA; rw [hd]
              rw [hst] at HS
              clear hst
              have HS2 : Hid (stp false k s = ⟨s.x + s.y / 2 ^ k, s.y - s.x / 2 ^ k, wrap32 (s.z + tn k)⟩) := Lib.hid rfl
              rw [HS2.out] at HS
              have D1 := fun W => Lib.hid (down22 s.x k W (by omega) (by omega) (by omega))
              have D2 := fun W => Lib.hid (down22 s.y k W (by omega) (by omega) (by omega))
              have T1 := fun W => Lib.hid (rturn_nat k hlt W)
              clear HS2
              generalize s.x / 2 ^ k = p at *
              generalize s.y / 2 ^ k = q at *
              have B2 := B1
              go_wp2_with (first
                | (go_at_call_of 22 s.x; refine (D1 _).out.mono ?_; rintro e w2 ⟨rfl, rfl⟩)
                | (go_at_call_of 22 s.y; refine (D2 _).out.mono ?_; rintro e w2 ⟨rfl, rfl⟩)
                | (go_at_call 15; refine (T1 _).out.mono ?_; rintro e w2 ⟨rfl, hb⟩))
              go_roundw
              case rel => exact ⟨k + 1, by omega, by go_num, by rw [HS.out], by rw [HS.out], by rw [HS.out], Lib.hid (B1.out.trans (hb.mono B1.out.size))⟩
              case measure => simp [intOf]; omega
          · obtain rfl : k = 30 := by omega
            clear hR hlt hk
            generalize hsv : atV (0) (v) = s at *
            have HSV := Lib.hid hsv
            clear hsv
            rw [HE.out]
            go_wp2
            go_ret
            exact ⟨by rw [HSV.out]; try rfl, B1.out⟩
      · have hb : (u == 0) = false := by rw [beq_eq_false_iff_ne]; exact h1
        clear h0 h1
        obtain ⟨v0, hv0⟩ : ∃ q : V, q = ⟨u * 4096, v * 4096, 0⟩ := ⟨_, rfl⟩
        have HR := Lib.hid (run_rng upA v0 (by rw [hv0]; exact ⟨⟨by show -288230376151711744 ≤ u * 4096; omega, by show u * 4096 ≤ 288230376151711744; omega⟩, ⟨by show -288230376151711744 ≤ v * 4096; omega, by show v * 4096 ≤ 288230376151711744; omega⟩⟩))
        have HE : Hid (run upA v0 30 = atV (u) (v)) := Lib.hid (by unfold atV; rw [hv0])
        have HV0 := Lib.hid hv0
        clear hv0
        go_enter Try.func13, Try.ntmps13
        go_wp2_with (first
          | (go_at_call_of 26 y; refine (C26y _).out.mono ?_; rintro e w1 ⟨rfl, rfl⟩)
          | (go_at_call_of 26 x; refine (C26x _).out.mono ?_; rintro e w1 ⟨rfl, rfl⟩))
        go_loopw [10, 11, 12, 13, 14, 15] (fun ux uy uz ui up uq wr => ∃ k : Nat, k ≤ 30 ∧ ui = .int .i64 k ∧ ux = .int .i64 (run upA v0 k).x ∧ uy = .int .i64 (run upA v0 k).y ∧ uz = .int .i32 (run upA v0 k).z ∧ Hid (Below w.heap.size w wr)) (fun ux uy uz ui up uq _ => 30 - (intOf ui).toNat)
        case atStart => exact ⟨0, by omega, rfl, by show _ = Value.int .i64 v0.x; rw [HV0.out]; try rfl, by show _ = Value.int .i64 v0.y; rw [HV0.out]; try rfl, by show _ = Value.int .i32 v0.z; rw [HV0.out]; try rfl, Lib.hid (Below.refl _ _)⟩
        case round =>
          obtain ⟨k, hk, rfl, rfl, rfl, rfl, B1⟩ := hrel
          have hR := HR.out k
          by_cases hlt : k < 30
          · have hs : run upA v0 (k + 1) = stp (upA (run upA v0 k).y (run upA v0 k).z) k (run upA v0 k) := rfl
            have HS := Lib.hid hs
            clear hs
            have ht := tn_rng k
            generalize run upA v0 k = s at *
            obtain ⟨⟨a1, a2⟩, ⟨a3, a4⟩, ⟨a5, a6⟩, a7, a8⟩ := rnd_rng k hlt s hR
            clear hR
            by_cases hu : s.y < 0
            · have hd : decide (s.y < 0) = true := decide_eq_true hu
              have hst : stp (upA s.y s.z) k s = stp true k s := by unfold upA; rw [hd]
              rw [hst] at HS
              clear hst
              have HS2 : Hid (stp true k s = ⟨s.x - s.y / 2 ^ k, s.y + s.x / 2 ^ k, wrap32 (s.z - tn k)⟩) := Lib.hid rfl
              rw [HS2.out] at HS
              have D1 := fun W => Lib.hid (down22 s.x k W (by omega) (by omega) (by omega))
              have D2 := fun W => Lib.hid (down22 s.y k W (by omega) (by omega) (by omega))
              have T1 := fun W => Lib.hid (rturn_nat k hlt W)
              clear HS2
              generalize s.x / 2 ^ k = p at *
              generalize s.y / 2 ^ k = q at *
              have B2 := B1
              go_wp2_with (first
                | (go_at_call_of 22 s.x; refine (D1 _).out.mono ?_; rintro e w2 ⟨rfl, rfl⟩)
                | (go_at_call_of 22 s.y; refine (D2 _).out.mono ?_; rintro e w2 ⟨rfl, rfl⟩)
                | (go_at_call 15; refine (T1 _).out.mono ?_; rintro e w2 ⟨rfl, hb⟩))
              go_roundw
              case rel => exact ⟨k + 1, by omega, by go_num, by rw [HS.out], by rw [HS.out], by rw [HS.out], Lib.hid (B1.out.trans (hb.mono B1.out.size))⟩
              case measure => simp [intOf]; omega
            · have hd : decide (s.y < 0) = false := decide_eq_false hu
              have hst : stp (upA s.y s.z) k s = stp false k s := by unfold upA; rw [hd]
              rw [hst] at HS
              clear hst
              have HS2 : Hid (stp false k s = ⟨s.x + s.y / 2 ^ k, s.y - s.x / 2 ^ k, wrap32 (s.z + tn k)⟩) := Lib.hid rfl
              rw [HS2.out] at HS
              have D1 := fun W => Lib.hid (down22 s.x k W (by omega) (by omega) (by omega))
              have D2 := fun W => Lib.hid (down22 s.y k W (by omega) (by omega) (by omega))
              have T1 := fun W => Lib.hid (rturn_nat k hlt W)
              clear HS2
              generalize s.x / 2 ^ k = p at *
              generalize s.y / 2 ^ k = q at *
              have B2 := B1
              go_wp2_with (first
                | (go_at_call_of 22 s.x; refine (D1 _).out.mono ?_; rintro e w2 ⟨rfl, rfl⟩)
                | (go_at_call_of 22 s.y; refine (D2 _).out.mono ?_; rintro e w2 ⟨rfl, rfl⟩)
                | (go_at_call 15; refine (T1 _).out.mono ?_; rintro e w2 ⟨rfl, hb⟩))
              go_roundw
              case rel => exact ⟨k + 1, by omega, by go_num, by rw [HS.out], by rw [HS.out], by rw [HS.out], Lib.hid (B1.out.trans (hb.mono B1.out.size))⟩
              case measure => simp [intOf]; omega
          · obtain rfl : k = 30 := by omega
            clear hR hlt hk
            generalize hsv : atV (u) (v) = s at *
            have HSV := Lib.hid hsv
            clear hsv
            rw [HE.out]
            go_wp2
            go_ret
            exact ⟨by rw [HSV.out]; try rfl, B1.out⟩
end Go.Proofs.Ytccmimgdmfjciaa
