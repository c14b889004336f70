/-
  Two rows of numbers are the same, the reference's word: no conditions but their lengths.
-/
import Derived.Test.YtoblckocmakakaaWg
namespace Go.Proofs.Ytoblckocmakakaa
open Go.RowKit
theorem take_eq_step {xs ys : List Int} {n : Nat} (hx : n < xs.length) (hy : n < ys.length) (h : xs.take n = ys.take n) (e : xs[n] = ys[n]) : xs.take (n + 1) = ys.take (n + 1) := by
  rw [List.take_succ_eq_append_getElem hx, List.take_succ_eq_append_getElem hy, h, e]
theorem SlIs.some {W : World} {a : Option Addr} {zs : List Int} (h : SlIs W a zs) (h0 : 0 < zs.length) : ∃ b off, a = some ⟨b, off, none⟩ ∧ ∀ j (h : j < zs.length), W.cell? ⟨b, off + j, none⟩ = some (.int .i64 zs[j]) := by
  rcases h with rfl | ⟨b, off, rfl, _, hc⟩
  · simp at h0
  · exact ⟨b, off, rfl, hc⟩
set_option maxHeartbeats 2000000 in
theorem ints15 (xs ys : List Int) (a b : Option Addr) (ca cb : Nat) (hx : xs.length ≤ 9223372036854775807) (w : World) (ha : SlIs w a xs) (hb : SlIs w b ys) :
    Calls Try.prog 15 #[.slice a xs.length ca, .slice b ys.length cb] w fun e w' => e = .returned (.bool (xs == ys)) ∧ Below w.heap.size w w' := by
  by_cases hl : xs.length = ys.length
  · have HA := Lib.hid ha
    have HB := Lib.hid hb
    clear ha hb
    rw [← hl]
    have HL := Lib.hid hl
    clear hl
    go_enter Try.func15, Try.ntmps15
    go_wp2
    go_loopw [5] (fun i wr => ∃ n : Nat, n ≤ xs.length ∧ i = .int .i64 n ∧ Hid (Below w.heap.size w wr ∧ xs.take n = ys.take n)) (fun i _ => xs.length - (intOf i).toNat)
    case atStart => exact ⟨0, by omega, rfl, Lib.hid ⟨Below.refl _ _, rfl⟩⟩
    case round =>
      obtain ⟨n, hn, rfl, HW⟩ := hrel
      by_cases hlt : n < xs.length
      · obtain ⟨ba, oa, rfl, hca⟩ := (HA.out.below HW.out.1).some (by omega)
        obtain ⟨bb, ob, rfl, hcb⟩ := (HB.out.below HW.out.1).some (by have := HL.out; omega)
        have h1 := hca n hlt
        have h2 := hcb n (by have := HL.out; omega)
        clear hca hcb
        generalize hX : xs[n] = X at h1
        generalize hY : ys[n]'(by have := HL.out; omega) = Y at h2
        have HX := Lib.hid hX
        have HY := Lib.hid hY
        clear hX hY
        by_cases he : X = Y
        · have hd : (X != Y) = false := by rw [bne_eq_false_iff_eq]; exact he
          have HE := Lib.hid he
          clear he
          go_wp2
          go_quiet (fail)
          go_wp2
          go_roundw
          case rel => exact ⟨n + 1, by omega, by go_num, Lib.hid ⟨below_drewN HW.out.1 _, take_eq_step hlt (by have := HL.out; omega) HW.out.2 (by rw [HX.out, HY.out, HE.out])⟩⟩
          case measure => simp [intOf]; omega
        · have hd : (X != Y) = true := by rw [bne_iff_ne]; exact he
          have HE := Lib.hid he
          clear he
          go_wp2
          go_quiet (fail)
          go_wp2
          go_ret
          exact ⟨ret_bool (by
            symm
            rw [beq_eq_false_iff_ne]
            intro e
            apply HE.out
            rw [← HX.out, ← HY.out]
            simp only [e]), below_drewN HW.out.1 _⟩
      · have e : n = xs.length := by omega
        subst e
        go_wp2
        go_ret
        exact ⟨ret_bool (by
          symm
          rw [beq_iff_eq]
          have e := HW.out.2
          rwa [List.take_length, List.take_of_length_le (by have := HL.out; omega)] at e), HW.out.1⟩
  · have hd : (xs.length == ys.length) = false := by rw [beq_eq_false_iff_ne]; exact hl
    have hd2 : ((xs.length : Int) != (ys.length : Int)) = true := by rw [bne_iff_ne]; omega
    have HL := Lib.hid hl
    clear hl
    go_enter Try.func15, Try.ntmps15
    go_wp2
    go_ret
    exact ⟨ret_bool (by
      symm
      rw [beq_eq_false_iff_ne]
      intro e
      apply HL.out
      rw [e]), Below.refl _ _⟩
set_option maxHeartbeats 2000000 in
theorem equal28 (xs ys : List Int) (a b : Option Addr) (ca cb : Nat) (hx : xs.length ≤ 9223372036854775807) (w : World) (ha : SlIs w a xs) (hb : SlIs w b ys) :
    Calls Try.prog 28 #[.slice a xs.length ca, .slice b ys.length cb] w fun e w' => e = .returned (.bool (xs == ys)) ∧ Below w.heap.size w w' := by
  by_cases hl : xs.length = ys.length
  · have HA := Lib.hid ha
    have HB := Lib.hid hb
    clear ha hb
    rw [← hl]
    have HL := Lib.hid hl
    clear hl
    go_enter Try.func28, Try.ntmps28
    go_wp2
    go_loopw [13] (fun i wr => ∃ n : Nat, n ≤ xs.length ∧ i = .int .i64 n ∧ Hid (Below w.heap.size w wr ∧ xs.take n = ys.take n)) (fun i _ => xs.length - (intOf i).toNat)
    case atStart => exact ⟨0, by omega, rfl, Lib.hid ⟨Below.refl _ _, rfl⟩⟩
    case round =>
      obtain ⟨n, hn, rfl, HW⟩ := hrel
      by_cases hlt : n < xs.length
      · obtain ⟨ba, oa, rfl, hca⟩ := (HA.out.below HW.out.1).some (by omega)
        obtain ⟨bb, ob, rfl, hcb⟩ := (HB.out.below HW.out.1).some (by have := HL.out; omega)
        have h1 := hca n hlt
        have h2 := hcb n (by have := HL.out; omega)
        clear hca hcb
        generalize hX : xs[n] = X at h1
        generalize hY : ys[n]'(by have := HL.out; omega) = Y at h2
        have HX := Lib.hid hX
        have HY := Lib.hid hY
        clear hX hY
        by_cases he : X = Y
        · have hd : (X != Y) = false := by rw [bne_eq_false_iff_eq]; exact he
          have HE := Lib.hid he
          clear he
          go_wp2
          go_quiet (fail)
          go_wp2
          go_roundw
          case rel => exact ⟨n + 1, by omega, by go_num, Lib.hid ⟨below_drewN HW.out.1 _, take_eq_step hlt (by have := HL.out; omega) HW.out.2 (by rw [HX.out, HY.out, HE.out])⟩⟩
          case measure => simp [intOf]; omega
        · have hd : (X != Y) = true := by rw [bne_iff_ne]; exact he
          have HE := Lib.hid he
          clear he
          go_wp2
          go_quiet (fail)
          go_wp2
          go_ret
          exact ⟨ret_bool (by
            symm
            rw [beq_eq_false_iff_ne]
            intro e
            apply HE.out
            rw [← HX.out, ← HY.out]
            simp only [e]), below_drewN HW.out.1 _⟩
      · have e : n = xs.length := by omega
        subst e
        go_wp2
        go_ret
        exact ⟨ret_bool (by
          symm
          rw [beq_iff_eq]
          have e := HW.out.2
          rwa [List.take_length, List.take_of_length_le (by have := HL.out; omega)] at e), HW.out.1⟩
  · have hd : (xs.length == ys.length) = false := by rw [beq_eq_false_iff_ne]; exact hl
    have hd2 : ((xs.length : Int) != (ys.length : Int)) = true := by rw [bne_iff_ne]; omega
    have HL := Lib.hid hl
    clear hl
    go_enter Try.func28, Try.ntmps28
    go_wp2
    go_ret
    exact ⟨ret_bool (by
      symm
      rw [beq_eq_false_iff_ne]
      intro e
      apply HL.out
      rw [e]), Below.refl _ _⟩
end Go.Proofs.Ytoblckocmakakaa
