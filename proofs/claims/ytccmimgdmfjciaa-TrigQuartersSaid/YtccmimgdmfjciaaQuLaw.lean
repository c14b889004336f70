/-
  In which quarter the angle of two numbers lies: plain numbers, no program. A finite tree over the turns' ways, of which only those near a bound are followed.
-/
import Derived.Test.YtccmimgdmfjciaaTurnsW
import Derived.Test.YtccmimgdmfjciaaAnglesW
namespace Go.Proofs.Ytccmimgdmfjciaa
def chk (σ m lo hi : Int) : Nat → Nat → Int → Int → Int → Int → Int → Bool
  | f, k, C, S, D, E, z =>
    (decide (lo ≤ z - (sumT 30 - sumT k)) && decide (z + (sumT 30 - sumT k) ≤ hi)) ||
    match f with
    | 0 => false
    | f + 1 =>
      ((decide (0 ≤ S) && decide (0 ≤ σ * C) && decide (E ≤ m * (S + σ * C))) || chk σ m lo hi f (k + 1) (2 ^ k * C - S) (2 ^ k * S + C) (2 ^ k * D) ((2 ^ k + 1) * E + 2 ^ k * D) (z - tn k)) &&
      ((decide (S ≤ 0) && decide (σ * C ≤ 0) && decide (m * (S + σ * C) + E < 0)) || chk σ m lo hi f (k + 1) (2 ^ k * C + S) (2 ^ k * S - C) (2 ^ k * D) ((2 ^ k + 1) * E + 2 ^ k * D) (z + tn k))
theorem chk_q1 : chk 1 4096 (-255) 1073742079 30 0 1 0 1 0 0 = true := by decide +kernel
theorem chk_q4 : chk (-1) 4096 (-1073742079) 255 30 0 1 0 1 0 0 = true := by decide +kernel
theorem chk_x : chk 0 68719476736 (-255) 255 30 0 1 0 1 0 0 = true := by decide +kernel

theorem wrap32_eq (a : Int) (h1 : -2147483648 ≤ a) (h2 : a ≤ 2147483647) : RowKit.wrap32 a = a := by unfold RowKit.wrap32; omega
theorem sumT_le (n : Nat) (h : n ≤ 30) : 0 ≤ sumT n ∧ sumT n ≤ 1200000000 := by
  have : ∀ i : Fin 31, 0 ≤ sumT i.val ∧ sumT i.val ≤ 1200000000 := by decide +kernel
  exact this ⟨n, by omega⟩
theorem stp_z (b : Bool) (k : Nat) (v : V) (hk : k < 30) (h : -sumT k ≤ v.z ∧ v.z ≤ sumT k) : (stp b k v).z = if b then v.z - tn k else v.z + tn k := by
  have h1 := sumT_le (k + 1) (by omega)
  have h2 : sumT (k + 1) = sumT k + tn k := rfl
  have h3 := tn_rng k
  unfold stp
  cases b
  · exact wrap32_eq _ (by omega) (by omega)
  · exact wrap32_eq _ (by omega) (by omega)
/-- The angle so far is no greater than the turns so far together. -/
theorem run_sum (up : Int → Int → Bool) (x y : Int) : ∀ k, k ≤ 30 → -sumT k ≤ (run up ⟨x, y, 0⟩ k).z ∧ (run up ⟨x, y, 0⟩ k).z ≤ sumT k
  | 0, _ => by show -0 ≤ (0 : Int) ∧ (0 : Int) ≤ 0; omega
  | k + 1, h => by
    have ih := run_sum up x y k (by omega)
    have h2 : sumT (k + 1) = sumT k + tn k := rfl
    have h3 := tn_rng k
    show -sumT (k + 1) ≤ (stp _ k (run up ⟨x, y, 0⟩ k)).z ∧ (stp _ k (run up ⟨x, y, 0⟩ k)).z ≤ sumT (k + 1)
    rw [stp_z _ k _ (by omega) ih]
    split <;> omega
/-- What is still to come turns the angle by no more than the turns that are left. -/
theorem run_left (up : Int → Int → Bool) (x y : Int) (k : Nat) : ∀ n, k + n ≤ 30 → (run up ⟨x, y, 0⟩ k).z - (sumT (k + n) - sumT k) ≤ (run up ⟨x, y, 0⟩ (k + n)).z ∧ (run up ⟨x, y, 0⟩ (k + n)).z ≤ (run up ⟨x, y, 0⟩ k).z + (sumT (k + n) - sumT k)
  | 0, _ => by simp
  | n + 1, h => by
    have ih := run_left up x y k n (by omega)
    have hs := run_sum up x y (k + n) (by omega)
    have h2 : sumT (k + (n + 1)) = sumT (k + n) + tn (k + n) := rfl
    have h3 := tn_rng (k + n)
    show _ ≤ (stp _ (k + n) (run up ⟨x, y, 0⟩ (k + n))).z ∧ (stp _ (k + n) (run up ⟨x, y, 0⟩ (k + n))).z ≤ _
    rw [stp_z _ (k + n) _ (by omega) hs, h2]
    split <;> omega
theorem err_dn (P D C S E x y x0 w0 σ : Int) (hP : 1 ≤ P) (hD : 0 ≤ D)
    (hx : -E ≤ D * x - (C * x0 - σ * S * w0) ∧ D * x - (C * x0 - σ * S * w0) ≤ E) (hy : -E ≤ D * y - (S * x0 + σ * C * w0) ∧ D * y - (S * x0 + σ * C * w0) ≤ E) :
    (-((P + 1) * E + P * D) ≤ P * D * (x + y / P) - ((P * C + S) * x0 - σ * (P * S - C) * w0) ∧ P * D * (x + y / P) - ((P * C + S) * x0 - σ * (P * S - C) * w0) ≤ (P + 1) * E + P * D) ∧
    (-((P + 1) * E + P * D) ≤ P * D * (y - x / P) - ((P * S - C) * x0 + σ * (P * C + S) * w0) ∧ P * D * (y - x / P) - ((P * S - C) * x0 + σ * (P * C + S) * w0) ≤ (P + 1) * E + P * D) := by
  have ex : x = P * (x / P) + x % P := (Int.mul_ediv_add_emod x P).symm
  have ey : y = P * (y / P) + y % P := (Int.mul_ediv_add_emod y P).symm
  have rx0 := Int.emod_nonneg x (show P ≠ 0 by omega)
  have ry0 := Int.emod_nonneg y (show P ≠ 0 by omega)
  have rx1 := Int.emod_lt_of_pos x (show 0 < P by omega)
  have ry1 := Int.emod_lt_of_pos y (show 0 < P by omega)
  generalize x / P = p at *
  generalize y / P = q at *
  generalize x % P = rx at *
  generalize y % P = ry at *
  have a1 : P * D * (x + q) - ((P * C + S) * x0 - σ * (P * S - C) * w0) = P * (D * x - (C * x0 - σ * S * w0)) + (D * y - (S * x0 + σ * C * w0)) - D * ry := by
    rw [ey]; grind
  have a2 : P * D * (y - p) - ((P * S - C) * x0 + σ * (P * C + S) * w0) = P * (D * y - (S * x0 + σ * C * w0)) - (D * x - (C * x0 - σ * S * w0)) + D * rx := by
    rw [ex]; grind
  rw [a1, a2]
  have b1 := Int.mul_nonneg hD rx0
  have b2 := Int.mul_nonneg hD ry0
  have b3 : D * rx ≤ D * P := Int.mul_le_mul_of_nonneg_left (by omega) hD
  have b4 : D * ry ≤ D * P := Int.mul_le_mul_of_nonneg_left (by omega) hD
  generalize D * x - (C * x0 - σ * S * w0) = ux at *
  generalize D * y - (S * x0 + σ * C * w0) = uy at *
  have c1 : P * ux ≤ P * E := Int.mul_le_mul_of_nonneg_left hx.2 (by omega)
  have c2 : P * -E ≤ P * ux := Int.mul_le_mul_of_nonneg_left hx.1 (by omega)
  have c3 : P * uy ≤ P * E := Int.mul_le_mul_of_nonneg_left hy.2 (by omega)
  have c4 : P * -E ≤ P * uy := Int.mul_le_mul_of_nonneg_left hy.1 (by omega)
  rw [Int.mul_neg] at c2 c4
  rw [Int.add_mul, Int.one_mul, Int.mul_comm P D]
  omega
theorem err_up (P D C S E x y x0 w0 σ : Int) (hP : 1 ≤ P) (hD : 0 ≤ D)
    (hx : -E ≤ D * x - (C * x0 - σ * S * w0) ∧ D * x - (C * x0 - σ * S * w0) ≤ E) (hy : -E ≤ D * y - (S * x0 + σ * C * w0) ∧ D * y - (S * x0 + σ * C * w0) ≤ E) :
    (-((P + 1) * E + P * D) ≤ P * D * (x - y / P) - ((P * C - S) * x0 - σ * (P * S + C) * w0) ∧ P * D * (x - y / P) - ((P * C - S) * x0 - σ * (P * S + C) * w0) ≤ (P + 1) * E + P * D) ∧
    (-((P + 1) * E + P * D) ≤ P * D * (y + x / P) - ((P * S + C) * x0 + σ * (P * C - S) * w0) ∧ P * D * (y + x / P) - ((P * S + C) * x0 + σ * (P * C - S) * w0) ≤ (P + 1) * E + P * D) := by
  have ex : x = P * (x / P) + x % P := (Int.mul_ediv_add_emod x P).symm
  have ey : y = P * (y / P) + y % P := (Int.mul_ediv_add_emod y P).symm
  have rx0 := Int.emod_nonneg x (show P ≠ 0 by omega)
  have ry0 := Int.emod_nonneg y (show P ≠ 0 by omega)
  have rx1 := Int.emod_lt_of_pos x (show 0 < P by omega)
  have ry1 := Int.emod_lt_of_pos y (show 0 < P by omega)
  generalize x / P = p at *
  generalize y / P = q at *
  generalize x % P = rx at *
  generalize y % P = ry at *
  have a1 : P * D * (x - q) - ((P * C - S) * x0 - σ * (P * S + C) * w0) = P * (D * x - (C * x0 - σ * S * w0)) - (D * y - (S * x0 + σ * C * w0)) + D * ry := by
    rw [ey]; grind
  have a2 : P * D * (y + p) - ((P * S + C) * x0 + σ * (P * C - S) * w0) = P * (D * y - (S * x0 + σ * C * w0)) + (D * x - (C * x0 - σ * S * w0)) - D * rx := by
    rw [ex]; grind
  rw [a1, a2]
  have b1 := Int.mul_nonneg hD rx0
  have b2 := Int.mul_nonneg hD ry0
  have b3 : D * rx ≤ D * P := Int.mul_le_mul_of_nonneg_left (by omega) hD
  have b4 : D * ry ≤ D * P := Int.mul_le_mul_of_nonneg_left (by omega) hD
  generalize D * x - (C * x0 - σ * S * w0) = ux at *
  generalize D * y - (S * x0 + σ * C * w0) = uy at *
  have c1 : P * ux ≤ P * E := Int.mul_le_mul_of_nonneg_left hx.2 (by omega)
  have c2 : P * -E ≤ P * ux := Int.mul_le_mul_of_nonneg_left hx.1 (by omega)
  have c3 : P * uy ≤ P * E := Int.mul_le_mul_of_nonneg_left hy.2 (by omega)
  have c4 : P * -E ≤ P * uy := Int.mul_le_mul_of_nonneg_left hy.1 (by omega)
  rw [Int.mul_neg] at c2 c4
  rw [Int.add_mul, Int.one_mul, Int.mul_comm P D]
  omega
theorem chk_sound (σ m lo hi x0 w0 : Int) (hx0 : m ≤ x0) (hw0 : m ≤ w0) : ∀ f k C S D E, k + f = 30 → 1 ≤ D →
    (-E ≤ D * (run upA ⟨x0, σ * w0, 0⟩ k).x - (C * x0 - σ * S * w0) ∧ D * (run upA ⟨x0, σ * w0, 0⟩ k).x - (C * x0 - σ * S * w0) ≤ E) →
    (-E ≤ D * (run upA ⟨x0, σ * w0, 0⟩ k).y - (S * x0 + σ * C * w0) ∧ D * (run upA ⟨x0, σ * w0, 0⟩ k).y - (S * x0 + σ * C * w0) ≤ E) →
    chk σ m lo hi f k C S D E (run upA ⟨x0, σ * w0, 0⟩ k).z = true → lo ≤ (run upA ⟨x0, σ * w0, 0⟩ 30).z ∧ (run upA ⟨x0, σ * w0, 0⟩ 30).z ≤ hi
  | f, k, C, S, D, E, hk, hD, hx, hy, hc => by
    unfold chk at hc
    rw [Bool.or_eq_true, Bool.and_eq_true, decide_eq_true_eq, decide_eq_true_eq] at hc
    rcases hc with ⟨c1, c2⟩ | hc
    · have hl := run_left upA x0 (σ * w0) k f (by omega)
      rw [hk] at hl
      omega
    · cases f with
      | zero => simp at hc
      | succ f =>
        simp only [Bool.and_eq_true, Bool.or_eq_true, decide_eq_true_eq] at hc
        obtain ⟨ca, cb⟩ := hc
        have hs := run_sum upA x0 (σ * w0) k (by omega)
        have hP : (1 : Int) ≤ 2 ^ k := (pow_le k (by omega)).1
        have hPD : (1 : Int) ≤ 2 ^ k * D := by
          have := Int.mul_le_mul hP hD (by omega) (by omega)
          omega
        have ih := fun C S D E => chk_sound σ m lo hi x0 w0 hx0 hw0 f (k + 1) C S D E (by omega)
        have hr : run upA ⟨x0, σ * w0, 0⟩ (k + 1) = stp (upA (run upA ⟨x0, σ * w0, 0⟩ k).y (run upA ⟨x0, σ * w0, 0⟩ k).z) k (run upA ⟨x0, σ * w0, 0⟩ k) := rfl
        rw [hr] at ih
        have e1 := err_up (2 ^ k) D C S E _ _ x0 w0 σ hP (by omega) hx hy
        have e2 := err_dn (2 ^ k) D C S E _ _ x0 w0 σ hP (by omega) hx hy
        by_cases hn : (run upA ⟨x0, σ * w0, 0⟩ k).y < 0
        · have hu : upA (run upA ⟨x0, σ * w0, 0⟩ k).y (run upA ⟨x0, σ * w0, 0⟩ k).z = true := decide_eq_true hn
          rw [hu] at ih
          rcases ca with ⟨⟨f1, f2⟩, f3⟩ | ca
          · exfalso
            have g1 : S * m ≤ S * x0 := Int.mul_le_mul_of_nonneg_left hx0 f1
            have g2 : σ * C * m ≤ σ * C * w0 := Int.mul_le_mul_of_nonneg_left hw0 f2
            have g3 : D * (run upA ⟨x0, σ * w0, 0⟩ k).y ≤ D * (-1) := Int.mul_le_mul_of_nonneg_left (by omega) (by omega)
            have g4 : m * (S + σ * C) = S * m + σ * C * m := by grind
            omega
          · refine ih (2 ^ k * C - S) (2 ^ k * S + C) (2 ^ k * D) ((2 ^ k + 1) * E + 2 ^ k * D) hPD ?_ ?_ ?_
            · exact e1.1
            · exact e1.2
            · rw [stp_z true k _ (by omega) hs]; exact ca
        · have hu : upA (run upA ⟨x0, σ * w0, 0⟩ k).y (run upA ⟨x0, σ * w0, 0⟩ k).z = false := decide_eq_false hn
          rw [hu] at ih
          rcases cb with ⟨⟨f1, f2⟩, f3⟩ | cb
          · exfalso
            have g1 : S * x0 ≤ S * m := Int.mul_le_mul_of_nonpos_left f1 hx0
            have g2 : σ * C * w0 ≤ σ * C * m := Int.mul_le_mul_of_nonpos_left f2 hw0
            have g3 : D * 0 ≤ D * (run upA ⟨x0, σ * w0, 0⟩ k).y := Int.mul_le_mul_of_nonneg_left (by omega) (by omega)
            have g4 : m * (S + σ * C) = S * m + σ * C * m := by grind
            omega
          · refine ih (2 ^ k * C + S) (2 ^ k * S - C) (2 ^ k * D) ((2 ^ k + 1) * E + 2 ^ k * D) hPD ?_ ?_ ?_
            · exact e2.1
            · exact e2.2
            · rw [stp_z false k _ (by omega) hs]; exact cb
theorem quarter (σ m lo hi x0 w0 : Int) (hx0 : m ≤ x0) (hw0 : m ≤ w0) (h : chk σ m lo hi 30 0 1 0 1 0 0 = true) : lo ≤ (run upA ⟨x0, σ * w0, 0⟩ 30).z ∧ (run upA ⟨x0, σ * w0, 0⟩ 30).z ≤ hi := by
  refine chk_sound σ m lo hi x0 w0 hx0 hw0 30 0 1 0 1 0 rfl (by omega) ?_ ?_ h
  · show -0 ≤ 1 * x0 - (1 * x0 - σ * 0 * w0) ∧ 1 * x0 - (1 * x0 - σ * 0 * w0) ≤ 0
    grind
  · show -0 ≤ 1 * (σ * w0) - (0 * x0 + σ * 1 * w0) ∧ 1 * (σ * w0) - (0 * x0 + σ * 1 * w0) ≤ 0
    grind
theorem at_q1 (x y : Int) (hx : 1 ≤ x) (hy : 1 ≤ y) : -255 ≤ (atV x y).z ∧ (atV x y).z ≤ 1073742079 := by
  have h := quarter 1 4096 (-255) 1073742079 (x * 4096) (y * 4096) (by omega) (by omega) chk_q1
  rw [Int.one_mul] at h
  exact h
theorem at_q4 (x y : Int) (hx : 1 ≤ x) (hy : 1 ≤ y) : -1073742079 ≤ (atV x (-y)).z ∧ (atV x (-y)).z ≤ 255 := by
  have h := quarter (-1) 4096 (-1073742079) 255 (x * 4096) (y * 4096) (by omega) (by omega) chk_q4
  rw [show -1 * (y * 4096) = -y * 4096 by omega] at h
  exact h
theorem at_x (x : Int) (hx : 16777216 ≤ x) : -255 ≤ (atV x 0).z ∧ (atV x 0).z ≤ 255 := by
  have h := quarter 0 68719476736 (-255) 255 (x * 4096) 68719476736 (by omega) (by omega) chk_x
  rw [Int.zero_mul] at h
  show _ ≤ (run upA ⟨x * 4096, 0 * 4096, 0⟩ 30).z ∧ (run upA ⟨x * 4096, 0 * 4096, 0⟩ 30).z ≤ _
  rw [Int.zero_mul]
  exact h
end Go.Proofs.Ytccmimgdmfjciaa
