/-
  How far a sine's and a cosine's squares come from 1: plain numbers, no program.
-/
import Derived.Test.YtccmimgdmfjciaaHalvesW
namespace Go.Proofs.Ytccmimgdmfjciaa
theorem mul_abs (a b A B : Int) (h1 : -A ≤ a) (h2 : a ≤ A) (h3 : -B ≤ b) (h4 : b ≤ B) : -(A * B) ≤ a * b ∧ a * b ≤ A * B := by
  have e1 := Int.mul_nonneg (show 0 ≤ A - a by omega) (show 0 ≤ B + b by omega)
  have e2 := Int.mul_nonneg (show 0 ≤ A + a by omega) (show 0 ≤ B - b by omega)
  have e3 := Int.mul_nonneg (show 0 ≤ A - a by omega) (show 0 ≤ B - b by omega)
  have e4 := Int.mul_nonneg (show 0 ≤ A + a by omega) (show 0 ≤ B + b by omega)
  constructor <;> grind
theorem sq_le (x M N : Int) (hM : 0 ≤ M) (h : x * x ≤ N) (hN : N ≤ M * M) : -M ≤ x ∧ x ≤ M := by
  constructor
  · refine Int.not_lt.1 fun hc => ?_
    have := Int.mul_nonneg (show 0 ≤ -x - M - 1 by omega) (show 0 ≤ -x + M + 1 by omega)
    grind
  · refine Int.not_lt.1 fun hc => ?_
    have := Int.mul_nonneg (show 0 ≤ x - M - 1 by omega) (show 0 ≤ x + M + 1 by omega)
    grind
theorem norm_up (P p q rx ry x y : Int) (hx : x = P * p + rx) (hy : y = P * q + ry) : (x - q) * (x - q) + (y + p) * (y + p) = x * x + y * y + (p * p + q * q) - 2 * (rx * q - ry * p) := by
  subst hx hy; grind
theorem norm_dn (P p q rx ry x y : Int) (hx : x = P * p + rx) (hy : y = P * q + ry) : (x + q) * (x + q) + (y - p) * (y - p) = x * x + y * y + (p * p + q * q) + 2 * (rx * q - ry * p) := by
  subst hx hy; grind
theorem norm_pq (P p q rx ry x y : Int) (hx : x = P * p + rx) (hy : y = P * q + ry) : P * P * (p * p + q * q) = x * x + y * y - 2 * (x * rx + y * ry) + rx * rx + ry * ry := by
  subst hx hy; grind
/-- What a turn adds to the two squares. -/
theorem norm_add (P x y M : Int) (hP : 1 ≤ P) (hPM : P ≤ M) (hx1 : -M ≤ x) (hx2 : x ≤ M) (hy1 : -M ≤ y) (hy2 : y ≤ M) :
    ((x * x + y * y) / (P * P) - 4 * M ≤ x / P * (x / P) + y / P * (y / P) ∧ x / P * (x / P) + y / P * (y / P) ≤ (x * x + y * y) / (P * P) + (4 * M + 2)) ∧
    (-(4 * M) ≤ x % P * (y / P) - y % P * (x / P) ∧ x % P * (y / P) - y % P * (x / P) ≤ 4 * M) := by
  have ex : x = P * (x / P) + x % P := (Int.mul_ediv_add_emod x P).symm
  have ey : y = P * (y / P) + y % P := (Int.mul_ediv_add_emod y P).symm
  have rx0 := Int.emod_nonneg x (show P ≠ 0 by omega)
  have ry0 := Int.emod_nonneg y (show P ≠ 0 by omega)
  have rx1 := Int.emod_lt_of_pos x (show 0 < P by omega)
  have ry1 := Int.emod_lt_of_pos y (show 0 < P by omega)
  have hpq := norm_pq P (x / P) (y / P) (x % P) (y % P) x y ex ey
  generalize x / P = p at *
  generalize y / P = q at *
  generalize x % P = rx at *
  generalize y % P = ry at *
  have b1 := mul_abs x rx M P hx1 hx2 (by omega) (by omega)
  have b2 := mul_abs y ry M P hy1 hy2 (by omega) (by omega)
  have b3 := mul_abs rx rx P P (by omega) (by omega) (by omega) (by omega)
  have b4 := mul_abs ry ry P P (by omega) (by omega) (by omega) (by omega)
  have b5 := Int.mul_nonneg rx0 rx0
  have b6 := Int.mul_nonneg ry0 ry0
  have hMP : M * P ≤ M * (P * P) := by
    have h : P * 1 ≤ P * P := Int.mul_le_mul_of_nonneg_left hP (by omega)
    exact Int.mul_le_mul_of_nonneg_left (by omega) (by omega)
  have hPP : 0 < P * P := Int.mul_pos (by omega) (by omega)
  refine ⟨⟨?_, ?_⟩, ?_⟩
  · have h1 : (x * x + y * y) / (P * P) ≤ p * p + q * q + 4 * M := by
      have : x * x + y * y ≤ (p * p + q * q + 4 * M) * (P * P) := by grind
      exact Int.ediv_le_of_le_mul hPP this
    omega
  · have h1 : p * p + q * q - (4 * M + 2) ≤ (x * x + y * y) / (P * P) := by
      rw [Int.le_ediv_iff_mul_le hPP]
      grind
    omega
  · have c1 : -(2 * M) ≤ P * q ∧ P * q ≤ 2 * M := by omega
    have c2 : -(2 * M) ≤ P * p ∧ P * p ≤ 2 * M := by omega
    have d1 : -(2 * M) ≤ rx * q ∧ rx * q ≤ 2 * M := by
      by_cases h : 0 ≤ q
      · have := Int.mul_le_mul_of_nonneg_right (show rx ≤ P by omega) h
        have := Int.mul_nonneg rx0 h
        omega
      · have := Int.mul_le_mul_of_nonpos_right (show rx ≤ P by omega) (show q ≤ 0 by omega)
        have := Int.mul_nonneg rx0 (show 0 ≤ -q by omega)
        rw [Int.mul_neg] at this
        omega
    have d2 : -(2 * M) ≤ ry * p ∧ ry * p ≤ 2 * M := by
      by_cases h : 0 ≤ p
      · have := Int.mul_le_mul_of_nonneg_right (show ry ≤ P by omega) h
        have := Int.mul_nonneg ry0 h
        omega
      · have := Int.mul_le_mul_of_nonpos_right (show ry ≤ P by omega) (show p ≤ 0 by omega)
        have := Int.mul_nonneg ry0 (show 0 ≤ -p by omega)
        rw [Int.mul_neg] at this
        omega
    omega

def nM : Int := 1181116006
def nL : Nat → Int
  | 0 => 652032874 * 652032874
  | k + 1 => nL k + nL k / (2 ^ k * 2 ^ k) - 12 * nM
def nU : Nat → Int
  | 0 => 652032874 * 652032874
  | k + 1 => nU k + nU k / (2 ^ k * 2 ^ k) + (12 * nM + 2)
theorem nU_le (k : Nat) (h : k ≤ 30) : nU k ≤ nM * nM := by
  have : ∀ i : Fin 31, nU i.val ≤ nM * nM := by decide +kernel
  exact this ⟨k, by omega⟩
theorem pow_M (k : Nat) (h : k < 30) : 1 ≤ (2 : Int) ^ k ∧ (2 : Int) ^ k ≤ nM := by
  have : ∀ i : Fin 30, 1 ≤ (2 : Int) ^ i.val ∧ (2 : Int) ^ i.val ≤ nM := by decide +kernel
  exact this ⟨k, h⟩
/-- Whatever way each turn goes, the two squares come between two numbers. -/
theorem norm_run (up : Int → Int → Bool) (z : Int) : ∀ k, k ≤ 30 →
    nL k ≤ (run up ⟨652032874, 0, z⟩ k).x * (run up ⟨652032874, 0, z⟩ k).x + (run up ⟨652032874, 0, z⟩ k).y * (run up ⟨652032874, 0, z⟩ k).y ∧
    (run up ⟨652032874, 0, z⟩ k).x * (run up ⟨652032874, 0, z⟩ k).x + (run up ⟨652032874, 0, z⟩ k).y * (run up ⟨652032874, 0, z⟩ k).y ≤ nU k
  | 0, _ => by show nL 0 ≤ (652032874 : Int) * 652032874 + 0 * 0 ∧ (652032874 : Int) * 652032874 + 0 * 0 ≤ nU 0; decide +kernel
  | k + 1, h => by
    obtain ⟨i1, i2⟩ := norm_run up z k (by omega)
    have hU := nU_le k (by omega)
    obtain ⟨p1, p2⟩ := pow_M k (by omega)
    have eL : nL (k + 1) = nL k + nL k / (2 ^ k * 2 ^ k) - 12 * nM := rfl
    have eU : nU (k + 1) = nU k + nU k / (2 ^ k * 2 ^ k) + (12 * nM + 2) := rfl
    rw [eL, eU]
    show _ ≤ (stp _ k (run up ⟨652032874, 0, z⟩ k)).x * (stp _ k (run up ⟨652032874, 0, z⟩ k)).x + (stp _ k (run up ⟨652032874, 0, z⟩ k)).y * (stp _ k (run up ⟨652032874, 0, z⟩ k)).y ∧
      (stp _ k (run up ⟨652032874, 0, z⟩ k)).x * (stp _ k (run up ⟨652032874, 0, z⟩ k)).x + (stp _ k (run up ⟨652032874, 0, z⟩ k)).y * (stp _ k (run up ⟨652032874, 0, z⟩ k)).y ≤ _
    generalize up (run up ⟨652032874, 0, z⟩ k).y (run up ⟨652032874, 0, z⟩ k).z = b
    generalize run up ⟨652032874, 0, z⟩ k = v at *
    obtain ⟨x, y, z'⟩ := v
    simp only at i1 i2
    have hxx : 0 ≤ x * x := by
      by_cases hs : 0 ≤ x
      · exact Int.mul_nonneg hs hs
      · have := Int.mul_nonneg (show 0 ≤ -x by omega) (show 0 ≤ -x by omega); rw [Int.neg_mul_neg] at this; exact this
    have hyy : 0 ≤ y * y := by
      by_cases hs : 0 ≤ y
      · exact Int.mul_nonneg hs hs
      · have := Int.mul_nonneg (show 0 ≤ -y by omega) (show 0 ≤ -y by omega); rw [Int.neg_mul_neg] at this; exact this
    have hx := sq_le x nM (nU k) (by decide) (by omega) hU
    have hy := sq_le y nM (nU k) (by decide) (by omega) hU
    obtain ⟨⟨s1, s2⟩, s3, s4⟩ := norm_add (2 ^ k) x y nM p1 p2 hx.1 hx.2 hy.1 hy.2
    have ex : x = 2 ^ k * (x / 2 ^ k) + x % 2 ^ k := (Int.mul_ediv_add_emod x (2 ^ k)).symm
    have ey : y = 2 ^ k * (y / 2 ^ k) + y % 2 ^ k := (Int.mul_ediv_add_emod y (2 ^ k)).symm
    have nu := norm_up (2 ^ k) (x / 2 ^ k) (y / 2 ^ k) (x % 2 ^ k) (y % 2 ^ k) x y ex ey
    have nd := norm_dn (2 ^ k) (x / 2 ^ k) (y / 2 ^ k) (x % 2 ^ k) (y % 2 ^ k) x y ex ey
    have hPP : (0 : Int) < 2 ^ k * 2 ^ k := Int.mul_pos (by omega) (by omega)
    have m1 : nL k / (2 ^ k * 2 ^ k) ≤ (x * x + y * y) / (2 ^ k * 2 ^ k) := Int.ediv_le_ediv hPP i1
    have m2 : (x * x + y * y) / (2 ^ k * 2 ^ k) ≤ nU k / (2 ^ k * 2 ^ k) := Int.ediv_le_ediv hPP i2
    clear ex ey eL eU
    cases b
    · show _ ≤ (x + y / 2 ^ k) * (x + y / 2 ^ k) + (y - x / 2 ^ k) * (y - x / 2 ^ k) ∧ (x + y / 2 ^ k) * (x + y / 2 ^ k) + (y - x / 2 ^ k) * (y - x / 2 ^ k) ≤ _
      rw [nd]
      generalize (x * x + y * y) / (2 ^ k * 2 ^ k) = D at *
      generalize nL k / (2 ^ k * 2 ^ k) = D1 at *
      generalize nU k / (2 ^ k * 2 ^ k) = D2 at *
      omega
    · show _ ≤ (x - y / 2 ^ k) * (x - y / 2 ^ k) + (y + x / 2 ^ k) * (y + x / 2 ^ k) ∧ (x - y / 2 ^ k) * (x - y / 2 ^ k) + (y + x / 2 ^ k) * (y + x / 2 ^ k) ≤ _
      rw [nu]
      generalize (x * x + y * y) / (2 ^ k * 2 ^ k) = D at *
      generalize nL k / (2 ^ k * 2 ^ k) = D1 at *
      generalize nU k / (2 ^ k * 2 ^ k) = D2 at *
      omega
theorem half_sq (x y : Int) (hx : -nM ≤ x ∧ x ≤ nM) (hy : -nM ≤ y ∧ y ≤ nM) :
    x * x + y * y - 280000000000 ≤ 4096 * (halfN x * halfN x + halfN y * halfN y) ∧ 4096 * (halfN x * halfN x + halfN y * halfN y) ≤ x * x + y * y + 280000000000 := by
  have hM : nM = 1181116006 := rfl
  have h1 : -32 ≤ 64 * halfN x - x ∧ 64 * halfN x - x ≤ 32 := by unfold halfN; split <;> omega
  have h2 : -32 ≤ 64 * halfN y - y ∧ 64 * halfN y - y ≤ 32 := by unfold halfN; split <;> omega
  generalize halfN x = a at *
  generalize halfN y = b at *
  have e1 := mul_abs (64 * a - x) (64 * a + x) 32 (2 * nM + 32) h1.1 h1.2 (by omega) (by omega)
  have e2 := mul_abs (64 * b - y) (64 * b + y) 32 (2 * nM + 32) h2.1 h2.2 (by omega) (by omega)
  have f1 : (64 * a - x) * (64 * a + x) = 4096 * (a * a) - x * x := by grind
  have f2 : (64 * b - y) * (64 * b + y) = 4096 * (b * b) - y * y := by grind
  rw [f1] at e1
  rw [f2] at e2
  rw [hM] at e1 e2
  omega
theorem squares (a : Int) : (-16777232 ≤ sinN a ∧ sinN a ≤ 16777232) ∧ (-16777232 ≤ cosN a ∧ cosN a ≤ 16777232) ∧
    (-1073741824 < sinN a * sinN a + cosN a * cosN a - 281474976710656 ∧ sinN a * sinN a + cosN a * cosN a - 281474976710656 < 1073741824) := by
  obtain ⟨n1, n2⟩ := norm_run upS (zof a) 30 (by omega)
  have hU := nU_le 30 (by omega)
  have t1 : 4096 * (281474976710656 - 1073741824 + 1) ≤ nL 30 - 280000000000 := by decide +kernel
  have t2 : nU 30 + 280000000000 ≤ 4096 * (16777232 * 16777232) := by decide +kernel
  have e : sinN a * sinN a + cosN a * cosN a = halfN (scV a).x * halfN (scV a).x + halfN (scV a).y * halfN (scV a).y := by
    unfold sinN cosN; split
    · rw [Int.neg_mul_neg, Int.neg_mul_neg, Int.add_comm]
    · rw [Int.add_comm]
  change _ ≤ (scV a).x * (scV a).x + (scV a).y * (scV a).y at n1
  change (scV a).x * (scV a).x + (scV a).y * (scV a).y ≤ _ at n2
  have sq0 : ∀ x : Int, 0 ≤ x * x := by
    intro x
    by_cases hs : 0 ≤ x
    · exact Int.mul_nonneg hs hs
    · have := Int.mul_nonneg (show 0 ≤ -x by omega) (show 0 ≤ -x by omega); rw [Int.neg_mul_neg] at this; exact this
  have q1 := sq0 (scV a).x
  have q2 := sq0 (scV a).y
  have q3 := sq0 (sinN a)
  have q4 := sq0 (cosN a)
  have hx := sq_le (scV a).x nM (nU 30) (by decide) (by omega) hU
  have hy := sq_le (scV a).y nM (nU 30) (by decide) (by omega) hU
  have hh := half_sq (scV a).x (scV a).y hx hy
  rw [← e] at hh
  have b1 := sq_le (sinN a) 16777232 (16777232 * 16777232) (by omega) (by omega) (Int.le_refl _)
  have b2 := sq_le (cosN a) 16777232 (16777232 * 16777232) (by omega) (by omega) (Int.le_refl _)
  refine ⟨b1, b2, ?_⟩
  omega
end Go.Proofs.Ytccmimgdmfjciaa
