/-
  Packets there and back: plain facts.
-/
import Derived.Test.YtoblckocmakakaaWl
namespace Go.Proofs.Ytoblckocmakakaa
/-- The two ends, of which j words are told, and some are on their way. -/
def cA (j : Nat) (pend : List Int) : Lk := ⟨1, if j = 0 then 0 else 1, j, pend, 0⟩
def cB (j : Nat) : Lk := ⟨1, if j = 0 then 0 else 1, 0, [], j⟩
theorem comes_1 (j : Nat) (ws : List Int) (h1 : 1 ≤ ws.length) (h8 : ws.length ≤ 8) (hj : j ≤ 100) : inL (cB j) (outL (cA j ws)) = (cB (j + ws.length), ws) := by
  have hm : mayP (cB j) (outL (cA j ws)) = true := by
    unfold mayP mayB outL cA cB
    simp only [Bool.and_eq_true, Bool.or_eq_true, decide_eq_true_eq, beq_iff_eq]
    refine ⟨⟨⟨⟨⟨by split <;> split <;> omega, by omega⟩, by split <;> simp⟩, ⟨by omega, by omega⟩⟩, ⟨by omega, by omega⟩⟩, h8⟩
  have eA : inA (cB j) (outL (cA j ws)) = ⟨1, 1, 0, [], j⟩ := by
    unfold inA outL cA cB
    by_cases h0 : j = 0
    · subst h0; simp
    · simp [h0]
  have eB : inB ⟨1, 1, 0, [], j⟩ (outL (cA j ws)) = ⟨1, 1, 0, [], j⟩ := by
    unfold inB outL cA
    simp
  have eT : toldC ⟨1, 1, 0, [], j⟩ (outL (cA j ws)) = ws := by
    unfold toldC outL cA
    simp only
    rw [if_neg (by omega)]
    simp
  rw [inL_yes hm, eA, eB, eT]
  unfold cB
  rw [if_neg (by omega)]
  simp
theorem comes_2 (j : Nat) (ws : List Int) (h1 : 1 ≤ ws.length) (h8 : ws.length ≤ 8) (hj : j ≤ 100) : inL (cA j ws) (outL (cB (j + ws.length))) = (cA (j + ws.length) [], []) := by
  have hne : j + ws.length ≠ 0 := by omega
  have hm : mayP (cA j ws) (outL (cB (j + ws.length))) = true := by
    unfold mayP mayB outL cA cB
    rw [if_neg hne]
    simp only [Bool.and_eq_true, Bool.or_eq_true, decide_eq_true_eq, beq_iff_eq, List.length_nil]
    refine ⟨⟨⟨⟨⟨by split <;> split <;> omega, by omega⟩, Or.inr trivial⟩, ⟨by omega, by omega⟩⟩, ⟨by omega, by omega⟩⟩, by omega⟩
  have eA : inA (cA j ws) (outL (cB (j + ws.length))) = ⟨1, 1, j, ws, 0⟩ := by
    unfold inA outL cA cB
    by_cases h0 : j = 0
    · subst h0; simp
    · simp [h0]
  have eB : inB ⟨1, 1, j, ws, 0⟩ (outL (cB (j + ws.length))) = ⟨1, 1, (j : Int) + ws.length, [], 0⟩ := by
    unfold inB outL cB
    simp only
    rw [if_neg hne, if_pos ⟨rfl, by omega, by omega⟩]
    have e : (((j + ws.length : Nat) : Int) - j).toNat = ws.length := by omega
    rw [e, List.drop_length]
    simp
  have eT : toldC ⟨1, 1, (j : Int) + ws.length, [], 0⟩ (outL (cB (j + ws.length))) = [] := by
    unfold toldC outL cB
    simp
  rw [inL_yes hm, eA, eB, eT]
  unfold cA
  rw [if_neg hne]
  simp
theorem comes_3 (m : Nat) (h1 : 1 ≤ m) (hj : m ≤ 100) : inL (cB m) (outL (cA m [])) = (cB m, []) := by
  have hne : m ≠ 0 := by omega
  have hm : mayP (cB m) (outL (cA m [])) = true := by
    unfold mayP mayB outL cA cB
    rw [if_neg hne]
    simp only [Bool.and_eq_true, Bool.or_eq_true, decide_eq_true_eq, beq_iff_eq, List.length_nil]
    refine ⟨⟨⟨⟨⟨by omega, by omega⟩, Or.inr trivial⟩, ⟨by omega, by omega⟩⟩, ⟨by omega, by omega⟩⟩, by omega⟩
  have eB : inB (inA (cB m) (outL (cA m []))) (outL (cA m [])) = ⟨1, 1, 0, [], m⟩ := by
    unfold inB inA outL cA cB
    simp [hne]
  have eT : toldC ⟨1, 1, 0, [], m⟩ (outL (cA m [])) = [] := by
    unfold toldC outL cA
    simp
  rw [inL_yes hm, eB, eT]
  unfold cB
  rw [if_neg hne]
  simp
theorem comes_4 (m : Nat) (h1 : 1 ≤ m) (hj : m ≤ 100) : inL (cA m []) (outL (cB m)) = (cA m [], []) := by
  have hne : m ≠ 0 := by omega
  have hm : mayP (cA m []) (outL (cB m)) = true := by
    unfold mayP mayB outL cA cB
    rw [if_neg hne]
    simp only [Bool.and_eq_true, Bool.or_eq_true, decide_eq_true_eq, beq_iff_eq, List.length_nil]
    refine ⟨⟨⟨⟨⟨by omega, by omega⟩, Or.inr trivial⟩, ⟨by omega, by omega⟩⟩, ⟨by omega, by omega⟩⟩, by omega⟩
  have eB : inB (inA (cA m []) (outL (cB m))) (outL (cB m)) = ⟨1, 1, m, [], 0⟩ := by
    unfold inB inA outL cA cB
    simp [hne]
  have eT : toldC ⟨1, 1, m, [], 0⟩ (outL (cB m)) = [] := by
    unfold toldC outL cB
    simp
  rw [inL_yes hm, eB, eT]
  unfold cA
  rw [if_neg hne]
  simp
end Go.Proofs.Ytoblckocmakakaa
