/-
  What a packet does to an end, and that twice it does no more: plain facts.
-/
import Derived.Test.YtoblckocmakakaaWk
namespace Go.Proofs.Ytoblckocmakakaa
theorem rightL_iff {l : Lk} : rightL l = true ↔ ((1 ≤ l.own ∧ l.own ≤ 4611686018427387904) ∧ (0 ≤ l.other ∧ l.other ≤ 4611686018427387904) ∧ (0 ≤ l.first ∧ l.first ≤ 4611686018427387904) ∧ (0 ≤ l.next ∧ l.next ≤ 4611686018427387904) ∧ l.sent.length ≤ 8) := by
  unfold rightL
  rw [rightB_iff]
  omega
theorem inL_yes {l : Lk} {p : Pk} (h : mayP l p = true) : inL l p = ({ inB (inA l p) p with next := (inB (inA l p) p).next + (toldC (inB (inA l p) p) p).length }, toldC (inB (inA l p) p) p) := if_pos h
theorem inL_no {l : Lk} {p : Pk} (h : mayP l p = false) : inL l p = (l, []) := by
  unfold inL
  rw [h]
  rfl
theorem toldC_len (l : Lk) (p : Pk) : (toldC l p).length ≤ p.words.length := by
  unfold toldC
  split
  · simp
  · simp
/-- What is told, and the place behind it. -/
theorem toldC_cases (l : Lk) (p : Pk) : ((l.next - p.place < 0 ∨ (p.words.length : Int) ≤ l.next - p.place) ∧ toldC l p = []) ∨ ((0 ≤ l.next - p.place ∧ l.next - p.place < (p.words.length : Int)) ∧ toldC l p = p.words.drop (l.next - p.place).toNat ∧ l.next + ((toldC l p).length : Int) = p.place + p.words.length) := by
  by_cases h : l.next - p.place < 0 ∨ (p.words.length : Int) ≤ l.next - p.place
  · exact Or.inl ⟨h, if_pos h⟩
  · right
    have e : toldC l p = p.words.drop (l.next - p.place).toNat := if_neg h
    refine ⟨by omega, e, ?_⟩
    rw [e, List.length_drop]
    omega
theorem inA_own (l : Lk) (p : Pk) : (inA l p).own = l.own := by unfold inA; split <;> rfl
theorem inA_sent (l : Lk) (p : Pk) : (inA l p).sent = l.sent := by unfold inA; split <;> rfl
theorem inB_own (l : Lk) (p : Pk) : (inB l p).own = l.own := by unfold inB; split <;> rfl
theorem inB_other (l : Lk) (p : Pk) : (inB l p).other = l.other := by unfold inB; split <;> rfl
theorem inB_next (l : Lk) (p : Pk) : (inB l p).next = l.next := by unfold inB; split <;> rfl
theorem inA_other {l : Lk} {p : Pk} (h : mayP l p = true) : (inA l p).other = p.fr := by
  have hb := (mayP_bounds h).2.2.2.2.2.1
  unfold inA
  split
  · rfl
  · show l.other = p.fr
    omega
theorem inL_own (l : Lk) (p : Pk) : (inL l p).1.own = l.own := by
  cases h : mayP l p with
  | false => rw [inL_no h]
  | true => rw [inL_yes h]; show (inB (inA l p) p).own = _; rw [inB_own, inA_own]
theorem inL_told_len (l : Lk) (p : Pk) : (inL l p).2.length ≤ p.words.length := by
  cases h : mayP l p with
  | false => rw [inL_no h]; simp
  | true => rw [inL_yes h]; exact toldC_len _ _
/-- What comes out of a right end is right. -/
theorem inL_right {l : Lk} (p : Pk) (hr : rightL l = true) : rightL (inL l p).1 = true := by
  cases h : mayP l p with
  | false => rw [inL_no h]; exact hr
  | true =>
    rw [inL_yes h]
    obtain ⟨b1, b2, b3, b4, b5, b6, b7⟩ := mayP_bounds h
    rw [rightL_iff] at hr ⊢
    obtain ⟨h1, h2, h3, h4, h5⟩ := hr
    show (1 ≤ (inB (inA l p) p).own ∧ _) ∧ (0 ≤ (inB (inA l p) p).other ∧ (inB (inA l p) p).other ≤ _) ∧ (0 ≤ (inB (inA l p) p).first ∧ (inB (inA l p) p).first ≤ _) ∧ (0 ≤ (inB (inA l p) p).next + _ ∧ (inB (inA l p) p).next + _ ≤ _) ∧ (inB (inA l p) p).sent.length ≤ 8
    have e1 : (inA l p).first = l.first ∨ (inA l p).first = 0 := by unfold inA; split <;> simp
    have e2 : (inA l p).next = l.next ∨ (inA l p).next = 0 := by unfold inA; split <;> simp
    have e3 : (inB (inA l p) p).first = (inA l p).first ∨ (inB (inA l p) p).first = p.wait := by unfold inB; split <;> simp
    have e4 : (inB (inA l p) p).sent.length ≤ (inA l p).sent.length := by
      unfold inB
      split
      · show ((inA l p).sent.drop _).length ≤ _
        rw [List.length_drop]; omega
      · exact Nat.le_refl _
    rw [inA_sent] at e4
    have e5 := toldC_cases (inB (inA l p) p) p
    rw [inB_own, inA_own, inB_other, inA_other h]
    have e6 := inB_next (inA l p) p
    refine ⟨h1, by omega, by omega, ?_, by omega⟩
    rcases e5 with ⟨_, e⟩ | ⟨_, _, e⟩
    · rw [e]; simp; omega
    · rw [e]
      have : (p.words.length : Int) ≤ 8 := by omega
      omega
theorem mayP_congr {l m : Lk} {p : Pk} (h1 : m.own = l.own) (h2 : m.other = p.fr) (h : mayP l p = true) : mayP m p = true := by
  obtain ⟨b1, b2, b3, b4, b5, b6, b7⟩ := mayP_bounds h
  unfold mayP mayB
  simp only [Bool.and_eq_true, Bool.or_eq_true, decide_eq_true_eq, beq_iff_eq]
  rw [h1, h2]
  exact ⟨⟨⟨⟨⟨by split <;> omega, b7⟩, b4⟩, b2.1, b2.2⟩, b3.1, b3.2⟩, b1⟩
/-- A packet that came already tells nothing, and changes nothing more. -/
theorem inL_twice (l : Lk) (p : Pk) : inL (inL l p).1 p = ((inL l p).1, []) := by
  cases h : mayP l p with
  | false =>
    rw [inL_no h]
    exact inL_no h
  | true =>
    rw [inL_yes h]
    generalize hM : inB (inA l p) p = M
    have hown : M.own = l.own := by rw [← hM, inB_own, inA_own]
    have hoth : M.other = p.fr := by rw [← hM, inB_other, inA_other h]
    have hB : ¬ (p.to = M.own ∧ 0 < p.wait - M.first ∧ p.wait - M.first ≤ (M.sent.length : Int)) := by
      rw [← hM]
      generalize inA l p = A
      unfold inB
      by_cases c : p.to = A.own ∧ 0 < p.wait - A.first ∧ p.wait - A.first ≤ (A.sent.length : Int)
      · rw [if_pos c]
        rintro ⟨_, q, _⟩
        have : 0 < p.wait - p.wait := q
        omega
      · rw [if_neg c]
        exact c
    have hT := toldC_cases M p
    generalize hN : ({ M with next := M.next + (toldC M p).length } : Lk) = N
    have n1 : N.own = M.own := by rw [← hN]
    have n2 : N.other = M.other := by rw [← hN]
    have n3 : N.first = M.first := by rw [← hN]
    have n4 : N.sent = M.sent := by rw [← hN]
    have n5 : N.next = M.next + (toldC M p).length := by rw [← hN]
    show inL N p = (N, [])
    have eA : inA N p = N := by
      unfold inA
      rw [if_neg]
      rw [n2, hoth]; omega
    have eB : inB N p = N := by
      unfold inB
      rw [if_neg]
      rw [n1, n3, n4]; exact hB
    have eT : toldC N p = [] := by
      unfold toldC
      rw [if_pos]
      rw [n5]
      rcases hT with ⟨c, e⟩ | ⟨_, _, e⟩
      · rw [e]; simpa using c
      · right; omega
    rw [inL_yes (mayP_congr (n1.trans hown) (n2.trans hoth) h), eA, eB, eT]
    simp
end Go.Proofs.Ytoblckocmakakaa
