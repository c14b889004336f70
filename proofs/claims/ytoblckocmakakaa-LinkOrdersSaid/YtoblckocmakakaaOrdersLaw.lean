/-
  Two ends and whatever packets of theirs: what is told is what was given: plain facts.
-/
import Derived.Test.YtoblckocmakakaaStaysW
namespace Go.Proofs.Ytoblckocmakakaa
/-- One side: an end, what it was given, what it told, the packets that it sent. -/
structure Side where
  (e : Lk)
  (given told : List Int)
  (net : List Pk)
/-- What holds of a side and the other one, behind t acts. -/
structure Fair (t : Nat) (s o : Side) : Prop where
  right : rightL s.e = true
  other : s.e.other = 0 ∨ s.e.other = o.e.own
  unknown : s.e.other = 0 → s.e.next = 0 ∧ s.e.first = 0
  next : s.e.next ≤ (o.given.length : Int)
  told : s.told = o.given.take s.e.next.toNat
  firstLe : s.e.first ≤ (s.given.length : Int)
  sent : s.e.sent = s.given.drop s.e.first.toNat
  few : s.given.length ≤ t
  net : ∀ q ∈ s.net, q.fr = s.e.own ∧ (0 ≤ q.place ∧ q.place ≤ (s.given.length : Int)) ∧ (∃ n, q.words = (s.given.drop q.place.toNat).take n) ∧ q.words.length ≤ 8
  posts : s.net.length ≤ t
def giveS (s : Side) (x : Int) : Side := { s with e := sendM s.e x, given := if s.e.sent.length ≤ 7 then s.given ++ [x] else s.given }
def outS (s : Side) : Side := { s with net := s.net ++ [outL s.e] }
def inS (s : Side) (q : Pk) : Side := { s with e := (inL s.e q).1, told := s.told ++ (inL s.e q).2 }
theorem Fair.later {t u : Nat} {s o : Side} (h : Fair t s o) (hu : t ≤ u) : Fair u s o := { h with few := Nat.le_trans h.few hu, posts := Nat.le_trans h.posts hu }
/-- A word more on the other side. -/
theorem Fair.grows {t : Nat} {s o o' : Side} (h : Fair t s o) (ho : o'.e.own = o.e.own) (hg : ∃ ys, o'.given = o.given ++ ys) : Fair t s o' := by
  obtain ⟨ys, hy⟩ := hg
  have hr := (right_facts h.right).2.1
  exact { h with
    other := by rw [ho]; exact h.other
    next := by rw [hy, List.length_append]; have := h.next; omega
    told := by rw [hy, List.take_append_of_le_length (by have := h.next; omega)]; exact h.told }
theorem Fair.give {t : Nat} {s o : Side} (h : Fair t s o) (x : Int) : Fair (t + 1) (giveS s x) o := by
  have hr := right_facts h.right
  by_cases h7 : s.e.sent.length ≤ 7
  · have e1 : (giveS s x).given = s.given ++ [x] := if_pos h7
    have e2 : (giveS s x).e = sendL s.e x := if_pos h7
    refine ⟨sendM_right x h.right, ?_, ?_, ?_, ?_, ?_, ?_, ?_, ?_, Nat.le_trans h.posts (Nat.le_succ t)⟩
    · rw [e2]; exact h.other
    · rw [e2]; exact h.unknown
    · rw [e2]; exact h.next
    · rw [e2]; exact h.told
    · rw [e1, e2, List.length_append]; have := h.firstLe; show s.e.first ≤ _; omega
    · rw [e1, e2, List.drop_append_of_le_length (by have := h.firstLe; show s.e.first.toNat ≤ _; omega)]
      show s.e.sent ++ [x] = s.given.drop s.e.first.toNat ++ [x]
      rw [← h.sent]
    · rw [e1, List.length_append]; have := h.few; simp; omega
    · intro q hq
      obtain ⟨q1, q2, ⟨n, q3⟩, q4⟩ := h.net q hq
      rw [e1, e2]
      refine ⟨q1, ⟨q2.1, by rw [List.length_append]; omega⟩, ⟨q.words.length, ?_⟩, q4⟩
      have hl : q.words.length ≤ (s.given.drop q.place.toNat).length := by rw [q3, List.length_take]; omega
      rw [List.drop_append_of_le_length (by omega), List.take_append_of_le_length hl]
      rw [q3, List.length_take]
      rw [List.take_eq_take_iff]
      omega
  · have e1 : giveS s x = s := by
      unfold giveS sendM
      rw [if_neg h7, if_neg h7]
    rw [e1]
    exact h.later (Nat.le_succ _)
theorem Fair.out {t : Nat} {s o : Side} (h : Fair t s o) : Fair (t + 1) (outS s) o := by
  have hr := right_facts h.right
  refine { h with few := Nat.le_trans h.few (Nat.le_succ t), posts := by (show (s.net ++ [outL s.e]).length ≤ t + 1; rw [List.length_append]; have := h.posts; simp; omega), net := ?_ }
  intro q hq
  rcases List.mem_append.1 hq with hq | hq
  · exact h.net q hq
  · have : q = outL s.e := by simpa using hq
    subst this
    refine ⟨rfl, ⟨hr.1.1, h.firstLe⟩, ⟨s.given.length, ?_⟩, hr.2.2⟩
    show s.e.sent = (s.given.drop s.e.first.toNat).take s.given.length
    rw [← h.sent, List.take_of_length_le (by rw [h.sent, List.length_drop]; omega)]
/-- A packet of the other side comes. -/
theorem Fair.come {t : Nat} {s o : Side} (h : Fair t s o) (ho : Fair t o s) {q : Pk} (hq : q ∈ o.net) : Fair t (inS s q) o := by
  obtain ⟨q1, q2, ⟨n, q3⟩, q4⟩ := ho.net q hq
  cases hm : mayP s.e q with
  | false =>
    have e : inS s q = s := by
      unfold inS
      rw [inL_no hm]
      simp
    rw [e]
    exact h
  | true =>
    obtain ⟨b1, b2, b3, b4, b5, b6, b7⟩ := mayP_bounds hm
    have hr := right_facts h.right
    have hR := inL_right q h.right
    have hOwn := inL_own s.e q
    -- what the end is behind the first part
    have a1 : (inA s.e q).next = s.e.next := by
      unfold inA
      by_cases c : s.e.other < q.fr
      · rw [if_pos c]
        rcases h.other with h0 | h0
        · exact (h.unknown h0).1.symm
        · omega
      · rw [if_neg c]
    have a2 : (inA s.e q).first = s.e.first := by
      unfold inA
      by_cases c : s.e.other < q.fr
      · rw [if_pos c]
        rcases h.other with h0 | h0
        · exact (h.unknown h0).2.symm
        · omega
      · rw [if_neg c]
    have a3 := inA_sent s.e q
    have a4 := inA_other hm
    have hlen : (s.e.sent.length : Int) = s.given.length - s.e.first := by rw [h.sent, List.length_drop]; have := h.firstLe; omega
    have c1 := inB_next (inA s.e q) q
    have c2 := inB_other (inA s.e q) q
    have c3 : (inB (inA s.e q) q).first ≤ (s.given.length : Int) ∧ (inB (inA s.e q) q).sent = s.given.drop (inB (inA s.e q) q).first.toNat := by
      unfold inB
      by_cases c : q.to = (inA s.e q).own ∧ 0 < q.wait - (inA s.e q).first ∧ q.wait - (inA s.e q).first ≤ ((inA s.e q).sent.length : Int)
      · rw [if_pos c]
        obtain ⟨_, d1, d2⟩ := c
        rw [a2] at d1 d2
        rw [a3] at d2
        refine ⟨by show q.wait ≤ _; omega, ?_⟩
        show (inA s.e q).sent.drop (q.wait - (inA s.e q).first).toNat = s.given.drop q.wait.toNat
        rw [a2, a3, h.sent, List.drop_drop]
        congr 1
        omega
      · rw [if_neg c, a2, a3]
        exact ⟨h.firstLe, h.sent⟩
    have hT := toldC_cases (inB (inA s.e q) q) q
    have hi := inL_yes hm
    generalize inB (inA s.e q) q = B at *
    rw [a1] at c1
    have hne : (inL s.e q).1.next = B.next + ((toldC B q).length : Int) := by rw [hi]
    have hfi : (inL s.e q).1.first = B.first := by rw [hi]
    have hse : (inL s.e q).1.sent = B.sent := by rw [hi]
    have hot : (inL s.e q).1.other = q.fr := by rw [hi]; show B.other = _; rw [c2, a4]
    have hto : (inL s.e q).2 = toldC B q := by rw [hi]
    have hwl : (q.words.length : Int) + q.place ≤ (o.given.length : Int) := by
      have : q.words.length ≤ (o.given.drop q.place.toNat).length := by rw [q3, List.length_take]; omega
      rw [List.length_drop] at this
      omega
    refine ⟨hR, Or.inr (hot.trans q1), fun h0 => ?_, ?_, ?_, ?_, ?_, h.few, ?_, h.posts⟩
    · have h0 : (inL s.e q).1.other = 0 := h0
      rw [hot] at h0; omega
    · show (inL s.e q).1.next ≤ _
      rw [hne]
      rcases hT with ⟨_, e⟩ | ⟨_, _, e⟩
      · rw [e, c1]; have := h.next; simp; omega
      · rw [e]; omega
    · show s.told ++ (inL s.e q).2 = o.given.take (inL s.e q).1.next.toNat
      rw [hto, hne, h.told]
      rcases hT with ⟨_, e⟩ | ⟨d, e, e'⟩
      · rw [e, c1]; simp
      · rw [e', e, c1]
        rw [c1] at d
        have hq3 : q.words = (o.given.drop q.place.toNat).take q.words.length := by
          conv => lhs; rw [q3]
          rw [List.take_eq_take_iff, q3, List.length_take]
          omega
        have k1 : q.words.drop (s.e.next - q.place).toNat = (o.given.drop s.e.next.toNat).take (q.words.length - (s.e.next - q.place).toNat) := by
          conv => lhs; rw [hq3]
          rw [List.drop_take, List.drop_drop]
          congr 2
          omega
        rw [k1]
        have k2 : (q.place + (q.words.length : Int)).toNat = s.e.next.toNat + (q.words.length - (s.e.next - q.place).toNat) := by omega
        rw [k2, List.take_add]
    · show (inL s.e q).1.first ≤ _
      rw [hfi]; exact c3.1
    · show (inL s.e q).1.sent = s.given.drop (inL s.e q).1.first.toNat
      rw [hse, hfi]; exact c3.2
    · intro q' hq'
      obtain ⟨z1, z2⟩ := h.net q' hq'
      exact ⟨z1.trans hOwn.symm, z2⟩
/-- The law's own test. -/
theorem Fair.test {t : Nat} {s o : Side} (h : Fair t s o) : s.told.length ≤ o.given.length ∧ o.given.take s.told.length = s.told := by
  have hr := (right_facts h.right).2.1
  have hn := h.next
  have e : s.told.length = s.e.next.toNat := by rw [h.told, List.length_take]; omega
  exact ⟨by omega, by rw [e, h.told]⟩
theorem Fair.start (a b : Int) (ha : 1 ≤ a ∧ a ≤ 100) : Fair 0 ⟨newL a, [], [], []⟩ ⟨newL b, [], [], []⟩ := by
  refine ⟨?_, Or.inl rfl, fun _ => ⟨rfl, rfl⟩, Int.le_refl _, rfl, Int.le_refl _, rfl, Nat.le_refl _, fun q hq => (by cases hq), Nat.le_refl _⟩
  rw [rightL_iff]
  show (1 ≤ a ∧ a ≤ _) ∧ (0 ≤ (0 : Int) ∧ (0 : Int) ≤ _) ∧ (0 ≤ (0 : Int) ∧ (0 : Int) ≤ _) ∧ (0 ≤ (0 : Int) ∧ (0 : Int) ≤ _) ∧ 0 ≤ 8
  omega
theorem giveS_grows (s : Side) (x : Int) : (giveS s x).e.own = s.e.own ∧ ∃ ys, (giveS s x).given = s.given ++ ys := by
  refine ⟨sendM_own _ _, ?_⟩
  unfold giveS
  split
  · exact ⟨[x], rfl⟩
  · exact ⟨[], by simp⟩
theorem outS_grows (s : Side) : (outS s).e.own = s.e.own ∧ ∃ ys, (outS s).given = s.given ++ ys := ⟨rfl, [], by simp [outS]⟩
theorem inS_grows (s : Side) (q : Pk) : (inS s q).e.own = s.e.own ∧ ∃ ys, (inS s q).given = s.given ++ ys := ⟨inL_own _ _, [], by simp [inS]⟩
end Go.Proofs.Ytoblckocmakakaa
