/-
  LinkFirst, walked: no conditions but the inputs' kinds.
-/
import Derived.Test.YtoblckocmakakaaTwiceW
namespace Go.Proofs.Ytoblckocmakakaa
open Go.RowKit
theorem first_plain (ws : List Int) (f k : Int) (h8 : ws.length ≤ 8) (hf : 1 ≤ f ∧ f ≤ 4611686018427387904) (_hk : 0 ≤ k ∧ k ≤ 4611686018427387904) :
    inL ⟨3, k, 0, [], 0⟩ ⟨f, 0, 0, ws, 0⟩ = if f < k then (⟨3, k, 0, [], 0⟩, []) else (⟨3, f, 0, [], ws.length⟩, ws) := by
  by_cases h : f < k
  · rw [if_pos h]
    apply inL_no
    have : ¬ mayP ⟨3, k, 0, [], 0⟩ ⟨f, 0, 0, ws, 0⟩ = true := fun e => by
      have := (mayP_bounds e).2.2.2.2.2.1
      simp only at this
      omega
    simpa using this
  · rw [if_neg h]
    have hm : mayP ⟨3, k, 0, [], 0⟩ ⟨f, 0, 0, ws, 0⟩ = true := by
      unfold mayP mayB
      simp only [Bool.and_eq_true, Bool.or_eq_true, decide_eq_true_eq, beq_iff_eq]
      refine ⟨⟨⟨⟨⟨by split <;> omega, hf.2⟩, Or.inl trivial⟩, ⟨by omega, by omega⟩⟩, ⟨by omega, by omega⟩⟩, h8⟩
    have eA : inA ⟨3, k, 0, [], 0⟩ ⟨f, 0, 0, ws, 0⟩ = ⟨3, f, 0, [], 0⟩ := by
      unfold inA
      by_cases c : k < f
      · rw [if_pos c]
      · have : k = f := by omega
        subst this
        rw [if_neg c]
    have eB : inB ⟨3, f, 0, [], 0⟩ ⟨f, 0, 0, ws, 0⟩ = ⟨3, f, 0, [], 0⟩ := by
      unfold inB
      rw [if_neg]
      rintro ⟨c, _⟩
      simp at c
    have eT : toldC ⟨3, f, 0, [], 0⟩ ⟨f, 0, 0, ws, 0⟩ = ws := by
      unfold toldC
      simp only
      cases ws with
      | nil => rw [if_pos]; right; simp
      | cons z zs =>
        rw [if_neg]
        · simp
        · simp
    rw [inL_yes hm, eA, eB, eT]
    simp
set_option maxHeartbeats 2000000 in
theorem linkFirst_walk (w0 : World) (a : Option Addr) (ws : List Int) (cap : Nat) (hcap : ws.length ≤ cap) (hlen : ws.length ≤ 9223372036854775807) (sw : SlIs w0 a ws) (f : Int) (_f1 : -9223372036854775808 ≤ f) (_f2 : f ≤ 9223372036854775807) (k : Int) (_k1 : -9223372036854775808 ≤ k) (_k2 : k ≤ 9223372036854775807) :
    Calls Try.prog 7 #[.slice a ws.length cap, .int .i64 f, .int .i64 k] w0 fun e w' => e = .returned (.bool true) ∧ Below w0.heap.size w0 w' := by
  have I0 := Lib.hid (Inv.start w0)
  have S1 := Lib.hid sw
  clear sw _f1 _f2 _k1 _k2
  go_enter Try.func7, Try.ntmps7
  go_wp2_with fail
  refine (shown10 _).mono ?_
  rintro e w1 ⟨rfl, hb⟩
  have I1 := I0.out.call' hb
  clear hb I0
  by_cases h8 : ws.length ≤ 8
  · by_cases hg : (1 ≤ f ∧ f ≤ 4611686018427387904) ∧ (0 ≤ k ∧ k ≤ 4611686018427387904)
    · obtain ⟨⟨g1, g2⟩, g3, g4⟩ := hg
      have hP := first_plain ws f k h8 ⟨g1, g2⟩ ⟨g3, g4⟩
      have HP := Lib.hid hP
      clear hP
      go_wp2_with fail
      refine (newC 3 _ (by decide) (by decide)).mono ?_
      rintro e w2 ⟨rfl, hb⟩
      have I2 := I1.out.call' hb
      clear hb I1
      have I3 := Lib.hid (I2.out.alloc (lkO (newL 3) none 0))
      have c1 := (five' (I3.out.get w2.heap.size (lkO (newL 3) none 0) (by simp))).2.1
      have f1 := (five' (I3.out.get w2.heap.size (lkO (newL 3) none 0) (by simp))).2.2.2.2.2.2.1
      unfold lkO at c1 f1
      have I4 := Lib.hid (I2.out.alloc (lkO ⟨3, k, 0, [], 0⟩ none 0))
      clear I3
      go_wp2_with (first
        | ((with_reducible show wpList _ _ _ (Oper.mk _ (Op.store 26 _ _) _ _ _ _ :: _) _ _); refine wl_store26n rfl _ _ rfl _ (newL 3) none 0 rfl rfl _ rfl (by simp) ?_)
        | ((with_reducible show wpList _ _ _ (Oper.mk _ (Op.load 26 _) _ _ _ _ :: _) _ _); refine wl_load26 rfl _ rfl w2.heap.size rfl ⟨3, k, 0, [], 0⟩ none 0 (I4.out.get _ _ (by simp [lkO])) ?_))
      refine (inC ⟨3, k, 0, [], 0⟩ ⟨f, 0, 0, ws, 0⟩ none a 0 cap _ (SlIs.nil _ _) (S1.out.below I4.out.1) hlen (by simp) (by simp) hcap (by simp) (by simp)).mono ?_
      rintro e w3 ⟨a3, cap3, ta, rfl, _, _, hs3, hc3, ht, hb⟩
      have I5 := I4.out.call' hb
      clear hb I4 c1 f1
      rw [HP.out] at hs3 hc3 ht
      rw [HP.out]
      by_cases hk : f < k
      · rw [if_pos hk] at hs3 hc3 ht
        rw [if_pos hk]
        have T1 : decide (f < k) = true := decide_eq_true hk
        have HK := Lib.hid hk
        clear hk HP ht
        simp only at hs3 hc3 ⊢
        have I6 := Lib.hid (I5.out.alloc (lkO ⟨3, k, 0, [], 0⟩ a3 cap3))
        have S6 := Lib.hid (hs3.below ((Below.refl _ w3).alloc (Nat.le_refl _) (lkO ⟨3, k, 0, [], 0⟩ a3 cap3)))
        have HS := Lib.hid ((sameB_iff ⟨3, k, 0, [], 0⟩ ⟨3, k, 0, [], 0⟩).2 rfl)
        clear I5 hs3
        go_wp2_with (first
          | ((with_reducible show wpList _ _ _ (Oper.mk _ (Op.store 26 _ _) _ _ _ _ :: _) _ _); refine wl_store26n rfl _ _ rfl _ ⟨3, k, 0, [], 0⟩ a3 cap3 rfl rfl _ rfl (by simp) ?_)
          | ((with_reducible show wpList _ _ _ (Oper.mk _ (Op.load 26 _) _ _ _ _ :: _) _ _); refine wl_load26g rfl _ rfl w2.heap.size rfl ⟨3, k, 0, [], 0⟩ none 0 (I6.out.get _ _ (by simp [lkO])) ?_)
          | ((with_reducible show wpList _ _ _ (Oper.mk _ (Op.load 26 _) _ _ _ _ :: _) _ _); refine wl_load26g rfl _ rfl w3.heap.size rfl ⟨3, k, 0, [], 0⟩ a3 cap3 (I6.out.get _ _ (by simp [lkO])) ?_)
          | (go_at_call 17; refine (rsameC ⟨3, k, 0, [], 0⟩ ⟨3, k, 0, [], 0⟩ none a3 0 cap3 _ (by simp) (SlIs.nil _ _) S6.out).mono ?_; rintro e w5 ⟨rfl, hb⟩; rw [HS.out]; have I7 := I6.out.call' hb; clear hb))
        go_ret
        exact ⟨rfl, I7.out.1⟩
      · rw [if_neg hk] at hs3 hc3 ht
        rw [if_neg hk]
        have T1 : decide (f < k) = false := decide_eq_false hk
        have HK := Lib.hid hk
        clear hk HP
        simp only at hs3 hc3 ht ⊢
        have I6 := Lib.hid (I5.out.alloc (lkO ⟨3, f, 0, [], ws.length⟩ a3 cap3))
        have S6 := Lib.hid (ht.below ((Below.refl _ w3).alloc (Nat.le_refl _) (lkO ⟨3, f, 0, [], ws.length⟩ a3 cap3)))
        clear I5 hs3 ht
        go_wp2_with (first
          | ((with_reducible show wpList _ _ _ (Oper.mk _ (Op.store 26 _ _) _ _ _ _ :: _) _ _); refine wl_store26n rfl _ _ rfl _ ⟨3, f, 0, [], ws.length⟩ a3 cap3 rfl rfl _ rfl (by simp) ?_))
        refine (ints15 ws ws ta a ws.length cap hlen _ S6.out (S1.out.below I6.out.1)).mono ?_
        rintro e w5 ⟨rfl, hb⟩
        rw [beq_self_eq_true]
        have I7 := I6.out.call' hb
        clear hb I6 S6
        have e1 : w5.cell? ⟨w3.heap.size, 1, none⟩ = some (.int .i64 f) := (five (I7.out.get w3.heap.size (lkO ⟨3, f, 0, [], ws.length⟩ a3 cap3) (by simp))).2.1
        have e4 : w5.cell? ⟨w3.heap.size, 4, none⟩ = some (.int .i64 ws.length) := (five (I7.out.get w3.heap.size (lkO ⟨3, f, 0, [], ws.length⟩ a3 cap3) (by simp))).2.2.2.2.1
        go_wp2_with fail
        go_ret
        exact ⟨rfl, I7.out.1⟩
    · have hgd : ¬ ((1 ≤ f ∧ f ≤ 4611686018427387904) ∧ (0 ≤ k ∧ k ≤ 4611686018427387904)) := hg
      have HG := Lib.hid hgd
      clear hg hgd
      go_wp2
      all_goals first
        | (go_ret; exact ⟨rfl, I1.out.1⟩)
        | (exfalso; apply HG.out; omega)
  · go_wp2
    go_ret
    exact ⟨rfl, I1.out.1⟩
end Go.Proofs.Ytoblckocmakakaa
