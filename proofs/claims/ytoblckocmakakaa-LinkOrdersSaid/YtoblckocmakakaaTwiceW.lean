/-
  LinkTwice, walked: no conditions but the inputs' kinds.
-/
import Derived.Test.YtoblckocmakakaaWl
import Derived.Test.YtoblckocmakakaaOpen
namespace Go.Proofs.Ytoblckocmakakaa
open Go.RowKit
theorem right_facts {l : Lk} (h : rightL l = true) : (0 ≤ l.first ∧ l.first ≤ 4611686018427387904) ∧ (0 ≤ l.next ∧ l.next ≤ 4611686018427387904) ∧ l.sent.length ≤ 8 := by
  rw [rightL_iff] at h
  exact ⟨h.2.2.1, h.2.2.2.1, h.2.2.2.2⟩
set_option maxHeartbeats 2000000 in
theorem linkTwice_walk (w0 : World) (l : Lk) (a : Option Addr) (cap : Nat) (kl : LkIn l cap) (sl : SlIs w0 a l.sent) (p : Pk) (pa : Option Addr) (pcap : Nat) (kp : PkIn p pcap) (sp : SlIs w0 pa p.words) :
    Calls Try.prog 5 #[.agg (lkA l a cap), .agg (pkA p pa pcap)] w0 fun e w' => e = .returned (.bool true) ∧ Below w0.heap.size w0 w' := by
  obtain ⟨hcap, hlen, _⟩ := kl
  obtain ⟨hpcap, hplen, _⟩ := kp
  have I0 := Lib.hid (((Inv.start w0).alloc (lkO l a cap)).alloc (pkO p pa pcap))
  have S1 := Lib.hid sl
  have S2 := Lib.hid sp
  clear sl sp
  go_enter Try.func5, Try.ntmps5
  go_wp2_with fail
  refine (shown10 _).mono ?_
  rintro e w1 ⟨rfl, hb⟩
  have I1 := I0.out.call' hb
  clear hb I0
  have c3 : w1.cell? ⟨w0.heap.size, 3, none⟩ = some (.slice a l.sent.length cap) := (five (I1.out.get w0.heap.size (lkO l a cap) (by simp))).2.2.2.1
  have d3 : w1.cell? ⟨w0.heap.size + 1, 3, none⟩ = some (.slice pa p.words.length pcap) := (five (I1.out.get (w0.heap.size + 1) (pkO p pa pcap) (by simp))).2.2.2.1
  obtain ⟨s, hs⟩ : ∃ s, IntKind.i64.wrap ((l.sent.length : Int) + (p.words.length : Int)) = s := ⟨_, rfl⟩
  cases hd : decide (100 < s) with
  | true =>
    go_wp2
    go_ret
    exact ⟨rfl, I1.out.1⟩
  | false =>
    cases hr : rightL l with
    | false =>
      go_wp2_with (first
        | ((with_reducible show wpList _ _ _ (Oper.mk _ (Op.load 26 _) _ _ _ _ :: _) _ _); refine wl_load26g rfl _ rfl _ rfl l a cap (I1.out.get _ _ (by simp [lkO])) ?_)
        | (go_at_call 16; refine (rrightC l a cap _ hlen).mono ?_; rintro e w2 ⟨rfl, hb⟩; rw [hr]; have I2 := I1.out.call' hb; clear hb))
      go_ret
      exact ⟨rfl, I2.out.1⟩
    | true =>
      obtain ⟨hf, hn, h8⟩ := right_facts hr
      have hR := inL_right p hr
      have hTl := inL_told_len l p
      have hTw := inL_twice l p
      go_wp2_with (first
        | ((with_reducible show wpList _ _ _ (Oper.mk _ (Op.load 38 _) _ _ _ _ :: _) _ _); refine wl_load38 rfl _ rfl _ rfl p pa pcap (I2.out.get _ _ (by simp [pkO])) ?_)
        | ((with_reducible show wpList _ _ _ (Oper.mk _ (Op.load 26 _) _ _ _ none :: _) _ _); refine wl_load26 rfl _ rfl _ rfl l a cap (I2.out.get _ _ (by simp [lkO])) ?_)
        | ((with_reducible show wpList _ _ _ (Oper.mk _ (Op.load 26 _) _ _ _ _ :: _) _ _); refine wl_load26g rfl _ rfl _ rfl l a cap (I1.out.get _ _ (by simp [lkO])) ?_)
        | (go_at_call 16; refine (rrightC l a cap _ hlen).mono ?_; rintro e w2 ⟨rfl, hb⟩; rw [hr]; have I2 := I1.out.call' hb; clear hb))
      clear I1 c3 d3 hd hs
      refine (inC l p a pa cap pcap _ (S1.out.below I2.out.1) (S2.out.below I2.out.1) hplen (by omega) hcap hpcap hf hn).mono ?_
      rintro e w3 ⟨a3, cap3, ta, rfl, _, _, hs3, hc3, _, hb⟩
      have I3 := I2.out.call' hb
      clear hb I2
      generalize inL l p = R at *
      obtain ⟨N, T⟩ := R
      simp only at hR hTl hTw hs3 hc3 ⊢
      obtain ⟨hf3, hn3, h83⟩ := right_facts hR
      have S3 := Lib.hid hs3
      have HT := Lib.hid hTw
      clear hs3 hTw hr hf hn h8 hR
      go_wp2_with (first
        | ((with_reducible show wpList _ _ _ (Oper.mk _ (Op.load 38 _) _ _ _ _ :: _) _ _); refine wl_load38 rfl _ rfl _ rfl p pa pcap ((I3.out.alloc (lkO N a3 cap3)).get _ _ (by simp [pkO])) ?_)
        | ((with_reducible show wpList _ _ _ (Oper.mk _ (Op.load 26 _) _ _ _ none :: _) _ _); refine wl_load26 rfl _ rfl _ rfl N a3 cap3 ((I3.out.alloc (lkO N a3 cap3)).get _ _ (by simp [lkO])) ?_)
        | ((with_reducible show wpList _ _ _ (Oper.mk _ (Op.store 26 _ _) _ _ _ _ :: _) _ _); refine wl_store26n rfl _ _ rfl _ N a3 cap3 rfl rfl _ rfl (by simp) ?_))
      have I4 := Lib.hid (I3.out.alloc (lkO N a3 cap3))
      have S4 := Lib.hid (S3.out.below ((Below.refl _ w3).alloc (Nat.le_refl _) (lkO N a3 cap3)))
      clear S3 I3
      refine (inC N p a3 pa cap3 pcap _ S4.out (S2.out.below I4.out.1) hplen (by omega) hc3 hpcap hf3 hn3).mono ?_
      rintro e w4 ⟨a4, cap4, tb, rfl, _, _, hs4, hc4, _, hb⟩
      have I5 := I4.out.call' hb
      have S5 := Lib.hid (S4.out.below hb)
      clear hb I4 S4
      rw [HT.out] at hs4 hc4
      rw [HT.out]
      simp only at hs4 hc4 ⊢
      have I6 := Lib.hid (I5.out.alloc (lkO N a4 cap4))
      have S6 := Lib.hid (S5.out.below ((Below.refl _ w4).alloc (Nat.le_refl _) (lkO N a4 cap4)))
      have S7 := Lib.hid (hs4.below ((Below.refl _ w4).alloc (Nat.le_refl _) (lkO N a4 cap4)))
      have d3 : (w4.alloc (.cells (lkA N a4 cap4) 26)).cell? ⟨w0.heap.size + 1, 3, none⟩ = some (.slice pa p.words.length pcap) := (five (I6.out.get (w0.heap.size + 1) (pkO p pa pcap) (by simp))).2.2.2.1
      have t1 : decide ((T.length : Int) ≤ (p.words.length : Int)) = true := decide_eq_true (by omega)
      have t2 : decide (T.length ≤ p.words.length) = true := decide_eq_true (by omega)
      have hsm : sameB N N = true := (sameB_iff N N).2 rfl
      have HS := Lib.hid hsm
      clear I5 S5 hs4 HT hsm
      go_wp2_with (first
        | ((with_reducible show wpList _ _ _ (Oper.mk _ (Op.load 26 _) _ _ _ _ :: _) _ _); refine wl_load26g rfl _ rfl w3.heap.size rfl N a3 cap3 (I6.out.get _ _ (by simp [lkO])) ?_)
        | ((with_reducible show wpList _ _ _ (Oper.mk _ (Op.load 26 _) _ _ _ _ :: _) _ _); refine wl_load26g rfl _ rfl w4.heap.size rfl N a4 cap4 (I6.out.get _ _ (by simp [lkO])) ?_)
        | ((with_reducible show wpList _ _ _ (Oper.mk _ (Op.store 26 _ _) _ _ _ _ :: _) _ _); refine wl_store26n rfl _ _ rfl _ N a4 cap4 rfl rfl _ rfl (by simp) ?_)
        | (go_at_call 17; refine (rsameC N N a3 a4 cap3 cap4 _ (by omega) S6.out S7.out).mono ?_; rintro e w5 ⟨rfl, hb⟩; rw [HS.out]; have I7 := I6.out.call' hb; clear hb))
      go_ret
      exact ⟨rfl, I7.out.1⟩
end Go.Proofs.Ytoblckocmakakaa
