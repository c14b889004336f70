/-
  LinkStays, walked: no conditions but the inputs' kinds.
-/
import Derived.Test.YtoblckocmakakaaTwiceW
namespace Go.Proofs.Ytoblckocmakakaa
open Go.RowKit
/-- A word given to an end, with room or without. -/
def sendM (l : Lk) (x : Int) : Lk := if l.sent.length ≤ 7 then sendL l x else l
def sendE (l : Lk) : Int := if l.sent.length ≤ 7 then 0 else 7
theorem sendAny (l : Lk) (a : Option Addr) (cap : Nat) (x : Int) (w : World) (h : SlIs w a l.sent) (hm : l.sent.length ≤ 100) (hcap : l.sent.length ≤ cap) :
    Calls Try.prog 12 #[.agg (lkA l a cap), .int .i64 x] w fun e w' => ∃ a' cap', e = .returned (.tuple #[.agg (lkA (sendM l x) a' cap'), .int .i64 (sendE l)]) ∧ (Since' w.heap.size a' ∨ From a a') ∧ SlIs w' a' (sendM l x).sent ∧ (sendM l x).sent.length ≤ cap' ∧ Below w.heap.size w w' := by
  unfold sendM sendE
  by_cases h7 : l.sent.length ≤ 7
  · rw [if_pos h7, if_pos h7]
    refine (sendC l a cap x w h h7 hcap).mono ?_
    rintro e w' ⟨a', cap', rfl, h1, h2, h3, h4⟩
    exact ⟨a', cap', rfl, Or.inl h1, h2, h3, h4⟩
  · rw [if_neg h7, if_neg h7]
    refine (sendF l a cap x w (by omega) hm).mono ?_
    rintro e w' ⟨rfl, hb⟩
    exact ⟨a, cap, rfl, Or.inr (From.refl _), h.below hb, hcap, hb⟩
theorem sendM_right {l : Lk} (x : Int) (h : rightL l = true) : rightL (sendM l x) = true := by
  unfold sendM
  split
  · rw [rightL_iff] at h ⊢
    refine ⟨h.1, h.2.1, h.2.2.1, h.2.2.2.1, ?_⟩
    show (l.sent ++ [x]).length ≤ 8
    simp; omega
  · exact h
theorem sendM_own (l : Lk) (x : Int) : (sendM l x).own = l.own := by unfold sendM; split <;> rfl
set_option maxHeartbeats 2000000 in
theorem linkStays_walk (w0 : World) (l : Lk) (a : Option Addr) (cap : Nat) (kl : LkIn l cap) (sl : SlIs w0 a l.sent) (p : Pk) (pa : Option Addr) (pcap : Nat) (kp : PkIn p pcap) (sp : SlIs w0 pa p.words) (x : Int) (_hx1 : -9223372036854775808 ≤ x) (_hx2 : x ≤ 9223372036854775807) :
    Calls Try.prog 6 #[.agg (lkA l a cap), .agg (pkA p pa pcap), .int .i64 x] w0 fun e w' => e = .returned (.bool true) ∧ Below w0.heap.size w0 w' := by
  obtain ⟨hcap, hlen, _⟩ := kl
  obtain ⟨hpcap, hplen, _⟩ := kp
  have I0 := Lib.hid (((Inv.start w0).alloc (lkO l a cap)).alloc (pkO p pa pcap))
  have S1 := Lib.hid sl
  have S2 := Lib.hid sp
  clear sl sp _hx1 _hx2
  go_enter Try.func6, Try.ntmps6
  go_wp2_with fail
  refine (shown10 _).mono ?_
  rintro e w1 ⟨rfl, hb⟩
  have I1 := I0.out.call' hb
  clear hb I0
  have c3 : w1.cell? ⟨w0.heap.size, 3, none⟩ = some (.slice a l.sent.length cap) := (five (I1.out.get w0.heap.size (lkO l a cap) (by simp))).2.2.2.1
  have d3 : w1.cell? ⟨w0.heap.size + 1, 3, none⟩ = some (.slice pa p.words.length pcap) := (five (I1.out.get (w0.heap.size + 1) (pkO p pa pcap) (by simp))).2.2.2.1
  obtain ⟨s, hs⟩ : ∃ s, IntKind.i64.wrap ((l.sent.length : Int) + (p.words.length : Int)) = s := ⟨_, rfl⟩
  cases hd : decide (100 < s) with
  | true =>
    go_wp2
    go_ret
    exact ⟨rfl, I1.out.1⟩
  | false =>
    cases hr : rightL l with
    | false =>
      go_wp2_with (first
        | ((with_reducible show wpList _ _ _ (Oper.mk _ (Op.load 26 _) _ _ _ _ :: _) _ _); refine wl_load26g rfl _ rfl w0.heap.size rfl l a cap (I1.out.get _ _ (by simp [lkO])) ?_)
        | (go_at_call 16; refine (rrightC l a cap _ hlen).mono ?_; rintro e w2 ⟨rfl, hb⟩; rw [hr]; have I2 := I1.out.call' hb; clear hb))
      go_ret
      exact ⟨rfl, I2.out.1⟩
    | true =>
      obtain ⟨hf, hn, h8⟩ := right_facts hr
      have hR := Lib.hid (inL_right p hr)
      go_wp2_with (first
        | ((with_reducible show wpList _ _ _ (Oper.mk _ (Op.load 38 _) _ _ _ _ :: _) _ _); refine wl_load38 rfl _ rfl _ rfl p pa pcap (I2.out.get _ _ (by simp [pkO])) ?_)
        | ((with_reducible show wpList _ _ _ (Oper.mk _ (Op.load 26 _) _ _ _ none :: _) _ _); refine wl_load26 rfl _ rfl w0.heap.size rfl l a cap (I2.out.get _ _ (by simp [lkO])) ?_)
        | ((with_reducible show wpList _ _ _ (Oper.mk _ (Op.load 26 _) _ _ _ _ :: _) _ _); refine wl_load26g rfl _ rfl w0.heap.size rfl l a cap (I1.out.get _ _ (by simp [lkO])) ?_)
        | (go_at_call 16; refine (rrightC l a cap _ hlen).mono ?_; rintro e w2 ⟨rfl, hb⟩; rw [hr]; have I2 := I1.out.call' hb; clear hb; obtain ⟨c0, c1, c2, c3, c4, _⟩ := five (I2.out.get w0.heap.size (lkO l a cap) (by simp)); obtain ⟨d0, d1, d2, d3, d4, _⟩ := five (I2.out.get (w0.heap.size + 1) (pkO p pa pcap) (by simp))))
      · go_ret
        exact ⟨rfl, I2.out.1⟩
      · clear I1 hd hs c0 c1 c2 c3 c4 d0 d1 d2 d3 d4
        refine (inC l p a pa cap pcap _ (S1.out.below I2.out.1) (S2.out.below I2.out.1) hplen (by omega) hcap hpcap hf hn).mono ?_
        rintro e w3 ⟨a3, cap3, ta, rfl, _, _, hs3, hc3, _, hb⟩
        have I3 := I2.out.call' hb
        have hown := inL_own l p
        clear hb I2
        generalize inL l p = R at *
        obtain ⟨N, T⟩ := R
        simp only at hR hs3 hc3 hown ⊢
        obtain ⟨hf3, hn3, h83⟩ := right_facts hR.out
        have S3 := Lib.hid hs3
        clear hs3 hr hf hn h8
        go_wp2_with (first
          | ((with_reducible show wpList _ _ _ (Oper.mk _ (Op.load 26 _) _ _ _ none :: _) _ _); refine wl_load26 rfl _ rfl w3.heap.size rfl N a3 cap3 ((I3.out.alloc (lkO N a3 cap3)).get _ _ (by simp [lkO])) ?_)
          | ((with_reducible show wpList _ _ _ (Oper.mk _ (Op.store 26 _ _) _ _ _ _ :: _) _ _); refine wl_store26n rfl _ _ rfl _ N a3 cap3 rfl rfl _ rfl (by simp) ?_))
        have I4 := Lib.hid (I3.out.alloc (lkO N a3 cap3))
        have S4 := Lib.hid (S3.out.below ((Below.refl _ w3).alloc (Nat.le_refl _) (lkO N a3 cap3)))
        clear S3 I3
        refine (sendAny N a3 cap3 x _ S4.out (by omega) hc3).mono ?_
        rintro e w4 ⟨a4, cap4, rfl, _, hs4, hc4, hb⟩
        have I5 := I4.out.call' hb
        have hMR := Lib.hid (sendM_right x hR.out)
        have hMo := (sendM_own N x).trans hown
        clear hb I4 S4
        generalize sendM N x = M at *
        generalize sendE N = E at *
        obtain ⟨_, _, h84⟩ := right_facts hMR.out
        have S5 := Lib.hid (hs4.below ((Below.refl _ w4).alloc (Nat.le_refl _) (lkO M a4 cap4)))
        clear hs4
        go_wp2_with (first
          | ((with_reducible show wpList _ _ _ (Oper.mk _ (Op.load 26 _) _ _ _ none :: _) _ _); refine wl_load26 rfl _ rfl w4.heap.size rfl M a4 cap4 ((I5.out.alloc (lkO M a4 cap4)).get _ _ (by simp [lkO])) ?_)
          | ((with_reducible show wpList _ _ _ (Oper.mk _ (Op.store 26 _ _) _ _ _ _ :: _) _ _); refine wl_store26n rfl _ _ rfl _ M a4 cap4 rfl rfl _ rfl (by simp) ?_))
        have I6 := Lib.hid (I5.out.alloc (lkO M a4 cap4))
        clear I5
        refine (outC M a4 cap4 _ S5.out (by omega)).mono ?_
        rintro e w5 ⟨a5, rfl, _, hs5, hb⟩
        have I7 := I6.out.call' hb
        have S6 := Lib.hid ((S5.out.below hb).below ((Below.refl _ w5).alloc (Nat.le_refl _) (pkO (outL M) a5 M.sent.length)))
        have S7 := Lib.hid (hs5.below ((Below.refl _ w5).alloc (Nat.le_refl _) (pkO (outL M) a5 M.sent.length)))
        clear hb I6 S5 hs5
        have I8 := Lib.hid (I7.out.alloc (pkO (outL M) a5 M.sent.length))
        clear I7
        go_wp2_with (first
          | ((with_reducible show wpList _ _ _ (Oper.mk _ (Op.load 26 _) _ _ _ _ :: _) _ _); refine wl_load26g rfl _ rfl w3.heap.size rfl N a3 cap3 (I8.out.get _ _ (by simp [lkO])) ?_)
          | ((with_reducible show wpList _ _ _ (Oper.mk _ (Op.store 38 _ _) _ _ _ _ :: _) _ _); refine wl_store38n rfl _ _ rfl _ (outL M) a5 M.sent.length rfl rfl _ rfl (by simp) ?_))
        refine (rrightC N a3 cap3 _ (by omega)).mono ?_
        rintro e w6 ⟨rfl, hb⟩
        rw [hR.out]
        have I9 := I8.out.call' hb
        have S8 := Lib.hid (S6.out.below hb)
        have S9 := Lib.hid (S7.out.below hb)
        clear hb I8 S6 S7
        go_wp2_with ((with_reducible show wpList _ _ _ (Oper.mk _ (Op.load 26 _) _ _ _ _ :: _) _ _); refine wl_load26g rfl _ rfl w4.heap.size rfl M a4 cap4 (I9.out.get _ _ (by simp [lkO])) ?_)
        refine (rrightC M a4 cap4 _ (by omega)).mono ?_
        rintro e w7 ⟨rfl, hb⟩
        rw [hMR.out]
        have I10 := I9.out.call' hb
        have S10 := Lib.hid (S8.out.below hb)
        have S11 := Lib.hid (S9.out.below hb)
        clear hb I9 S8 S9
        go_wp2_with ((with_reducible show wpList _ _ _ (Oper.mk _ (Op.load 26 _) _ _ _ _ :: _) _ _); refine wl_load26g rfl _ rfl w4.heap.size rfl M a4 cap4 (I10.out.get _ _ (by simp [lkO])) ?_)
        refine (rightC M a4 cap4 _ (by omega)).mono ?_
        rintro e w8 ⟨rfl, hb⟩
        rw [hMR.out]
        have I11 := I10.out.call' hb
        have S12 := Lib.hid (S10.out.below hb)
        have S13 := Lib.hid (S11.out.below hb)
        clear hb I10 S10 S11
        have o3 : w8.cell? ⟨w5.heap.size, 3, none⟩ = some (.slice a5 M.sent.length M.sent.length) := (five (I11.out.get w5.heap.size (pkO (outL M) a5 M.sent.length) (by simp))).2.2.2.1
        have m3 : w8.cell? ⟨w4.heap.size, 3, none⟩ = some (.slice a4 M.sent.length cap4) := (five (I11.out.get w4.heap.size (lkO M a4 cap4) (by simp))).2.2.2.1
        go_wp2_with fail
        refine (ints15 M.sent M.sent a5 a4 M.sent.length cap4 (by omega) _ S13.out S12.out).mono ?_
        rintro e w9 ⟨rfl, hb⟩
        rw [beq_self_eq_true]
        have I12 := I11.out.call' hb
        clear hb I11 S12 S13 o3 m3
        have o0 : w9.cell? ⟨w5.heap.size, 0, none⟩ = some (.int .i64 l.own) := by rw [← hMo]; exact (five (I12.out.get w5.heap.size (pkO (outL M) a5 M.sent.length) (by simp))).1
        have o2 : w9.cell? ⟨w5.heap.size, 2, none⟩ = some (.int .i64 M.first) := (five (I12.out.get w5.heap.size (pkO (outL M) a5 M.sent.length) (by simp))).2.2.1
        have l0 : w9.cell? ⟨w0.heap.size, 0, none⟩ = some (.int .i64 l.own) := (five (I12.out.get w0.heap.size (lkO l a cap) (by simp))).1
        have m2 : w9.cell? ⟨w4.heap.size, 2, none⟩ = some (.int .i64 M.first) := (five (I12.out.get w4.heap.size (lkO M a4 cap4) (by simp))).2.2.1
        go_wp2_with fail
        go_ret
        exact ⟨rfl, I12.out.1⟩
      all_goals
        go_ret
        exact ⟨rfl, I2.out.1⟩
end Go.Proofs.Ytoblckocmakakaa
