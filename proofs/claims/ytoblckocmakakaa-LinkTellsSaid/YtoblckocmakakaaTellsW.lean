/-
  LinkTells, walked: no conditions but the inputs' kinds.
-/
import Derived.Test.YtoblckocmakakaaStaysW
import Derived.Test.YtoblckocmakakaaRe
import Derived.Test.YtoblckocmakakaaOpenT
import Derived.Deep.RegionHeld3
namespace Go.Proofs.Ytoblckocmakakaa
open Go.RowKit
theorem getJ {p0 p1 p2 p3 p4 p5 p6 p7 p8 p9 p10 p11 p12 p13 p14 p15 p16 p17 p18 p19 p20 p21 p22 p23 p24 : Prop} {k : Nat} {w W : World} (h : p0 ∧ p1 ∧ p2 ∧ p3 ∧ p4 ∧ p5 ∧ p6 ∧ p7 ∧ p8 ∧ p9 ∧ p10 ∧ p11 ∧ p12 ∧ p13 ∧ p14 ∧ p15 ∧ p16 ∧ p17 ∧ p18 ∧ p19 ∧ p20 ∧ p21 ∧ p22 ∧ p23 ∧ p24 ∧ Hid (Below k w W)) : Below k w W := h.2.2.2.2.2.2.2.2.2.2.2.2.2.2.2.2.2.2.2.2.2.2.2.2.2.out
theorem getI {p0 p1 p2 p3 p4 p5 p6 p7 p8 p9 p10 p11 p12 p13 p14 p15 p16 p17 p18 p19 : Prop} {B : Nat} {w W : World} {L : List (Nat × Obj)} (h : p0 ∧ p1 ∧ p2 ∧ p3 ∧ p4 ∧ p5 ∧ p6 ∧ p7 ∧ p8 ∧ p9 ∧ p10 ∧ p11 ∧ p12 ∧ p13 ∧ p14 ∧ p15 ∧ p16 ∧ p17 ∧ p18 ∧ p19 ∧ Hid (Inv B w L W)) : Inv B w L W := h.2.2.2.2.2.2.2.2.2.2.2.2.2.2.2.2.2.2.2.2.out
theorem rsendAny (l : Lk) (a : Option Addr) (cap : Nat) (x : Int) (w : World) (h : SlIs w a l.sent) (hm : l.sent.length ≤ 8) (hcap : l.sent.length ≤ cap) (hnc : a = none → cap = 0) :
    Calls Try.prog 21 #[.agg (lkA l a cap), .int .i64 x] w fun e w' => ∃ a' cap', e = .returned (.tuple #[.agg (lkA (sendM l x) a' cap'), .int .i64 (sendE l)]) ∧ SlIs w' a' (sendM l x).sent ∧ (sendM l x).sent.length ≤ cap' ∧ Below w.heap.size w w' := by
  unfold sendM sendE
  by_cases h7 : l.sent.length ≤ 7
  · rw [if_pos h7, if_pos h7]
    exact rsend_room l a cap x w h h7 hnc
  · rw [if_neg h7, if_neg h7]
    refine (rsend_full l a cap x w (by omega)).mono ?_
    rintro e w' ⟨rfl, hb⟩
    exact ⟨a, cap, rfl, h.below hb, hcap, hb⟩
theorem rinAny (l : Lk) (p : Pk) (a pa : Option Addr) (cap pcap : Nat) (w : World) (hl : p.words.length ≤ 9223372036854775807) (hs : l.sent.length ≤ 8) (hcap : l.sent.length ≤ cap) (hpcap : p.words.length ≤ pcap) (hnc : a = none → cap = 0)
    (h1 : SlIs w a l.sent) (h2 : SlIs w pa p.words) (hf : 0 ≤ l.first ∧ l.first ≤ 4611686018427387904) (hn : 0 ≤ l.next ∧ l.next ≤ 4611686018427387904) :
    Calls Try.prog 22 #[.agg (lkA l a cap), .agg (pkA p pa pcap)] w fun e w' => ∃ a' cap' ta tc, e = .returned (.tuple #[.agg (lkA (inL l p).1 a' cap'), .slice ta (inL l p).2.length tc]) ∧ SlIs w' a' (inL l p).1.sent ∧ (inL l p).1.sent.length ≤ cap' ∧ SlIs w' ta (inL l p).2 ∧ Below w.heap.size w w' := by
  cases hm : mayP l p with
  | true => exact rin_yes l p a pa cap pcap w hm hs hcap hpcap hnc h1 h2 hf hn
  | false =>
    rw [inL_no hm]
    refine (rin_not l p a pa cap pcap w hm hl).mono ?_
    rintro e w' ⟨rfl, hb⟩
    exact ⟨a, cap, none, 0, rfl, h1.below hb, hcap, SlIs.nil _ _, hb⟩
theorem Inv.low {B : Nat} {w W : World} {L : List (Nat × Obj)} (h : Inv B w L W) : Below B w W := h.1
def newX (x : Int) : Lk := if 1 ≤ x ∧ x ≤ 4611686018427387904 then newL x else zeroL
def newE (x : Int) : Int := if 1 ≤ x ∧ x ≤ 4611686018427387904 then 0 else 1
theorem newAny (x : Int) (w : World) : Calls Try.prog 11 #[.int .i64 x] w fun e w' => e = .returned (.tuple #[.agg (lkA (newX x) none 0), .int .i64 (newE x)]) ∧ Below w.heap.size w w' := by
  unfold newX newE
  by_cases h : 1 ≤ x ∧ x ≤ 4611686018427387904
  · rw [if_pos h, if_pos h]; exact newC x w h.1 h.2
  · rw [if_neg h, if_neg h]; exact new_no x w (by omega)
theorem rnewAny (x : Int) (w : World) : Calls Try.prog 19 #[.int .i64 x] w fun e w' => e = .returned (.tuple #[.agg (lkA (newX x) none 0), .int .i64 (newE x)]) ∧ Below w.heap.size w w' := by
  unfold newX newE
  by_cases h : 1 ≤ x ∧ x ≤ 4611686018427387904
  · rw [if_pos h, if_pos h]; exact rnew_yes x w h.1 h.2
  · rw [if_neg h, if_neg h]; exact rnew_no x w (by omega)
theorem newX_sent (x : Int) : (newX x).sent = [] := by unfold newX; split <;> rfl
set_option maxRecDepth 20000 in
set_option maxHeartbeats 8000000 in
theorem linkTells_walk (w0 : World) (l : Lk) (a : Option Addr) (cap : Nat) (m : Lk) (b : Option Addr) (capb : Nat) (p : Pk) (pa : Option Addr) (pcap : Nat) (x : Int) (kl : LkIn l cap ∧ SlIs w0 a l.sent ∧ (a = none → cap = 0)) (km : LkIn m capb ∧ SlIs w0 b m.sent) (kp : PkIn p pcap ∧ SlIs w0 pa p.words) :
    Calls Try.prog 9 #[.agg (tellsA l a cap m b capb p pa pcap x)] w0 fun e w' => e = .returned (.bool true) ∧ Below w0.heap.size w0 w' := by
  obtain ⟨⟨hcap, hlen, _⟩, sl, hnc⟩ := kl
  obtain ⟨⟨hcapb, hlenb, _⟩, sm⟩ := km
  obtain ⟨⟨hpcap, hplen, _⟩, sp⟩ := kp
  have S1 := Lib.hid sl
  have S2 := Lib.hid sm
  have S3 := Lib.hid sp
  have HNC := Lib.hid hnc
  clear sl sm sp hnc
  unfold tellsA
  go_enter Try.func9, Try.ntmps9
  go_wp2_with fail
  have I0 := Lib.hid ((((Inv.start w0).alloc' (.cells (tellsA l a cap m b capb p pa pcap x) 51)).alloc (lkO l a cap) |>.alloc (lkO m b capb)) |>.alloc (pkO p pa pcap))
  simp only [World.size_alloc] at I0
  refine (shown10 _).mono ?_
  rintro e w1 ⟨rfl, hb⟩
  have I1 := I0.out.call' hb
  clear hb I0
  generalize w0.heap.size + 1 = b3 at *
  generalize b3 + 1 = b4 at *
  generalize b4 + 1 = b5 at *
  have c3 : w1.cell? ⟨b3, 3, none⟩ = some (.slice a l.sent.length cap) := (five (I1.out.get b3 (lkO l a cap) (by simp))).2.2.2.1
  have d3 : w1.cell? ⟨b4, 3, none⟩ = some (.slice b m.sent.length capb) := (five (I1.out.get b4 (lkO m b capb) (by simp))).2.2.2.1
  have e3 : w1.cell? ⟨b5, 3, none⟩ = some (.slice pa p.words.length pcap) := (five (I1.out.get b5 (pkO p pa pcap) (by simp))).2.2.2.1
  obtain ⟨s1, hs1⟩ : ∃ s, IntKind.i64.wrap ((l.sent.length : Int) + (m.sent.length : Int)) = s := ⟨_, rfl⟩
  obtain ⟨s2, hs2⟩ : ∃ s, IntKind.i64.wrap (s1 + (p.words.length : Int)) = s := ⟨_, rfl⟩
  cases hd : decide (100 < s2) with
  | true =>
    go_wp2
    go_ret
    exact ⟨rfl, I1.out.1⟩
  | false =>
    go_wp2_with fail
    refine (newAny x _).mono ?_
    rintro e w2 ⟨rfl, hb⟩
    have I2 := I1.out.call' hb
    clear hb I1 c3 d3 e3 hd hs1 hs2
    have hXS := Lib.hid (newX_sent x)
    have HRN := fun W => Lib.hid (rnewAny x W)
    generalize newE x = E at *
    generalize newX x = X at *
    go_wp2_with (first
      | ((with_reducible show wpList _ _ _ (Oper.mk _ (Op.store 26 _ _) _ _ _ _ :: _) _ _); refine wl_store26n rfl _ _ rfl _ X none 0 rfl rfl _ rfl (by simp) ?_))
    have I3 := Lib.hid (I2.out.alloc (lkO X none 0))
    clear I2
    refine (HRN _).out.mono ?_
    rintro e w3 ⟨rfl, hb⟩
    have I4 := I3.out.call' hb
    clear hb I3 HRN
    go_wp2_with (first
      | ((with_reducible show wpList _ _ _ (Oper.mk _ (Op.store 26 _ _) _ _ _ _ :: _) _ _); refine wl_store26n rfl _ _ rfl _ X none 0 rfl rfl _ rfl (by simp) ?_)
      | ((with_reducible show wpList _ _ _ (Oper.mk _ (Op.load 26 _) _ _ _ none :: _) _ _); refine wl_load26 rfl _ rfl b3 rfl l a cap ((I4.out.alloc (lkO X none 0)).get _ _ (by simp [lkO])) ?_))
    have I5 := Lib.hid (I4.out.alloc (lkO X none 0))
    clear I4
    refine (rrightC l a cap _ hlen).mono ?_
    rintro e w4 ⟨rfl, hb⟩
    have I6 := I5.out.call' hb
    clear hb I5
    have hRR : ∀ W, Hid (Calls Try.prog 18 #[.agg #[.int .i64 l.own, .int .i64 l.other, .int .i64 l.first, .slice a l.sent.length cap, .int .i64 l.next]] W fun e w' => e = .returned (.bool (rightL l)) ∧ Below W.heap.size W w') := fun W => Lib.hid (rightC l a cap W hlen)
    generalize hR : rightL l = R at *
    have HR := Lib.hid hR
    clear hR
    have hQ1 : ∀ W, SlIs W a l.sent → SlIs W b m.sent → Hid (Calls Try.prog 20 #[.agg #[.int .i64 l.own, .int .i64 l.other, .int .i64 l.first, .slice a l.sent.length cap, .int .i64 l.next], .agg #[.int .i64 m.own, .int .i64 m.other, .int .i64 m.first, .slice b m.sent.length capb, .int .i64 m.next]] W fun e w' => e = .returned (.bool (sameB l m)) ∧ Below W.heap.size W w') := fun W h1 h2 => Lib.hid (sameC l m a b cap capb W hlen h1 h2)
    have hQ2 : ∀ W, SlIs W a l.sent → SlIs W b m.sent → Hid (Calls Try.prog 17 #[.agg #[.int .i64 l.own, .int .i64 l.other, .int .i64 l.first, .slice a l.sent.length cap, .int .i64 l.next], .agg #[.int .i64 m.own, .int .i64 m.other, .int .i64 m.first, .slice b m.sent.length capb, .int .i64 m.next]] W fun e w' => e = .returned (.bool (sameB l m)) ∧ Below W.heap.size W w') := fun W h1 h2 => Lib.hid (rsameC l m a b cap capb W hlen h1 h2)
    have hQ3 : ∀ W, Hid (Calls Try.prog 17 #[.agg #[.int .i64 X.own, .int .i64 X.other, .int .i64 X.first, .slice none X.sent.length 0, .int .i64 X.next], .agg #[.int .i64 X.own, .int .i64 X.other, .int .i64 X.first, .slice none X.sent.length 0, .int .i64 X.next]] W fun e w' => e = .returned (.bool true) ∧ Below W.heap.size W w') := fun W => Lib.hid (by
      have := rsameC X X none none 0 0 W (by rw [hXS.out]; decide) (Or.inl hXS.out) (Or.inl hXS.out)
      rw [(sameB_iff X X).2 rfl] at this
      exact this)
    generalize sameB l m = Q at *
    generalize w2.heap.size = bx at *
    generalize w3.heap.size = bz at *
    have KS : ∀ W, Inv w0.heap.size w0 [(bz, lkO X none 0), (bx, lkO X none 0), (b5, pkO p pa pcap), (b4, lkO m b capb), (b3, lkO l a cap)] W → (W.cell? ⟨bx, 0, none⟩ = some (.int .i64 X.own) ∧ W.cell? ⟨bx, 1, none⟩ = some (.int .i64 X.other) ∧ W.cell? ⟨bx, 2, none⟩ = some (.int .i64 X.first) ∧ W.cell? ⟨bx, 3, none⟩ = some (.slice none X.sent.length 0) ∧ W.cell? ⟨bx, 4, none⟩ = some (.int .i64 X.next) ∧ W.cell? ⟨bz, 0, none⟩ = some (.int .i64 X.own) ∧ W.cell? ⟨bz, 1, none⟩ = some (.int .i64 X.other) ∧ W.cell? ⟨bz, 2, none⟩ = some (.int .i64 X.first) ∧ W.cell? ⟨bz, 3, none⟩ = some (.slice none X.sent.length 0) ∧ W.cell? ⟨bz, 4, none⟩ = some (.int .i64 X.next) ∧ W.cell? ⟨b3, 0, none⟩ = some (.int .i64 l.own) ∧ W.cell? ⟨b3, 1, none⟩ = some (.int .i64 l.other) ∧ W.cell? ⟨b3, 2, none⟩ = some (.int .i64 l.first) ∧ W.cell? ⟨b3, 3, none⟩ = some (.slice a l.sent.length cap) ∧ W.cell? ⟨b3, 4, none⟩ = some (.int .i64 l.next) ∧ W.cell? ⟨b4, 0, none⟩ = some (.int .i64 m.own) ∧ W.cell? ⟨b4, 1, none⟩ = some (.int .i64 m.other) ∧ W.cell? ⟨b4, 2, none⟩ = some (.int .i64 m.first) ∧ W.cell? ⟨b4, 3, none⟩ = some (.slice b m.sent.length capb) ∧ W.cell? ⟨b4, 4, none⟩ = some (.int .i64 m.next) ∧ Hid (Inv w0.heap.size w0 [(bz, lkO X none 0), (bx, lkO X none 0), (b5, pkO p pa pcap), (b4, lkO m b capb), (b3, lkO l a cap)] W)) := fun W h => by
      have f1 := five (h.get bx (lkO X none 0) (by simp))
      have f2 := five (h.get bz (lkO X none 0) (by simp))
      have f3 := five (h.get b3 (lkO l a cap) (by simp))
      have f4 := five (h.get b4 (lkO m b capb) (by simp))
      exact ⟨f1.1, f1.2.1, f1.2.2.1, f1.2.2.2.1, f1.2.2.2.2.1, f2.1, f2.2.1, f2.2.2.1, f2.2.2.2.1, f2.2.2.2.2.1, f3.1, f3.2.1, f3.2.2.1, f3.2.2.2.1, f3.2.2.2.2.1, f4.1, f4.2.1, f4.2.2.1, f4.2.2.2.1, f4.2.2.2.2.1, Lib.hid h⟩
    go_upto_region 11 with (fail)
    go_cut [78] from 43 (fun v wc => v = .bool false ∧ Hid (Inv w0.heap.size w0 [(bz, lkO X none 0), (bx, lkO X none 0), (b5, pkO p pa pcap), (b4, lkO m b capb), (b3, lkO l a cap)] wc))
    case first =>
      rename_i J1 K2 hJ hMet
      go_region_held3 (fun W => W.cell? ⟨bx, 0, none⟩ = some (.int .i64 X.own) ∧ W.cell? ⟨bx, 1, none⟩ = some (.int .i64 X.other) ∧ W.cell? ⟨bx, 2, none⟩ = some (.int .i64 X.first) ∧ W.cell? ⟨bx, 3, none⟩ = some (.slice none X.sent.length 0) ∧ W.cell? ⟨bx, 4, none⟩ = some (.int .i64 X.next) ∧ W.cell? ⟨bz, 0, none⟩ = some (.int .i64 X.own) ∧ W.cell? ⟨bz, 1, none⟩ = some (.int .i64 X.other) ∧ W.cell? ⟨bz, 2, none⟩ = some (.int .i64 X.first) ∧ W.cell? ⟨bz, 3, none⟩ = some (.slice none X.sent.length 0) ∧ W.cell? ⟨bz, 4, none⟩ = some (.int .i64 X.next) ∧ W.cell? ⟨b3, 0, none⟩ = some (.int .i64 l.own) ∧ W.cell? ⟨b3, 1, none⟩ = some (.int .i64 l.other) ∧ W.cell? ⟨b3, 2, none⟩ = some (.int .i64 l.first) ∧ W.cell? ⟨b3, 3, none⟩ = some (.slice a l.sent.length cap) ∧ W.cell? ⟨b3, 4, none⟩ = some (.int .i64 l.next) ∧ W.cell? ⟨b4, 0, none⟩ = some (.int .i64 m.own) ∧ W.cell? ⟨b4, 1, none⟩ = some (.int .i64 m.other) ∧ W.cell? ⟨b4, 2, none⟩ = some (.int .i64 m.first) ∧ W.cell? ⟨b4, 3, none⟩ = some (.slice b m.sent.length capb) ∧ W.cell? ⟨b4, 4, none⟩ = some (.int .i64 m.next) ∧ Hid (Inv w0.heap.size w0 [(bz, lkO X none 0), (bx, lkO X none 0), (b5, pkO p pa pcap), (b4, lkO m b capb), (b3, lkO l a cap)] W))
        (first
          | with_reducible exact KS _ JJ
          | with_reducible exact KS _ I6.out.drew)
        (first
          | (go_at_call 17; have PJ := getI (by assumption); with_reducible refine (hQ3 _).out.mono ?_; rintro e w9 ⟨rfl, hb⟩; have JJ := PJ.call hb; clear hb PJ)
          | (go_at_call 18; have PJ := getI (by assumption); with_reducible refine (hRR _).out.mono ?_; rintro e w9 ⟨rfl, hb⟩; have JJ := PJ.call hb; clear hb PJ)
          | (go_at_call 20; have PJ := getI (by assumption); have z1 := S1.out.below PJ.1; have z2 := S2.out.below PJ.1; with_reducible refine (hQ1 _ z1 z2).out.mono ?_; clear z1 z2; rintro e w9 ⟨rfl, hb⟩; have JJ := PJ.call hb; clear hb PJ)
          | (go_at_call 17; have PJ := getI (by assumption); have z1 := S1.out.below PJ.1; have z2 := S2.out.below PJ.1; with_reducible refine (hQ2 _ z1 z2).out.mono ?_; clear z1 z2; rintro e w9 ⟨rfl, hb⟩; have JJ := PJ.call hb; clear hb PJ))
      all_goals
        show K2 _ _
        refine hMet _ _ ?_
        try simp only [Act.put, List.getElem_toArray, List.getElem_cons_succ, List.getElem_cons_zero, List.setIfInBounds_toArray, List.set_cons_zero, List.set_cons_succ]
        go_meet
        case rel => exact ⟨by simp, Lib.hid JJ⟩
    case rest =>
      obtain ⟨rfl, J0⟩ := hcut
      rename_i K1 hK1
      refine hK1 _ _ ?_
      clear hK1 KS hQ1 hQ2 hQ3 hRR I6
      cases R with
      | false =>
        go_wp2
        go_ret
        exact ⟨rfl, J0.out.1⟩
      | true =>
        obtain ⟨hf, hn, h8⟩ := right_facts HR.out
        have J0 : Hid (Inv w0.heap.size w0 [(b5, pkO p pa pcap), (b3, lkO l a cap)] wc) := Lib.hid (J0.out.sub (by intro y hy; simp only [List.mem_cons, List.not_mem_nil, or_false] at hy ⊢; rcases hy with rfl | rfl <;> simp))
        have hin14 := fun W h1 h2 => Lib.hid (inC l p a pa cap pcap W h1 h2 hplen (by omega) hcap hpcap hf hn)
        have hin22 := fun W h1 h2 => Lib.hid (rinAny l p a pa cap pcap W hplen h8 hcap hpcap HNC.out h1 h2 hf hn)
        have hM8 := Lib.hid (right_facts (sendM_right x HR.out)).2.2
        have hN8 := Lib.hid (right_facts (inL_right p HR.out)).2.2
        have hs12 := fun W h1 => Lib.hid (sendAny l a cap x W h1 (by omega) hcap)
        have hs21 := fun W h1 => Lib.hid (rsendAny l a cap x W h1 h8 hcap HNC.out)
        have hTl := inL_told_len l p
        generalize inL l p = NT at *
        generalize sendM l x = M at *
        generalize sendE l = E2 at *
        obtain ⟨N, T⟩ := NT
        simp only at hTl
        go_wp2_with ((with_reducible show wpList _ _ _ (Oper.mk _ (Op.load 26 _) _ _ _ none :: _) _ _); refine wl_load26 rfl _ rfl b3 rfl l a cap (J0.out.get _ _ (by simp [lkO])) ?_)
        refine (hs12 _ (S1.out.below J0.out.low)).out.mono ?_
        rintro e w5 ⟨a5, c5, rfl, _, hs5, hc5, hb⟩
        have J1 := Lib.hid ((J0.out.call hb).alloc (lkO M a5 c5))
        have T1 := Lib.hid (hs5.below ((Below.refl _ w5).alloc (Nat.le_refl _) (lkO M a5 c5)))
        clear hb J0 hs5 hs12
        go_wp2_with (first
          | ((with_reducible show wpList _ _ _ (Oper.mk _ (Op.store 26 _ _) _ _ _ _ :: _) _ _); refine wl_store26n rfl _ _ rfl _ M a5 c5 rfl rfl _ rfl (by simp) ?_)
          | ((with_reducible show wpList _ _ _ (Oper.mk _ (Op.load 26 _) _ _ _ none :: _) _ _); refine wl_load26 rfl _ rfl b3 rfl l a cap (J1.out.get _ _ (by simp [lkO])) ?_))
        refine (hs21 _ (S1.out.below J1.out.low)).out.mono ?_
        rintro e w6 ⟨a6, c6, rfl, hs6, hc6, hb⟩
        have J2 := Lib.hid ((J1.out.call hb).alloc (lkO M a6 c6))
        have T2 := Lib.hid ((T1.out.below hb).below ((Below.refl _ w6).alloc (Nat.le_refl _) (lkO M a6 c6)))
        have U2 := Lib.hid (hs6.below ((Below.refl _ w6).alloc (Nat.le_refl _) (lkO M a6 c6)))
        clear hb J1 T1 hs6 hs21
        go_wp2_with (first
          | ((with_reducible show wpList _ _ _ (Oper.mk _ (Op.store 26 _ _) _ _ _ _ :: _) _ _); refine wl_store26n rfl _ _ rfl _ M a6 c6 rfl rfl _ rfl (by simp) ?_)
          | ((with_reducible show wpList _ _ _ (Oper.mk _ (Op.load 38 _) _ _ _ none :: _) _ _); refine wl_load38 rfl _ rfl b5 rfl p pa pcap (J2.out.get _ _ (by simp [pkO])) ?_)
          | ((with_reducible show wpList _ _ _ (Oper.mk _ (Op.load 26 _) _ _ _ none :: _) _ _); refine wl_load26 rfl _ rfl b3 rfl l a cap (J2.out.get _ _ (by simp [lkO])) ?_))
        refine (hin14 _ (S1.out.below J2.out.low) (S3.out.below J2.out.low)).out.mono ?_
        rintro e w7 ⟨a7, c7, ta7, rfl, _, _, hs7, hc7, ht7, hb⟩
        simp only at hs7 hc7 ht7 ⊢
        have J3 := Lib.hid ((J2.out.call hb).alloc (lkO N a7 c7))
        have al := (Below.refl _ w7).alloc (Nat.le_refl _) (lkO N a7 c7)
        have T3 := Lib.hid (And.intro ((T2.out.below hb).below al) (And.intro ((U2.out.below hb).below al) (And.intro (hs7.below al) (ht7.below al))))
        clear hb J2 T2 U2 hs7 ht7 al hin14
        go_wp2_with (first
          | ((with_reducible show wpList _ _ _ (Oper.mk _ (Op.store 26 _ _) _ _ _ _ :: _) _ _); refine wl_store26n rfl _ _ rfl _ N a7 c7 rfl rfl _ rfl (by simp) ?_)
          | ((with_reducible show wpList _ _ _ (Oper.mk _ (Op.load 38 _) _ _ _ none :: _) _ _); refine wl_load38 rfl _ rfl b5 rfl p pa pcap (J3.out.get _ _ (by simp [pkO])) ?_)
          | ((with_reducible show wpList _ _ _ (Oper.mk _ (Op.load 26 _) _ _ _ none :: _) _ _); refine wl_load26 rfl _ rfl b3 rfl l a cap (J3.out.get _ _ (by simp [lkO])) ?_))
        refine (hin22 _ (S1.out.below J3.out.low) (S3.out.below J3.out.low)).out.mono ?_
        rintro e w8 ⟨a8, c8, ta8, tc8, rfl, hs8, hc8, ht8, hb⟩
        simp only at hs8 hc8 ht8 ⊢
        have J4 := Lib.hid ((J3.out.call hb).alloc (lkO N a8 c8))
        have al := (Below.refl _ w8).alloc (Nat.le_refl _) (lkO N a8 c8)
        have T4 := Lib.hid (And.intro ((T3.out.1.below hb).below al) (And.intro ((T3.out.2.1.below hb).below al) (And.intro ((T3.out.2.2.1.below hb).below al) (And.intro ((T3.out.2.2.2.below hb).below al) (And.intro (hs8.below al) (ht8.below al))))))
        clear hb J3 T3 hs8 ht8 al hin22
        go_upto_region 19 with (first
          | ((with_reducible show wpList _ _ _ (Oper.mk _ (Op.store 26 _ _) _ _ _ _ :: _) _ _); refine wl_store26n rfl _ _ rfl _ N a8 c8 rfl rfl _ rfl (by simp) ?_))
        have ew : w8.alloc (lkO N a8 c8) = w8.alloc (.cells (lkA N a8 c8) 26) := rfl
        rw [ew] at J4 T4
        generalize w8.alloc (.cells (lkA N a8 c8) 26) = wz at *
        clear ew
        generalize w5.heap.size = bm at *
        generalize w6.heap.size = bn at *
        generalize w7.heap.size = bp at *
        generalize w8.heap.size = bq at *
        have KS : ∀ W, Below wz.heap.size wz W → (W.cell? ⟨bm, 0, none⟩ = some (.int .i64 M.own) ∧ W.cell? ⟨bm, 1, none⟩ = some (.int .i64 M.other) ∧ W.cell? ⟨bm, 2, none⟩ = some (.int .i64 M.first) ∧ W.cell? ⟨bm, 3, none⟩ = some (.slice a5 M.sent.length c5) ∧ W.cell? ⟨bm, 4, none⟩ = some (.int .i64 M.next) ∧ W.cell? ⟨bn, 0, none⟩ = some (.int .i64 M.own) ∧ W.cell? ⟨bn, 1, none⟩ = some (.int .i64 M.other) ∧ W.cell? ⟨bn, 2, none⟩ = some (.int .i64 M.first) ∧ W.cell? ⟨bn, 3, none⟩ = some (.slice a6 M.sent.length c6) ∧ W.cell? ⟨bn, 4, none⟩ = some (.int .i64 M.next) ∧ W.cell? ⟨bp, 0, none⟩ = some (.int .i64 N.own) ∧ W.cell? ⟨bp, 1, none⟩ = some (.int .i64 N.other) ∧ W.cell? ⟨bp, 2, none⟩ = some (.int .i64 N.first) ∧ W.cell? ⟨bp, 3, none⟩ = some (.slice a7 N.sent.length c7) ∧ W.cell? ⟨bp, 4, none⟩ = some (.int .i64 N.next) ∧ W.cell? ⟨bq, 0, none⟩ = some (.int .i64 N.own) ∧ W.cell? ⟨bq, 1, none⟩ = some (.int .i64 N.other) ∧ W.cell? ⟨bq, 2, none⟩ = some (.int .i64 N.first) ∧ W.cell? ⟨bq, 3, none⟩ = some (.slice a8 N.sent.length c8) ∧ W.cell? ⟨bq, 4, none⟩ = some (.int .i64 N.next) ∧ W.cell? ⟨b3, 0, none⟩ = some (.int .i64 l.own) ∧ W.cell? ⟨b3, 1, none⟩ = some (.int .i64 l.other) ∧ W.cell? ⟨b3, 2, none⟩ = some (.int .i64 l.first) ∧ W.cell? ⟨b3, 3, none⟩ = some (.slice a l.sent.length cap) ∧ W.cell? ⟨b3, 4, none⟩ = some (.int .i64 l.next) ∧ Hid (Below wz.heap.size wz W)) := fun W h => by
          have f0 := five (old_kept h (J4.out.get bm (lkO M a5 c5) (by simp)))
          have f1 := five (old_kept h (J4.out.get bn (lkO M a6 c6) (by simp)))
          have f2 := five (old_kept h (J4.out.get bp (lkO N a7 c7) (by simp)))
          have f3 := five (old_kept h (J4.out.get bq (lkO N a8 c8) (by simp)))
          have f4 := five (old_kept h (J4.out.get b3 (lkO l a cap) (by simp)))
          exact ⟨f0.1, f0.2.1, f0.2.2.1, f0.2.2.2.1, f0.2.2.2.2.1, f1.1, f1.2.1, f1.2.2.1, f1.2.2.2.1, f1.2.2.2.2.1, f2.1, f2.2.1, f2.2.2.1, f2.2.2.2.1, f2.2.2.2.2.1, f3.1, f3.2.1, f3.2.2.1, f3.2.2.2.1, f3.2.2.2.2.1, f4.1, f4.2.1, f4.2.2.1, f4.2.2.2.1, f4.2.2.2.2.1, Lib.hid h⟩
        have q1 : ∀ W, Below wz.heap.size wz W → Hid (Calls Try.prog 17 #[.agg #[.int .i64 M.own, .int .i64 M.other, .int .i64 M.first, .slice a5 M.sent.length c5, .int .i64 M.next], .agg #[.int .i64 M.own, .int .i64 M.other, .int .i64 M.first, .slice a6 M.sent.length c6, .int .i64 M.next]] W fun e w' => e = .returned (.bool true) ∧ Below W.heap.size W w') := fun W h => Lib.hid (by
          have := rsameC M M a5 a6 c5 c6 W (by have := hM8.out; omega) (T4.out.1.below h) (T4.out.2.1.below h)
          rw [(sameB_iff M M).2 rfl] at this
          exact this)
        have q2 : ∀ W, Below wz.heap.size wz W → Hid (Calls Try.prog 17 #[.agg #[.int .i64 N.own, .int .i64 N.other, .int .i64 N.first, .slice a7 N.sent.length c7, .int .i64 N.next], .agg #[.int .i64 N.own, .int .i64 N.other, .int .i64 N.first, .slice a8 N.sent.length c8, .int .i64 N.next]] W fun e w' => e = .returned (.bool true) ∧ Below W.heap.size W w') := fun W h => Lib.hid (by
          have := rsameC N N a7 a8 c7 c8 W (by have : N.sent.length ≤ 8 := hN8.out; omega) (T4.out.2.2.1.below h) (T4.out.2.2.2.2.1.below h)
          rw [(sameB_iff N N).2 rfl] at this
          exact this)
        have q3 : ∀ W, Below wz.heap.size wz W → Hid (Calls Try.prog 15 #[.slice ta7 T.length T.length, .slice ta8 T.length tc8] W fun e w' => e = .returned (.bool true) ∧ Below W.heap.size W w') := fun W h => Lib.hid (by
          have := ints15 T T ta7 ta8 T.length tc8 (by omega) W (T4.out.2.2.2.1.below h) (T4.out.2.2.2.2.2.below h)
          rw [beq_self_eq_true] at this
          exact this)
        have q4 : ∀ W, Below wz.heap.size wz W → Hid (Calls Try.prog 13 #[.agg #[.int .i64 l.own, .int .i64 l.other, .int .i64 l.first, .slice a l.sent.length cap, .int .i64 l.next]] W fun e w' => ∃ a', e = .returned (.agg #[.int .i64 l.own, .int .i64 l.other, .int .i64 l.first, .slice a' l.sent.length l.sent.length, .int .i64 l.next]) ∧ Since' W.heap.size a' ∧ SlIs w' a' l.sent ∧ Below W.heap.size W w') := fun W h => Lib.hid (outX l a cap W ((S1.out.below J4.out.low).below h) (by omega))
        have q5 : ∀ W, Below wz.heap.size wz W → Hid (Calls Try.prog 24 #[.agg #[.int .i64 l.own, .int .i64 l.other, .int .i64 l.first, .slice a l.sent.length cap, .int .i64 l.next]] W fun e w' => ∃ a' c', e = .returned (.agg #[.int .i64 l.own, .int .i64 l.other, .int .i64 l.first, .slice a' l.sent.length c', .int .i64 l.next]) ∧ SlIs w' a' l.sent ∧ Below W.heap.size W w') := fun W h => Lib.hid (rout_any l.own l.other l.first a l.sent cap l.next W ((S1.out.below J4.out.low).below h) (by omega) HNC.out)
        have q6 : ∀ W x y z, SlIs W x l.sent → SlIs W y l.sent → Hid (Calls Try.prog 23 #[.agg #[.int .i64 l.own, .int .i64 l.other, .int .i64 l.first, .slice x l.sent.length l.sent.length, .int .i64 l.next], .agg #[.int .i64 l.own, .int .i64 l.other, .int .i64 l.first, .slice y l.sent.length z, .int .i64 l.next]] W fun e w' => e = .returned (.bool true) ∧ Below W.heap.size W w') := fun W x y z h1 h2 => Lib.hid (samepC (outL l) x y l.sent.length z W (by show l.sent.length ≤ _; omega) h1 h2)
        rename_i K9 hK9
        go_region_held3 (fun W => W.cell? ⟨bm, 0, none⟩ = some (.int .i64 M.own) ∧ W.cell? ⟨bm, 1, none⟩ = some (.int .i64 M.other) ∧ W.cell? ⟨bm, 2, none⟩ = some (.int .i64 M.first) ∧ W.cell? ⟨bm, 3, none⟩ = some (.slice a5 M.sent.length c5) ∧ W.cell? ⟨bm, 4, none⟩ = some (.int .i64 M.next) ∧ W.cell? ⟨bn, 0, none⟩ = some (.int .i64 M.own) ∧ W.cell? ⟨bn, 1, none⟩ = some (.int .i64 M.other) ∧ W.cell? ⟨bn, 2, none⟩ = some (.int .i64 M.first) ∧ W.cell? ⟨bn, 3, none⟩ = some (.slice a6 M.sent.length c6) ∧ W.cell? ⟨bn, 4, none⟩ = some (.int .i64 M.next) ∧ W.cell? ⟨bp, 0, none⟩ = some (.int .i64 N.own) ∧ W.cell? ⟨bp, 1, none⟩ = some (.int .i64 N.other) ∧ W.cell? ⟨bp, 2, none⟩ = some (.int .i64 N.first) ∧ W.cell? ⟨bp, 3, none⟩ = some (.slice a7 N.sent.length c7) ∧ W.cell? ⟨bp, 4, none⟩ = some (.int .i64 N.next) ∧ W.cell? ⟨bq, 0, none⟩ = some (.int .i64 N.own) ∧ W.cell? ⟨bq, 1, none⟩ = some (.int .i64 N.other) ∧ W.cell? ⟨bq, 2, none⟩ = some (.int .i64 N.first) ∧ W.cell? ⟨bq, 3, none⟩ = some (.slice a8 N.sent.length c8) ∧ W.cell? ⟨bq, 4, none⟩ = some (.int .i64 N.next) ∧ W.cell? ⟨b3, 0, none⟩ = some (.int .i64 l.own) ∧ W.cell? ⟨b3, 1, none⟩ = some (.int .i64 l.other) ∧ W.cell? ⟨b3, 2, none⟩ = some (.int .i64 l.first) ∧ W.cell? ⟨b3, 3, none⟩ = some (.slice a l.sent.length cap) ∧ W.cell? ⟨b3, 4, none⟩ = some (.int .i64 l.next) ∧ Hid (Below wz.heap.size wz W))
          (first
            | with_reducible exact KS _ JJ
            | with_reducible exact KS _ (Below.refl _ _).drew)
          (first
            | (go_at_call 17; have PJ := getJ (by assumption); with_reducible refine (q1 _ PJ).out.mono ?_; rintro e w9 ⟨rfl, hb⟩; have JJ := PJ.trans (hb.mono PJ.size); clear hb PJ)
            | (go_at_call 17; have PJ := getJ (by assumption); with_reducible refine (q2 _ PJ).out.mono ?_; rintro e w9 ⟨rfl, hb⟩; have JJ := PJ.trans (hb.mono PJ.size); clear hb PJ)
            | (go_at_call 15; have PJ := getJ (by assumption); with_reducible refine (q3 _ PJ).out.mono ?_; rintro e w9 ⟨rfl, hb⟩; have JJ := PJ.trans (hb.mono PJ.size); clear hb PJ)
            | (go_at_call 13; have PJ := getJ (by assumption); with_reducible refine (q4 _ PJ).out.mono ?_; rintro e w9 ⟨a9, rfl, _, hs9, hb⟩; have SO1 := Lib.hid hs9; (try have SO2 := Lib.hid (SO2.out.below hb)); have JJ := PJ.trans (hb.mono PJ.size); clear hb PJ hs9)
            | (go_at_call 24; have PJ := getJ (by assumption); with_reducible refine (q5 _ PJ).out.mono ?_; rintro e w9 ⟨a10, c10, rfl, hs9, hb⟩; have SO2 := Lib.hid hs9; (try have SO1 := Lib.hid (SO1.out.below hb)); have JJ := PJ.trans (hb.mono PJ.size); clear hb PJ hs9)
            | (go_at_call 23; have PJ := getJ (by assumption); have z1 := SO1.out; have z2 := SO2.out; with_reducible refine (q6 _ _ _ _ z1 z2).out.mono ?_; rintro e w9 ⟨rfl, hb⟩; have JJ := PJ.trans (hb.mono PJ.size); clear hb PJ z1 z2))
        all_goals
          show K9 _ _
          refine hK9 _ _ ?_
          try simp only [Act.put, List.getElem_toArray, List.getElem_cons_succ, List.getElem_cons_zero, List.setIfInBounds_toArray, List.set_cons_zero, List.set_cons_succ]
          have BF := Lib.hid (J4.out.low.trans (JJ.mono J4.out.2.1))
          clear JJ KS q1 q2 q3 q4 q5 q6
          go_wp2
          go_ret
          exact ⟨rfl, BF.out⟩
end Go.Proofs.Ytoblckocmakakaa
