/-
  LinkWaits, walked: no conditions but the input's kind.
-/
import Derived.Test.YtoblckocmakakaaTwiceW
namespace Go.Proofs.Ytoblckocmakakaa
open Go.RowKit
theorem Inv.set5 {B : Nat} {w W : World} {L L' : List (Nat × Obj)} {g : Nat} {c0 c1 c2 c3 c4 v0 v1 v2 v3 v4 : Value} {t : TypeId} (h : Inv B w L W) (hg : B ≤ g) (hm : (g, .cells #[c0, c1, c2, c3, c4] t) ∈ L) (hL : ∀ x ∈ L', x = (g, .cells #[v0, v1, v2, v3, v4] t) ∨ (x ∈ L ∧ x.1 ≠ g)) :
    Inv B w L' (((((W.setCell ⟨g, 0, none⟩ v0).setCell ⟨g, 1, none⟩ v1).setCell ⟨g, 2, none⟩ v2).setCell ⟨g, 3, none⟩ v3).setCell ⟨g, 4, none⟩ v4) := by
  refine ⟨((((h.1.setCell hg _).setCell hg _).setCell hg _).setCell hg _).setCell hg _, by simpa using h.2.1, fun x hx => ?_⟩
  rcases hL x hx with rfl | ⟨hx, hne⟩
  · exact heap_set_at v4 (heap_set_at v3 (heap_set_at v2 (heap_set_at v1 (heap_set_at v0 (h.2.2 _ hm)))))
  · rw [heap_setCell_other _ _ _ _ hne, heap_setCell_other _ _ _ _ hne, heap_setCell_other _ _ _ _ hne, heap_setCell_other _ _ _ _ hne, heap_setCell_other _ _ _ _ hne]
    exact h.2.2 x hx
theorem SlIs.set1 {W : World} {a : Option Addr} {zs : List Int} (h : SlIs W a zs) {g : Nat} (hg : Apart g a) (o : Nat) (v : Value) : SlIs (W.setCell ⟨g, o, none⟩ v) a zs := by
  rcases h with h | ⟨b, off, rfl, hlt, hc⟩
  · exact Or.inl h
  · refine Or.inr ⟨b, off, rfl, by simpa using hlt, fun j hj => ?_⟩
    rw [← hc j hj]
    exact World.cell?_setCell_far _ _ _ _ (Ne.symm (hg b off rfl))
theorem SlIs.set5 {W : World} {a : Option Addr} {zs : List Int} (h : SlIs W a zs) {g : Nat} (hg : Apart g a) (v0 v1 v2 v3 v4 : Value) :
    SlIs (((((W.setCell ⟨g, 0, none⟩ v0).setCell ⟨g, 1, none⟩ v1).setCell ⟨g, 2, none⟩ v2).setCell ⟨g, 3, none⟩ v3).setCell ⟨g, 4, none⟩ v4) a zs :=
  ((((h.set1 hg _ _).set1 hg _ _).set1 hg _ _).set1 hg _ _).set1 hg _ _
theorem Inv.setLk {B : Nat} {w W : World} {L L' : List (Nat × Obj)} {g : Nat} {l : Lk} {r : Option Addr} {c : Nat} {l' : Lk} {r' : Option Addr} {c' : Nat} (h : Inv B w L W) (hg : B ≤ g) (hm : (g, lkO l r c) ∈ L) (hL : ∀ x ∈ L', x = (g, lkO l' r' c') ∨ (x ∈ L ∧ x.1 ≠ g)) :
    Inv B w L' (((((W.setCell ⟨g, 0, none⟩ (.int .i64 l'.own)).setCell ⟨g, 1, none⟩ (.int .i64 l'.other)).setCell ⟨g, 2, none⟩ (.int .i64 l'.first)).setCell ⟨g, 3, none⟩ (.slice r' l'.sent.length c')).setCell ⟨g, 4, none⟩ (.int .i64 l'.next)) := h.set5 hg hm hL
theorem sendX (l : Lk) (a : Option Addr) (cap : Nat) (x : Int) (w : World) (h : SlIs w a l.sent) (hl : l.sent.length ≤ 7) (hcap : l.sent.length ≤ cap) :
    Calls Try.prog 12 #[.agg (lkA l a cap), .int .i64 x] w fun e w' => ∃ a' cap', e = .returned (.tuple #[.agg #[.int .i64 (sendL l x).own, .int .i64 (sendL l x).other, .int .i64 (sendL l x).first, .slice a' (sendL l x).sent.length cap', .int .i64 (sendL l x).next], .int .i64 0]) ∧ Since' w.heap.size a' ∧ SlIs w' a' (sendL l x).sent ∧ (sendL l x).sent.length ≤ cap' ∧ Below w.heap.size w w' :=
  sendC l a cap x w h hl hcap
theorem outX (l : Lk) (a : Option Addr) (cap : Nat) (w : World) (h : SlIs w a l.sent) (hl : l.sent.length ≤ 100) :
    Calls Try.prog 13 #[.agg (lkA l a cap)] w fun e w' => ∃ a', e = .returned (.agg #[.int .i64 l.own, .int .i64 l.other, .int .i64 l.first, .slice a' l.sent.length l.sent.length, .int .i64 l.next]) ∧ Since' w.heap.size a' ∧ SlIs w' a' l.sent ∧ Below w.heap.size w w' :=
  outC l a cap w h hl
theorem inX (l : Lk) (p : Pk) (a pa : Option Addr) (cap pcap : Nat) (w : World) (h1 : SlIs w a l.sent) (h2 : SlIs w pa p.words) (hl : p.words.length ≤ 9223372036854775807) (hs : l.sent.length ≤ 100) (hcap : l.sent.length ≤ cap) (hpcap : p.words.length ≤ pcap)
    (hf : 0 ≤ l.first ∧ l.first ≤ 4611686018427387904) (hn : 0 ≤ l.next ∧ l.next ≤ 4611686018427387904) (m : Lk) (t : List Int) (hm : inL l p = (m, t)) :
    Calls Try.prog 14 #[.agg (lkA l a cap), .agg (pkA p pa pcap)] w fun e w' => ∃ a' cap' ta, e = .returned (.tuple #[.agg #[.int .i64 m.own, .int .i64 m.other, .int .i64 m.first, .slice a' m.sent.length cap', .int .i64 m.next], .slice ta t.length t.length]) ∧ From a a' ∧ Since' w.heap.size ta ∧ SlIs w' a' m.sent ∧ m.sent.length ≤ cap' ∧ SlIs w' ta t ∧ Below w.heap.size w w' := by
  have := inC l p a pa cap pcap w h1 h2 hl hs hcap hpcap hf hn
  rw [hm] at this
  exact this
def six (ws : List Int) : Lk := ⟨6, 0, 0, ws, 0⟩
def two (n : Int) : Lk := ⟨2, 6, 0, [], n⟩
theorem waits_1 (ws : List Int) (h8 : ws.length ≤ 8) : inL (newL 2) (outL (six ws)) = (two ws.length, ws) := by
  have hm : mayP (newL 2) (outL (six ws)) = true := by
    unfold mayP mayB newL outL six
    simp [h8]
  rw [inL_yes hm]
  have eB : inB (inA (newL 2) (outL (six ws))) (outL (six ws)) = ⟨2, 6, 0, [], 0⟩ := by
    unfold inB inA newL outL six
    simp
  have eT : toldC ⟨2, 6, 0, [], 0⟩ (outL (six ws)) = ws := by
    unfold toldC outL six
    cases ws with
    | nil => simp
    | cons z zs => rw [if_neg] <;> simp
  rw [eB, eT]
  simp [two]
theorem waits_2 (ws : List Int) (h8 : ws.length ≤ 8) : inL (six ws) (outL (two ws.length)) = (⟨6, 2, ws.length, [], 0⟩, []) := by
  have hm : mayP (six ws) (outL (two ws.length)) = true := by
    unfold mayP mayB outL six two
    simp
    omega
  rw [inL_yes hm]
  have eB : inB (inA (six ws) (outL (two ws.length))) (outL (two ws.length)) = ⟨6, 2, ws.length, [], 0⟩ := by
    unfold inB inA outL six two
    cases ws with
    | nil => simp
    | cons z zs => simp
  have eT : toldC ⟨6, 2, ws.length, [], 0⟩ (outL (two ws.length)) = [] := by
    unfold toldC outL two
    simp
  rw [eB, eT]
  simp
set_option maxHeartbeats 4000000 in
theorem linkWaits_walk (w0 : World) (a : Option Addr) (ws : List Int) (cap : Nat) (_hcap : ws.length ≤ cap) (hlen : ws.length ≤ 9223372036854775807) (sw : SlIs w0 a ws) :
    Calls Try.prog 8 #[.slice a ws.length cap] w0 fun e w' => e = .returned (.bool true) ∧ Below w0.heap.size w0 w' := by
  have I0 := Lib.hid (Inv.start w0)
  have S1 := Lib.hid sw
  clear sw
  go_enter Try.func8, Try.ntmps8
  go_wp2_with fail
  refine (shown10 _).mono ?_
  rintro e w1 ⟨rfl, hb⟩
  have I1 := I0.out.call' hb
  clear hb I0
  by_cases h8 : ws.length ≤ 8
  · go_wp2_with fail
    refine (newC 6 _ (by decide) (by decide)).mono ?_
    rintro e w2 ⟨rfl, hb⟩
    have I2 := I1.out.call' hb
    clear hb I1
    go_wp2_with (first
      | ((with_reducible show wpList _ _ _ (Oper.mk _ (Op.store 26 _ _) _ _ _ _ :: _) _ _); refine wl_store26n rfl _ _ rfl _ (newL 6) none 0 rfl rfl _ rfl (by simp) ?_))
    have I3 := Lib.hid (I2.out.alloc (lkO (newL 6) none 0))
    have g2 := I2.out.2.1
    clear I2
    refine (newC 2 _ (by decide) (by decide)).mono ?_
    rintro e w3 ⟨rfl, hb⟩
    have I4 := I3.out.call' hb
    clear hb I3
    go_wp2_with (first
      | ((with_reducible show wpList _ _ _ (Oper.mk _ (Op.store 26 _ _) _ _ _ _ :: _) _ _); refine wl_store26n rfl _ _ rfl _ (newL 2) none 0 rfl rfl _ rfl (by simp) ?_))
    have l1 := I4.out.lt w2.heap.size _ (List.mem_cons_self ..)
    have I5 := Lib.hid (I4.out.alloc (lkO (newL 2) none 0))
    clear I4
    generalize w2.heap.size = b4 at *
    generalize w3.heap.size = b6 at *
    go_loopw [8] (fun i wr => ∃ n : Nat, n ≤ ws.length ∧ i = .int .i64 n ∧ ∃ r c, Hid (Inv w0.heap.size w0 [(b6, lkO (newL 2) none 0), (b4, lkO (six (ws.take n)) r c)] wr ∧ SlIs wr r (ws.take n) ∧ (ws.take n).length ≤ c ∧ Apart b4 r ∧ Apart b6 r)) (fun i _ => ws.length - (intOf i).toNat)
    case atStart => exact ⟨0, by omega, rfl, none, 0, Lib.hid ⟨I5.out, SlIs.nil _ _, by simp, Apart.nil _, Apart.nil _⟩⟩
    case round =>
      obtain ⟨n, hn, rfl, r, c, HW⟩ := hrel
      by_cases hlt : n < ws.length
      · obtain ⟨b, off, rfl, hcs⟩ := (S1.out.below HW.out.1.1).some (by omega)
        have hx := hcs n hlt
        have e1 : ws.take (n + 1) = ws.take n ++ [ws[n]] := List.take_succ_eq_append_getElem hlt
        generalize ws[n] = x at hx e1
        have E1 := Lib.hid e1
        have hsd : sendL (six (ws.take n)) x = six (ws.take (n + 1)) := by rw [E1.out]; rfl
        have h7 : (six (ws.take n)).sent.length ≤ 7 := by show (ws.take n).length ≤ 7; rw [List.length_take]; omega
        have HSD := Lib.hid hsd
        have HW : Hid (Inv w0.heap.size w0 [(b6, lkO (newL 2) none 0), (b4, lkO (six (ws.take n)) r c)] wr ∧ SlIs wr r (six (ws.take n)).sent ∧ (six (ws.take n)).sent.length ≤ c) := Lib.hid ⟨HW.out.1, HW.out.2.1, HW.out.2.2.1⟩
        clear hcs e1 hsd
        generalize six (ws.take n) = L at *
        obtain ⟨c0, c1, c2, c3, c4, f0, f1, f2, f3, f4⟩ := five' (HW.out.1.get b4 (lkO L r c) (by simp))
        go_upto_region 9 with (fail)
        rename_i K9 hK9
        go_region_with (first
          | (go_at_call 12; refine (sendX L r c x _ (HW.out.2.1.below (Below.refl _ _).drew) h7 HW.out.2.2).mono ?_; rintro e w5 ⟨a', cap', rfl, hsi, hs, hc, hb⟩; have I6 := HW.out.1.drew.call' hb; obtain ⟨d0, d1, d2, d3, d4, e0, e1, e2, e3, e4⟩ := five' (I6.out.get b4 (lkO L r c) (by simp)); rw [HSD.out] at hs hc; rw [HSD.out]; have HX := Lib.hid (And.intro hsi (And.intro hs hc)); clear hsi hs hc hb))
        all_goals
          show K9 _ _
          refine hK9 _ _ ?_
          clear c0 c1 c2 c3 c4 f0 f1 f2 f3 f4 d0 d1 d2 d3 d4 e0 e1 e2 e3 e4
          go_wp2
          go_roundw
          case rel =>
            have q := Array.getElem?_eq_some_iff.1 (HW.out.1.get b4 (lkO L r c) (by simp))
            have q2 := Array.getElem?_eq_some_iff.1 (HW.out.1.get b6 (lkO (newL 2) none 0) (by simp))
            have p4 : Apart b4 a' := HX.out.1.apart (by simpa using q.1)
            have p6 : Apart b6 a' := HX.out.1.apart (by simpa using q2.1)
            exact ⟨n + 1, by omega, by go_num, a', cap', Lib.hid ⟨I6.out.setLk g2 (l := L) (r := r) (c := c) (by simp) (by
              intro y hy
              simp only [List.mem_cons, List.not_mem_nil, or_false] at hy
              rcases hy with rfl | rfl
              · exact Or.inr ⟨by simp, Nat.ne_of_gt l1⟩
              · exact Or.inl rfl), HX.out.2.1.set5 p4 _ _ _ _ _, HX.out.2.2, p4, p6⟩⟩
          case measure => simp [intOf]; omega
      · have en : n = ws.length := by omega
        subst en
        have HW2 : Hid (Inv w0.heap.size w0 [(b6, lkO (newL 2) none 0), (b4, lkO (six ws) r c)] wr ∧ SlIs wr r ws ∧ ws.length ≤ c ∧ Apart b4 r ∧ Apart b6 r) := by
          have := HW.out
          rw [List.take_length] at this
          exact Lib.hid this
        clear HW
        go_upto_region 10 with (fail)
        go_cut [9] from 24 (fun v wc => ∃ ta a2 z2, v = .slice ta ws.length ws.length ∧ Hid (Inv w0.heap.size w0 [(b6, lkO (two ws.length) a2 z2), (b4, lkO (six ws) r c)] wc ∧ SlIs wc r ws ∧ SlIs wc ta ws ∧ Apart b4 ta))
        case first =>
          rename_i J1 K2 hJ hMet
          obtain ⟨c0, c1, c2, c3, c4, _⟩ := five (HW2.out.1.get b4 (lkO (six ws) r c) (by simp))
          obtain ⟨d0, d1, d2, d3, d4, _⟩ := five (HW2.out.1.get b6 (lkO (newL 2) none 0) (by simp))
          go_region_with (first
            | (go_at_call 13; refine (outX (six ws) r c _ (HW2.out.2.1.below (Below.refl _ _).drew) (by show ws.length ≤ 100; omega)).mono ?_; rintro e w5 ⟨a5, rfl, hsi, hs, hb⟩; have I6 := HW2.out.1.drew.call' hb; have S6 := Lib.hid hs; have R6 := Lib.hid ((HW2.out.2.1.below (Below.refl _ _).drew).below hb); obtain ⟨d0, d1, d2, d3, d4, _⟩ := five (I6.out.get b6 (lkO (newL 2) none 0) (by simp)); clear hsi hs hb)
            | (go_at_call 14; refine (inX (newL 2) (outL (six ws)) none a5 0 ws.length _ (SlIs.nil _ _) S6.out (by show ws.length ≤ 9223372036854775807; omega) (by decide) (by decide) (Nat.le_refl _) (by decide) (by decide) _ _ (waits_1 ws h8)).mono ?_; rintro e w6 ⟨a6, cap6, ta, rfl, hfr, hsi, hs, hc, ht, hb⟩; have I7 := I6.out.call' hb; have R7 := Lib.hid (R6.out.below hb); have T7 := Lib.hid ht; have F7 := hsi.apart (I6.out.lt b6 _ (List.mem_cons_self ..)); have F8 := hsi.apart (I6.out.lt b4 (lkO (six ws) r c) (by simp)); obtain ⟨d0, d1, d2, d3, d4, e0, e1, e2, e3, e4⟩ := five' (I7.out.get b6 (lkO (newL 2) none 0) (by simp)); clear hsi hs hb hfr hc ht))
          all_goals
            show K2 _ _
            refine hMet _ _ ?_
            simp only [Act.put, List.getElem_toArray, List.getElem_cons_succ, List.getElem_cons_zero, List.setIfInBounds_toArray, List.set_cons_zero, List.set_cons_succ]
            go_meet
            case rel =>
              have q := Array.getElem?_eq_some_iff.1 (HW2.out.1.get b6 (lkO (newL 2) none 0) (by simp))
              refine ⟨ta, a6, cap6, rfl, Lib.hid ⟨I7.out.setLk (l := newL 2) (r := none) (c := 0) (l' := two ws.length) (by omega) (by simp) ?_, R7.out.set5 HW2.out.2.2.2.2 _ _ _ _ _, T7.out.set5 ?_ _ _ _ _ _, F8⟩⟩
              · intro y hy
                simp only [List.mem_cons, List.not_mem_nil, or_false] at hy
                rcases hy with rfl | rfl
                · exact Or.inl rfl
                · exact Or.inr ⟨by simp, Nat.ne_of_lt l1⟩
              · exact F7
        case rest =>
          obtain ⟨ta, a2, z2, rfl, HC⟩ := hcut
          have pr : Apart b4 r := HW2.out.2.2.2.1
          have hc4 := HW2.out.2.2.1
          clear HW2
          rename_i K1 hK1
          refine hK1 _ _ ?_
          clear hK1
          go_upto_region 11 with (fail)
          go_cut [] from 24 (fun wc => ∃ a3 c3 a4 c4, Hid (Inv w0.heap.size w0 [(b6, lkO (two ws.length) a3 c3), (b4, lkO ⟨6, 2, ws.length, [], 0⟩ a4 c4)] wc ∧ SlIs wc ta ws))
          case first =>
            rename_i J1 K2 hJ hMet
            obtain ⟨c0, c1, c2, c3, c4, _⟩ := five (HC.out.1.get b4 (lkO (six ws) r c) (by simp))
            obtain ⟨d0, d1, d2, d3, d4, _⟩ := five (HC.out.1.get b6 (lkO (two ws.length) a2 z2) (by simp))
            go_region_with (first
              | (go_at_call 13; refine (outX (two ws.length) a2 z2 _ (SlIs.nil _ _) (Nat.zero_le _)).mono ?_; rintro e w5 ⟨a5, rfl, hsi, hs, hb⟩; have I6 := HC.out.1.drew.call' hb; have R6 := Lib.hid ((HC.out.2.1.below (Below.refl _ _).drew).below hb); have T6 := Lib.hid ((HC.out.2.2.1.below (Below.refl _ _).drew).below hb); obtain ⟨c0, c1, c2, c3, c4, _⟩ := five (I6.out.get b4 (lkO (six ws) r c) (by simp)); clear hsi hs hb)
              | (go_at_call 14; refine (inX (six ws) (outL (two ws.length)) r a5 c 0 _ R6.out (SlIs.nil _ _) (Nat.zero_le _) (by show ws.length ≤ 100; omega) hc4 (Nat.zero_le _) (by simp [six]) (by simp [six]) _ _ (waits_2 ws h8)).mono ?_; rintro e w6 ⟨a6, cap6, tb, rfl, hfr, hsi, hs, hc, ht, hb⟩; have I7 := I6.out.call' hb; have T7 := Lib.hid (T6.out.below hb); obtain ⟨d0, d1, d2, d3, d4, e0, e1, e2, e3, e4⟩ := five' (I7.out.get b4 (lkO (six ws) r c) (by simp)); clear hsi hs hb hfr hc ht))
            all_goals
              show K2 _ _
              refine hMet _ _ ?_
              go_meet
              case rel =>
                refine ⟨a2, z2, a6, cap6, Lib.hid ⟨I7.out.setLk (l := six ws) (r := r) (c := c) (l' := ⟨6, 2, ws.length, [], 0⟩) g2 (by simp) ?_, T7.out.set5 HC.out.2.2.2 _ _ _ _ _⟩⟩
                intro y hy
                simp only [List.mem_cons, List.not_mem_nil, or_false] at hy
                rcases hy with rfl | rfl
                · exact Or.inr ⟨by simp, Nat.ne_of_gt l1⟩
                · exact Or.inl rfl
          case rest =>
            obtain ⟨a3, c3, a4, c4, HD⟩ := hcut
            clear HC pr hc4
            rename_i K1 hK1
            refine hK1 _ _ ?_
            clear hK1
            go_wp2_with (first
              | ((with_reducible show wpList _ _ _ (Oper.mk _ (Op.load 26 _) _ _ _ none :: _) _ _); refine wl_load26 rfl _ rfl b6 rfl (two ws.length) a3 c3 (HD.out.1.get _ _ (by simp [lkO])) ?_))
            refine (outC (two ws.length) a3 c3 _ (SlIs.nil _ _) (Nat.zero_le _)).mono ?_
            rintro e w7 ⟨a5, rfl, _, _, hb⟩
            have I8 := Lib.hid ((HD.out.1.call hb).alloc (pkO (outL (two ws.length)) a5 0))
            have T8 := Lib.hid ((HD.out.2.below hb).below ((Below.refl _ w7).alloc (Nat.le_refl _) (pkO (outL (two ws.length)) a5 0)))
            clear hb HD
            go_wp2_with (first
              | ((with_reducible show wpList _ _ _ (Oper.mk _ (Op.store 38 _ _) _ _ _ _ :: _) _ _); refine wl_store38n rfl _ _ rfl _ (outL (two ws.length)) a5 0 rfl rfl _ rfl (by simp) ?_))
            refine (ints15 ws ws ta a ws.length cap hlen _ T8.out (S1.out.below I8.out.1)).mono ?_
            rintro e w9 ⟨rfl, hb⟩
            rw [beq_self_eq_true]
            have I9 := I8.out.call' hb
            clear hb I8 T8
            have p4 : w9.cell? ⟨w7.heap.size, 4, none⟩ = some (.int .i64 ws.length) := (five (I9.out.get w7.heap.size (pkO (outL (two ws.length)) a5 0) (by simp))).2.2.2.2.1
            have q3 : w9.cell? ⟨b4, 3, none⟩ = some (.slice a4 0 c4) := (five (I9.out.get b4 (lkO ⟨6, 2, ws.length, [], 0⟩ a4 c4) (by simp))).2.2.2.1
            have q2 : w9.cell? ⟨b4, 2, none⟩ = some (.int .i64 ws.length) := (five (I9.out.get b4 (lkO ⟨6, 2, ws.length, [], 0⟩ a4 c4) (by simp))).2.2.1
            have q1 : w9.cell? ⟨b4, 1, none⟩ = some (.int .i64 2) := (five (I9.out.get b4 (lkO ⟨6, 2, ws.length, [], 0⟩ a4 c4) (by simp))).2.1
            go_wp2_with fail
            go_ret
            exact ⟨rfl, I9.out.1⟩
  · go_wp2
    go_ret
    exact ⟨rfl, I1.out.1⟩
end Go.Proofs.Ytoblckocmakakaa
