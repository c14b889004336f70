/-
  LinkComes, walked: no conditions but the input's kind.
-/
import Derived.Test.YtoblckocmakakaaComesSt
import Derived.Deep.CutRange
namespace Go.Proofs.Ytoblckocmakakaa
open Go.RowKit
theorem newbox_alloc' {wr W : World} {M : Lk} {a : Option Addr} {c : Nat} (h : Below wr.heap.size wr W) (hs : SlIs W a M.sent) (hc : M.sent.length ≤ c) (ho : Old W a) : NewBox wr (W.alloc (.cells #[.int .i64 M.own, .int .i64 M.other, .int .i64 M.first, .slice a M.sent.length c, .int .i64 M.next] 26)) W.heap.size M a c := newbox_alloc h hs hc ho
theorem slis_alloc {W : World} {a : Option Addr} {zs : List Int} {cs : Array Value} {t : TypeId} (h : SlIs W a zs) : SlIs (W.alloc (.cells cs t)) a zs := h.below ((Below.refl _ _).alloc (Nat.le_refl _) _)
theorem getC {p q r s t u v x y z : Prop} {k : Nat} {w W : World} (h : p ∧ q ∧ r ∧ s ∧ t ∧ u ∧ v ∧ x ∧ y ∧ z ∧ Hid (Below k w W)) : Below k w W := h.2.2.2.2.2.2.2.2.2.2.out
theorem getB {p q r s t u : Prop} {k : Nat} {w W : World} (h : p ∧ q ∧ r ∧ s ∧ t ∧ u ∧ Hid (Below k w W)) : Below k w W := h.2.2.2.2.2.2.out
set_option maxRecDepth 20000 in
set_option maxHeartbeats 8000000 in
theorem linkComes_walk (w0 : World) (a : Option Addr) (ws : List Int) (cap : Nat) (_hcap : ws.length ≤ cap) (hlen : ws.length ≤ 9223372036854775807) (sw : SlIs w0 a ws) :
    Calls Try.prog 4 #[.slice a ws.length cap] w0 fun e w' => e = .returned (.bool true) ∧ Below w0.heap.size w0 w' := by
  have I0 := Lib.hid (Inv.start w0)
  have S1 := Lib.hid sw
  clear sw
  go_enter Try.func4, Try.ntmps4
  go_wp2_with fail
  refine (shown10 _).mono ?_
  rintro e w1 ⟨rfl, hb⟩
  have I1 := I0.out.call' hb
  clear hb I0
  by_cases h8 : ws.length ≤ 40
  · go_wp2_with fail
    refine (newC 1 _ (by decide) (by decide)).mono ?_
    rintro e w2 ⟨rfl, hb⟩
    have I2 := I1.out.call' hb
    clear hb I1
    go_wp2_with (first
      | ((with_reducible show wpList _ _ _ (Oper.mk _ (Op.store 26 _ _) _ _ _ _ :: _) _ _); refine wl_store26n rfl _ _ rfl _ (newL 1) none 0 rfl rfl _ rfl (by simp) ?_))
    have I3 := Lib.hid (I2.out.alloc (lkO (newL 1) none 0))
    have g2 := I2.out.2.1
    clear I2
    refine (newC 1 _ (by decide) (by decide)).mono ?_
    rintro e w3 ⟨rfl, hb⟩
    have I4 := I3.out.call' hb
    clear hb I3
    go_wp2_with (first
      | ((with_reducible show wpList _ _ _ (Oper.mk _ (Op.store 26 _ _) _ _ _ _ :: _) _ _); refine wl_store26n rfl _ _ rfl _ (newL 1) none 0 rfl rfl _ rfl (by simp) ?_))
    have l1 := I4.out.lt w2.heap.size _ (List.mem_cons_self ..)
    have I5 := Lib.hid (I4.out.alloc (lkO (newL 1) none 0))
    clear I4
    generalize w2.heap.size = b4 at *
    generalize w3.heap.size = b6 at *
    go_loopw [8, 9] (fun tv i wr => ∃ n j : Nat, n ≤ ws.length ∧ i = .int .i64 n ∧ (n < ws.length → j = n - n % 8) ∧ (n = ws.length → j = n) ∧ ∃ r c s t, Hid (St w0 b4 b6 (cA j ((ws.take n).drop j)) r c (cB j) s t tv (ws.take j) wr)) (fun _ i _ => ws.length - (intOf i).toNat)
    case atStart =>
      refine ⟨0, 0, by omega, rfl, by omega, by omega, none, 0, none, 0, Lib.hid ?_⟩
      exact { bel := I5.out.1, le := g2, lt := l1, a := I5.out.get b4 _ (by simp; exact Or.inr rfl), b := I5.out.get b6 _ (by simp; exact Or.inl rfl), sa := SlIs.nil _ _, ca := by simp [cA], sb := SlIs.nil _ _, cb := by simp [cB], own := ⟨by simp, Or.inl ⟨rfl, by simp⟩⟩, p4 := Apart.nil _, p6 := Apart.nil _, q4 := Apart.nil _, q6 := Apart.nil _, pt := fun g e => (by cases e), qt := fun g e => (by cases e), rl := fun _ _ e => (by cases e), sl := fun _ _ e => by cases e }
    case round =>
      obtain ⟨n, j, hn, rfl, hj1, hj2, r, c, s, t, HW⟩ := hrel
      by_cases hlt : n < ws.length
      · obtain ⟨b, off, rfl, hcs⟩ := (S1.out.below HW.out.bel).some (by omega)
        have hx := hcs n hlt
        have hbl : b < w0.heap.size := by
          rcases S1.out with e | ⟨b', off', e, hl, _⟩
          · rw [e] at hlt; simp at hlt
          · cases e; exact hl
        have ej : j = n - n % 8 := hj1 hlt
        have e1 : (ws.take (n + 1)).drop j = (ws.take n).drop j ++ [ws[n]] := by
          rw [List.take_succ_eq_append_getElem hlt, List.drop_append_of_le_length (by rw [List.length_take]; omega)]
        have hpl : ((ws.take n).drop j).length = n % 8 := by rw [List.length_drop, List.length_take]; omega
        generalize ws[n] = x at hx e1
        have E1 := Lib.hid e1
        clear hcs e1 hj1 hj2
        have hsd : sendL (cA j ((ws.take n).drop j)) x = cA j ((ws.take (n + 1)).drop j) := by rw [E1.out]; rfl
        have HSD := Lib.hid hsd
        have hA7 : (cA j ((ws.take n).drop j)).sent.length ≤ 7 := by show ((ws.take n).drop j).length ≤ 7; omega
        have EJ := Lib.hid ej
        have HNE : Hid ((cA j ((ws.take (n + 1)).drop j)).sent ≠ []) := Lib.hid (by rw [← hsd]; show (ws.take n).drop j ++ [x] ≠ []; simp)
        clear hsd ej
        generalize hA : cA j ((ws.take n).drop j) = A at *
        clear hA
        have hB0 : (cB j).sent = [] := rfl
        have hTL : (ws.take j).length = j := by have := EJ.out; rw [List.length_take]; omega
        -- the word is sent
        have KS : ∀ W, Below wr.heap.size wr W → (W.cell? ⟨b4, 0, none⟩ = some (.int .i64 A.own) ∧ W.cell? ⟨b4, 1, none⟩ = some (.int .i64 A.other) ∧ W.cell? ⟨b4, 2, none⟩ = some (.int .i64 A.first) ∧ W.cell? ⟨b4, 3, none⟩ = some (.slice r A.sent.length c) ∧ W.cell? ⟨b4, 4, none⟩ = some (.int .i64 A.next) ∧ W.cell? ⟨b, off + n, none⟩ = some (.int .i64 x) ∧ Hid (Below wr.heap.size wr W)) := fun W hb => by
          have f := five (old_kept hb HW.out.a)
          exact ⟨f.1, f.2.1, f.2.2.1, f.2.2.2.1, f.2.2.2.2.1, (hb.cell (by have := HW.out.lt6; have := HW.out.le; have := HW.out.lt; show b < _; omega)).trans hx, Lib.hid hb⟩
        go_upto_region 10 with (fail)
        go_cut [10, 11] from 39 to 104 (fun v10 v11 wc => ∃ b10 a' c', v10 = .pointer (some ⟨b10, 0, none⟩) ∧ v11 = .int .i64 0 ∧ Hid (NewBox wr wc b10 (cA j ((ws.take (n + 1)).drop j)) a' c' ∧ Since' wr.heap.size a'))
        case first =>
          rename_i J1 K2 hJ hMet
          go_region_held3 (fun W => W.cell? ⟨b4, 0, none⟩ = some (.int .i64 A.own) ∧ W.cell? ⟨b4, 1, none⟩ = some (.int .i64 A.other) ∧ W.cell? ⟨b4, 2, none⟩ = some (.int .i64 A.first) ∧ W.cell? ⟨b4, 3, none⟩ = some (.slice r A.sent.length c) ∧ W.cell? ⟨b4, 4, none⟩ = some (.int .i64 A.next) ∧ W.cell? ⟨b, off + n, none⟩ = some (.int .i64 x) ∧ Hid (Below wr.heap.size wr W))
            (first
              | with_reducible exact KS _ (below_chain B5 (Nat.le_refl _) _ _ _ _ _)
              | with_reducible exact KS _ B5
              | with_reducible exact KS _ (B5.alloc B5.size _)
              | with_reducible exact KS _ ((Below.refl _ _).alloc (Nat.le_refl _) _).drew
              | with_reducible exact KS _ (Below.refl _ _).drew)
            (first
              | (go_at_call 12; have PB := getB (by assumption); refine (sendX A r c x _ (HW.out.sa.below PB) hA7 HW.out.ca).mono ?_; rintro e w5 ⟨a', cap', rfl, hsi, hs, hc, hb⟩; rw [HSD.out] at hs hc; rw [HSD.out]; have B5 := PB.trans (hb.mono PB.size); have HX := Lib.hid (And.intro (hsi.mono PB.size) (And.intro hs hc)); have Y5 := five' (heap_alloc_new w5 (.cells #[.int .i64 0, .int .i64 0, .int .i64 0, .slice none 0 0, .int .i64 0] 26)); obtain ⟨y0, y1, y2, y3, y4, x0, x1, x2, x3, x4⟩ := Y5; (try (have z5' := new_kept_d hb; have z5 : w5.heap[wr.heap.size]? = some (.cells #[.int .i64 0, .int .i64 0, .int .i64 0, .slice none 0 0, .int .i64 0] 26) := z5'; clear z5'; obtain ⟨n0, n1, n2, n3, n4, o0, o1, o2, o3, o4⟩ := five' z5; have Z5 := Lib.hid z5; have ap : Apart wr.heap.size a' := hsi.apart (by simp); clear z5)); clear hsi hs hc hb PB))
          all_goals
            show K2 _ _
            refine hMet _ _ ?_
            try simp only [Act.put, List.getElem_toArray, List.getElem_cons_succ, List.getElem_cons_zero, List.setIfInBounds_toArray, List.set_cons_zero, List.set_cons_succ]
            go_meet
            case rel =>
              first
                | (have NB := newbox_set (M := cA j ((ws.take (n + 1)).drop j)) (a := a') (c := cap') B5 (Nat.le_refl _) Z5.out HX.out.2.1 HX.out.2.2 (HX.out.2.1.old HNE.out) ap
                   with_reducible exact ⟨_, a', cap', rfl, rfl, Lib.hid ⟨NB, HX.out.1⟩⟩)
                | (have NB := newbox_alloc (M := cA j ((ws.take (n + 1)).drop j)) (a := a') (c := cap') B5 HX.out.2.1 HX.out.2.2 (HX.out.2.1.old HNE.out)
                   exact ⟨_, a', cap', rfl, rfl, Lib.hid ⟨NB, HX.out.1⟩⟩)
        case rest =>
          obtain ⟨b10, a', c', rfl, rfl, HN⟩ := hcut
          rename_i K1 hK1
          refine hK1 _ _ ?_
          clear hK1 KS
          have HW1 := Lib.hid ((HW.out.below HN.out.1.1).setA (M := cA j ((ws.take (n + 1)).drop j)) (a' := a') (c' := c') HN.out.1.2.2.2.1 HN.out.1.2.2.2.2.1 (HN.out.2.apart (by have := HW.out.lt6; have := HW.out.lt; omega)) (HN.out.2.apart HW.out.lt6) (fun g e => HN.out.2.apart (own_block HW.out.own e).2.1) HN.out.1.2.2.2.2.2)
          go_upto_region 14 with (first
            | ((with_reducible show wpList _ _ _ (Oper.mk _ (Op.load 26 _) _ _ _ none :: _) _ _); refine wl_load26 rfl _ rfl b10 rfl (cA j ((ws.take (n + 1)).drop j)) a' c' HN.out.1.2.2.1 ?_)
            | ((with_reducible show wpList _ _ _ (Oper.mk _ (Op.store 26 _ _) _ _ _ _ :: _) _ _); refine wl_store26 rfl _ _ rfl b4 (cA j ((ws.take (n + 1)).drop j)) a' c' rfl rfl A r c (old_kept HN.out.1.1 HW.out.a) ?_))
          generalize wc.setRow b4 (lkA (cA j ((ws.take (n + 1)).drop j)) a' c') = W1 at *
          clear HN HNE HSD hA7 hTL hx E1
          go_cut [60] from 61 to 104 (fun v w9 => v = .bool (decide (n % 8 = 7 ∨ n + 1 = ws.length)) ∧ Hid (St w0 b4 b6 (cA j ((ws.take (n + 1)).drop j)) a' c' (cB j) s t u8 (ws.take j) w9))
          case first =>
            by_cases h7 : n % 8 = 7
            · have h7' : ((n : Int) % 8 == 7) = true := by rw [beq_iff_eq]; omega
              go_wp2
              all_goals
                go_meet
                case rel => exact ⟨by simp [h7], HW1⟩
            · have h7' : ((n : Int) % 8 == 7) = false := by rw [beq_eq_false_iff_ne]; omega
              have hq : ((n : Int) == (ws.length : Int) - 1) = decide (n % 8 = 7 ∨ n + 1 = ws.length) := by rw [Bool.eq_iff_iff, beq_iff_eq, decide_eq_true_eq]; omega
              have HQ := Lib.hid hq
              clear hq
              go_wp2
              all_goals
                go_meet
                case rel => exact ⟨congrArg Value.bool HQ.out, HW1⟩
          case rest =>
            obtain ⟨rfl, HW2⟩ := hcut
            clear HW HW1
            rename_i K1 hK1
            refine hK1 _ _ ?_
            clear hK1
            by_cases hf : n % 8 = 7 ∨ n + 1 = ws.length
            · have hd : decide (n % 8 = 7 ∨ n + 1 = ws.length) = true := decide_eq_true hf
              rw [hd]
              clear hd

              have hm1 : (ws.take (n + 1)).drop j = (ws.take (n + 1)).drop j := rfl
              generalize hP : (ws.take (n + 1)).drop j = P at *
              have hPl : P.length = n % 8 + 1 := by rw [← hP, List.length_drop, List.length_take]; have := EJ.out; omega
              have hm : j + P.length = n + 1 := by have := EJ.out; omega
              have hT : ws.take j ++ P = ws.take (n + 1) := by
                rw [← hP]
                have e : ws.take j = (ws.take (n + 1)).take j := by rw [List.take_take]; congr 1; have := EJ.out; omega
                rw [e, List.take_append_drop]
              have hPne : P ≠ [] := by intro e; rw [e] at hPl; simp at hPl
              have e1 := comes_1 j P (by omega) (by omega) (by omega)
              have e2 := comes_2 j P (by omega) (by omega) (by omega)
              have e3 := comes_3 (n + 1) (by omega) (by omega)
              have e4 := comes_4 (n + 1) (by omega) (by omega)
              rw [hm] at e1 e2
              have qA : (cA j P).sent.length ≤ 100 ∧ (0 ≤ (cA j P).first ∧ (cA j P).first ≤ 4611686018427387904) ∧ (0 ≤ (cA j P).next ∧ (cA j P).next ≤ 4611686018427387904) := by
                refine ⟨by show P.length ≤ 100; omega, ?_, ?_⟩ <;> (simp [cA]; try omega)
              have qB : (cB j).sent.length ≤ 100 ∧ (0 ≤ (cB j).first ∧ (cB j).first ≤ 4611686018427387904) ∧ (0 ≤ (cB j).next ∧ (cB j).next ≤ 4611686018427387904) := by
                refine ⟨by simp [cB], ?_, ?_⟩ <;> (simp [cB]; try omega)
              have qA2 : (cA (n + 1) []).sent.length = 0 ∧ (0 ≤ (cA (n + 1) []).first ∧ (cA (n + 1) []).first ≤ 4611686018427387904) ∧ (0 ≤ (cA (n + 1) []).next ∧ (cA (n + 1) []).next ≤ 4611686018427387904) := by
                refine ⟨rfl, ?_, ?_⟩ <;> (simp [cA]; try omega)
              have qB2 : (cB (n + 1)).sent.length = 0 ∧ (0 ≤ (cB (n + 1)).first ∧ (cB (n + 1)).first ≤ 4611686018427387904) ∧ (0 ≤ (cB (n + 1)).next ∧ (cB (n + 1)).next ≤ 4611686018427387904) := by
                refine ⟨rfl, ?_, ?_⟩ <;> (simp [cB]; try omega)
              generalize hA2 : cA (n + 1) [] = A2 at *
              generalize hB2 : cB (n + 1) = B2 at *
              generalize cA j P = A1 at *
              generalize cB j = B1 at *
              have E1 := Lib.hid e1
              have E2 := Lib.hid e2
              have E3 := Lib.hid e3
              have E4 := Lib.hid e4
              have HA2 := Lib.hid hA2
              have HB2 := Lib.hid hB2
              have HT := Lib.hid hT
              have HPN := Lib.hid hPne
              have QA := Lib.hid qA
              have QB := Lib.hid qB
              have QA2 := Lib.hid qA2
              have QB2 := Lib.hid qB2
              have HPL := Lib.hid hPl
              clear hm1 hP hPl hm e1 e2 e3 e4 hA2 hB2 hT hPne qA qB qA2 qB2 hB0
              have hq1 : (outL A1).words.length ≤ 9223372036854775807 := by have := QA.out.1; show A1.sent.length ≤ _; omega
              have hq2 : B1.sent.length ≤ 100 := by have := QB.out.1; omega
              have hq3 := QB.out.2.1
              have hq4 := QB.out.2.2
              have hq5 : A1.sent.length ≤ 100 := by have := QA.out.1; omega
              have KS : ∀ W, Below wc.heap.size wc W → (W.cell? ⟨b4, 0, none⟩ = some (.int .i64 A1.own) ∧ W.cell? ⟨b4, 1, none⟩ = some (.int .i64 A1.other) ∧ W.cell? ⟨b4, 2, none⟩ = some (.int .i64 A1.first) ∧ W.cell? ⟨b4, 3, none⟩ = some (.slice a' A1.sent.length c') ∧ W.cell? ⟨b4, 4, none⟩ = some (.int .i64 A1.next) ∧ W.cell? ⟨b6, 0, none⟩ = some (.int .i64 B1.own) ∧ W.cell? ⟨b6, 1, none⟩ = some (.int .i64 B1.other) ∧ W.cell? ⟨b6, 2, none⟩ = some (.int .i64 B1.first) ∧ W.cell? ⟨b6, 3, none⟩ = some (.slice s B1.sent.length t) ∧ W.cell? ⟨b6, 4, none⟩ = some (.int .i64 B1.next) ∧ Hid (Below wc.heap.size wc W)) := fun W hb => by
                have f := five (old_kept hb HW2.out.a)
                have g := five (old_kept hb HW2.out.b)
                exact ⟨f.1, f.2.1, f.2.2.1, f.2.2.2.1, f.2.2.2.2.1, g.1, g.2.1, g.2.2.1, g.2.2.2.1, g.2.2.2.2.1, Lib.hid hb⟩
              go_upto_region 15 with (fail)
              try simp only [Act.put, List.setIfInBounds_toArray, List.set_cons_zero, List.set_cons_succ]
              go_cut [12, 13] from 61 to 104 (fun v1 v2 w9 => ∃ bn ax zx tx, v1 = .pointer (some ⟨bn, 0, none⟩) ∧ v2 = .slice tx P.length P.length ∧ Hid (NewBox wc w9 bn B2 ax zx ∧ From s ax ∧ SlIs w9 tx P ∧ Since' wc.heap.size tx))
              case first =>
                rename_i J1 K2 hJ hMet
                go_region_held3 (fun W => W.cell? ⟨b4, 0, none⟩ = some (.int .i64 A1.own) ∧ W.cell? ⟨b4, 1, none⟩ = some (.int .i64 A1.other) ∧ W.cell? ⟨b4, 2, none⟩ = some (.int .i64 A1.first) ∧ W.cell? ⟨b4, 3, none⟩ = some (.slice a' A1.sent.length c') ∧ W.cell? ⟨b4, 4, none⟩ = some (.int .i64 A1.next) ∧ W.cell? ⟨b6, 0, none⟩ = some (.int .i64 B1.own) ∧ W.cell? ⟨b6, 1, none⟩ = some (.int .i64 B1.other) ∧ W.cell? ⟨b6, 2, none⟩ = some (.int .i64 B1.first) ∧ W.cell? ⟨b6, 3, none⟩ = some (.slice s B1.sent.length t) ∧ W.cell? ⟨b6, 4, none⟩ = some (.int .i64 B1.next) ∧ Hid (Below wc.heap.size wc W))
                  (first
                    | with_reducible exact KS _ (below_chain B6 (Nat.le_refl _) _ _ _ _ _)
                    | with_reducible exact KS _ (below_chain B6 B5.size _ _ _ _ _)
                    | with_reducible exact KS _ B6
                    | with_reducible exact KS _ (B6.alloc B6.size _)
                    | with_reducible exact KS _ B5
                    | with_reducible exact KS _ (B5.alloc B5.size _)
                    | with_reducible exact KS _ ((Below.refl _ _).alloc (Nat.le_refl _) _).drew
                    | with_reducible exact KS _ (Below.refl _ _).drew)
                  (first
                    | (go_at_call 13; have PB := getC (by assumption); refine (outX A1 a' c' _ (HW2.out.sa.below PB) hq5).mono ?_; rintro e w5 ⟨a5, rfl, hsi, hs, hb⟩; have B5 := PB.trans (hb.mono PB.size); have S5 : Hid (SlIs w5 a5 (outL A1).words) := Lib.hid hs; have Y5 := five' (heap_alloc_new w5 (.cells #[.int .i64 0, .int .i64 0, .int .i64 0, .slice none 0 0, .int .i64 0] 26)); obtain ⟨y0, y1, y2, y3, y4, x0, x1, x2, x3, x4⟩ := Y5; (try (have z5' := new_kept_d hb; have z5 : w5.heap[wc.heap.size]? = some (.cells #[.int .i64 0, .int .i64 0, .int .i64 0, .slice none 0 0, .int .i64 0] 26) := z5'; have Z5 := Lib.hid z5; clear z5 z5')); clear hsi hs hb PB)
                    | (go_at_call 14; have PB := getC (by assumption); refine (inX B1 (outL A1) s a5 t A1.sent.length _ (HW2.out.sb.below PB) (by first | with_reducible exact S5.out | exact S5.out.below ((Below.refl _ _).alloc (Nat.le_refl _) _)) hq1 hq2 HW2.out.cb (Nat.le_refl _) hq3 hq4 _ _ E1.out).mono ?_; rintro e w6 ⟨a6, c6, ta, rfl, hfr, hsi, hs, hc, ht, hb⟩; have B6 := PB.trans (hb.mono PB.size); have HX := Lib.hid (And.intro hfr (And.intro (hsi.mono PB.size) (And.intro hs (And.intro hc ht)))); have Y6 := five' (heap_alloc_new w6 (.cells #[.int .i64 0, .int .i64 0, .int .i64 0, .slice none 0 0, .int .i64 0] 26)); obtain ⟨y0, y1, y2, y3, y4, x0, x1, x2, x3, x4⟩ := Y6; (try (have z6 := new_kept hb; obtain ⟨n0, n1, n2, n3, n4, o0, o1, o2, o3, o4⟩ := five' z6; have Z6 := Lib.hid z6; have ap : Apart w5.heap.size ta := hsi.apart (by simp); clear z6)); (try (have z6 := old_kept hb Z5.out; obtain ⟨n0, n1, n2, n3, n4, o0, o1, o2, o3, o4⟩ := five' z6; have Z6 := Lib.hid z6; have ap : Apart wc.heap.size ta := hsi.apart (Array.getElem?_eq_some_iff.1 Z5.out).1; clear z6)); clear hfr hsi hs hc ht hb PB))
                all_goals
                  show K2 _ _
                  refine hMet _ _ ?_
                  try simp only [Act.put, List.getElem_toArray, List.getElem_cons_succ, List.getElem_cons_zero, List.setIfInBounds_toArray, List.set_cons_zero, List.set_cons_succ]
                  go_meet
                  case rel =>
                    first
                      | (have NB := newbox_set (M := B2) (a := a6) (c := c6) B6 (Nat.le_refl _) Z6.out HX.out.2.2.1 HX.out.2.2.2.1 (HX.out.1.old (Old.le HW2.out.sl B6.size)) (HX.out.1.apart (Old.apart HW2.out.sl (Nat.le_refl _)))
                         with_reducible exact ⟨_, a6, c6, ta, rfl, rfl, Lib.hid ⟨NB, HX.out.1, HX.out.2.2.2.2.set5 ap _ _ _ _ _, HX.out.2.1⟩⟩)
                      | (have NB := newbox_set (M := B2) (a := a6) (c := c6) B6 B5.size Z6.out HX.out.2.2.1 HX.out.2.2.2.1 (HX.out.1.old (Old.le HW2.out.sl B6.size)) (HX.out.1.apart (Old.apart HW2.out.sl B5.size))
                         with_reducible exact ⟨_, a6, c6, ta, rfl, rfl, Lib.hid ⟨NB, HX.out.1, HX.out.2.2.2.2.set5 ap _ _ _ _ _, HX.out.2.1⟩⟩)
                      | (have NB := newbox_alloc' (M := B2) (a := a6) (c := c6) B6 HX.out.2.2.1 HX.out.2.2.2.1 (HX.out.1.old (Old.le HW2.out.sl B6.size))
                         with_reducible exact ⟨_, a6, c6, ta, rfl, rfl, Lib.hid ⟨NB, HX.out.1, slis_alloc HX.out.2.2.2.2, HX.out.2.1⟩⟩)
              case rest =>
                obtain ⟨bn1, a1, z1, ta1, rfl, rfl, HN1⟩ := hcut
                have HW2b := Lib.hid (HW2.out.below HN1.out.1.1)
                have k4 : Apart b4 a1 := HN1.out.2.1.apart HW2.out.q4
                have k6 : Apart b6 a1 := HN1.out.2.1.apart HW2.out.q6
                rename_i K1 hK1
                refine hK1 _ _ ?_
                clear hK1 KS
                go_upto_region 17 with (first
                  | (at_builtin; go_loud (refine wl_app24 rfl _ _ rfl w0.heap.size _ (ws.take j) P rfl HW2b.out.own ta1 rfl HN1.out.2.2.1 (by have := HPL.out; rw [List.length_take]; omega) (by have := HW2b.out.lt6; have := HW2b.out.le; have := HW2b.out.lt; omega) ?_); intro tv7 w7 ho hg hn; have HW3 := Lib.hid (HW2b.out.tell ho hg hn); have hz7 : w7.heap[bn1]? = some (lkO B2 a1 z1) := (hg.block bn1 (Array.getElem?_eq_some_iff.1 HN1.out.1.2.2.1).1 (fun e => own_ne HW2b.out.own HN1.out.1.2.2.1 (by decide) e.symm)).trans HN1.out.1.2.2.1; have HZ7 := Lib.hid hz7; clear ho hg hn hz7))
                rw [HT.out] at HW3
                have HW4 := Lib.hid (HW3.out.setB (M := B2) (a' := a1) (c' := z1) (Or.inl (List.length_eq_zero_iff.1 QB2.out.1)) (by have := QB2.out.1; omega) k4 k6 (fun g e => HN1.out.2.1.apart (HW3.out.qt g e)) (HN1.out.2.1.old HW3.out.sl))
                go_upto_region 18 with (first
                  | ((with_reducible show wpList _ _ _ (Oper.mk _ (Op.load 26 _) _ _ _ none :: _) _ _); refine wl_load26 rfl _ rfl bn1 rfl B2 a1 z1 HZ7.out ?_)
                  | ((with_reducible show wpList _ _ _ (Oper.mk _ (Op.store 26 _ _) _ _ _ _ :: _) _ _); refine wl_store26 rfl _ _ rfl b6 B2 a1 z1 rfl rfl B1 s t HW3.out.b ?_))
                generalize w7.setRow b6 (lkA B2 a1 z1) = wd at *
                clear HW2b HW3 HZ7 HN1 k4 k6
                have QA2z : Hid (A2.sent.length ≤ 100 ∧ (0 ≤ A2.first ∧ A2.first ≤ 4611686018427387904) ∧ (0 ≤ A2.next ∧ A2.next ≤ 4611686018427387904)) := Lib.hid ⟨by have := QA2.out.1; omega, QA2.out.2⟩
                have QB2z : Hid (B2.sent.length ≤ 100 ∧ (0 ≤ B2.first ∧ B2.first ≤ 4611686018427387904) ∧ (0 ≤ B2.next ∧ B2.next ≤ 4611686018427387904)) := Lib.hid ⟨by have := QB2.out.1; omega, QB2.out.2⟩
                have hq1 : (outL B2).words.length ≤ 9223372036854775807 := by have := QB2.out.1; show B2.sent.length ≤ _; omega
                have hq2 : A1.sent.length ≤ 100 := by have := QA.out.1; omega
                have hq3 := QA.out.2.1
                have hq4 := QA.out.2.2
                have hq5 : B2.sent.length ≤ 100 := by have := QB2.out.1; omega
                have KS : ∀ W, Below wd.heap.size wd W → (W.cell? ⟨b4, 0, none⟩ = some (.int .i64 A1.own) ∧ W.cell? ⟨b4, 1, none⟩ = some (.int .i64 A1.other) ∧ W.cell? ⟨b4, 2, none⟩ = some (.int .i64 A1.first) ∧ W.cell? ⟨b4, 3, none⟩ = some (.slice a' A1.sent.length c') ∧ W.cell? ⟨b4, 4, none⟩ = some (.int .i64 A1.next) ∧ W.cell? ⟨b6, 0, none⟩ = some (.int .i64 B2.own) ∧ W.cell? ⟨b6, 1, none⟩ = some (.int .i64 B2.other) ∧ W.cell? ⟨b6, 2, none⟩ = some (.int .i64 B2.first) ∧ W.cell? ⟨b6, 3, none⟩ = some (.slice a1 B2.sent.length z1) ∧ W.cell? ⟨b6, 4, none⟩ = some (.int .i64 B2.next) ∧ Hid (Below wd.heap.size wd W)) := fun W hb => by
                  have f := five (old_kept hb HW4.out.a)
                  have g := five (old_kept hb HW4.out.b)
                  exact ⟨f.1, f.2.1, f.2.2.1, f.2.2.2.1, f.2.2.2.2.1, g.1, g.2.1, g.2.2.1, g.2.2.2.1, g.2.2.2.2.1, Lib.hid hb⟩
                go_upto_region 18 with (fail)
                try simp only [Act.put, List.setIfInBounds_toArray, List.set_cons_zero, List.set_cons_succ]
                go_cut [14, 15] from 61 to 104 (fun v1 v2 w9 => ∃ bn ax zx tx, v1 = .pointer (some ⟨bn, 0, none⟩) ∧ v2 = .slice tx ([] : List Int).length ([] : List Int).length ∧ Hid (NewBox wd w9 bn A2 ax zx ∧ From a' ax ∧ SlIs w9 tx ([] : List Int) ∧ Since' wd.heap.size tx))
                case first =>
                  rename_i J1 K2 hJ hMet
                  go_region_held3 (fun W => W.cell? ⟨b4, 0, none⟩ = some (.int .i64 A1.own) ∧ W.cell? ⟨b4, 1, none⟩ = some (.int .i64 A1.other) ∧ W.cell? ⟨b4, 2, none⟩ = some (.int .i64 A1.first) ∧ W.cell? ⟨b4, 3, none⟩ = some (.slice a' A1.sent.length c') ∧ W.cell? ⟨b4, 4, none⟩ = some (.int .i64 A1.next) ∧ W.cell? ⟨b6, 0, none⟩ = some (.int .i64 B2.own) ∧ W.cell? ⟨b6, 1, none⟩ = some (.int .i64 B2.other) ∧ W.cell? ⟨b6, 2, none⟩ = some (.int .i64 B2.first) ∧ W.cell? ⟨b6, 3, none⟩ = some (.slice a1 B2.sent.length z1) ∧ W.cell? ⟨b6, 4, none⟩ = some (.int .i64 B2.next) ∧ Hid (Below wd.heap.size wd W))
                    (first
                      | with_reducible exact KS _ (below_chain B6 (Nat.le_refl _) _ _ _ _ _)
                      | with_reducible exact KS _ (below_chain B6 B5.size _ _ _ _ _)
                      | with_reducible exact KS _ B6
                      | with_reducible exact KS _ (B6.alloc B6.size _)
                      | with_reducible exact KS _ B5
                      | with_reducible exact KS _ (B5.alloc B5.size _)
                      | with_reducible exact KS _ ((Below.refl _ _).alloc (Nat.le_refl _) _).drew
                      | with_reducible exact KS _ (Below.refl _ _).drew)
                    (first
                      | (go_at_call 13; have PB := getC (by assumption); refine (outX B2 a1 z1 _ (HW4.out.sb.below PB) hq5).mono ?_; rintro e w5 ⟨a5, rfl, hsi, hs, hb⟩; have B5 := PB.trans (hb.mono PB.size); have S5 : Hid (SlIs w5 a5 (outL B2).words) := Lib.hid hs; have Y5 := five' (heap_alloc_new w5 (.cells #[.int .i64 0, .int .i64 0, .int .i64 0, .slice none 0 0, .int .i64 0] 26)); obtain ⟨y0, y1, y2, y3, y4, x0, x1, x2, x3, x4⟩ := Y5; (try (have z5' := new_kept_d hb; have z5 : w5.heap[wd.heap.size]? = some (.cells #[.int .i64 0, .int .i64 0, .int .i64 0, .slice none 0 0, .int .i64 0] 26) := z5'; have Z5 := Lib.hid z5; clear z5 z5')); clear hsi hs hb PB)
                      | (go_at_call 14; have PB := getC (by assumption); refine (inX A1 (outL B2) a' a5 c' B2.sent.length _ (HW4.out.sa.below PB) (by first | with_reducible exact S5.out | exact S5.out.below ((Below.refl _ _).alloc (Nat.le_refl _) _)) hq1 hq2 HW4.out.ca (Nat.le_refl _) hq3 hq4 _ _ E2.out).mono ?_; rintro e w6 ⟨a6, c6, ta, rfl, hfr, hsi, hs, hc, ht, hb⟩; have B6 := PB.trans (hb.mono PB.size); have HX := Lib.hid (And.intro hfr (And.intro (hsi.mono PB.size) (And.intro hs (And.intro hc ht)))); have Y6 := five' (heap_alloc_new w6 (.cells #[.int .i64 0, .int .i64 0, .int .i64 0, .slice none 0 0, .int .i64 0] 26)); obtain ⟨y0, y1, y2, y3, y4, x0, x1, x2, x3, x4⟩ := Y6; (try (have z6 := new_kept hb; obtain ⟨n0, n1, n2, n3, n4, o0, o1, o2, o3, o4⟩ := five' z6; have Z6 := Lib.hid z6; have ap : Apart w5.heap.size ta := hsi.apart (by simp); clear z6)); (try (have z6 := old_kept hb Z5.out; obtain ⟨n0, n1, n2, n3, n4, o0, o1, o2, o3, o4⟩ := five' z6; have Z6 := Lib.hid z6; have ap : Apart wd.heap.size ta := hsi.apart (Array.getElem?_eq_some_iff.1 Z5.out).1; clear z6)); clear hfr hsi hs hc ht hb PB))
                  all_goals
                    show K2 _ _
                    refine hMet _ _ ?_
                    try simp only [Act.put, List.getElem_toArray, List.getElem_cons_succ, List.getElem_cons_zero, List.setIfInBounds_toArray, List.set_cons_zero, List.set_cons_succ]
                    go_meet
                    case rel =>
                      first
                        | (have NB := newbox_set (M := A2) (a := a6) (c := c6) B6 (Nat.le_refl _) Z6.out HX.out.2.2.1 HX.out.2.2.2.1 (HX.out.1.old (Old.le HW4.out.rl B6.size)) (HX.out.1.apart (Old.apart HW4.out.rl (Nat.le_refl _)))
                           with_reducible exact ⟨_, a6, c6, ta, rfl, rfl, Lib.hid ⟨NB, HX.out.1, HX.out.2.2.2.2.set5 ap _ _ _ _ _, HX.out.2.1⟩⟩)
                        | (have NB := newbox_set (M := A2) (a := a6) (c := c6) B6 B5.size Z6.out HX.out.2.2.1 HX.out.2.2.2.1 (HX.out.1.old (Old.le HW4.out.rl B6.size)) (HX.out.1.apart (Old.apart HW4.out.rl B5.size))
                           with_reducible exact ⟨_, a6, c6, ta, rfl, rfl, Lib.hid ⟨NB, HX.out.1, HX.out.2.2.2.2.set5 ap _ _ _ _ _, HX.out.2.1⟩⟩)
                        | (have NB := newbox_alloc' (M := A2) (a := a6) (c := c6) B6 HX.out.2.2.1 HX.out.2.2.2.1 (HX.out.1.old (Old.le HW4.out.rl B6.size))
                           with_reducible exact ⟨_, a6, c6, ta, rfl, rfl, Lib.hid ⟨NB, HX.out.1, slis_alloc HX.out.2.2.2.2, HX.out.2.1⟩⟩)
                case rest =>
                  obtain ⟨bn2, a2, z2, ta2, rfl, rfl, HN2⟩ := hcut
                  have HW4b := Lib.hid (HW4.out.below HN2.out.1.1)
                  have k4 : Apart b4 a2 := HN2.out.2.1.apart HW4.out.p4
                  have k6 : Apart b6 a2 := HN2.out.2.1.apart HW4.out.p6
                  rename_i K1 hK1
                  refine hK1 _ _ ?_
                  clear hK1 KS
                  have HW5 := Lib.hid (HW4b.out.setA (M := A2) (a' := a2) (c' := z2) HN2.out.1.2.2.2.1 HN2.out.1.2.2.2.2.1 k4 k6 (fun g e => HN2.out.2.1.apart (HW4b.out.pt g e)) (HN2.out.2.1.old HW4b.out.rl))
                  go_upto_region 20 with (first
                    | ((with_reducible show wpList _ _ _ (Oper.mk _ (Op.load 26 _) _ _ _ none :: _) _ _); refine wl_load26 rfl _ rfl bn2 rfl A2 a2 z2 HN2.out.1.2.2.1 ?_)
                    | ((with_reducible show wpList _ _ _ (Oper.mk _ (Op.store 26 _ _) _ _ _ _ :: _) _ _); refine wl_store26 rfl _ _ rfl b4 A2 a2 z2 rfl rfl A1 a' c' HW4b.out.a ?_))
                  generalize wc.setRow b4 (lkA A2 a2 z2) = we at *
                  clear HW4b k4 k6
                  have hq1 : (outL A2).words.length ≤ 9223372036854775807 := by have := QA2z.out.1; show A2.sent.length ≤ _; omega
                  have hq2 : B2.sent.length ≤ 100 := by have := QB2z.out.1; omega
                  have hq3 := QB2z.out.2.1
                  have hq4 := QB2z.out.2.2
                  have hq5 : A2.sent.length ≤ 100 := by have := QA2z.out.1; omega
                  have KS : ∀ W, Below we.heap.size we W → (W.cell? ⟨b4, 0, none⟩ = some (.int .i64 A2.own) ∧ W.cell? ⟨b4, 1, none⟩ = some (.int .i64 A2.other) ∧ W.cell? ⟨b4, 2, none⟩ = some (.int .i64 A2.first) ∧ W.cell? ⟨b4, 3, none⟩ = some (.slice a2 A2.sent.length z2) ∧ W.cell? ⟨b4, 4, none⟩ = some (.int .i64 A2.next) ∧ W.cell? ⟨b6, 0, none⟩ = some (.int .i64 B2.own) ∧ W.cell? ⟨b6, 1, none⟩ = some (.int .i64 B2.other) ∧ W.cell? ⟨b6, 2, none⟩ = some (.int .i64 B2.first) ∧ W.cell? ⟨b6, 3, none⟩ = some (.slice a1 B2.sent.length z1) ∧ W.cell? ⟨b6, 4, none⟩ = some (.int .i64 B2.next) ∧ Hid (Below we.heap.size we W)) := fun W hb => by
                    have f := five (old_kept hb HW5.out.a)
                    have g := five (old_kept hb HW5.out.b)
                    exact ⟨f.1, f.2.1, f.2.2.1, f.2.2.2.1, f.2.2.2.2.1, g.1, g.2.1, g.2.2.1, g.2.2.2.1, g.2.2.2.2.1, Lib.hid hb⟩
                  go_upto_region 20 with (fail)
                  try simp only [Act.put, List.setIfInBounds_toArray, List.set_cons_zero, List.set_cons_succ]
                  go_cut [16, 17] from 61 to 104 (fun v1 v2 w9 => ∃ bn ax zx tx, v1 = .pointer (some ⟨bn, 0, none⟩) ∧ v2 = .slice tx ([] : List Int).length ([] : List Int).length ∧ Hid (NewBox we w9 bn B2 ax zx ∧ From a1 ax ∧ SlIs w9 tx ([] : List Int) ∧ Since' we.heap.size tx))
                  case first =>
                    rename_i J1 K2 hJ hMet
                    go_region_held3 (fun W => W.cell? ⟨b4, 0, none⟩ = some (.int .i64 A2.own) ∧ W.cell? ⟨b4, 1, none⟩ = some (.int .i64 A2.other) ∧ W.cell? ⟨b4, 2, none⟩ = some (.int .i64 A2.first) ∧ W.cell? ⟨b4, 3, none⟩ = some (.slice a2 A2.sent.length z2) ∧ W.cell? ⟨b4, 4, none⟩ = some (.int .i64 A2.next) ∧ W.cell? ⟨b6, 0, none⟩ = some (.int .i64 B2.own) ∧ W.cell? ⟨b6, 1, none⟩ = some (.int .i64 B2.other) ∧ W.cell? ⟨b6, 2, none⟩ = some (.int .i64 B2.first) ∧ W.cell? ⟨b6, 3, none⟩ = some (.slice a1 B2.sent.length z1) ∧ W.cell? ⟨b6, 4, none⟩ = some (.int .i64 B2.next) ∧ Hid (Below we.heap.size we W))
                      (first
                        | with_reducible exact KS _ (below_chain B6 (Nat.le_refl _) _ _ _ _ _)
                        | with_reducible exact KS _ (below_chain B6 B5.size _ _ _ _ _)
                        | with_reducible exact KS _ B6
                        | with_reducible exact KS _ (B6.alloc B6.size _)
                        | with_reducible exact KS _ B5
                        | with_reducible exact KS _ (B5.alloc B5.size _)
                        | with_reducible exact KS _ ((Below.refl _ _).alloc (Nat.le_refl _) _).drew
                        | with_reducible exact KS _ (Below.refl _ _).drew)
                      (first
                        | (go_at_call 13; have PB := getC (by assumption); refine (outX A2 a2 z2 _ (HW5.out.sa.below PB) hq5).mono ?_; rintro e w5 ⟨a5, rfl, hsi, hs, hb⟩; have B5 := PB.trans (hb.mono PB.size); have S5 : Hid (SlIs w5 a5 (outL A2).words) := Lib.hid hs; have Y5 := five' (heap_alloc_new w5 (.cells #[.int .i64 0, .int .i64 0, .int .i64 0, .slice none 0 0, .int .i64 0] 26)); obtain ⟨y0, y1, y2, y3, y4, x0, x1, x2, x3, x4⟩ := Y5; (try (have z5' := new_kept_d hb; have z5 : w5.heap[we.heap.size]? = some (.cells #[.int .i64 0, .int .i64 0, .int .i64 0, .slice none 0 0, .int .i64 0] 26) := z5'; have Z5 := Lib.hid z5; clear z5 z5')); clear hsi hs hb PB)
                        | (go_at_call 14; have PB := getC (by assumption); refine (inX B2 (outL A2) a1 a5 z1 A2.sent.length _ (HW5.out.sb.below PB) (by first | with_reducible exact S5.out | exact S5.out.below ((Below.refl _ _).alloc (Nat.le_refl _) _)) hq1 hq2 HW5.out.cb (Nat.le_refl _) hq3 hq4 _ _ E3.out).mono ?_; rintro e w6 ⟨a6, c6, ta, rfl, hfr, hsi, hs, hc, ht, hb⟩; have B6 := PB.trans (hb.mono PB.size); have HX := Lib.hid (And.intro hfr (And.intro (hsi.mono PB.size) (And.intro hs (And.intro hc ht)))); have Y6 := five' (heap_alloc_new w6 (.cells #[.int .i64 0, .int .i64 0, .int .i64 0, .slice none 0 0, .int .i64 0] 26)); obtain ⟨y0, y1, y2, y3, y4, x0, x1, x2, x3, x4⟩ := Y6; (try (have z6 := new_kept hb; obtain ⟨n0, n1, n2, n3, n4, o0, o1, o2, o3, o4⟩ := five' z6; have Z6 := Lib.hid z6; have ap : Apart w5.heap.size ta := hsi.apart (by simp); clear z6)); (try (have z6 := old_kept hb Z5.out; obtain ⟨n0, n1, n2, n3, n4, o0, o1, o2, o3, o4⟩ := five' z6; have Z6 := Lib.hid z6; have ap : Apart we.heap.size ta := hsi.apart (Array.getElem?_eq_some_iff.1 Z5.out).1; clear z6)); clear hfr hsi hs hc ht hb PB))
                    all_goals
                      show K2 _ _
                      refine hMet _ _ ?_
                      try simp only [Act.put, List.getElem_toArray, List.getElem_cons_succ, List.getElem_cons_zero, List.setIfInBounds_toArray, List.set_cons_zero, List.set_cons_succ]
                      go_meet
                      case rel =>
                        first
                          | (have NB := newbox_set (M := B2) (a := a6) (c := c6) B6 (Nat.le_refl _) Z6.out HX.out.2.2.1 HX.out.2.2.2.1 (HX.out.1.old (Old.le HW5.out.sl B6.size)) (HX.out.1.apart (Old.apart HW5.out.sl (Nat.le_refl _)))
                             with_reducible exact ⟨_, a6, c6, ta, rfl, rfl, Lib.hid ⟨NB, HX.out.1, HX.out.2.2.2.2.set5 ap _ _ _ _ _, HX.out.2.1⟩⟩)
                          | (have NB := newbox_set (M := B2) (a := a6) (c := c6) B6 B5.size Z6.out HX.out.2.2.1 HX.out.2.2.2.1 (HX.out.1.old (Old.le HW5.out.sl B6.size)) (HX.out.1.apart (Old.apart HW5.out.sl B5.size))
                             with_reducible exact ⟨_, a6, c6, ta, rfl, rfl, Lib.hid ⟨NB, HX.out.1, HX.out.2.2.2.2.set5 ap _ _ _ _ _, HX.out.2.1⟩⟩)
                          | (have NB := newbox_alloc' (M := B2) (a := a6) (c := c6) B6 HX.out.2.2.1 HX.out.2.2.2.1 (HX.out.1.old (Old.le HW5.out.sl B6.size))
                             with_reducible exact ⟨_, a6, c6, ta, rfl, rfl, Lib.hid ⟨NB, HX.out.1, slis_alloc HX.out.2.2.2.2, HX.out.2.1⟩⟩)
                  case rest =>
                    obtain ⟨bn3, a3, z3, ta3, rfl, rfl, HN3⟩ := hcut
                    have HW5b := Lib.hid (HW5.out.below HN3.out.1.1)
                    have k4 : Apart b4 a3 := HN3.out.2.1.apart HW5.out.q4
                    have k6 : Apart b6 a3 := HN3.out.2.1.apart HW5.out.q6
                    rename_i K1 hK1
                    refine hK1 _ _ ?_
                    clear hK1 KS
                    have HW6 := Lib.hid (HW5b.out.setB (M := B2) (a' := a3) (c' := z3) HN3.out.1.2.2.2.1 HN3.out.1.2.2.2.2.1 k4 k6 (fun g e => HN3.out.2.1.apart (HW5b.out.qt g e)) (HN3.out.2.1.old HW5b.out.sl))
                    go_upto_region 22 with (first
                      | ((with_reducible show wpList _ _ _ (Oper.mk _ (Op.load 26 _) _ _ _ none :: _) _ _); refine wl_load26 rfl _ rfl bn3 rfl B2 a3 z3 HN3.out.1.2.2.1 ?_)
                      | ((with_reducible show wpList _ _ _ (Oper.mk _ (Op.store 26 _ _) _ _ _ _ :: _) _ _); refine wl_store26 rfl _ _ rfl b6 B2 a3 z3 rfl rfl B2 a1 z1 HW5b.out.b ?_))
                    generalize wc.setRow b6 (lkA B2 a3 z3) = wf at *
                    clear HW5b k4 k6
                    have hq1 : (outL B2).words.length ≤ 9223372036854775807 := by have := QB2z.out.1; show B2.sent.length ≤ _; omega
                    have hq2 : A2.sent.length ≤ 100 := by have := QA2z.out.1; omega
                    have hq3 := QA2z.out.2.1
                    have hq4 := QA2z.out.2.2
                    have hq5 : B2.sent.length ≤ 100 := by have := QB2z.out.1; omega
                    have KS : ∀ W, Below wf.heap.size wf W → (W.cell? ⟨b4, 0, none⟩ = some (.int .i64 A2.own) ∧ W.cell? ⟨b4, 1, none⟩ = some (.int .i64 A2.other) ∧ W.cell? ⟨b4, 2, none⟩ = some (.int .i64 A2.first) ∧ W.cell? ⟨b4, 3, none⟩ = some (.slice a2 A2.sent.length z2) ∧ W.cell? ⟨b4, 4, none⟩ = some (.int .i64 A2.next) ∧ W.cell? ⟨b6, 0, none⟩ = some (.int .i64 B2.own) ∧ W.cell? ⟨b6, 1, none⟩ = some (.int .i64 B2.other) ∧ W.cell? ⟨b6, 2, none⟩ = some (.int .i64 B2.first) ∧ W.cell? ⟨b6, 3, none⟩ = some (.slice a3 B2.sent.length z3) ∧ W.cell? ⟨b6, 4, none⟩ = some (.int .i64 B2.next) ∧ Hid (Below wf.heap.size wf W)) := fun W hb => by
                      have f := five (old_kept hb HW6.out.a)
                      have g := five (old_kept hb HW6.out.b)
                      exact ⟨f.1, f.2.1, f.2.2.1, f.2.2.2.1, f.2.2.2.2.1, g.1, g.2.1, g.2.2.1, g.2.2.2.1, g.2.2.2.2.1, Lib.hid hb⟩
                    go_upto_region 22 with (fail)
                    try simp only [Act.put, List.setIfInBounds_toArray, List.set_cons_zero, List.set_cons_succ]
                    go_cut [18, 19] from 61 to 104 (fun v1 v2 w9 => ∃ bn ax zx tx, v1 = .pointer (some ⟨bn, 0, none⟩) ∧ v2 = .slice tx ([] : List Int).length ([] : List Int).length ∧ Hid (NewBox wf w9 bn A2 ax zx ∧ From a2 ax ∧ SlIs w9 tx ([] : List Int) ∧ Since' wf.heap.size tx))
                    case first =>
                      rename_i J1 K2 hJ hMet
                      go_region_held3 (fun W => W.cell? ⟨b4, 0, none⟩ = some (.int .i64 A2.own) ∧ W.cell? ⟨b4, 1, none⟩ = some (.int .i64 A2.other) ∧ W.cell? ⟨b4, 2, none⟩ = some (.int .i64 A2.first) ∧ W.cell? ⟨b4, 3, none⟩ = some (.slice a2 A2.sent.length z2) ∧ W.cell? ⟨b4, 4, none⟩ = some (.int .i64 A2.next) ∧ W.cell? ⟨b6, 0, none⟩ = some (.int .i64 B2.own) ∧ W.cell? ⟨b6, 1, none⟩ = some (.int .i64 B2.other) ∧ W.cell? ⟨b6, 2, none⟩ = some (.int .i64 B2.first) ∧ W.cell? ⟨b6, 3, none⟩ = some (.slice a3 B2.sent.length z3) ∧ W.cell? ⟨b6, 4, none⟩ = some (.int .i64 B2.next) ∧ Hid (Below wf.heap.size wf W))
                        (first
                          | with_reducible exact KS _ (below_chain B6 (Nat.le_refl _) _ _ _ _ _)
                          | with_reducible exact KS _ (below_chain B6 B5.size _ _ _ _ _)
                          | with_reducible exact KS _ B6
                          | with_reducible exact KS _ (B6.alloc B6.size _)
                          | with_reducible exact KS _ B5
                          | with_reducible exact KS _ (B5.alloc B5.size _)
                          | with_reducible exact KS _ ((Below.refl _ _).alloc (Nat.le_refl _) _).drew
                          | with_reducible exact KS _ (Below.refl _ _).drew)
                        (first
                          | (go_at_call 13; have PB := getC (by assumption); refine (outX B2 a3 z3 _ (HW6.out.sb.below PB) hq5).mono ?_; rintro e w5 ⟨a5, rfl, hsi, hs, hb⟩; have B5 := PB.trans (hb.mono PB.size); have S5 : Hid (SlIs w5 a5 (outL B2).words) := Lib.hid hs; have Y5 := five' (heap_alloc_new w5 (.cells #[.int .i64 0, .int .i64 0, .int .i64 0, .slice none 0 0, .int .i64 0] 26)); obtain ⟨y0, y1, y2, y3, y4, x0, x1, x2, x3, x4⟩ := Y5; (try (have z5' := new_kept_d hb; have z5 : w5.heap[wf.heap.size]? = some (.cells #[.int .i64 0, .int .i64 0, .int .i64 0, .slice none 0 0, .int .i64 0] 26) := z5'; have Z5 := Lib.hid z5; clear z5 z5')); clear hsi hs hb PB)
                          | (go_at_call 14; have PB := getC (by assumption); refine (inX A2 (outL B2) a2 a5 z2 B2.sent.length _ (HW6.out.sa.below PB) (by first | with_reducible exact S5.out | exact S5.out.below ((Below.refl _ _).alloc (Nat.le_refl _) _)) hq1 hq2 HW6.out.ca (Nat.le_refl _) hq3 hq4 _ _ E4.out).mono ?_; rintro e w6 ⟨a6, c6, ta, rfl, hfr, hsi, hs, hc, ht, hb⟩; have B6 := PB.trans (hb.mono PB.size); have HX := Lib.hid (And.intro hfr (And.intro (hsi.mono PB.size) (And.intro hs (And.intro hc ht)))); have Y6 := five' (heap_alloc_new w6 (.cells #[.int .i64 0, .int .i64 0, .int .i64 0, .slice none 0 0, .int .i64 0] 26)); obtain ⟨y0, y1, y2, y3, y4, x0, x1, x2, x3, x4⟩ := Y6; (try (have z6 := new_kept hb; obtain ⟨n0, n1, n2, n3, n4, o0, o1, o2, o3, o4⟩ := five' z6; have Z6 := Lib.hid z6; have ap : Apart w5.heap.size ta := hsi.apart (by simp); clear z6)); (try (have z6 := old_kept hb Z5.out; obtain ⟨n0, n1, n2, n3, n4, o0, o1, o2, o3, o4⟩ := five' z6; have Z6 := Lib.hid z6; have ap : Apart wf.heap.size ta := hsi.apart (Array.getElem?_eq_some_iff.1 Z5.out).1; clear z6)); clear hfr hsi hs hc ht hb PB))
                      all_goals
                        show K2 _ _
                        refine hMet _ _ ?_
                        try simp only [Act.put, List.getElem_toArray, List.getElem_cons_succ, List.getElem_cons_zero, List.setIfInBounds_toArray, List.set_cons_zero, List.set_cons_succ]
                        go_meet
                        case rel =>
                          first
                            | (have NB := newbox_set (M := A2) (a := a6) (c := c6) B6 (Nat.le_refl _) Z6.out HX.out.2.2.1 HX.out.2.2.2.1 (HX.out.1.old (Old.le HW6.out.rl B6.size)) (HX.out.1.apart (Old.apart HW6.out.rl (Nat.le_refl _)))
                               with_reducible exact ⟨_, a6, c6, ta, rfl, rfl, Lib.hid ⟨NB, HX.out.1, HX.out.2.2.2.2.set5 ap _ _ _ _ _, HX.out.2.1⟩⟩)
                            | (have NB := newbox_set (M := A2) (a := a6) (c := c6) B6 B5.size Z6.out HX.out.2.2.1 HX.out.2.2.2.1 (HX.out.1.old (Old.le HW6.out.rl B6.size)) (HX.out.1.apart (Old.apart HW6.out.rl B5.size))
                               with_reducible exact ⟨_, a6, c6, ta, rfl, rfl, Lib.hid ⟨NB, HX.out.1, HX.out.2.2.2.2.set5 ap _ _ _ _ _, HX.out.2.1⟩⟩)
                            | (have NB := newbox_alloc' (M := A2) (a := a6) (c := c6) B6 HX.out.2.2.1 HX.out.2.2.2.1 (HX.out.1.old (Old.le HW6.out.rl B6.size))
                               with_reducible exact ⟨_, a6, c6, ta, rfl, rfl, Lib.hid ⟨NB, HX.out.1, slis_alloc HX.out.2.2.2.2, HX.out.2.1⟩⟩)
                    case rest =>
                      obtain ⟨bn4, a4, z4, ta4, rfl, rfl, HN4⟩ := hcut
                      have HW6b := Lib.hid (HW6.out.below HN4.out.1.1)
                      have k4 : Apart b4 a4 := HN4.out.2.1.apart HW6.out.p4
                      have k6 : Apart b6 a4 := HN4.out.2.1.apart HW6.out.p6
                      rename_i K1 hK1
                      refine hK1 _ _ ?_
                      clear hK1 KS
                      have HW7 := Lib.hid (HW6b.out.setA (M := A2) (a' := a4) (c' := z4) HN4.out.1.2.2.2.1 HN4.out.1.2.2.2.2.1 k4 k6 (fun g e => HN4.out.2.1.apart (HW6b.out.pt g e)) (HN4.out.2.1.old HW6b.out.rl))
                      go_upto_region 24 with (first
                        | ((with_reducible show wpList _ _ _ (Oper.mk _ (Op.load 26 _) _ _ _ none :: _) _ _); refine wl_load26 rfl _ rfl bn4 rfl A2 a4 z4 HN4.out.1.2.2.1 ?_)
                        | ((with_reducible show wpList _ _ _ (Oper.mk _ (Op.store 26 _ _) _ _ _ _ :: _) _ _); refine wl_store26 rfl _ _ rfl b4 A2 a4 z4 rfl rfl A2 a2 z2 HW6b.out.a ?_))
                      generalize wc.setRow b4 (lkA A2 a4 z4) = wg at *
                      clear HW6b k4 k6
                      have hc3 : wg.cell? ⟨b4, 3, none⟩ = some (.slice a4 0 z4) := by
                        have := (five HW7.out.a).2.2.2.1
                        rw [QA2.out.1] at this
                        exact this
                      go_wp2
                      go_roundw
                      case rel =>
                        have hd2 : (ws.take (n + 1)).drop (n + 1) = [] := List.drop_eq_nil_of_le (by rw [List.length_take]; omega)
                        refine ⟨n + 1, n + 1, by omega, by go_num, fun h => ?_, fun _ => rfl, a4, z4, a3, z3, ?_⟩
                        · rcases hf with hf | hf
                          · omega
                          · omega
                        · rw [hd2, HA2.out, HB2.out]
                          exact HW7
                      case measure => simp [intOf]; omega
            · have hd : decide (n % 8 = 7 ∨ n + 1 = ws.length) = false := decide_eq_false hf
              rw [hd]
              have hj' : j = n + 1 - (n + 1) % 8 := by have := EJ.out; omega
              have HJ' := Lib.hid hj'
              clear hj' EJ
              go_wp2
              go_roundw
              case rel => exact ⟨n + 1, j, by omega, by go_num, fun _ => HJ'.out, fun e => absurd (Or.inr e) hf, a', c', s, t, HW2⟩
              case measure => simp [intOf]; omega
      · have en : n = ws.length := by omega
        have ejn := hj2 en
        have ho : wr.ownsRow w0.heap.size 2 1 u8 ws.length (ws.map (Value.int .i64)) := by
          have := HW.out.own
          rwa [ejn, en, List.take_length] at this
        have hbel := Lib.hid HW.out.bel
        clear HW hj1 hj2 ejn hn
        subst en
        obtain ⟨ta, cp, rfl, _, hts, _⟩ := own_slis ho
        have TS := Lib.hid hts
        clear ho hts
        go_wp2_with fail
        refine (ints15 ws ws ta a cp cap hlen _ TS.out (S1.out.below hbel.out)).mono ?_
        rintro e w9 ⟨rfl, hb⟩
        rw [beq_self_eq_true]
        have B9 := Lib.hid (hbel.out.trans (hb.mono hbel.out.size))
        clear hb
        go_wp2_with fail
        go_ret
        exact ⟨rfl, B9.out⟩
  · go_wp2
    go_ret
    exact ⟨rfl, I1.out.1⟩
end Go.Proofs.Ytoblckocmakakaa
