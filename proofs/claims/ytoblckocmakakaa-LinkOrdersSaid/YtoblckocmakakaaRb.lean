/-
  Two packets are the same, the reference's word; an end's packet, the reference's: no conditions but those named.
-/
import Derived.Test.YtoblckocmakakaaRa
namespace Go.Proofs.Ytoblckocmakakaa
open Go.RowKit
set_option maxRecDepth 20000 in
set_option maxHeartbeats 2000000 in
theorem samep23 (l1 l2 l3 : Int) (xs : List Int) (l5 m1 m2 m3 : Int) (ys : List Int) (m5 : Int) (a b : Option Addr) (ca cb : Nat) (hx : xs.length ≤ 9223372036854775807) (w : World) (ha : SlIs w a xs) (hb : SlIs w b ys) :
    Calls Try.prog 23 #[.agg #[.int .i64 l1, .int .i64 l2, .int .i64 l3, .slice a xs.length ca, .int .i64 l5], .agg #[.int .i64 m1, .int .i64 m2, .int .i64 m3, .slice b ys.length cb, .int .i64 m5]] w fun e w' => e = .returned (.bool (((((xs == ys) && l1 == m1) && l2 == m2) && l3 == m3) && l5 == m5)) ∧ Below w.heap.size w w' := by
  have HA := Lib.hid ha
  have HB := Lib.hid hb
  clear ha hb
  cases hX : xs == ys with
  | false =>
    go_enter Try.func23, Try.ntmps23
    have k := two_kept (Below.refl (w.heap.size + 2) ((w.alloc (.cells #[.int .i64 l1, .int .i64 l2, .int .i64 l3, .slice a xs.length ca, .int .i64 l5] 38)).alloc (.cells #[.int .i64 m1, .int .i64 m2, .int .i64 m3, .slice b ys.length cb, .int .i64 m5] 38)))
    have K := Lib.hid k
    clear k
    go_wp2_with (first
      | (go_at_call 15; refine (ints15 _ _ _ _ _ _ hx _ (HA.out.below (alloc2 _ _ _)) (HB.out.below (alloc2 _ _ _))).mono ?_; rintro e w1 ⟨rfl, hb⟩; rw [hX]; have B1 := Lib.hid ((alloc2 w _ _).trans (hb.mono (by simp; omega))); have k0 := (hb.block w.heap.size (by simp; omega)).trans K.out.1; have k1 := (hb.block (w.heap.size + 1) (by simp)).trans K.out.2.1; obtain ⟨c0, c1, c2, c3, c4, _⟩ := five k0; obtain ⟨d0, d1, d2, d3, d4, _⟩ := five k1; clear hb k0 k1))
    go_ret
    exact ⟨rfl, B1.out⟩
  | true =>
    cases h1 : l1 == m1 with
    | false =>
      go_enter Try.func23, Try.ntmps23
      have k := two_kept (Below.refl (w.heap.size + 2) ((w.alloc (.cells #[.int .i64 l1, .int .i64 l2, .int .i64 l3, .slice a xs.length ca, .int .i64 l5] 38)).alloc (.cells #[.int .i64 m1, .int .i64 m2, .int .i64 m3, .slice b ys.length cb, .int .i64 m5] 38)))
      have K := Lib.hid k
      clear k
      go_wp2_with (first
        | (go_at_call 15; refine (ints15 _ _ _ _ _ _ hx _ (HA.out.below (alloc2 _ _ _)) (HB.out.below (alloc2 _ _ _))).mono ?_; rintro e w1 ⟨rfl, hb⟩; rw [hX]; have B1 := Lib.hid ((alloc2 w _ _).trans (hb.mono (by simp; omega))); have k0 := (hb.block w.heap.size (by simp; omega)).trans K.out.1; have k1 := (hb.block (w.heap.size + 1) (by simp)).trans K.out.2.1; obtain ⟨c0, c1, c2, c3, c4, _⟩ := five k0; obtain ⟨d0, d1, d2, d3, d4, _⟩ := five k1; clear hb k0 k1))
      go_ret
      exact ⟨rfl, B1.out⟩
    | true =>
      cases h2 : l2 == m2 with
      | false =>
        go_enter Try.func23, Try.ntmps23
        have k := two_kept (Below.refl (w.heap.size + 2) ((w.alloc (.cells #[.int .i64 l1, .int .i64 l2, .int .i64 l3, .slice a xs.length ca, .int .i64 l5] 38)).alloc (.cells #[.int .i64 m1, .int .i64 m2, .int .i64 m3, .slice b ys.length cb, .int .i64 m5] 38)))
        have K := Lib.hid k
        clear k
        go_wp2_with (first
          | (go_at_call 15; refine (ints15 _ _ _ _ _ _ hx _ (HA.out.below (alloc2 _ _ _)) (HB.out.below (alloc2 _ _ _))).mono ?_; rintro e w1 ⟨rfl, hb⟩; rw [hX]; have B1 := Lib.hid ((alloc2 w _ _).trans (hb.mono (by simp; omega))); have k0 := (hb.block w.heap.size (by simp; omega)).trans K.out.1; have k1 := (hb.block (w.heap.size + 1) (by simp)).trans K.out.2.1; obtain ⟨c0, c1, c2, c3, c4, _⟩ := five k0; obtain ⟨d0, d1, d2, d3, d4, _⟩ := five k1; clear hb k0 k1))
        go_ret
        exact ⟨rfl, B1.out⟩
      | true =>
        cases h3 : l3 == m3 with
        | false =>
          go_enter Try.func23, Try.ntmps23
          have k := two_kept (Below.refl (w.heap.size + 2) ((w.alloc (.cells #[.int .i64 l1, .int .i64 l2, .int .i64 l3, .slice a xs.length ca, .int .i64 l5] 38)).alloc (.cells #[.int .i64 m1, .int .i64 m2, .int .i64 m3, .slice b ys.length cb, .int .i64 m5] 38)))
          have K := Lib.hid k
          clear k
          go_wp2_with (first
            | (go_at_call 15; refine (ints15 _ _ _ _ _ _ hx _ (HA.out.below (alloc2 _ _ _)) (HB.out.below (alloc2 _ _ _))).mono ?_; rintro e w1 ⟨rfl, hb⟩; rw [hX]; have B1 := Lib.hid ((alloc2 w _ _).trans (hb.mono (by simp; omega))); have k0 := (hb.block w.heap.size (by simp; omega)).trans K.out.1; have k1 := (hb.block (w.heap.size + 1) (by simp)).trans K.out.2.1; obtain ⟨c0, c1, c2, c3, c4, _⟩ := five k0; obtain ⟨d0, d1, d2, d3, d4, _⟩ := five k1; clear hb k0 k1))
          go_ret
          exact ⟨rfl, B1.out⟩
        | true =>
          cases h4 : l5 == m5 with
          | false =>
            go_enter Try.func23, Try.ntmps23
            have k := two_kept (Below.refl (w.heap.size + 2) ((w.alloc (.cells #[.int .i64 l1, .int .i64 l2, .int .i64 l3, .slice a xs.length ca, .int .i64 l5] 38)).alloc (.cells #[.int .i64 m1, .int .i64 m2, .int .i64 m3, .slice b ys.length cb, .int .i64 m5] 38)))
            have K := Lib.hid k
            clear k
            go_wp2_with (first
              | (go_at_call 15; refine (ints15 _ _ _ _ _ _ hx _ (HA.out.below (alloc2 _ _ _)) (HB.out.below (alloc2 _ _ _))).mono ?_; rintro e w1 ⟨rfl, hb⟩; rw [hX]; have B1 := Lib.hid ((alloc2 w _ _).trans (hb.mono (by simp; omega))); have k0 := (hb.block w.heap.size (by simp; omega)).trans K.out.1; have k1 := (hb.block (w.heap.size + 1) (by simp)).trans K.out.2.1; obtain ⟨c0, c1, c2, c3, c4, _⟩ := five k0; obtain ⟨d0, d1, d2, d3, d4, _⟩ := five k1; clear hb k0 k1))
            go_ret
            exact ⟨rfl, B1.out⟩
          | true =>
            go_enter Try.func23, Try.ntmps23
            have k := two_kept (Below.refl (w.heap.size + 2) ((w.alloc (.cells #[.int .i64 l1, .int .i64 l2, .int .i64 l3, .slice a xs.length ca, .int .i64 l5] 38)).alloc (.cells #[.int .i64 m1, .int .i64 m2, .int .i64 m3, .slice b ys.length cb, .int .i64 m5] 38)))
            have K := Lib.hid k
            clear k
            go_wp2_with (first
              | (go_at_call 15; refine (ints15 _ _ _ _ _ _ hx _ (HA.out.below (alloc2 _ _ _)) (HB.out.below (alloc2 _ _ _))).mono ?_; rintro e w1 ⟨rfl, hb⟩; rw [hX]; have B1 := Lib.hid ((alloc2 w _ _).trans (hb.mono (by simp; omega))); have k0 := (hb.block w.heap.size (by simp; omega)).trans K.out.1; have k1 := (hb.block (w.heap.size + 1) (by simp)).trans K.out.2.1; obtain ⟨c0, c1, c2, c3, c4, _⟩ := five k0; obtain ⟨d0, d1, d2, d3, d4, _⟩ := five k1; clear hb k0 k1))
            go_ret
            exact ⟨rfl, B1.out⟩
/-- The same packet. -/
theorem samepC (p : Pk) (a b : Option Addr) (ca cb : Nat) (w : World) (hx : p.words.length ≤ 9223372036854775807) (ha : SlIs w a p.words) (hb : SlIs w b p.words) : Calls Try.prog 23 #[.agg (pkA p a ca), .agg (pkA p b cb)] w fun e w' => e = .returned (.bool true) ∧ Below w.heap.size w w' := by
  refine (samep23 _ _ _ _ _ _ _ _ _ _ _ _ _ _ hx w ha hb).mono ?_
  rintro e w' ⟨rfl, hb⟩
  exact ⟨by simp, hb⟩
/-- The same 'append', as one operation. -/
theorem wp_app24c {o : Oper} {a : Act} {W : World} {K : Act → World → Prop} {Q : Exit → Act → World → Prop} (s x : Operand) (ho : o.op = .call { callee := .builtin .append, args := #[s, x], argTypes := #[24, 24] })
    (base : Nat) (v : Value) (zs ys : List Int) (hs : a.eval s = v) (hown : W.ownsRow base 2 1 v zs.length (zs.map (Value.int .i64))) (ta : Option Addr) (cx : Nat) (hcx : ta = none → cx = 0) (hx : a.eval x = .slice ta ys.length cx) (hy : SlIs W ta ys) (hl : zs.length + ys.length ≤ 10000) (hbase : base ≤ W.heap.size)
    (h : ∀ v' w', w'.ownsRow base 2 1 v' (zs ++ ys).length ((zs ++ ys).map (Value.int .i64)) → W.grownBy w' v.ownBlock → (v'.ownBlock = v.ownBlock ∨ v'.ownBlock = some W.heap.size) → K (a.put o.dst v') w') : o.wp Try.prog a W K Q := by
  obtain ⟨i2, j1, j2, j3, j4⟩ := info2
  cases ta with
  | none =>
    have hn := hy.none_nil
    subst hn
    rw [hcx rfl] at hx
    have hx : a.eval x = .slice none 0 0 := hx
    have hrun := run_append_owned_none (P := Try.prog) (w := W) base 24 o.type 2 i2 1 Try.underlying24 j1 v zs.length (zs.map (Value.int .i64)) hown
    have hk := h v W (by rw [List.append_nil]; exact hown) (World.grownBy.refl _ _) (Or.inl rfl)
    unfold Oper.wp
    simp [execOp, ho, resolve, invoke, builtin, hs, hx, hrun, Result.andThen]
    exact hk
  | some ad =>
    obtain ⟨v', w', hr, h2, h3, _, h5⟩ := run_append_own_at (P := Try.prog) W base 24 o.type 2 i2 (.int .i64 0) 1 8 Try.underlying24 j1 j2 j3 j4 rfl (by omega) v zs.length (zs.map (Value.int .i64)) hown ad ys.length cx (ys.map (Value.int .i64)) (by simp) (fun j u hj => hy.at j u hj) (by simp [Value.oneCell']) (by unfold maxLen; omega) (by omega) hbase
    have hk := h v' w' (by rw [List.length_append, List.map_append]; exact h2) h3 h5
    unfold Oper.wp execOp
    simp only [ho, resolve, invoke, builtin, Sem.run_bind, Sem.run_pure, Result.andThen_ok, List.map_toArray, List.map_cons, List.map_nil, hs, hx, hr]
    exact hk
theorem BoxS.grown {w : World} {n : Nat} {v0 v1 v2 v3 v4 : Value} {t t2 : TypeId} {W W1 : World} (h : BoxS w n v0 v1 v2 v3 v4 t t2 W) {g : Nat} (hg : W.grownBy W1 (some g)) (hn : n + 2 ≤ g) : BoxS w n v0 v1 v2 v3 v4 t t2 W1 := by
  obtain ⟨p1, p2, p3, u0, u1, u2, u3, u4, p4⟩ := h.2.2.2.2.2.out
  refine .of ⟨p1.grown hg (by omega) (fun k e => by cases e; omega), grown_at hg p2 (fun e => by cases e; omega), Nat.le_trans p3 hg.size, u0, u1, u2, u3, u4, grown_at hg p4 (fun e => by cases e; omega)⟩
theorem box_grown {w : World} {n : Nat} {v0 v1 v2 v3 v4 : Value} {t t2 : TypeId} {W1 : World} (h : BoxS w n v0 v1 v2 v3 v4 t t2 W1) : Hid (Below n w W1) ∧ ∃ u0 u1 u2 u3 u4, Hid (W1.heap[n + 1]? = some (.cells #[u0, u1, u2, u3, u4] t2)) ∧ W1.cell? ⟨n + 1, 0, none⟩ = some u0 ∧ W1.cell? ⟨n + 1, 1, none⟩ = some u1 ∧ W1.cell? ⟨n + 1, 2, none⟩ = some u2 ∧ W1.cell? ⟨n + 1, 3, none⟩ = some u3 ∧ W1.cell? ⟨n + 1, 4, none⟩ = some u4 ∧ W1.frozen? ⟨n + 1, 0, none⟩ = false ∧ W1.frozen? ⟨n + 1, 1, none⟩ = false ∧ W1.frozen? ⟨n + 1, 2, none⟩ = false ∧ W1.frozen? ⟨n + 1, 3, none⟩ = false ∧ W1.frozen? ⟨n + 1, 4, none⟩ = false := by
  obtain ⟨p1, p2, p3, u0, u1, u2, u3, u4, p4⟩ := h.2.2.2.2.2.out
  exact ⟨Lib.hid p1, u0, u1, u2, u3, u4, Lib.hid p4, five' p4⟩
set_option maxHeartbeats 4000000 in
theorem rout_any (own other first : Int) (a : Option Addr) (zs : List Int) (cap : Nat) (next : Int) (w : World) (h : SlIs w a zs) (hl : zs.length ≤ 100) (hnc : a = none → cap = 0) :
    Calls Try.prog 24 #[.agg #[.int .i64 own, .int .i64 other, .int .i64 first, .slice a zs.length cap, .int .i64 next]] w fun e w' =>
      ∃ a' c', e = .returned (.agg #[.int .i64 own, .int .i64 other, .int .i64 first, .slice a' zs.length c', .int .i64 next]) ∧ SlIs w' a' zs ∧ Below w.heap.size w w' := by
  have HS := Lib.hid h
  clear h
  go_enter Try.func24, Try.ntmps24
  go_upto_region 1 with (fail)
  go_region_held3 (fun W => W.cell? ⟨w.heap.size, 0, none⟩ = some (.int .i64 own) ∧ W.cell? ⟨w.heap.size, 1, none⟩ = some (.int .i64 other) ∧ W.cell? ⟨w.heap.size, 2, none⟩ = some (.int .i64 first) ∧ W.cell? ⟨w.heap.size, 3, none⟩ = some (.slice a zs.length cap) ∧ W.cell? ⟨w.heap.size, 4, none⟩ = some (.int .i64 next) ∧ Hid (BoxP w w.heap.size (.int .i64 own) (.int .i64 other) (.int .i64 first) (.slice a zs.length cap) (.int .i64 next) 26 38 W))
    (first | with_reducible exact S9 | with_reducible exact BoxS.start | with_reducible exact (((((BoxS.set (by assumption) _ _ (by decide)).set _ _ (by decide)).set _ _ (by decide)).set _ _ (by decide)).set _ _ (by decide)) | exact BoxS.call (by assumption) ((Below.refl _ _).alloc (Nat.le_refl _) _))
    (first | (rw [if_pos (by rfl)]; refine wp_app24c _ _ rfl w.heap.size (.slice (some ⟨w.heap.size + 1 + 1, 0, none⟩) 0 0) [] zs rfl (own_new (by simp; omega) (by simp)).drew a cap hnc rfl (HS.out.below ((((Below.refl _ _).alloc (Nat.le_refl _) _).alloc (by simp) _).alloc (by simp; omega) _).drew) (by simp; omega) (by simp; omega) ?_; intro v1 w1 ho hg hn; have S9 := BoxS.grown (w := w) (n := w.heap.size) (v0 := .int .i64 own) (v1 := .int .i64 other) (v2 := .int .i64 first) (v3 := .slice a zs.length cap) (v4 := .int .i64 next) (t := 26) (t2 := 38) (by assumption) (g := w.heap.size + 1 + 1) hg (by omega); obtain ⟨hB1, u0, u1, u2, u3, u4, hz, d0, d1, d2, d3, d4, e0, e1, e2, e3, e4⟩ := box_grown S9; obtain ⟨a2, cp2, hv2, hc2, hs2, hob⟩ := own_slis ho; have n1 := own_ne ho hz.out (by decide); rw [hob] at n1; rw [List.nil_append] at hv2 hc2 hs2; subst hv2; have HF := Lib.hid (And.intro hs2 (apart_of_map n1)); clear ho hg hn hs2 hob n1 hc2 hz))
  rename_i hK hHeld
  clear hHeld
  refine hK _ _ ?_
  go_wp2_with fail
  refine bodyPost_ret (v := .agg #[.int .i64 own, .int .i64 other, .int .i64 first, .slice a2 zs.length cp2, .int .i64 next]) (by simp [results, Try.results24, go_sem, d0, d1, d2, d3, d4]) rfl ⟨a2, cp2, rfl, ?_, ?_⟩
  · exact HF.out.1.set5 HF.out.2 _ _ _ _ _
  · exact (((((hB1.out.setCell (by simp) _).setCell (by simp) _).setCell (by simp) _).setCell (by simp) _).setCell (by simp) _)
end Go.Proofs.Ytoblckocmakakaa
