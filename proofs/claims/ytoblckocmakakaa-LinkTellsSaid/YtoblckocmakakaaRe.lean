/-
  A packet that comes at an end, the reference's: no conditions but those of right ends.
-/
import Derived.Test.YtoblckocmakakaaRd
namespace Go.Proofs.Ytoblckocmakakaa
open Go.RowKit
theorem own_full {W : World} {base : Nat} {v : Value} {zs : List Int} (h : W.ownsRow base 2 1 v zs.length (zs.map (Value.int .i64))) : ∃ a cap, v = .slice a zs.length cap ∧ zs.length ≤ cap ∧ SlIs W a zs ∧ Since' base a ∧ Old W a ∧ (∀ b cs t, W.heap[b]? = some (.cells cs t) → t ≠ 2 → Apart b a) ∧ (a = none ∨ ∃ b off, a = some ⟨b, off, none⟩) := by
  have hk := h
  obtain ⟨a, cap, rfl, h1, h2, h3⟩ := own_slis h
  refine ⟨a, cap, rfl, h1, h2, fun b off e => ?_, fun b off e => ?_, fun b cs t hb ht => ?_, ?_⟩
  · exact (own_block h (g := b) (by rw [h3, e]; rfl)).1
  · exact (own_block h (g := b) (by rw [h3, e]; rfl)).2.1
  · exact apart_of_map (by rw [← h3]; exact own_ne h hb ht)
  · rcases hk.2 with ⟨e, _⟩ | ⟨g, cap', cur, e, _⟩
    · injection e with e1; exact Or.inl e1
    · injection e with e1; exact Or.inr ⟨g, 0, e1⟩
theorem Box3.grown {w : World} {n : Nat} {v0 v1 v2 v3 v4 p0 p1 p2 p3 p4 : Value} {W W1 : World} (h : Box3 w n v0 v1 v2 v3 v4 p0 p1 p2 p3 p4 W) {g : Nat} (hg : W.grownBy W1 (some g)) (hn : n + 3 ≤ g) : Box3 w n v0 v1 v2 v3 v4 p0 p1 p2 p3 p4 W1 := by
  obtain ⟨b, s, h0, h1, h2⟩ := h
  exact ⟨b.grown hg (by omega) (fun k e => by cases e; omega), Nat.le_trans s hg.size, grown_at hg h0 (fun e => by cases e; omega), grown_at hg h1 (fun e => by cases e; omega), grown_at hg h2 (fun e => by cases e; omega)⟩
theorem Box3.far {w : World} {n : Nat} {v0 v1 v2 v3 v4 p0 p1 p2 p3 p4 : Value} {W : World} (h : Box3 w n v0 v1 v2 v3 v4 p0 p1 p2 p3 p4 W) {b : Nat} (hb : n + 3 ≤ b) (j : Nat) (v : Value) : Box3 w n v0 v1 v2 v3 v4 p0 p1 p2 p3 p4 (W.setCell ⟨b, j, none⟩ v) := by
  obtain ⟨q, s, h0, h1, h2⟩ := h
  exact ⟨q.setCell (by show n ≤ b; omega) _, by simpa using s, (heap_setCell_other _ _ _ _ (by show n ≠ b; omega)).trans h0, (heap_setCell_other _ _ _ _ (by show n + 1 ≠ b; omega)).trans h1, (heap_setCell_other _ _ _ _ (by show n + 1 + 1 ≠ b; omega)).trans h2⟩
theorem Box3.chain {w : World} {n : Nat} {v0 v1 v2 v3 v4 p0 p1 p2 p3 p4 : Value} {W : World} (h : Box3 w n v0 v1 v2 v3 v4 p0 p1 p2 p3 p4 W) {b : Nat} (hb : n + 3 ≤ b) (u0 u1 u2 u3 u4 : Value) : Box3 w n v0 v1 v2 v3 v4 p0 p1 p2 p3 p4 (((((W.setCell ⟨b, 0, none⟩ u0).setCell ⟨b, 1, none⟩ u1).setCell ⟨b, 2, none⟩ u2).setCell ⟨b, 3, none⟩ u3).setCell ⟨b, 4, none⟩ u4) :=
  ((((h.far hb _ _).far hb _ _).far hb _ _).far hb _ _).far hb _ _
/-- The copy is made: in a box made before, or behind. -/
theorem rx_set {w : World} {l : Lk} {a : Option Addr} {c : Nat} {p : Pk} {pa : Option Addr} {pc : Nat} {bo : Nat} {s : Option Addr} {t : Nat} {W : World} {c0 c1 c2 c3 c4 : Value} (h : Box3 w w.heap.size (.int .i64 l.own) (.int .i64 l.other) (.int .i64 l.first) (.slice a l.sent.length c) (.int .i64 l.next) (.int .i64 p.fr) (.int .i64 p.«to») (.int .i64 p.place) (.slice pa p.words.length pc) (.int .i64 p.wait) W) (hb : w.heap.size + 3 ≤ bo) (hz : W.heap[bo]? = some (.cells #[c0, c1, c2, c3, c4] 26)) (hs : SlIs W s l.sent) (hc : l.sent.length ≤ t) (hsi : Since' (w.heap.size + 3) s) (ho : Old W s) (hap : Apart bo s) :
    Rx w w.heap.size l a c p pa pc bo l s t (((((W.setCell ⟨bo, 0, none⟩ (.int .i64 l.own)).setCell ⟨bo, 1, none⟩ (.int .i64 l.other)).setCell ⟨bo, 2, none⟩ (.int .i64 l.first)).setCell ⟨bo, 3, none⟩ (.slice s l.sent.length t)).setCell ⟨bo, 4, none⟩ (.int .i64 l.next)) :=
  have k := nb_set h.1 (Nat.le_trans (Nat.le_add_right _ _) hb) hz l s t
  have q := h.chain hb (.int .i64 l.own) (.int .i64 l.other) (.int .i64 l.first) (.slice s l.sent.length t) (.int .i64 l.next)
  ⟨q.1, q.2.2.1, q.2.2.2.1, q.2.2.2.2, hb, k.2, hs.set5 hap _ _ _ _ _, hc, hap, hsi, ho.le (by simp)⟩
theorem rx_alloc {w : World} {l : Lk} {a : Option Addr} {c : Nat} {p : Pk} {pa : Option Addr} {pc : Nat} {s : Option Addr} {t : Nat} {W : World} (h : Box3 w w.heap.size (.int .i64 l.own) (.int .i64 l.other) (.int .i64 l.first) (.slice a l.sent.length c) (.int .i64 l.next) (.int .i64 p.fr) (.int .i64 p.«to») (.int .i64 p.place) (.slice pa p.words.length pc) (.int .i64 p.wait) W) (hs : SlIs W s l.sent) (hc : l.sent.length ≤ t) (hsi : Since' (w.heap.size + 3) s) (ho : Old W s) :
    Rx w w.heap.size l a c p pa pc W.heap.size l s t (W.alloc (.cells #[.int .i64 l.own, .int .i64 l.other, .int .i64 l.first, .slice s l.sent.length t, .int .i64 l.next] 26)) :=
  have e := (Below.refl W.heap.size W).alloc (Nat.le_refl _) (.cells #[.int .i64 l.own, .int .i64 l.other, .int .i64 l.first, .slice s l.sent.length t, .int .i64 l.next] 26)
  have q := h.call e
  ⟨q.1, q.2.2.1, q.2.2.2.1, q.2.2.2.2, h.2.1, heap_alloc_new _ _, hs.below e, hc, ho.apart (Nat.le_refl _), hsi, ho.below e⟩
/-- What is told of the first m words. -/
def toldTo (l : Lk) (p : Pk) (m : Nat) : List Int := if l.next - p.place < 0 then [] else (p.words.take m).drop (l.next - p.place).toNat
theorem toldTo_len (l : Lk) (p : Pk) (m : Nat) : (toldTo l p m).length ≤ m := by
  unfold toldTo
  split
  · simp
  · rw [List.length_drop, List.length_take]; omega
theorem toldTo_all (l : Lk) (p : Pk) : toldTo l p p.words.length = toldC l p := by
  unfold toldTo toldC
  rw [List.take_length]
  by_cases h : l.next - p.place < 0
  · rw [if_pos h, if_pos (Or.inl h)]
  · rw [if_neg h]
    by_cases h2 : (p.words.length : Int) ≤ l.next - p.place
    · rw [if_pos (Or.inr h2), List.drop_eq_nil_of_le (by omega)]
    · rw [if_neg (by omega)]
theorem toldTo_step (l : Lk) (p : Pk) (m : Nat) (hm : m < p.words.length) : (p.place + m = l.next + ((toldTo l p m).length : Int) ∧ toldTo l p (m + 1) = toldTo l p m ++ [p.words[m]]) ∨ (p.place + m ≠ l.next + ((toldTo l p m).length : Int) ∧ toldTo l p (m + 1) = toldTo l p m) := by
  unfold toldTo
  by_cases h : l.next - p.place < 0
  · rw [if_pos h, if_pos h]
    right
    exact ⟨by simp; omega, rfl⟩
  · rw [if_neg h, if_neg h]
    by_cases hk : (l.next - p.place).toNat ≤ m
    · left
      refine ⟨by rw [List.length_drop, List.length_take]; omega, ?_⟩
      rw [List.take_succ_eq_append_getElem hm, List.drop_append_of_le_length (by rw [List.length_take]; omega)]
    · right
      have e1 : (p.words.take m).drop (l.next - p.place).toNat = [] := List.drop_eq_nil_of_le (by rw [List.length_take]; omega)
      have e2 : (p.words.take (m + 1)).drop (l.next - p.place).toNat = [] := List.drop_eq_nil_of_le (by rw [List.length_take]; omega)
      rw [e1, e2]
      exact ⟨by simp; omega, rfl⟩
set_option maxRecDepth 20000 in
set_option maxHeartbeats 8000000 in
/-- The beginning of what the reference makes of a packet that may be. -/
theorem rin_yes (l : Lk) (p : Pk) (a pa : Option Addr) (cap pcap : Nat) (w : World) (hm : mayP l p = true) (hs : l.sent.length ≤ 8) (_hcap : l.sent.length ≤ cap) (_hpcap : p.words.length ≤ pcap) (hnc : a = none → cap = 0)
    (h1 : SlIs w a l.sent) (h2 : SlIs w pa p.words) (hf : 0 ≤ l.first ∧ l.first ≤ 4611686018427387904) (hn : 0 ≤ l.next ∧ l.next ≤ 4611686018427387904) :
    Calls Try.prog 22 #[lkV l a cap, pkV p pa pcap] w fun e w' => ∃ a' cap' ta tc, e = .returned (.tuple #[lkV (inL l p).1 a' cap', .slice ta (inL l p).2.length tc]) ∧ SlIs w' a' (inL l p).1.sent ∧ (inL l p).1.sent.length ≤ cap' ∧ SlIs w' ta (inL l p).2 ∧ Below w.heap.size w w' := by
  obtain ⟨⟨m1, m2⟩, m3, m4, ⟨m5, m6⟩, ⟨m7, m8⟩, m9⟩ := mayP_iff.1 hm
  have HS1 := Lib.hid h1
  have HS2 := Lib.hid h2
  have HM := Lib.hid hm
  have t0 : (p.«to» == l.own) = false → p.«to» = 0 := fun h => by
    rcases m4 with h' | h'
    · exact h'
    · rw [h'] at h; simp at h
  have T0 := Lib.hid t0
  clear h1 h2 hm m4 t0
  unfold lkV pkV
  have B0 := Lib.hid (Box3.start w (.int .i64 l.own) (.int .i64 l.other) (.int .i64 l.first) (.slice a l.sent.length cap) (.int .i64 l.next) (.int .i64 p.fr) (.int .i64 p.«to») (.int .i64 p.place) (.slice pa p.words.length pcap) (.int .i64 p.wait))
  go_enter Try.func22, Try.ntmps22
  go_upto_region 1 with (fail)
  go_cut [36] from 10 (fun v wc => v = .bool false ∧ Hid (Box3 w w.heap.size (.int .i64 l.own) (.int .i64 l.other) (.int .i64 l.first) (.slice a l.sent.length cap) (.int .i64 l.next) (.int .i64 p.fr) (.int .i64 p.«to») (.int .i64 p.place) (.slice pa p.words.length pcap) (.int .i64 p.wait) wc))
  case first =>
    cases hz2 : (p.«to» != 0) with
    | false =>
      go_wp2
      all_goals
        go_meet
        case rel => exact ⟨by simp; omega, B0⟩
    | true =>
      have hz3 : (p.«to» != l.own) = false := by
        cases hq : (p.«to» == l.own) with
        | true => rw [bne, hq]; rfl
        | false => rw [T0.out hq] at hz2; simp at hz2
      go_wp2
      all_goals
        go_meet
        case rel => exact ⟨by simp; omega, B0⟩
  case rest =>
    rename_i K1 hK1
    refine hK1 _ _ ?_
    clear hK1
    obtain ⟨rfl, HB⟩ := hcut
    clear B0
    have hb := box3_five HB.out
    obtain ⟨⟨c0, c1, c2, c3, c4⟩, ⟨d0, d1, d2, d3, d4⟩, _⟩ := box3_facts HB.out
    go_upto_region 5 with (fail)
    have KS : ∀ W, Box3 w w.heap.size (.int .i64 l.own) (.int .i64 l.other) (.int .i64 l.first) (.slice a l.sent.length cap) (.int .i64 l.next) (.int .i64 p.fr) (.int .i64 p.«to») (.int .i64 p.place) (.slice pa p.words.length pcap) (.int .i64 p.wait) W → (W.cell? ⟨w.heap.size, 0, none⟩ = some (.int .i64 l.own) ∧ W.cell? ⟨w.heap.size, 1, none⟩ = some (.int .i64 l.other) ∧ W.cell? ⟨w.heap.size, 2, none⟩ = some (.int .i64 l.first) ∧ W.cell? ⟨w.heap.size, 3, none⟩ = some (.slice a l.sent.length cap) ∧ W.cell? ⟨w.heap.size, 4, none⟩ = some (.int .i64 l.next) ∧ Hid (Box3 w w.heap.size (.int .i64 l.own) (.int .i64 l.other) (.int .i64 l.first) (.slice a l.sent.length cap) (.int .i64 l.next) (.int .i64 p.fr) (.int .i64 p.«to») (.int .i64 p.place) (.slice pa p.words.length pcap) (.int .i64 p.wait) W)) := fun W h => box3_five h
    have hz0 : w.heap.size + 3 ≤ wc.heap.size := HB.out.2.1
    have hz1 : w.heap.size + 3 ≤ wc.heap.size + 1 := by omega
    go_cut [6] from 10 (fun v wd => ∃ bo s t, v = .pointer (some ⟨bo, 0, none⟩) ∧ (s = none ∨ ∃ b off, s = some ⟨b, off, none⟩) ∧ Hid (Rx w w.heap.size l a cap p pa pcap bo l s t wd))
    case first =>
      rename_i J1 K2 hJ hMet
      go_region_held3 (fun W => W.cell? ⟨w.heap.size, 0, none⟩ = some (.int .i64 l.own) ∧ W.cell? ⟨w.heap.size, 1, none⟩ = some (.int .i64 l.other) ∧ W.cell? ⟨w.heap.size, 2, none⟩ = some (.int .i64 l.first) ∧ W.cell? ⟨w.heap.size, 3, none⟩ = some (.slice a l.sent.length cap) ∧ W.cell? ⟨w.heap.size, 4, none⟩ = some (.int .i64 l.next) ∧ Hid (Box3 w w.heap.size (.int .i64 l.own) (.int .i64 l.other) (.int .i64 l.first) (.slice a l.sent.length cap) (.int .i64 l.next) (.int .i64 p.fr) (.int .i64 p.«to») (.int .i64 p.place) (.slice pa p.words.length pcap) (.int .i64 p.wait) W))
        (first
          | with_reducible exact KS _ (BX.out.chain hz1 _ _ _ _ _)
          | with_reducible exact KS _ (BX.out.chain hz0 _ _ _ _ _)
          | with_reducible exact KS _ BX.out
          | with_reducible exact KS _ (BX.out.call ((Below.refl _ _).alloc (Nat.le_refl _) _))
          | with_reducible exact KS _ (HB.out.call ((Below.refl _ _).alloc (Nat.le_refl _) _).drew)
          | with_reducible exact KS _ (HB.out.call (((Below.refl _ _).alloc (Nat.le_refl _) _).alloc (by simp) _).drew)
          | with_reducible exact KS _ HB.out.drew)
        (first
          | (rw [if_pos (by rfl)]; refine wp_app24c _ _ rfl (w.heap.size + 3) (.slice (some ⟨wc.heap.size, 0, none⟩) 0 0) [] l.sent rfl (own_new HB.out.2.1 rfl).drew a cap hnc rfl ((HS1.out.below HB.out.1).below ((Below.refl _ _).alloc (Nat.le_refl _) _).drew) (by simp; omega) (by have := HB.out.2.1; simp; omega) ?_; intro v1 w1 ho hg hn; have BX := Lib.hid (Box3.grown (HB.out.call ((Below.refl _ _).alloc (Nat.le_refl _) _).drew) (g := wc.heap.size) hg (by have := HB.out.2.1; omega)); rw [List.nil_append] at ho; obtain ⟨a2, cp2, hv2, hc2, hs2, hsi2, ho2, hap2, hno2⟩ := own_full ho; subst hv2; have HF := Lib.hid (And.intro hs2 (And.intro hc2 (And.intro hsi2 (And.intro ho2 hap2)))); obtain ⟨y0, y1, y2, y3, y4, x0, x1, x2, x3, x4⟩ := five' (heap_alloc_new w1 (.cells #[.int .i64 0, .int .i64 0, .int .i64 0, .slice none 0 0, .int .i64 0] 26)); clear ho hg hn hs2 hc2 hsi2 ho2 hap2)
          | (rw [if_pos (by rfl)]; refine wp_app24c _ _ rfl (w.heap.size + 3) (.slice (some ⟨wc.heap.size, 0, none⟩) 0 0) [] l.sent rfl (own_below (own_new HB.out.2.1 rfl) ((Below.refl _ _).alloc (Nat.le_refl _) _)).drew a cap hnc rfl ((HS1.out.below HB.out.1).below (((Below.refl _ _).alloc (Nat.le_refl _) _).alloc (by simp) _).drew) (by simp; omega) (by have := HB.out.2.1; simp; omega) ?_; intro v1 w1 ho hg hn; have BX := Lib.hid (Box3.grown (HB.out.call (((Below.refl _ _).alloc (Nat.le_refl _) _).alloc (by simp) _).drew) (g := wc.heap.size) hg (by have := HB.out.2.1; omega)); have z5 : w1.heap[wc.heap.size + 1]? = some (.cells #[.int .i64 0, .int .i64 0, .int .i64 0, .slice none 0 0, .int .i64 0] 26) := grown_at hg (heap_at _ _ _ (by simp)) (by simp [Value.ownBlock]); obtain ⟨n0, n1, n2, n3, n4, o0, o1, o2, o3, o4⟩ := five' z5; have Z5 := Lib.hid z5; clear z5; rw [List.nil_append] at ho; obtain ⟨a2, cp2, hv2, hc2, hs2, hsi2, ho2, hap2, hno2⟩ := own_full ho; subst hv2; have HF := Lib.hid (And.intro hs2 (And.intro hc2 (And.intro hsi2 (And.intro ho2 hap2)))); obtain ⟨y0, y1, y2, y3, y4, x0, x1, x2, x3, x4⟩ := five' (heap_alloc_new w1 (.cells #[.int .i64 0, .int .i64 0, .int .i64 0, .slice none 0 0, .int .i64 0] 26)); clear ho hg hn hs2 hc2 hsi2 ho2 hap2)
          | (rw [if_pos (by rfl)]; refine wp_app24c _ _ rfl (w.heap.size + 3) (.slice (some ⟨wc.heap.size + 1, 0, none⟩) 0 0) [] l.sent rfl (own_new (by have := HB.out.2.1; simp; omega) (by simp)).drew a cap hnc rfl ((HS1.out.below HB.out.1).below (((Below.refl _ _).alloc (Nat.le_refl _) _).alloc (by simp) _).drew) (by simp; omega) (by have := HB.out.2.1; simp; omega) ?_; intro v1 w1 ho hg hn; have BX := Lib.hid (Box3.grown (HB.out.call (((Below.refl _ _).alloc (Nat.le_refl _) _).alloc (by simp) _).drew) (g := wc.heap.size + 1) hg (by have := HB.out.2.1; omega)); have z5 : w1.heap[wc.heap.size]? = some (.cells #[.int .i64 0, .int .i64 0, .int .i64 0, .slice none 0 0, .int .i64 0] 26) := grown_at hg ((heap_alloc_old _ _ (by simp)).trans (heap_alloc_new wc _)) (by simp [Value.ownBlock]); obtain ⟨n0, n1, n2, n3, n4, o0, o1, o2, o3, o4⟩ := five' z5; have Z5 := Lib.hid z5; clear z5; rw [List.nil_append] at ho; obtain ⟨a2, cp2, hv2, hc2, hs2, hsi2, ho2, hap2, hno2⟩ := own_full ho; subst hv2; have HF := Lib.hid (And.intro hs2 (And.intro hc2 (And.intro hsi2 (And.intro ho2 hap2)))); obtain ⟨y0, y1, y2, y3, y4, x0, x1, x2, x3, x4⟩ := five' (heap_alloc_new w1 (.cells #[.int .i64 0, .int .i64 0, .int .i64 0, .slice none 0 0, .int .i64 0] 26)); clear ho hg hn hs2 hc2 hsi2 ho2 hap2))
      all_goals
        show K2 _ _
        refine hMet _ _ ?_
        try simp only [Act.put, List.getElem_toArray, List.getElem_cons_succ, List.getElem_cons_zero, List.setIfInBounds_toArray, List.set_cons_zero, List.set_cons_succ]
        go_meet
        case rel =>
          first
            | (have NB := rx_set (bo := wc.heap.size + 1) (s := a2) (t := cp2) BX.out (by have := HB.out.2.1; omega) Z5.out HF.out.1 HF.out.2.1 HF.out.2.2.1 HF.out.2.2.2.1 (HF.out.2.2.2.2 _ _ _ Z5.out (by decide))
               with_reducible exact ⟨_, a2, cp2, rfl, hno2, Lib.hid NB⟩)
            | (have NB := rx_set (bo := wc.heap.size) (s := a2) (t := cp2) BX.out (by have := HB.out.2.1; omega) Z5.out HF.out.1 HF.out.2.1 HF.out.2.2.1 HF.out.2.2.2.1 (HF.out.2.2.2.2 _ _ _ Z5.out (by decide))
               with_reducible exact ⟨_, a2, cp2, rfl, hno2, Lib.hid NB⟩)
            | (have NB := rx_alloc (s := a2) (t := cp2) BX.out HF.out.1 HF.out.2.1 HF.out.2.2.1 HF.out.2.2.2.1
               with_reducible exact ⟨_, a2, cp2, rfl, hno2, Lib.hid NB⟩)
    case rest =>
      rename_i K1 hK1
      refine hK1 _ _ ?_
      clear hK1
      obtain ⟨bo, s, t, rfl, hno, HR⟩ := hcut
      have HNO := Lib.hid hno
      clear hno
      clear HB KS hb c0 c1 c2 c3 c4 d0 d1 d2 d3 d4 hz0 hz1
      obtain ⟨c0, c1, c2, c3, c4, _⟩ := five HR.out.b0
      obtain ⟨d0, d1, d2, d3, d4, _⟩ := five HR.out.b1
      obtain ⟨e0, e1, e2, e3, e4, f0, f1, f2, f3, f4⟩ := five' HR.out.hbo
      go_upto_if 80 with (fail)
      go_cut [] from 10 (fun wd => Hid (Rx w w.heap.size l a cap p pa pcap bo (inA l p) s t wd))
      case first =>
        by_cases hlt : l.other < p.fr
        · go_wp2
          go_meet
          case rel =>
            unfold inA
            rw [if_pos hlt]
            exact Lib.hid (((HR.out.set1 p.fr).set4 0).set2 0)
        · go_wp2
          go_meet
          case rel =>
            unfold inA
            rw [if_neg (by omega)]
            exact HR
      case rest =>
        rename_i K1 hK1
        refine hK1 _ _ ?_
        clear hK1
        clear HR c0 c1 c2 c3 c4 d0 d1 d2 d3 d4 e0 e1 e2 e3 e4 f0 f1 f2 f3 f4
        have hA1 := inA_own l p
        have hA2 := inA_sent l p
        have hA3 : (0 ≤ (inA l p).first ∧ (inA l p).first ≤ 4611686018427387904) ∧ (0 ≤ (inA l p).next ∧ (inA l p).next ≤ 4611686018427387904) := by
          unfold inA
          split
          · simp
          · exact ⟨hf, hn⟩
        have HIN : Hid (inL l p = ({ inB (inA l p) p with next := (inB (inA l p) p).next + (toldC (inB (inA l p) p) p).length }, toldC (inB (inA l p) p) p)) := Lib.hid (inL_yes HM.out)
        have HA1 := Lib.hid hA1
        have HA2 := Lib.hid hA2
        obtain ⟨⟨g1, g2⟩, g3, g4⟩ := hA3
        have hAl : (inA l p).sent.length ≤ 8 := by rw [hA2]; exact hs
        have HR := hcut
        clear hcut hA1 hA2 HM
        generalize inA l p = A at *
        go_upto_region 10 with (fail)
        obtain ⟨c0, c1, c2, c3, c4, cf⟩ := five HR.out.b0
        obtain ⟨d0, d1, d2, d3, d4, df⟩ := five HR.out.b1
        go_upto_if 90 with (fail)
        go_cut [7] from 10 (fun _ wd => ∃ s' t', Hid (Rx w w.heap.size l a cap p pa pcap bo (inB A p) s' t' wd))
        case first =>
          cases hto : (p.«to» == l.own) with
          | false =>
            go_wp2
            go_meet
            case rel =>
              have e : inB A p = A := by
                unfold inB
                rw [if_neg]
                rintro ⟨h, _⟩
                rw [HA1.out] at h
                simp [h] at hto
              rw [e]
              exact ⟨s, t, HR⟩
          | true =>
            go_wp2
            go_loopw [7] (fun g wr => ∃ k : Nat, g = .int .i64 k ∧ k ≤ A.sent.length ∧ (k = 0 ∨ (A.first + k ≤ p.wait ∧ p.wait ≤ A.first + A.sent.length)) ∧ Hid (Rx w w.heap.size l a cap p pa pcap bo { A with first := A.first + k } s t wr)) (fun g _ => A.sent.length - (intOf g).toNat)
            case atStart => exact ⟨0, rfl, by omega, Or.inl rfl, by simpa using HR⟩
            case round =>
              obtain ⟨k, rfl, hk, hinv, HK⟩ := hrel
              obtain ⟨e0, e1, e2, e3, e4, f0, f1, f2, f3, f4⟩ := five' HK.out.hbo
              obtain ⟨d0, d1, d2, d3, d4, _⟩ := five HK.out.b1
              by_cases hc : k < A.sent.length ∧ A.first + k < p.wait ∧ p.wait ≤ A.first + A.sent.length
              · obtain ⟨h1, h2, h3⟩ := hc
                go_wp2
                go_roundw
                case rel =>
                  have q := HK.out.set2 (A.first + k + 1)
                  have e : A.first + ((k + 1 : Nat) : Int) = A.first + k + 1 := by omega
                  refine ⟨k + 1, by go_num, by omega, Or.inr ⟨by omega, h3⟩, Lib.hid ?_⟩
                  rw [e]
                  exact q
                case measure => simp [intOf]; omega
              · have hB : inB A p = { A with first := A.first + k, sent := A.sent.drop k } := by
                  unfold inB
                  by_cases q : p.«to» = A.own ∧ 0 < p.wait - A.first ∧ p.wait - A.first ≤ (A.sent.length : Int)
                  · rw [if_pos q]
                    have e1 : A.first + k = p.wait := by omega
                    have e2 : (p.wait - A.first).toNat = k := by omega
                    rw [e1, e2]
                  · rw [if_neg q]
                    have hto2 : p.«to» = A.own := by rw [HA1.out]; simpa using hto
                    have k0 : k = 0 := by
                      by_cases k0 : k = 0
                      · exact k0
                      · exact absurd ⟨hto2, by omega, by omega⟩ q
                    subst k0
                    simp
                have HBB := Lib.hid hB
                clear hB
                have hkt : k ≤ t := Nat.le_trans hk HK.out.ct
                rcases HNO.out with rfl | ⟨b, off, rfl⟩
                · have hl0 : A.sent = [] := HK.out.sl.none_nil
                  have hl0' : A.sent.length = 0 := by rw [hl0]; rfl
                  have k0 : k = 0 := by omega
                  subst k0
                  have HL0 := Lib.hid hl0
                  clear hl0
                  have R0 : Hid (Rx w w.heap.size l a cap p pa pcap bo (inB A p) none t (wr.setCell ⟨bo, 3, none⟩ (.slice none 0 t))) := by
                    have e : A.sent.drop 0 = [] := by rw [HL0.out]; rfl
                    rw [HBB.out, e]
                    exact Lib.hid (HK.out.set3 (zs := []) (s' := none) (t' := t) (SlIs.nil _ _) (Nat.zero_le _) (From.refl _))
                  go_wp2
                  all_goals
                    go_meet
                    case rel => exact ⟨_, _, R0⟩
                · have hct : A.sent.length ≤ t := HK.out.ct
                  have R1 : t = k → Hid (Rx w w.heap.size l a cap p pa pcap bo (inB A p) (some ⟨b, off, none⟩) 0 (wr.setCell ⟨bo, 3, none⟩ (.slice (some ⟨b, off, none⟩) (A.sent.length - k) 0))) := fun h => by
                    have hd : A.sent.drop k = [] := List.drop_eq_nil_of_le (by omega)
                    rw [HBB.out, ← List.length_drop]
                    exact Lib.hid (HK.out.set3 (zs := A.sent.drop k) (s' := some ⟨b, off, none⟩) (t' := 0) (Or.inl hd) (by rw [hd]; simp) (From.refl _))
                  have R2 : Hid (Rx w w.heap.size l a cap p pa pcap bo (inB A p) (some ⟨b, off + k, none⟩) (t - k) (wr.setCell ⟨bo, 3, none⟩ (.slice (some ⟨b, off + k, none⟩) (A.sent.length - k) (t - k)))) := by
                    rw [HBB.out, ← List.length_drop]
                    exact Lib.hid (HK.out.set3 (zs := A.sent.drop k) (s' := some ⟨b, off + k, none⟩) (t' := t - k) (HK.out.sl.drop k) (by rw [List.length_drop]; omega) (fun _ _ e => by cases e; exact ⟨off, rfl⟩))
                  have R1H := Lib.hid R1
                  clear R1
                  go_wp2
                  all_goals
                    go_meet
                    case rel => first | exact ⟨_, _, R1H.out (by assumption)⟩ | exact ⟨_, _, R2⟩
        case rest =>
          rename_i K1 hK1
          refine hK1 _ _ ?_
          clear hK1
          obtain ⟨s', t', HQ⟩ := hcut
          have hBn := inB_next A p
          clear HR c0 c1 c2 c3 c4 d0 d1 d2 d3 d4 cf df HNO HA1 HA2 hAl g1 g2
          generalize inB A p = B at *
          rw [← hBn] at g3 g4
          clear hBn
          have HTC := toldTo_all B p
          have HSTEP := Lib.hid (toldTo_step B p)
          have HTC := Lib.hid HTC
          have hTL := fun m => Lib.hid (toldTo_len B p m)
          go_wp2
          go_loopw [8, 9] (fun tv i wr => ∃ m : Nat, m ≤ p.words.length ∧ i = .int .i64 m ∧ Hid (Rx w w.heap.size l a cap p pa pcap bo { B with next := B.next + (toldTo B p m).length } s' t' wr ∧ wr.ownsRow (w.heap.size + 3) 2 1 tv (toldTo B p m).length ((toldTo B p m).map (Value.int .i64)) ∧ (∀ g, tv.ownBlock = some g → Apart g s'))) (fun _ i _ => p.words.length - (intOf i).toNat)
          case atStart =>
            have e : toldTo B p 0 = [] := by unfold toldTo; split <;> simp
            refine ⟨0, by omega, rfl, Lib.hid ⟨?_, ?_, fun g e => by cases e⟩⟩
            · rw [e]; simpa using HQ.out
            · rw [e]; exact ⟨rfl, Or.inl ⟨rfl, rfl⟩⟩
          case round =>
            obtain ⟨m, hm, rfl, HK⟩ := hrel
            obtain ⟨e0, e1, e2, e3, e4, f0, f1, f2, f3, f4⟩ := five' HK.out.1.hbo
            obtain ⟨d0, d1, d2, d3, d4, _⟩ := five HK.out.1.b1
            have hTm := (hTL m).out
            by_cases hlt : m < p.words.length
            · obtain ⟨b, off, rfl, hcs⟩ := (HS2.out.below HK.out.1.bel).some (by omega)
              have hx := hcs m hlt
              have hst := HSTEP.out m hlt
              generalize p.words[m] = x at hx hst
              clear hcs HTC HSTEP
              generalize hT1 : toldTo B p m = T1 at *
              clear hT1
              have hT8 : T1.length ≤ 8 := by omega
              rcases hst with ⟨heq, hst⟩ | ⟨hne, hst⟩
              · have hd : ((p.place + (m : Int)) == (B.next + (T1.length : Int))) = true := by rw [beq_iff_eq]; exact heq
                have HST := Lib.hid hst
                have HO1 := Lib.hid (own_below HK.out.2.1 ((Below.refl wr.heap.size wr).alloc (Nat.le_refl _) (.cells #[.int .i64 x] 2)))
                have HR1 := Lib.hid (HK.out.1.below ((Below.refl wr.heap.size wr).alloc (Nat.le_refl _) (.cells #[.int .i64 x] 2)))
                clear hst heq
                go_wp2_with (first
                  | (at_builtin; refine wl_app24 rfl _ _ rfl (w.heap.size + 3) u8 T1 [x] rfl HO1.out (some ⟨wr.heap.size, 0, none⟩) rfl (one_new _ _) (by simp; omega) (by have := HR1.out.lt; have := HR1.out.le; omega) ?_; intro tv2 w2 ho hg hno; have HR2 := Lib.hid (HR1.out.grown hg (own_ne HO1.out HR1.out.b0 (by decide)) (own_ne HO1.out HR1.out.b1 (by decide)) (own_ne HO1.out HR1.out.b2 (by decide)) (own_ne HO1.out HR1.out.hbo (by decide)) HK.out.2.2 (fun g e => by have := (own_block HO1.out e).1; omega)); have HNN := Lib.hid hno; have HO2 := Lib.hid ho; obtain ⟨e0, e1, e2, e3, e4, f0, f1, f2, f3, f4⟩ := five' HR2.out.hbo; clear ho hg hno))
                go_roundw
                case rel =>
                  have q := HR2.out.set4 (B.next + (T1.length : Int) + 1)
                  refine ⟨m + 1, by omega, by go_num, Lib.hid ⟨?_, ?_, ?_⟩⟩
                  · rw [HST.out]
                    have e : B.next + ((T1 ++ [x]).length : Int) = B.next + (T1.length : Int) + 1 := by simp; omega
                    rw [e]
                    exact q
                  · rw [HST.out]
                    exact own_set HO2.out (own_ne HO2.out HR2.out.hbo (by decide)) _ _
                  · intro g e b' off' es
                    rcases HNN.out with h | h
                    · exact HK.out.2.2 g (h.symm.trans e) b' off' es
                    · rw [h] at e
                      cases e
                      exact Nat.ne_of_lt (HR1.out.old b' off' es)
                case measure => simp [intOf]; omega
              · have hd : ((p.place + (m : Int)) == (B.next + (T1.length : Int))) = false := by rw [beq_eq_false_iff_ne]; exact hne
                have HST := Lib.hid hst
                clear hst hne
                go_wp2
                go_roundw
                case rel => exact ⟨m + 1, by omega, by go_num, by rw [HST.out]; exact HK⟩
                case measure => simp [intOf]; omega
            · have em : m = p.words.length := by omega
              have HK2 : Hid (Rx w w.heap.size l a cap p pa pcap bo { B with next := B.next + (toldC B p).length } s' t' wr ∧ wr.ownsRow (w.heap.size + 3) 2 1 u8 (toldC B p).length ((toldC B p).map (Value.int .i64))) := by
                have := HK.out
                rw [em, HTC.out] at this
                exact Lib.hid ⟨this.1, this.2.1⟩
              have hTC8 := toldC_len B p
              clear HTC HSTEP HK hTm hTL e0 e1 e2 e3 e4 f0 f1 f2 f3 f4 HQ
              subst em
              generalize toldC B p = T at *
              obtain ⟨ta, tc, rfl, htc, hts, hsi2, ho2, hap2, hno2⟩ := own_full HK2.out.2
              obtain ⟨e0, e1, e2, e3, e4, f0, f1, f2, f3, f4⟩ := five' HK2.out.1.hbo
              obtain ⟨x0, x1, x2, x3, x4, y0, y1, y2, y3, y4⟩ := five' HK2.out.1.b2
              have q2 : Apart (w.heap.size + 1 + 1) ta := hsi2.apart (by omega)
              have q3 : Apart (w.heap.size + 1 + 1) s' := HK2.out.1.si.apart (by omega)
              clear hsi2 ho2 hap2 hno2
              have HTS := Lib.hid hts
              clear hts
              go_wp2
              refine bodyPost_ret (v := .tuple #[.agg #[.int .i64 B.own, .int .i64 B.other, .int .i64 B.first, .slice s' B.sent.length t', .int .i64 (B.next + (T.length : Int))], .slice ta T.length tc]) (by simp [results, Try.results22, go_sem, x0, x1, x2, x3, x4]) rfl ⟨s', t', ta, ⟨tc, ?_⟩, ?_, ?_, ?_, ?_⟩
              · rw [HIN.out]
              · rw [HIN.out]; exact HK2.out.1.sl.set5 q3 _ _ _ _ _
              · rw [HIN.out]; exact HK2.out.1.ct
              · rw [HIN.out]; exact HTS.out.set5 q2 _ _ _ _ _
              · exact below_chain HK2.out.1.bel (by omega) _ _ _ _ _
end Go.Proofs.Ytoblckocmakakaa
