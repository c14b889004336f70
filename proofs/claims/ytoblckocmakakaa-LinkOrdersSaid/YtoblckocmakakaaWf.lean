/-
  A packet that comes at an end, the program's: no conditions but those of right ends.
-/
import Derived.Test.YtoblckocmakakaaWe
import Derived.Test.YtoblckocmakakaaWb
namespace Go.Proofs.Ytoblckocmakakaa
open Go.RowKit
/-- An end, a packet and a result in three blocks in a row. -/
def Box3 (w : World) (n : Nat) (v0 v1 v2 v3 v4 p0 p1 p2 p3 p4 : Value) (W : World) : Prop :=
  Below n w W ∧ n + 3 ≤ W.heap.size ∧ W.heap[n]? = some (.cells #[v0, v1, v2, v3, v4] 26) ∧ W.heap[n + 1]? = some (.cells #[p0, p1, p2, p3, p4] 38) ∧ W.heap[n + 1 + 1]? = some (.cells #[.int .i64 0, .int .i64 0, .int .i64 0, .slice none 0 0, .int .i64 0] 26)
theorem Box3.start (w : World) (v0 v1 v2 v3 v4 p0 p1 p2 p3 p4 : Value) : Box3 w w.heap.size v0 v1 v2 v3 v4 p0 p1 p2 p3 p4 (((w.alloc (.cells #[v0, v1, v2, v3, v4] 26)).alloc (.cells #[p0, p1, p2, p3, p4] 38)).alloc (.cells #[.int .i64 0, .int .i64 0, .int .i64 0, .slice none 0 0, .int .i64 0] 26)) := by
  have h := two_kept (Below.refl _ ((w.alloc (.cells #[v0, v1, v2, v3, v4] 26)).alloc (.cells #[p0, p1, p2, p3, p4] 38)))
  have e : w.heap.size + 1 + 1 = ((w.alloc (.cells #[v0, v1, v2, v3, v4] 26)).alloc (.cells #[p0, p1, p2, p3, p4] 38)).heap.size := by simp
  refine ⟨(((Below.refl _ _).alloc (Nat.le_refl _) _).alloc (by simp) _).alloc (by simp; omega) _, by simp, ?_, ?_, ?_⟩
  · rw [heap_alloc_old _ _ (by simp; omega)]; exact h.1
  · rw [heap_alloc_old _ _ (by simp)]; exact h.2.1
  · rw [e]; exact heap_alloc_new _ _
theorem Box3.call {w : World} {n : Nat} {v0 v1 v2 v3 v4 p0 p1 p2 p3 p4 : Value} {W W1 : World} (h : Box3 w n v0 v1 v2 v3 v4 p0 p1 p2 p3 p4 W) (hb : Below W.heap.size W W1) : Box3 w n v0 v1 v2 v3 v4 p0 p1 p2 p3 p4 W1 := by
  obtain ⟨b, s, h0, h1, h2⟩ := h
  exact ⟨b.trans (hb.mono (by omega)), Nat.le_trans s hb.size, (hb.block _ (by omega)).trans h0, (hb.block _ (by omega)).trans h1, (hb.block _ (by omega)).trans h2⟩
theorem Box3.drew {w : World} {n : Nat} {v0 v1 v2 v3 v4 p0 p1 p2 p3 p4 : Value} {W : World} (h : Box3 w n v0 v1 v2 v3 v4 p0 p1 p2 p3 p4 W) : Box3 w n v0 v1 v2 v3 v4 p0 p1 p2 p3 p4 W.drew := ⟨h.1.drew, h.2⟩
theorem heap_set_at {W : World} {g j : Nat} {cs : Array Value} {t : TypeId} (v : Value) (h : W.heap[g]? = some (.cells cs t)) : (W.setCell ⟨g, j, none⟩ v).heap[g]? = some (.cells (cs.setIfInBounds j v) t) := by
  first
    | exact heap_setCell_same _ _ _ _ _ _ h
    | (rw [heap_setCell_same _ _ _ _ _ _ h])
theorem Box3.set1 {w : World} {n : Nat} {v0 v1 v2 v3 v4 p0 p1 p2 p3 p4 : Value} {W : World} (h : Box3 w n v0 v1 v2 v3 v4 p0 p1 p2 p3 p4 W) (v : Value) : Box3 w n v0 v v2 v3 v4 p0 p1 p2 p3 p4 (W.setCell ⟨n, 1, none⟩ v) := by
  obtain ⟨b, s, h0, h1, h2⟩ := h
  exact ⟨b.setCell (Nat.le_refl _) _, by simpa using s, heap_set_at v h0, (heap_setCell_other _ _ _ _ (by simp)).trans h1, (heap_setCell_other _ _ _ _ (by simp; omega)).trans h2⟩
theorem Box3.set2 {w : World} {n : Nat} {v0 v1 v2 v3 v4 p0 p1 p2 p3 p4 : Value} {W : World} (h : Box3 w n v0 v1 v2 v3 v4 p0 p1 p2 p3 p4 W) (v : Value) : Box3 w n v0 v1 v v3 v4 p0 p1 p2 p3 p4 (W.setCell ⟨n, 2, none⟩ v) := by
  obtain ⟨b, s, h0, h1, h2⟩ := h
  exact ⟨b.setCell (Nat.le_refl _) _, by simpa using s, heap_set_at v h0, (heap_setCell_other _ _ _ _ (by simp)).trans h1, (heap_setCell_other _ _ _ _ (by simp; omega)).trans h2⟩
theorem Box3.set3 {w : World} {n : Nat} {v0 v1 v2 v3 v4 p0 p1 p2 p3 p4 : Value} {W : World} (h : Box3 w n v0 v1 v2 v3 v4 p0 p1 p2 p3 p4 W) (v : Value) : Box3 w n v0 v1 v2 v v4 p0 p1 p2 p3 p4 (W.setCell ⟨n, 3, none⟩ v) := by
  obtain ⟨b, s, h0, h1, h2⟩ := h
  exact ⟨b.setCell (Nat.le_refl _) _, by simpa using s, heap_set_at v h0, (heap_setCell_other _ _ _ _ (by simp)).trans h1, (heap_setCell_other _ _ _ _ (by simp; omega)).trans h2⟩
theorem Box3.set4 {w : World} {n : Nat} {v0 v1 v2 v3 v4 p0 p1 p2 p3 p4 : Value} {W : World} (h : Box3 w n v0 v1 v2 v3 v4 p0 p1 p2 p3 p4 W) (v : Value) : Box3 w n v0 v1 v2 v3 v p0 p1 p2 p3 p4 (W.setCell ⟨n, 4, none⟩ v) := by
  obtain ⟨b, s, h0, h1, h2⟩ := h
  exact ⟨b.setCell (Nat.le_refl _) _, by simpa using s, heap_set_at v h0, (heap_setCell_other _ _ _ _ (by simp)).trans h1, (heap_setCell_other _ _ _ _ (by simp; omega)).trans h2⟩
/-- A packet that comes at an end: what the end is then. -/
def inA (l : Lk) (p : Pk) : Lk := if l.other < p.fr then { l with other := p.fr, next := 0, first := 0 } else l
def inB (l : Lk) (p : Pk) : Lk := if p.to = l.own ∧ 0 < p.wait - l.first ∧ p.wait - l.first ≤ (l.sent.length : Int) then { l with first := p.wait, sent := l.sent.drop (p.wait - l.first).toNat } else l
def toldC (l : Lk) (p : Pk) : List Int := if l.next - p.place < 0 ∨ (p.words.length : Int) ≤ l.next - p.place then [] else p.words.drop (l.next - p.place).toNat
def mayP (l : Lk) (p : Pk) : Bool := mayB l.own l.other p.fr p.to p.place p.words.length p.wait
def inL (l : Lk) (p : Pk) : Lk × List Int :=
  if mayP l p then
    let m := inB (inA l p) p
    ({ m with next := m.next + (toldC m p).length }, toldC m p)
  else (l, [])
/-- An end as a value, its row at a. -/
def lkV (l : Lk) (a : Option Addr) (cap : Nat) : Value := .agg #[.int .i64 l.own, .int .i64 l.other, .int .i64 l.first, .slice a l.sent.length cap, .int .i64 l.next]
def pkV (p : Pk) (a : Option Addr) (cap : Nat) : Value := .agg #[.int .i64 p.fr, .int .i64 p.to, .int .i64 p.place, .slice a p.words.length cap, .int .i64 p.wait]
theorem in_not (l : Lk) (p : Pk) (a pa : Option Addr) (cap pcap : Nat) (w : World) (hm : mayP l p = false) (hl : p.words.length ≤ 9223372036854775807) :
    Calls Try.prog 14 #[lkV l a cap, pkV p pa pcap] w fun e w' => e = .returned (.tuple #[lkV l a cap, .slice none 0 0]) ∧ Below w.heap.size w w' := by
  unfold mayP at hm
  obtain ⟨own, other, first, sent, next⟩ := l
  obtain ⟨fr, to, place, words, wait⟩ := p
  unfold lkV pkV
  simp only at hm hl ⊢
  have HM := Lib.hid hm
  clear hm
  generalize sent.length = n
  generalize words.length = pn at *
  have B0 := Lib.hid (Box3.start w (.int .i64 own) (.int .i64 other) (.int .i64 first) (.slice a n cap) (.int .i64 next) (.int .i64 fr) (.int .i64 to) (.int .i64 place) (.slice pa pn pcap) (.int .i64 wait))
  go_enter Try.func14, Try.ntmps14
  go_wp2_with (first
    | (go_at_call 26; refine (may26 _ _ _ _ _ _ _ _ _ _ _ _ _ _ hl _).mono ?_; rintro e w1 ⟨rfl, hb⟩; rw [HM.out]; have B1 := Lib.hid (B0.out.call hb); clear hb; obtain ⟨c0, c1, c2, c3, c4, e0, e1, e2, e3, e4⟩ := five' B1.out.2.2.1; obtain ⟨d0, d1, d2, d3, d4, f0, f1, f2, f3, f4⟩ := five' B1.out.2.2.2.2))
  refine bodyPost_ret (v := .tuple #[.agg #[.int .i64 own, .int .i64 other, .int .i64 first, .slice a n cap, .int .i64 next], .slice none 0 0]) (by simp [results, Try.results14, go_sem, d0, d1, d2, d3, d4]) rfl ⟨rfl, ?_⟩
  exact (((((B1.out.1.setCell (by simp; omega) _).setCell (by simp; omega) _).setCell (by simp; omega) _).setCell (by simp; omega) _).setCell (by simp; omega) _)
theorem box3_facts {w : World} {n : Nat} {v0 v1 v2 v3 v4 p0 p1 p2 p3 p4 : Value} {W : World} (h : Box3 w n v0 v1 v2 v3 v4 p0 p1 p2 p3 p4 W) :
    (W.cell? ⟨n, 0, none⟩ = some v0 ∧ W.cell? ⟨n, 1, none⟩ = some v1 ∧ W.cell? ⟨n, 2, none⟩ = some v2 ∧ W.cell? ⟨n, 3, none⟩ = some v3 ∧ W.cell? ⟨n, 4, none⟩ = some v4) ∧
    (W.cell? ⟨n + 1, 0, none⟩ = some p0 ∧ W.cell? ⟨n + 1, 1, none⟩ = some p1 ∧ W.cell? ⟨n + 1, 2, none⟩ = some p2 ∧ W.cell? ⟨n + 1, 3, none⟩ = some p3 ∧ W.cell? ⟨n + 1, 4, none⟩ = some p4) ∧
    (W.frozen? ⟨n, 1, none⟩ = false ∧ W.frozen? ⟨n, 2, none⟩ = false ∧ W.frozen? ⟨n, 3, none⟩ = false ∧ W.frozen? ⟨n, 4, none⟩ = false) :=
  ⟨⟨(five' h.2.2.1).1, (five' h.2.2.1).2.1, (five' h.2.2.1).2.2.1, (five' h.2.2.1).2.2.2.1, (five' h.2.2.1).2.2.2.2.1⟩,
   ⟨(five' h.2.2.2.1).1, (five' h.2.2.2.1).2.1, (five' h.2.2.2.1).2.2.1, (five' h.2.2.2.1).2.2.2.1, (five' h.2.2.2.1).2.2.2.2.1⟩,
   ⟨(five' h.2.2.1).2.2.2.2.2.2.1, (five' h.2.2.1).2.2.2.2.2.2.2.1, (five' h.2.2.1).2.2.2.2.2.2.2.2.1, (five' h.2.2.1).2.2.2.2.2.2.2.2.2⟩⟩
set_option maxHeartbeats 2000000 in
theorem in_yes (l : Lk) (p : Pk) (a pa : Option Addr) (cap pcap : Nat) (w : World) (hm : mayP l p = true) (hl : p.words.length ≤ 8) (hs : l.sent.length ≤ 100) (hcap : l.sent.length ≤ cap) (hpcap : p.words.length ≤ pcap)
    (h1 : SlIs w a l.sent) (h2 : SlIs w pa p.words) (hf : 0 ≤ l.first ∧ l.first ≤ 4611686018427387904) (hn : 0 ≤ l.next ∧ l.next ≤ 4611686018427387904) (hp : 0 ≤ p.place ∧ p.place ≤ 4611686018427387904) (hw : 0 ≤ p.wait ∧ p.wait ≤ 4611686018427387904) :
    Calls Try.prog 14 #[lkV l a cap, pkV p pa pcap] w fun e w' => ∃ a' cap' ta, e = .returned (.tuple #[lkV (inL l p).1 a' cap', .slice ta (inL l p).2.length (inL l p).2.length]) ∧ From a a' ∧ Since' w.heap.size ta ∧ SlIs w' a' (inL l p).1.sent ∧ (inL l p).1.sent.length ≤ cap' ∧ SlIs w' ta (inL l p).2 ∧ Below w.heap.size w w' := by
  unfold inL
  rw [if_pos hm]
  unfold mayP at hm
  obtain ⟨own, other, first, sent, next⟩ := l
  obtain ⟨fr, to, place, words, wait⟩ := p
  unfold lkV pkV
  simp only at hm hl hs hcap hpcap h1 h2 hf hn hp hw ⊢
  have HM := Lib.hid hm
  have S1 := Lib.hid h1
  have S2 := Lib.hid h2
  clear hm h1 h2
  generalize hZ : inB (inA ⟨own, other, first, sent, next⟩ ⟨fr, to, place, words, wait⟩) ⟨fr, to, place, words, wait⟩ = Z at *
  have HZ := Lib.hid hZ
  clear hZ
  have B0 := Lib.hid (Box3.start w (.int .i64 own) (.int .i64 other) (.int .i64 first) (.slice a sent.length cap) (.int .i64 next) (.int .i64 fr) (.int .i64 to) (.int .i64 place) (.slice pa words.length pcap) (.int .i64 wait))
  go_enter Try.func14, Try.ntmps14
  go_upto_if 18 with (first
    | (go_at_call 26; refine (may26 _ _ _ _ _ _ _ _ _ _ _ _ _ _ (by omega) _).mono ?_; rintro e w1 ⟨rfl, hb⟩; rw [HM.out]; have B1 := Lib.hid (B0.out.call hb); clear hb; obtain ⟨⟨c0, c1, c2, c3, c4⟩, ⟨d0, d1, d2, d3, d4⟩, ⟨f1, f2, f3, f4⟩⟩ := box3_facts B1.out))
  go_cut [] from 9 (fun wc => ∃ o f x, Box3 w w.heap.size (.int .i64 own) (.int .i64 o) (.int .i64 f) (.slice a sent.length cap) (.int .i64 x) (.int .i64 fr) (.int .i64 to) (.int .i64 place) (.slice pa words.length pcap) (.int .i64 wait) wc ∧ inA ⟨own, other, first, sent, next⟩ ⟨fr, to, place, words, wait⟩ = ⟨own, o, f, sent, x⟩ ∧ (0 ≤ f ∧ f ≤ 4611686018427387904) ∧ (0 ≤ x ∧ x ≤ 4611686018427387904))
  case first =>
    by_cases hlt : other < fr
    · go_wp2
      go_meet
      case rel =>
        refine ⟨fr, 0, 0, ((B1.out.set1 _).set4 _).set2 _, ?_, by omega, by omega⟩
        unfold inA
        simp only
        rw [if_pos hlt]
    · go_wp2
      go_meet
      case rel =>
        refine ⟨other, first, next, B1.out, ?_, hf, hn⟩
        unfold inA
        simp only
        rw [if_neg (by omega)]
  case rest =>
    clear c0 c1 c2 c3 c4 d0 d1 d2 d3 d4 f1 f2 f3 f4 B0 B1
    rename_i Q0 K0 hK0
    obtain ⟨o, f, x, hbx, hA, hf', hx'⟩ := hcut
    clear hf hn
    obtain ⟨⟨c0, c1, c2, c3, c4⟩, ⟨d0, d1, d2, d3, d4⟩, ⟨f1, f2, f3, f4⟩⟩ := box3_facts hbx
    have B1 := Lib.hid hbx
    have HA := Lib.hid hA
    clear hbx hA
    refine hK0 _ _ ?_
    clear hK0
    refine wp_seq_k (fun K1 hK1 => ?_)
    go_cut [] from 6 (fun wd => ∃ a' cap' zs', Box3 w w.heap.size (.int .i64 own) (.int .i64 Z.other) (.int .i64 Z.first) (.slice a' zs'.length cap') (.int .i64 Z.next) (.int .i64 fr) (.int .i64 to) (.int .i64 place) (.slice pa words.length pcap) (.int .i64 wait) wd ∧ Z = ⟨own, Z.other, Z.first, zs', Z.next⟩ ∧ From a a' ∧ SlIs w a' zs' ∧ zs'.length ≤ cap' ∧ zs'.length ≤ 100 ∧ (0 ≤ Z.next ∧ Z.next ≤ 4611686018427387904))
    case first =>
      have hZ : (if to = own ∧ 0 < wait - f ∧ wait - f ≤ (sent.length : Int) then (⟨own, o, wait, sent.drop (wait - f).toNat, x⟩ : Lk) else ⟨own, o, f, sent, x⟩) = Z := by
        rw [← HZ.out, HA.out]; rfl
      clear HZ HA hK1
      have keep : Z = ⟨own, o, f, sent, x⟩ → ∃ a' cap' zs', Box3 w w.heap.size (.int .i64 own) (.int .i64 Z.other) (.int .i64 Z.first) (.slice a' zs'.length cap') (.int .i64 Z.next) (.int .i64 fr) (.int .i64 to) (.int .i64 place) (.slice pa words.length pcap) (.int .i64 wait) wc ∧ Z = ⟨own, Z.other, Z.first, zs', Z.next⟩ ∧ From a a' ∧ SlIs w a' zs' ∧ zs'.length ≤ cap' ∧ zs'.length ≤ 100 ∧ (0 ≤ Z.next ∧ Z.next ≤ 4611686018427387904) := by
        intro e
        subst e
        exact ⟨a, cap, sent, B1.out, rfl, From.refl _, S1.out, hcap, hs, hx'⟩
      have HKeep := Lib.hid keep
      clear keep
      by_cases hto : to = own
      · have tto : (to == own) = true := by simp [hto]
        by_cases h0 : 0 < wait - f
        · by_cases h1 : wait - f ≤ (sent.length : Int)
          · obtain ⟨g, hg⟩ := Int.eq_ofNat_of_zero_le (Int.le_of_lt h0)
            rw [if_pos ⟨hto, h0, h1⟩] at hZ
            have HZ := Lib.hid hZ
            clear hZ HKeep
            rw [hg] at h0 h1
            have hto' := Lib.hid hto
            clear hto
            obtain ⟨b, off, rfl⟩ : ∃ b off, a = some ⟨b, off, none⟩ := by
              rcases S1.out with e | ⟨b, off, e, _⟩
              · rw [e] at h1; simp at h1; omega
              · exact ⟨b, off, e⟩
            go_upto_region 7 with (fail)
            have hlg : (g : Int) ≤ (sent.length : Int) := h1
            have RelH : Hid (∃ a' cap' zs', Box3 w w.heap.size (.int .i64 own) (.int .i64 Z.other) (.int .i64 Z.first) (.slice a' zs'.length cap') (.int .i64 Z.next) (.int .i64 fr) (.int .i64 to) (.int .i64 place) (.slice pa words.length pcap) (.int .i64 wait) ((wc.setCell ⟨w.heap.size, 2, none⟩ (.int .i64 wait)).setCell ⟨w.heap.size, 3, none⟩ (.slice (if cap = g then some ⟨b, off, none⟩ else some ⟨b, off + g, none⟩) (sent.length - g) (cap - g))).drew ∧ Z = ⟨own, Z.other, Z.first, zs', Z.next⟩ ∧ From (some ⟨b, off, none⟩) a' ∧ SlIs w a' zs' ∧ zs'.length ≤ cap' ∧ zs'.length ≤ 100 ∧ (0 ≤ Z.next ∧ Z.next ≤ 4611686018427387904)) := by
              have eZ := HZ.out
              rw [hg, Int.toNat_natCast] at eZ
              subst eZ
              refine Lib.hid ⟨if cap = g then some ⟨b, off, none⟩ else some ⟨b, off + g, none⟩, cap - g, sent.drop g, ?_, rfl, fun _ _ e' => ?_, ?_, ?_, ?_, hx'⟩
              · rw [List.length_drop]
                exact ((B1.out.set2 _).set3 _).drew
              · by_cases e : cap = g
                · rw [if_pos e] at e'; cases e'; exact ⟨_, rfl⟩
                · rw [if_neg e] at e'; cases e'; exact ⟨_, rfl⟩
              · by_cases e : cap = g
                · rw [if_pos e]
                  left
                  apply List.drop_eq_nil_of_le
                  omega
                · rw [if_neg e]
                  exact S1.out.drop g
              · rw [List.length_drop]; omega
              · rw [List.length_drop]; omega
            rename_i J1 K2 hMet hJ hgg
            go_region_with (fail)
            all_goals
              show K2 _ _
              refine hMet _ _ ?_
              go_meet
              case rel => exact RelH.out
          · rw [if_neg (fun h => h1 h.2.2)] at hZ
            have HZ := Lib.hid hZ.symm
            have hto' := Lib.hid hto
            clear hZ hto
            go_wp2
            go_meet
            case rel => exact HKeep.out HZ.out
        · rw [if_neg (fun h => h0 h.2.1)] at hZ
          have HZ := Lib.hid hZ.symm
          have hto' := Lib.hid hto
          clear hZ hto
          go_wp2
          go_meet
          case rel => exact HKeep.out HZ.out
      · have tto : (to == own) = false := by simp [hto]
        rw [if_neg (fun h => hto h.1)] at hZ
        have HZ := Lib.hid hZ.symm
        have hto' := Lib.hid hto
        clear hZ hto
        go_wp2
        go_meet
        case rel => exact HKeep.out HZ.out
    case rest =>
      clear c0 c1 c2 c3 c4 d0 d1 d2 d3 d4 f1 f2 f3 f4 B1 HZ HA hf' hx' S1 hs hcap HM
      obtain ⟨zo, zt, zf, zs, zn⟩ := Z
      obtain ⟨a', cap', zs', hbx, hZ, hFr, hS, hcap, hs, hx⟩ := hcut
      simp only [Lk.mk.injEq, true_and, and_true] at hZ
      obtain ⟨rfl, rfl⟩ := hZ
      simp only at hbx hx
      obtain ⟨⟨c0, c1, c2, c3, c4⟩, ⟨d0, d1, d2, d3, d4⟩, ⟨f1, f2, f3, f4⟩⟩ := box3_facts hbx
      obtain ⟨g0, g1, g2, g3, g4, q0, q1, q2, q3, q4⟩ := five' hbx.2.2.2.2
      have B1 := Lib.hid hbx
      have S1 := Lib.hid hS
      have HFr := Lib.hid hFr
      clear hbx hS hFr
      refine hK1 _ _ ?_
      clear hK1
      by_cases h0 : zn - place < 0
      · have eT : toldC ⟨zo, zt, zf, zs, zn⟩ ⟨fr, to, place, words, wait⟩ = [] := if_pos (Or.inl h0)
        have ET := Lib.hid eT
        clear eT
        go_wp2
        refine bodyPost_ret (v := .tuple #[.agg #[.int .i64 zo, .int .i64 zt, .int .i64 zf, .slice a' zs.length cap', .int .i64 zn], .slice none 0 0]) (by simp [results, Try.results14, go_sem, g0, g1, g2, g3, g4]) rfl ?_
        rw [ET.out]
        have hB : Below w.heap.size w (((((wc.setCell ⟨w.heap.size + 1 + 1, 0, none⟩ (.int .i64 zo)).setCell ⟨w.heap.size + 1 + 1, 1, none⟩ (.int .i64 zt)).setCell ⟨w.heap.size + 1 + 1, 2, none⟩ (.int .i64 zf)).setCell ⟨w.heap.size + 1 + 1, 3, none⟩ (.slice a' zs.length cap')).setCell ⟨w.heap.size + 1 + 1, 4, none⟩ (.int .i64 zn)) := (((((B1.out.1.setCell (by simp; omega) _).setCell (by simp; omega) _).setCell (by simp; omega) _).setCell (by simp; omega) _).setCell (by simp; omega) _)
        exact ⟨a', cap', none, by simp, HFr.out, Since'.nil _, S1.out.below hB, hcap, SlIs.nil _ _, hB⟩
      · by_cases h1 : (words.length : Int) ≤ zn - place
        · have eT : toldC ⟨zo, zt, zf, zs, zn⟩ ⟨fr, to, place, words, wait⟩ = [] := if_pos (Or.inr h1)
          have ET := Lib.hid eT
          clear eT
          go_wp2
          refine bodyPost_ret (v := .tuple #[.agg #[.int .i64 zo, .int .i64 zt, .int .i64 zf, .slice a' zs.length cap', .int .i64 zn], .slice none 0 0]) (by simp [results, Try.results14, go_sem, g0, g1, g2, g3, g4]) rfl ?_
          rw [ET.out]
          have hB : Below w.heap.size w (((((wc.setCell ⟨w.heap.size + 1 + 1, 0, none⟩ (.int .i64 zo)).setCell ⟨w.heap.size + 1 + 1, 1, none⟩ (.int .i64 zt)).setCell ⟨w.heap.size + 1 + 1, 2, none⟩ (.int .i64 zf)).setCell ⟨w.heap.size + 1 + 1, 3, none⟩ (.slice a' zs.length cap')).setCell ⟨w.heap.size + 1 + 1, 4, none⟩ (.int .i64 zn)) := (((((B1.out.1.setCell (by simp; omega) _).setCell (by simp; omega) _).setCell (by simp; omega) _).setCell (by simp; omega) _).setCell (by simp; omega) _)
          exact ⟨a', cap', none, by simp, HFr.out, Since'.nil _, S1.out.below hB, hcap, SlIs.nil _ _, hB⟩
        · obtain ⟨j, hj⟩ := Int.eq_ofNat_of_zero_le (Int.not_lt.1 h0)
          have eT : toldC ⟨zo, zt, zf, zs, zn⟩ ⟨fr, to, place, words, wait⟩ = words.drop j := by
            unfold toldC
            simp only
            rw [if_neg (by omega), hj, Int.toNat_natCast]
          have ET := Lib.hid eT
          clear eT
          rw [hj] at h0 h1
          have hjn : (j : Int) < (words.length : Int) := by omega
          obtain ⟨b, off, rfl⟩ : ∃ b off, pa = some ⟨b, off, none⟩ := by
            rcases S2.out with e | ⟨b, off, e, _⟩
            · rw [e] at hjn; simp at hjn; omega
            · exact ⟨b, off, e⟩
          have htl : words.length - j = (words.drop j).length := (List.length_drop).symm
          have S3 := Lib.hid ((S2.out.below B1.out.1).drop j)
          generalize words.drop j = tl at *
          have hlt : tl.length ≤ 8 := by omega
          clear g0 g1 g2 g3 g4 q0 q1 q2 q3 q4 S2 c0 c1 c2 c3 f1 f2 f3 f4 d0 d1 d4
          go_wp2_with (first
            | (go_at_call 25; refine (copied_any _ _ tl _ S3.out (by omega)).mono ?_; rintro e w2 ⟨g, hg, rfl, hs2, hb⟩; have B2 := Lib.hid (B1.out.call hb); have S4 := Lib.hid hs2; have HG := Lib.hid hg; clear hb hs2 hg; obtain ⟨⟨c0, c1, c2, c3, c4⟩, _, ⟨f1, f2, f3, f4⟩⟩ := box3_facts B2.out; obtain ⟨g0, g1, g2, g3, g4, q0, q1, q2, q3, q4⟩ := five' B2.out.2.2.2.2))
          have hne0 : g ≠ w.heap.size := by have := HG.out; have := B1.out.2.1; omega
          have hne2 : g ≠ w.heap.size + 1 + 1 := by have := HG.out; have := B1.out.2.1; omega
          refine bodyPost_ret (v := .tuple #[.agg #[.int .i64 zo, .int .i64 zt, .int .i64 zf, .slice a' zs.length cap', .int .i64 (zn + tl.length)], .slice (some ⟨g, 0, none⟩) tl.length tl.length]) (by simp [results, Try.results14, go_sem, g0, g1, g2, g3, g4]) rfl ?_
          rw [ET.out]
          have hB := (((((B2.out.1.setCell (p := ⟨w.heap.size, 4, none⟩) (Nat.le_refl _) (.int .i64 (zn + tl.length))).setCell (p := ⟨w.heap.size + 1 + 1, 0, none⟩) (by simp; omega) (.int .i64 zo)).setCell (p := ⟨w.heap.size + 1 + 1, 1, none⟩) (by simp; omega) (.int .i64 zt)).setCell (p := ⟨w.heap.size + 1 + 1, 2, none⟩) (by simp; omega) (.int .i64 zf)).setCell (p := ⟨w.heap.size + 1 + 1, 3, none⟩) (by simp; omega) (.slice a' zs.length cap')).setCell (p := ⟨w.heap.size + 1 + 1, 4, none⟩) (by simp; omega) (.int .i64 (zn + tl.length))
          refine ⟨a', cap', some ⟨g, 0, none⟩, rfl, HFr.out, fun _ _ e => by cases e; have := HG.out; have := B1.out.2.1; omega, S1.out.below hB, hcap, ?_, hB⟩
          exact (((((S4.out.set hne0 _ _).set hne2 _ _).set hne2 _ _).set hne2 _ _).set hne2 _ _).set hne2 _ _
theorem mayP_bounds {l : Lk} {p : Pk} (h : mayP l p = true) : p.words.length ≤ 8 ∧ (0 ≤ p.place ∧ p.place ≤ 4611686018427387896) ∧ (0 ≤ p.wait ∧ p.wait ≤ 4611686018427387904) ∧ (p.to = 0 ∨ p.to = l.own) ∧ 1 ≤ p.fr ∧ l.other ≤ p.fr ∧ p.fr ≤ 4611686018427387904 := by
  unfold mayP mayB at h
  simp only [Bool.and_eq_true, Bool.or_eq_true, decide_eq_true_eq, beq_iff_eq] at h
  obtain ⟨⟨⟨⟨⟨h1, h2⟩, h3⟩, h4, h5⟩, h6, h7⟩, h8⟩ := h
  refine ⟨h8, ⟨h4, h5⟩, ⟨h6, h7⟩, h3, ?_, ?_, h2⟩
  · split at h1 <;> omega
  · split at h1 <;> omega
theorem in14 (l : Lk) (p : Pk) (a pa : Option Addr) (cap pcap : Nat) (w : World) (hl : p.words.length ≤ 9223372036854775807) (hs : l.sent.length ≤ 100) (hcap : l.sent.length ≤ cap) (hpcap : p.words.length ≤ pcap)
    (h1 : SlIs w a l.sent) (h2 : SlIs w pa p.words) (hf : 0 ≤ l.first ∧ l.first ≤ 4611686018427387904) (hn : 0 ≤ l.next ∧ l.next ≤ 4611686018427387904) :
    Calls Try.prog 14 #[lkV l a cap, pkV p pa pcap] w fun e w' => ∃ a' cap' ta, e = .returned (.tuple #[lkV (inL l p).1 a' cap', .slice ta (inL l p).2.length (inL l p).2.length]) ∧ From a a' ∧ Since' w.heap.size ta ∧ SlIs w' a' (inL l p).1.sent ∧ (inL l p).1.sent.length ≤ cap' ∧ SlIs w' ta (inL l p).2 ∧ Below w.heap.size w w' := by
  by_cases hm : mayP l p = true
  · obtain ⟨b1, b2, b3, _⟩ := mayP_bounds hm
    exact in_yes l p a pa cap pcap w hm b1 hs hcap hpcap h1 h2 hf hn ⟨b2.1, by omega⟩ b3
  · have e : inL l p = (l, []) := if_neg hm
    rw [e]
    refine (in_not l p a pa cap pcap w (by simpa using hm) hl).mono ?_
    rintro e w' ⟨rfl, hb⟩
    exact ⟨a, cap, none, rfl, From.refl _, Since'.nil _, h1.below hb, hcap, SlIs.nil _ _, hb⟩
end Go.Proofs.Ytoblckocmakakaa
