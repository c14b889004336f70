/-
  A packet that may not be, the reference's: no conditions.
-/
import Derived.Test.YtoblckocmakakaaRc
import Derived.Deep.CutRange
namespace Go.Proofs.Ytoblckocmakakaa
open Go.RowKit
theorem box3_five {w : World} {n : Nat} {v0 v1 v2 v3 v4 p0 p1 p2 p3 p4 : Value} {W : World} (h : Box3 w n v0 v1 v2 v3 v4 p0 p1 p2 p3 p4 W) : W.cell? ⟨n, 0, none⟩ = some v0 ∧ W.cell? ⟨n, 1, none⟩ = some v1 ∧ W.cell? ⟨n, 2, none⟩ = some v2 ∧ W.cell? ⟨n, 3, none⟩ = some v3 ∧ W.cell? ⟨n, 4, none⟩ = some v4 ∧ Hid (Box3 w n v0 v1 v2 v3 v4 p0 p1 p2 p3 p4 W) :=
  ⟨(five h.2.2.1).1, (five h.2.2.1).2.1, (five h.2.2.1).2.2.1, (five h.2.2.1).2.2.2.1, (five h.2.2.1).2.2.2.2.1, Lib.hid h⟩
set_option maxRecDepth 20000 in
set_option maxHeartbeats 8000000 in
theorem rin_not (l : Lk) (p : Pk) (a pa : Option Addr) (cap pcap : Nat) (w : World) (hm : mayP l p = false) (_hl : p.words.length ≤ 9223372036854775807) :
    Calls Try.prog 22 #[lkV l a cap, pkV p pa pcap] w fun e w' => e = .returned (.tuple #[lkV l a cap, .slice none 0 0]) ∧ Below w.heap.size w w' := by
  have hm' : ¬ ((1 ≤ p.fr ∧ p.fr ≤ 4611686018427387904) ∧ l.other ≤ p.fr ∧ (p.«to» = 0 ∨ p.«to» = l.own) ∧ (0 ≤ p.place ∧ p.place ≤ 4611686018427387896) ∧ (0 ≤ p.wait ∧ p.wait ≤ 4611686018427387904) ∧ p.words.length ≤ 8) := by
    rw [← mayP_iff, hm]; simp
  obtain ⟨own, other, first, sent, next⟩ := l
  obtain ⟨fr, tt, place, words, wait⟩ := p
  unfold lkV pkV
  simp only at hm' _hl ⊢
  have HM := Lib.hid hm'
  clear hm hm'
  generalize sent.length = n
  generalize words.length = pn at *
  have B0 := Lib.hid (Box3.start w (.int .i64 own) (.int .i64 other) (.int .i64 first) (.slice a n cap) (.int .i64 next) (.int .i64 fr) (.int .i64 tt) (.int .i64 place) (.slice pa pn pcap) (.int .i64 wait))
  go_enter Try.func22, Try.ntmps22
  go_upto_region 5 with (fail)
  all_goals first
    | (exfalso; apply HM.out; clear HM; refine ⟨⟨?_, ?_⟩, ?_, ?_, ⟨?_, ?_⟩, ⟨?_, ?_⟩, ?_⟩ <;> omega)
    | (refine bodyPost_ret (v := .tuple #[.agg #[.int .i64 own, .int .i64 other, .int .i64 first, .slice a n cap, .int .i64 next], .slice none 0 0]) (by simp [results, Try.results22, go_sem]) rfl ⟨rfl, ?_⟩
       exact ((((Below.refl _ _).alloc (Nat.le_refl _) _).alloc (by simp) _).alloc (by simp; omega) _))
    | (exfalso; apply HM.out; clear HM B0; rename_i _ _ _ _ q5 _ _ _ _ q _ _; simp only [bne_eq_false_iff_eq] at q5; refine ⟨⟨?_, ?_⟩, ?_, ?_, ⟨?_, ?_⟩, ⟨?_, ?_⟩, ?_⟩ <;> omega)
end Go.Proofs.Ytoblckocmakakaa
