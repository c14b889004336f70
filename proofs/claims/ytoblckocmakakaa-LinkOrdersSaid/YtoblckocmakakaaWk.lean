/-
  The document's example, the program's word on it: no conditions.
-/
import Derived.Test.YtoblckocmakakaaWj
namespace Go.Proofs.Ytoblckocmakakaa
open Go.RowKit
theorem Inv.call' {B : Nat} {w W W' : World} {L : List (Nat × Obj)} (h : Inv B w L W) (hb : Below W.heap.size W W') : Hid (Inv B w L W') := Lib.hid (h.call hb)
def ex1 : Lk := sendL (newL 1) 5
def ex3 : Lk := ⟨2, 1, 0, [], 1⟩
theorem ex_in : inL (newL 2) (outL ex1) = (ex3, [5]) := by rfl
set_option maxHeartbeats 2000000 in
theorem shown10 (w : World) : Calls Try.prog 10 #[] w fun e w' => e = .returned (.bool true) ∧ Below w.heap.size w w' := by
  go_enter Try.func10, Try.ntmps10
  go_wp2_with fail
  have I0 := Lib.hid (Inv.start w)
  refine (newC 1 _ (by decide) (by decide)).mono ?_
  rintro e w1 ⟨rfl, hb⟩
  have I1 := I0.out.call' hb
  clear hb I0
  go_wp2_with (first
    | ((with_reducible show wpList _ _ _ (Oper.mk _ (Op.store 26 _ _) _ _ _ _ :: _) _ _); refine wl_store26n rfl _ _ rfl _ (newL 1) none 0 rfl rfl _ rfl (by simp) ?_))
  have I2 := Lib.hid (I1.out.alloc (lkO (newL 1) none 0))
  have g1 := I1.out.2.1
  clear I1
  refine (newC 2 _ (by decide) (by decide)).mono ?_
  rintro e w2 ⟨rfl, hb⟩
  have I3 := I2.out.call' hb
  clear hb I2
  go_wp2_with (first
    | ((with_reducible show wpList _ _ _ (Oper.mk _ (Op.store 26 _ _) _ _ _ _ :: _) _ _); refine wl_store26n rfl _ _ rfl _ (newL 2) none 0 rfl rfl _ rfl (by simp) ?_)
    | ((with_reducible show wpList _ _ _ (Oper.mk _ (Op.load 26 _) _ _ _ _ :: _) _ _); refine wl_load26 rfl _ rfl _ rfl (newL 1) none 0 ((I3.out.alloc (lkO (newL 2) none 0)).get _ _ (by simp [lkO])) ?_))
  have l1 := I3.out.lt w1.heap.size _ (List.mem_cons_self ..)
  have I4 := Lib.hid (I3.out.alloc (lkO (newL 2) none 0))
  have g2 := I3.out.2.1
  clear I3
  refine (sendC (newL 1) none 0 5 _ (SlIs.nil _ _) (by decide) (by decide)).mono ?_
  rintro e w3 ⟨a3, cap3, rfl, hsi, hs, hc, hb⟩
  have I5 := I4.out.call' hb
  have hap : Apart w1.heap.size a3 := hsi.apart (by simp; omega)
  have S3 := Lib.hid (hs.setRow (lkA ex1 a3 cap3) hap)
  clear hb I4 hs hsi hap
  go_wp2_with (first
    | ((with_reducible show wpList _ _ _ (Oper.mk _ (Op.store 26 _ _) _ _ _ _ :: _) _ _); refine wl_store26 rfl _ _ rfl _ ex1 a3 cap3 rfl rfl (newL 1) none 0 (I5.out.get _ _ (by simp [lkO])) ?_)
    | ((with_reducible show wpList _ _ _ (Oper.mk _ (Op.load 26 _) _ _ _ _ :: _) _ _); refine wl_load26 rfl _ rfl _ rfl ex1 a3 cap3 ((I5.out.setRow (c := lkA (newL 1) none 0) (t := 26) g1 (by simp [lkO]) (L' := [(w1.heap.size, lkO ex1 a3 cap3)]) (fun x hx => Or.inl (by simpa [lkO] using hx))).get _ _ (by simp [lkO])) ?_))
  have I6 := Lib.hid (I5.out.setRow (c := lkA (newL 1) none 0) (c' := lkA ex1 a3 cap3) (t := 26) g1 (by simp [lkO]) (L' := [(w1.heap.size, lkO ex1 a3 cap3), (w2.heap.size, lkO (newL 2) none 0)]) (by
    have n1 : w2.heap.size ≠ w1.heap.size := by omega
    intro x hx
    simp only [List.mem_cons, List.not_mem_nil, or_false] at hx
    rcases hx with rfl | rfl
    · exact Or.inl rfl
    · exact Or.inr ⟨by simp, n1⟩))
  clear I5
  refine (outC ex1 a3 cap3 _ S3.out (by decide)).mono ?_
  rintro e w4 ⟨a4, rfl, _, hs4, hb⟩
  have I7 := I6.out.call' hb
  have S4 := Lib.hid hs4
  clear hb I6 hs4 S3
  go_wp2_with (first
    | ((with_reducible show wpList _ _ _ (Oper.mk _ (Op.store 38 _ _) _ _ _ _ :: _) _ _); refine wl_store38n rfl _ _ rfl _ (outL ex1) a4 1 rfl rfl _ rfl (by simp) ?_)
    | ((with_reducible show wpList _ _ _ (Oper.mk _ (Op.load 26 _) _ _ _ _ :: _) _ _); refine wl_load26 rfl _ rfl _ rfl (newL 2) none 0 ((I7.out.alloc (pkO (outL ex1) a4 1)).get _ _ (by simp [lkO])) ?_)
    | ((with_reducible show wpList _ _ _ (Oper.mk _ (Op.load 38 _) _ _ _ _ :: _) _ _); refine wl_load38 rfl _ rfl _ rfl (outL ex1) a4 1 ((I7.out.alloc (pkO (outL ex1) a4 1)).get _ _ (by simp [pkO])) ?_))
  have I8 := Lib.hid (I7.out.alloc (pkO (outL ex1) a4 1))
  have S5 := Lib.hid (S4.out.below ((Below.refl _ w4).alloc (Nat.le_refl _) (pkO (outL ex1) a4 1)))
  clear I7 S4
  refine (inC (newL 2) (outL ex1) none a4 0 1 _ (SlIs.nil _ _) S5.out (by decide) (by decide) (by decide) (by decide) (by decide) (by decide)).mono ?_
  rintro e w5 ⟨a5, cap5, ta, rfl, _, _, _, _, ht, hb⟩
  have I9 := I8.out.call' hb
  rw [ex_in] at ht
  rw [ex_in]
  obtain ⟨b, off, rfl, ht2⟩ := ht.some (by decide)
  have t0 := ht2 0 (by decide)
  clear hb I8 ht ht2 S5
  have I10 := Lib.hid (I9.out.alloc (lkO ex3 a5 cap5))
  have p3 : (w5.alloc (lkO ex3 a5 cap5)).cell? ⟨w4.heap.size, 3, none⟩ = some (.slice a4 1 1) := (five (I10.out.get w4.heap.size (pkO (outL ex1) a4 1) (by simp))).2.2.2.1
  have q1 : (w5.alloc (lkO ex3 a5 cap5)).cell? ⟨w5.heap.size, 1, none⟩ = some (.int .i64 1) := (five (I10.out.get w5.heap.size (lkO ex3 a5 cap5) (by simp))).2.1
  have q4 : (w5.alloc (lkO ex3 a5 cap5)).cell? ⟨w5.heap.size, 4, none⟩ = some (.int .i64 1) := (five (I10.out.get w5.heap.size (lkO ex3 a5 cap5) (by simp))).2.2.2.2.1
  have u0 : (w5.alloc (lkO ex3 a5 cap5)).cell? ⟨b, off, none⟩ = some (.int .i64 5) := (((Below.refl _ w5).alloc (Nat.le_refl _) _).cell (World.block_lt_of_cell? w5 _ t0)).trans t0
  clear t0 I9
  dsimp only
  unfold lkO at p3 q1 q4 u0
  go_wp2_with (first
    | ((with_reducible show wpList _ _ _ (Oper.mk _ (Op.store 26 _ _) _ _ _ _ :: _) _ _); refine wl_store26n rfl _ _ rfl _ ex3 a5 cap5 rfl rfl _ rfl (by simp) ?_)
    | ((with_reducible show wpList _ _ _ (Oper.mk _ (Op.load 26 _) _ _ _ _ :: _) _ _); refine wl_load26g rfl _ rfl _ rfl ex3 a5 cap5 (I10.out.get _ _ (by simp [lkO])) ?_)
    | (go_at_call 18; refine (rightC ex3 a5 cap5 _ (by decide)).mono ?_; rintro e w6 ⟨rfl, hb⟩; have I11 := I10.out.call' hb; clear hb))
  go_ret
  exact ⟨rfl, I11.out.1⟩
end Go.Proofs.Ytoblckocmakakaa
