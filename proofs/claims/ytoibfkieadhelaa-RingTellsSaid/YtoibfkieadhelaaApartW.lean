/-
  RingApart: whatever ring, places and samples, the law returns true and changes nothing that was there. Its two places are int64s.
-/
import Derived.Test.YtoibfkieadhelaaWn
import Derived.Deep.Cut
namespace Go.Proofs.Ytoibfkieadhelaa
open Go.RowKit Go.BigFrame

/-! ### Samples put at two places of two slots hang on no order -/
theorem putR_p (r : Rg) (k : Int) (t : Smp) (i : Nat) : (putR r k t).p i = if (1 ≤ k ∧ k ≤ 4611686018427387904 ∧ r.p (slotN k) ≤ k) ∧ i = slotN k then k else r.p i := by
  unfold putR
  by_cases h : 1 ≤ k ∧ k ≤ 4611686018427387904 ∧ r.p (slotN k) ≤ k
  · rw [if_pos h]; simp only [upP]; by_cases e : i = slotN k <;> simp [e, h]
  · rw [if_neg h, if_neg (fun q => h q.1)]
theorem putR_s (r : Rg) (k : Int) (t : Smp) (i : Nat) : (putR r k t).s i = if (1 ≤ k ∧ k ≤ 4611686018427387904 ∧ r.p (slotN k) ≤ k) ∧ i = slotN k then t else r.s i := by
  unfold putR
  by_cases h : 1 ≤ k ∧ k ≤ 4611686018427387904 ∧ r.p (slotN k) ≤ k
  · rw [if_pos h]; simp only [upS]; by_cases e : i = slotN k <;> simp [e, h]
  · rw [if_neg h, if_neg (fun q => h q.1)]
theorem putR_keep (r : Rg) (k : Int) (t : Smp) (i : Nat) (h : i ≠ slotN k) : (putR r k t).p i = r.p i ∧ (putR r k t).s i = r.s i := by
  rw [putR_p, putR_s, if_neg (fun q => h q.2), if_neg (fun q => h q.2)]; exact ⟨rfl, rfl⟩
theorem putR_slot (r q : Rg) (k : Int) (t : Smp) (h : r.p (slotN k) = q.p (slotN k)) (h2 : r.s (slotN k) = q.s (slotN k)) : (putR r k t).p (slotN k) = (putR q k t).p (slotN k) ∧ (putR r k t).s (slotN k) = (putR q k t).s (slotN k) := by
  rw [putR_p, putR_s, putR_p, putR_s, h, h2]; exact ⟨rfl, rfl⟩
theorem putR_comm (r : Rg) (a b : Int) (s t : Smp) (h : slotN a ≠ slotN b) : sameRing (putR (putR r a s) b t).p (putR (putR r a s) b t).s (putR (putR r b t) a s).p (putR (putR r b t) a s).s = true := by
  have key : ∀ i, (putR (putR r a s) b t).p i = (putR (putR r b t) a s).p i ∧ (putR (putR r a s) b t).s i = (putR (putR r b t) a s).s i := by
    intro i
    by_cases e1 : i = slotN b
    · subst e1
      have k1 := putR_keep r a s (slotN b) (fun e => h e.symm)
      have k2 := putR_keep (putR r b t) a s (slotN b) (fun e => h e.symm)
      have k3 := putR_slot (putR r a s) r b t k1.1 k1.2
      rw [k2.1, k2.2]; exact k3
    · by_cases e2 : i = slotN a
      · subst e2
        have k1 := putR_keep r b t (slotN a) e1
        have k2 := putR_keep (putR r a s) b t (slotN a) e1
        have k3 := putR_slot r (putR r b t) a s k1.1.symm k1.2.symm
        rw [k2.1, k2.2]; exact k3
      · have k1 := putR_keep (putR r a s) b t i e1
        have k2 := putR_keep r a s i e2
        have k3 := putR_keep (putR r b t) a s i e2
        have k4 := putR_keep r b t i e1
        rw [k1.1, k1.2, k2.1, k2.2, k3.1, k3.2, k4.1, k4.2]; exact ⟨rfl, rfl⟩
  exact (sameRing_iff _ _ _ _).2 ⟨fun i _ => (key i).1, fun i _ => (key i).2⟩
theorem slot_apart (a b : Int) (h : (a - b).tmod 16 ≠ 0) : slotN a ≠ slotN b := by
  intro e
  apply h
  have h1 := slotN_cast a
  have h2 := slotN_cast b
  rw [e] at h1
  have : (a - b) % 16 = 0 := by omega
  rw [Int.tmod_eq_emod]
  split
  · omega
  · rename_i hn; exfalso; apply hn; exact Or.inr (Int.dvd_of_emod_eq_zero this)

theorem wl_load30m {ops : Array Oper} {rest : List Oper} {o : Oper} {a : Act} {w : World} {Q : Exit → Act → World → Prop} (hgd : o.guard = none) (x : Operand) (ho : o.op = .load 30 x)
    (b off : Nat) (hx : a.eval x = .pointer (some ⟨b, off, none⟩)) (p : Nat → Int) (s : Nat → Smp) {C : Array Value} {t : TypeId} {fr : Nat × Nat} (hC : C.extract off (off + 224) = mk p s) (hb : w.heap[b]? = some (.cells C t fr))
    (h : wpList Try.prog ops Q rest (a.put o.dst (.agg (mk p s))) w) : wpList Try.prog ops Q (o :: rest) a w := by
  have hr := World.rangeAt_of_block hb off 224
  rw [hC] at hr
  refine wpList_load_mid hgd 30 x ho b off hx _ _ hr Try.underlying30 rfl (by rw [size30]; simp [mk_size]) ?_
  simp only [Array.toArray_toList]
  exact h

/-- What lies in the law's argument. -/
structure IsApart (C : Array Value) (p : Nat → Int) (s : Nat → Smp) (a b : Int) (S T : Smp) : Prop where
  r : C.extract 0 (0 + 224) = mk p s
  a : C[224]? = some (.int .i64 a)
  b : C[225]? = some (.int .i64 b)
  s : ∀ j, j < 13 → C[226 + j]? = S.cells[j]?
  t : ∀ j, j < 13 → C[239 + j]? = T.cells[j]?

set_option maxHeartbeats 4000000 in
theorem ringApart_main (C : Array Value) (p : Nat → Int) (s : Nat → Smp) (a b : Int) (S T : Smp) (w : World) (h : IsApart C p s a b S T) (a1 : 1 ≤ a) (a2 : a ≤ 9223372036854775807) (b1 : 1 ≤ b) (b2 : b ≤ 9223372036854775807) (hr : rightB p s = true) (hab : (a - b).tmod 16 ≠ 0) :
    Calls Try.prog 5 #[.agg C] w fun e w' => e = .returned (.bool true) ∧ Below w.heap.size w w' := by
  have HR := Lib.hid hr
  have HX := Lib.hid (putR_comm ⟨p, s⟩ a b S T (slot_apart a b hab))
  have hd : ((a - b).tmod 16 == 0) = false := by rw [beq_eq_false_iff_ne]; exact hab
  clear hr hab
  have ha := h.a
  have hb := h.b
  have HCr := Lib.hid h.r
  have s0 := h.s 0 (by omega)
  have s1 := h.s 1 (by omega)
  have s2 := h.s 2 (by omega)
  have s3 := h.s 3 (by omega)
  have s4 := h.s 4 (by omega)
  have s5 := h.s 5 (by omega)
  have s6 := h.s 6 (by omega)
  have s7 := h.s 7 (by omega)
  have s8 := h.s 8 (by omega)
  have s9 := h.s 9 (by omega)
  have s10 := h.s 10 (by omega)
  have s11 := h.s 11 (by omega)
  have s12 := h.s 12 (by omega)
  have t0 := h.t 0 (by omega)
  have t1 := h.t 1 (by omega)
  have t2 := h.t 2 (by omega)
  have t3 := h.t 3 (by omega)
  have t4 := h.t 4 (by omega)
  have t5 := h.t 5 (by omega)
  have t6 := h.t 6 (by omega)
  have t7 := h.t 7 (by omega)
  have t8 := h.t 8 (by omega)
  have t9 := h.t 9 (by omega)
  have t10 := h.t 10 (by omega)
  have t11 := h.t 11 (by omega)
  have t12 := h.t 12 (by omega)
  simp only [Smp.cells, Nat.reduceAdd] at s0 s1 s2 s3 s4 s5 s6 s7 s8 s9 s10 s11 s12 t0 t1 t2 t3 t4 t5 t6 t7 t8 t9 t10 t11 t12
  clear h
  go_enter Try.func5, Try.ntmps5
  go_wp2_with (first
    | ((with_reducible show wpList _ _ _ (Oper.mk _ (Op.load 30 _) _ _ _ none :: _) _ _); refine wl_load30m rfl _ rfl _ 0 rfl p s HCr.out (by exact w1_0 _ _) ?_)
    | ((with_reducible show wpList _ _ _ (Oper.mk _ (Op.store 30 _ _) _ _ _ _ :: _) _ _); refine wl_store30n rfl _ _ rfl _ p s rfl rfl _ zp zs rfl (by simp) ?_))
  have I0 := Lib.hid ((((Inv.start w).alloc' (.cells C 41)).alloc (.cells (mk p s) 30)).alloc (.cells S.cells 27) |>.alloc (.cells T.cells 27))
  clear ha hb s0 s1 s2 s3 s4 s5 s6 s7 s8 s9 s10 s11 s12 t0 t1 t2 t3 t4 t5 t6 t7 t8 t9 t10 t11 t12
  refine (shown_any _).mono ?_
  rintro e w1 ⟨rfl, hb⟩
  have I1 := Lib.hid (I0.out.call hb)
  clear hb I0
  go_wp2_with ((with_reducible show wpList _ _ _ (Oper.mk _ (Op.load 30 _) _ _ _ none :: _) _ _); refine wl_load30 rfl _ rfl _ rfl p s (by exact I1.out.get _ _ (by simp)) ?_)
  refine (rright_t HR.out _).mono ?_
  rintro e w2 ⟨rfl, hb⟩
  have I2 := Lib.hid (I1.out.call hb)
  clear hb I1
  go_wp2_with fail
  have I3 : Inv w.heap.size w [(w.heap.size + 1 + 1 + 1, .cells T.cells 27), (w.heap.size + 1 + 1, .cells S.cells 27), (w.heap.size + 1, .cells (mk p s) 30)] w2 :=
    I2.out.sub (by intro x hx; simp only [World.size_alloc, List.mem_cons, List.mem_nil_iff, or_false] at hx ⊢; rcases hx with rfl | rfl | rfl <;> simp)
  clear I2
  refine wp_region_quiet_C (fun W => Inv w.heap.size w [(w.heap.size + 1 + 1 + 1, .cells T.cells 27), (w.heap.size + 1 + 1, .cells S.cells 27), (w.heap.size + 1, .cells (mk p s) 30)] W) (by kernel_rfl) (by kernel_rfl) I3.drew ?_
  go_big_quiet_want
  go_big_quiet_op
  go_big_quiet_on
  go_big_quiet_want
  go_big_quiet_op
  go_big_quiet_on
  go_big_quiet_want
  refine quiet_val (fun W hW => exec_load30 _ _ W _ rfl (w.heap.size + 1) rfl p s (hW.get (w.heap.size + 1) (.cells (mk p s) 30) (by simp))) ?_
  simp only [Act.put, List.setIfInBounds_toArray, List.set_cons_succ, List.set_cons_zero]
  go_big_quiet_on
  go_big_quiet_want
  go_big_quiet_op
  go_big_quiet_on
  go_big_quiet_want
  refine quiet_val (fun W hW => exec_load27 _ _ W _ rfl (w.heap.size + 1 + 1) rfl S (hW.get (w.heap.size + 1 + 1) (.cells (S).cells 27) (by simp))) ?_
  simp only [Act.put, List.setIfInBounds_toArray, List.set_cons_succ, List.set_cons_zero]
  go_big_quiet_on
  go_big_quiet_want
  refine quiet_call (fun W hW => exec_call12 _ _ W _ _ _ _ rfl rfl (.agg (mk (Rg.mk p s).p (Rg.mk p s).s)) (.int .i64 a) (.agg (S).cells) rfl rfl rfl) (fun W hW => (put_any (Rg.mk p s) a (S) W).mono (fun e w1 h => ⟨h.1, hW.call h.2⟩)) ?_
  simp only [Act.put, List.setIfInBounds_toArray, List.set_cons_succ, List.set_cons_zero]
  go_big_quiet_on
  go_big_quiet_want
  go_big_quiet_op
  go_big_quiet_on
  go_big_quiet_want
  refine quiet_val (fun W hW => exec_load27 _ _ W _ rfl (w.heap.size + 1 + 1 + 1) rfl T (hW.get (w.heap.size + 1 + 1 + 1) (.cells (T).cells 27) (by simp))) ?_
  simp only [Act.put, List.setIfInBounds_toArray, List.set_cons_succ, List.set_cons_zero]
  go_big_quiet_on
  go_big_quiet_want
  refine quiet_call (fun W hW => exec_call12 _ _ W _ _ _ _ rfl rfl (.agg (mk (putR (Rg.mk p s) a S).p (putR (Rg.mk p s) a S).s)) (.int .i64 b) (.agg (T).cells) rfl rfl rfl) (fun W hW => (put_any (putR (Rg.mk p s) a S) b (T) W).mono (fun e w1 h => ⟨h.1, hW.call h.2⟩)) ?_
  simp only [Act.put, List.setIfInBounds_toArray, List.set_cons_succ, List.set_cons_zero]
  go_big_quiet_on
  go_big_quiet_want
  refine quiet_val (fun W hW => exec_load30 _ _ W _ rfl (w.heap.size + 1) rfl p s (hW.get (w.heap.size + 1) (.cells (mk p s) 30) (by simp))) ?_
  simp only [Act.put, List.setIfInBounds_toArray, List.set_cons_succ, List.set_cons_zero]
  go_big_quiet_on
  go_big_quiet_want
  go_big_quiet_op
  go_big_quiet_on
  go_big_quiet_want
  refine quiet_val (fun W hW => exec_load27 _ _ W _ rfl (w.heap.size + 1 + 1 + 1) rfl T (hW.get (w.heap.size + 1 + 1 + 1) (.cells (T).cells 27) (by simp))) ?_
  simp only [Act.put, List.setIfInBounds_toArray, List.set_cons_succ, List.set_cons_zero]
  go_big_quiet_on
  go_big_quiet_want
  refine quiet_call (fun W hW => exec_call12 _ _ W _ _ _ _ rfl rfl (.agg (mk (Rg.mk p s).p (Rg.mk p s).s)) (.int .i64 b) (.agg (T).cells) rfl rfl rfl) (fun W hW => (put_any (Rg.mk p s) b (T) W).mono (fun e w1 h => ⟨h.1, hW.call h.2⟩)) ?_
  simp only [Act.put, List.setIfInBounds_toArray, List.set_cons_succ, List.set_cons_zero]
  go_big_quiet_on
  go_big_quiet_want
  go_big_quiet_op
  go_big_quiet_on
  go_big_quiet_want
  refine quiet_val (fun W hW => exec_load27 _ _ W _ rfl (w.heap.size + 1 + 1) rfl S (hW.get (w.heap.size + 1 + 1) (.cells (S).cells 27) (by simp))) ?_
  simp only [Act.put, List.setIfInBounds_toArray, List.set_cons_succ, List.set_cons_zero]
  go_big_quiet_on
  go_big_quiet_want
  refine quiet_call (fun W hW => exec_call12 _ _ W _ _ _ _ rfl rfl (.agg (mk (putR (Rg.mk p s) b T).p (putR (Rg.mk p s) b T).s)) (.int .i64 a) (.agg (S).cells) rfl rfl rfl) (fun W hW => (put_any (putR (Rg.mk p s) b T) a (S) W).mono (fun e w1 h => ⟨h.1, hW.call h.2⟩)) ?_
  simp only [Act.put, List.setIfInBounds_toArray, List.set_cons_succ, List.set_cons_zero]
  go_big_quiet_on
  go_big_quiet_want
  refine quiet_val (fun W hW => exec_eql30 _ _ W _ _ rfl (putR (putR (Rg.mk p s) a S) b T).p (putR (putR (Rg.mk p s) a S) b T).s (putR (putR (Rg.mk p s) b T) a S).p (putR (putR (Rg.mk p s) b T) a S).s rfl rfl true HX.out) ?_
  simp only [Act.put, List.setIfInBounds_toArray, List.set_cons_succ, List.set_cons_zero]
  go_big_quiet_on
  go_big_quiet_want
  refine quiet_val (v := .bool true) (fun W hW => exec_pickT _ _ W _ _ _ rfl rfl _ rfl) ?_
  simp only [Act.put, List.setIfInBounds_toArray, List.set_cons_succ, List.set_cons_zero]
  go_big_quiet_on
  go_big_quiet_want
  go_big_quiet_op
  go_big_quiet_on
  refine wpQuiet_nil ?_
  intro W hW
  go_wp2_with fail
  go_ret
  exact ⟨rfl, hW.1⟩

set_option maxHeartbeats 2000000 in
theorem ringApart_bad (C : Array Value) (p : Nat → Int) (s : Nat → Smp) (a b : Int) (S T : Smp) (w : World) (h : IsApart C p s a b S T) (hr : rightB p s = false) :
    Calls Try.prog 5 #[.agg C] w fun e w' => e = .returned (.bool true) ∧ Below w.heap.size w w' := by
  have HR := Lib.hid hr
  clear hr
  have ha := h.a
  have hb := h.b
  have HCr := Lib.hid h.r
  have s0 := h.s 0 (by omega)
  have s1 := h.s 1 (by omega)
  have s2 := h.s 2 (by omega)
  have s3 := h.s 3 (by omega)
  have s4 := h.s 4 (by omega)
  have s5 := h.s 5 (by omega)
  have s6 := h.s 6 (by omega)
  have s7 := h.s 7 (by omega)
  have s8 := h.s 8 (by omega)
  have s9 := h.s 9 (by omega)
  have s10 := h.s 10 (by omega)
  have s11 := h.s 11 (by omega)
  have s12 := h.s 12 (by omega)
  have t0 := h.t 0 (by omega)
  have t1 := h.t 1 (by omega)
  have t2 := h.t 2 (by omega)
  have t3 := h.t 3 (by omega)
  have t4 := h.t 4 (by omega)
  have t5 := h.t 5 (by omega)
  have t6 := h.t 6 (by omega)
  have t7 := h.t 7 (by omega)
  have t8 := h.t 8 (by omega)
  have t9 := h.t 9 (by omega)
  have t10 := h.t 10 (by omega)
  have t11 := h.t 11 (by omega)
  have t12 := h.t 12 (by omega)
  simp only [Smp.cells, Nat.reduceAdd] at s0 s1 s2 s3 s4 s5 s6 s7 s8 s9 s10 s11 s12 t0 t1 t2 t3 t4 t5 t6 t7 t8 t9 t10 t11 t12
  clear h
  go_enter Try.func5, Try.ntmps5
  go_wp2_with (first
    | ((with_reducible show wpList _ _ _ (Oper.mk _ (Op.load 30 _) _ _ _ none :: _) _ _); refine wl_load30m rfl _ rfl _ 0 rfl p s HCr.out (by exact w1_0 _ _) ?_)
    | ((with_reducible show wpList _ _ _ (Oper.mk _ (Op.store 30 _ _) _ _ _ _ :: _) _ _); refine wl_store30n rfl _ _ rfl _ p s rfl rfl _ zp zs rfl (by simp) ?_))
  have I0 := Lib.hid ((((Inv.start w).alloc' (.cells C 41)).alloc (.cells (mk p s) 30)).alloc (.cells S.cells 27) |>.alloc (.cells T.cells 27))
  clear ha hb s0 s1 s2 s3 s4 s5 s6 s7 s8 s9 s10 s11 s12 t0 t1 t2 t3 t4 t5 t6 t7 t8 t9 t10 t11 t12
  refine (shown_any _).mono ?_
  rintro e w1 ⟨rfl, hb⟩
  have I1 := Lib.hid (I0.out.call hb)
  clear hb I0
  go_wp2_with ((with_reducible show wpList _ _ _ (Oper.mk _ (Op.load 30 _) _ _ _ none :: _) _ _); refine wl_load30 rfl _ rfl _ rfl p s (by exact I1.out.get _ _ (by simp)) ?_)
  refine (rright_f HR.out _).mono ?_
  rintro e w2 ⟨rfl, hb⟩
  have I2 := Lib.hid (I1.out.call hb)
  clear hb I1
  go_wp2_with fail
  go_ret
  exact ⟨rfl, I2.out.1⟩

set_option maxHeartbeats 2000000 in
theorem ringApart_out1 (C : Array Value) (p : Nat → Int) (s : Nat → Smp) (a b : Int) (S T : Smp) (w : World) (h : IsApart C p s a b S T) (hr : rightB p s = true) (a1 : a < 1) :
    Calls Try.prog 5 #[.agg C] w fun e w' => e = .returned (.bool true) ∧ Below w.heap.size w w' := by
  have HR := Lib.hid hr
  clear hr
  have ha := h.a
  have hb := h.b
  have HCr := Lib.hid h.r
  have s0 := h.s 0 (by omega)
  have s1 := h.s 1 (by omega)
  have s2 := h.s 2 (by omega)
  have s3 := h.s 3 (by omega)
  have s4 := h.s 4 (by omega)
  have s5 := h.s 5 (by omega)
  have s6 := h.s 6 (by omega)
  have s7 := h.s 7 (by omega)
  have s8 := h.s 8 (by omega)
  have s9 := h.s 9 (by omega)
  have s10 := h.s 10 (by omega)
  have s11 := h.s 11 (by omega)
  have s12 := h.s 12 (by omega)
  have t0 := h.t 0 (by omega)
  have t1 := h.t 1 (by omega)
  have t2 := h.t 2 (by omega)
  have t3 := h.t 3 (by omega)
  have t4 := h.t 4 (by omega)
  have t5 := h.t 5 (by omega)
  have t6 := h.t 6 (by omega)
  have t7 := h.t 7 (by omega)
  have t8 := h.t 8 (by omega)
  have t9 := h.t 9 (by omega)
  have t10 := h.t 10 (by omega)
  have t11 := h.t 11 (by omega)
  have t12 := h.t 12 (by omega)
  simp only [Smp.cells, Nat.reduceAdd] at s0 s1 s2 s3 s4 s5 s6 s7 s8 s9 s10 s11 s12 t0 t1 t2 t3 t4 t5 t6 t7 t8 t9 t10 t11 t12
  clear h
  go_enter Try.func5, Try.ntmps5
  go_wp2_with (first
    | ((with_reducible show wpList _ _ _ (Oper.mk _ (Op.load 30 _) _ _ _ none :: _) _ _); refine wl_load30m rfl _ rfl _ 0 rfl p s HCr.out (by exact w1_0 _ _) ?_)
    | ((with_reducible show wpList _ _ _ (Oper.mk _ (Op.store 30 _ _) _ _ _ _ :: _) _ _); refine wl_store30n rfl _ _ rfl _ p s rfl rfl _ zp zs rfl (by simp) ?_))
  have I0 := Lib.hid ((((Inv.start w).alloc' (.cells C 41)).alloc (.cells (mk p s) 30)).alloc (.cells S.cells 27) |>.alloc (.cells T.cells 27))
  clear ha hb s0 s1 s2 s3 s4 s5 s6 s7 s8 s9 s10 s11 s12 t0 t1 t2 t3 t4 t5 t6 t7 t8 t9 t10 t11 t12
  refine (shown_any _).mono ?_
  rintro e w1 ⟨rfl, hb⟩
  have I1 := Lib.hid (I0.out.call hb)
  clear hb I0
  go_wp2_with ((with_reducible show wpList _ _ _ (Oper.mk _ (Op.load 30 _) _ _ _ none :: _) _ _); refine wl_load30 rfl _ rfl _ rfl p s (by exact I1.out.get _ _ (by simp)) ?_)
  refine (rright_t HR.out _).mono ?_
  rintro e w2 ⟨rfl, hb⟩
  have I2 := Lib.hid (I1.out.call hb)
  clear hb I1
  go_wp2_with fail
  go_ret
  exact ⟨rfl, I2.out.1⟩

set_option maxHeartbeats 2000000 in
theorem ringApart_out2 (C : Array Value) (p : Nat → Int) (s : Nat → Smp) (a b : Int) (S T : Smp) (w : World) (h : IsApart C p s a b S T) (hr : rightB p s = true) (a1 : 1 ≤ a) (b1 : b < 1) :
    Calls Try.prog 5 #[.agg C] w fun e w' => e = .returned (.bool true) ∧ Below w.heap.size w w' := by
  have HR := Lib.hid hr
  clear hr
  have ha := h.a
  have hb := h.b
  have HCr := Lib.hid h.r
  have s0 := h.s 0 (by omega)
  have s1 := h.s 1 (by omega)
  have s2 := h.s 2 (by omega)
  have s3 := h.s 3 (by omega)
  have s4 := h.s 4 (by omega)
  have s5 := h.s 5 (by omega)
  have s6 := h.s 6 (by omega)
  have s7 := h.s 7 (by omega)
  have s8 := h.s 8 (by omega)
  have s9 := h.s 9 (by omega)
  have s10 := h.s 10 (by omega)
  have s11 := h.s 11 (by omega)
  have s12 := h.s 12 (by omega)
  have t0 := h.t 0 (by omega)
  have t1 := h.t 1 (by omega)
  have t2 := h.t 2 (by omega)
  have t3 := h.t 3 (by omega)
  have t4 := h.t 4 (by omega)
  have t5 := h.t 5 (by omega)
  have t6 := h.t 6 (by omega)
  have t7 := h.t 7 (by omega)
  have t8 := h.t 8 (by omega)
  have t9 := h.t 9 (by omega)
  have t10 := h.t 10 (by omega)
  have t11 := h.t 11 (by omega)
  have t12 := h.t 12 (by omega)
  simp only [Smp.cells, Nat.reduceAdd] at s0 s1 s2 s3 s4 s5 s6 s7 s8 s9 s10 s11 s12 t0 t1 t2 t3 t4 t5 t6 t7 t8 t9 t10 t11 t12
  clear h
  go_enter Try.func5, Try.ntmps5
  go_wp2_with (first
    | ((with_reducible show wpList _ _ _ (Oper.mk _ (Op.load 30 _) _ _ _ none :: _) _ _); refine wl_load30m rfl _ rfl _ 0 rfl p s HCr.out (by exact w1_0 _ _) ?_)
    | ((with_reducible show wpList _ _ _ (Oper.mk _ (Op.store 30 _ _) _ _ _ _ :: _) _ _); refine wl_store30n rfl _ _ rfl _ p s rfl rfl _ zp zs rfl (by simp) ?_))
  have I0 := Lib.hid ((((Inv.start w).alloc' (.cells C 41)).alloc (.cells (mk p s) 30)).alloc (.cells S.cells 27) |>.alloc (.cells T.cells 27))
  clear ha hb s0 s1 s2 s3 s4 s5 s6 s7 s8 s9 s10 s11 s12 t0 t1 t2 t3 t4 t5 t6 t7 t8 t9 t10 t11 t12
  refine (shown_any _).mono ?_
  rintro e w1 ⟨rfl, hb⟩
  have I1 := Lib.hid (I0.out.call hb)
  clear hb I0
  go_wp2_with ((with_reducible show wpList _ _ _ (Oper.mk _ (Op.load 30 _) _ _ _ none :: _) _ _); refine wl_load30 rfl _ rfl _ rfl p s (by exact I1.out.get _ _ (by simp)) ?_)
  refine (rright_t HR.out _).mono ?_
  rintro e w2 ⟨rfl, hb⟩
  have I2 := Lib.hid (I1.out.call hb)
  clear hb I1
  go_wp2_with fail
  go_ret
  exact ⟨rfl, I2.out.1⟩

set_option maxHeartbeats 2000000 in
theorem ringApart_same (C : Array Value) (p : Nat → Int) (s : Nat → Smp) (a b : Int) (S T : Smp) (w : World) (h : IsApart C p s a b S T) (a1 : 1 ≤ a) (a2 : a ≤ 9223372036854775807) (b1 : 1 ≤ b) (b2 : b ≤ 9223372036854775807) (hr : rightB p s = true) (hab : (a - b).tmod 16 = 0) :
    Calls Try.prog 5 #[.agg C] w fun e w' => e = .returned (.bool true) ∧ Below w.heap.size w w' := by
  have HR := Lib.hid hr
  have hd : ((a - b).tmod 16 == 0) = true := by rw [beq_iff_eq]; exact hab
  clear hr hab
  have ha := h.a
  have hb := h.b
  have HCr := Lib.hid h.r
  have s0 := h.s 0 (by omega)
  have s1 := h.s 1 (by omega)
  have s2 := h.s 2 (by omega)
  have s3 := h.s 3 (by omega)
  have s4 := h.s 4 (by omega)
  have s5 := h.s 5 (by omega)
  have s6 := h.s 6 (by omega)
  have s7 := h.s 7 (by omega)
  have s8 := h.s 8 (by omega)
  have s9 := h.s 9 (by omega)
  have s10 := h.s 10 (by omega)
  have s11 := h.s 11 (by omega)
  have s12 := h.s 12 (by omega)
  have t0 := h.t 0 (by omega)
  have t1 := h.t 1 (by omega)
  have t2 := h.t 2 (by omega)
  have t3 := h.t 3 (by omega)
  have t4 := h.t 4 (by omega)
  have t5 := h.t 5 (by omega)
  have t6 := h.t 6 (by omega)
  have t7 := h.t 7 (by omega)
  have t8 := h.t 8 (by omega)
  have t9 := h.t 9 (by omega)
  have t10 := h.t 10 (by omega)
  have t11 := h.t 11 (by omega)
  have t12 := h.t 12 (by omega)
  simp only [Smp.cells, Nat.reduceAdd] at s0 s1 s2 s3 s4 s5 s6 s7 s8 s9 s10 s11 s12 t0 t1 t2 t3 t4 t5 t6 t7 t8 t9 t10 t11 t12
  clear h
  go_enter Try.func5, Try.ntmps5
  go_wp2_with (first
    | ((with_reducible show wpList _ _ _ (Oper.mk _ (Op.load 30 _) _ _ _ none :: _) _ _); refine wl_load30m rfl _ rfl _ 0 rfl p s HCr.out (by exact w1_0 _ _) ?_)
    | ((with_reducible show wpList _ _ _ (Oper.mk _ (Op.store 30 _ _) _ _ _ _ :: _) _ _); refine wl_store30n rfl _ _ rfl _ p s rfl rfl _ zp zs rfl (by simp) ?_))
  have I0 := Lib.hid ((((Inv.start w).alloc' (.cells C 41)).alloc (.cells (mk p s) 30)).alloc (.cells S.cells 27) |>.alloc (.cells T.cells 27))
  clear ha hb s0 s1 s2 s3 s4 s5 s6 s7 s8 s9 s10 s11 s12 t0 t1 t2 t3 t4 t5 t6 t7 t8 t9 t10 t11 t12
  refine (shown_any _).mono ?_
  rintro e w1 ⟨rfl, hb⟩
  have I1 := Lib.hid (I0.out.call hb)
  clear hb I0
  go_wp2_with ((with_reducible show wpList _ _ _ (Oper.mk _ (Op.load 30 _) _ _ _ none :: _) _ _); refine wl_load30 rfl _ rfl _ rfl p s (by exact I1.out.get _ _ (by simp)) ?_)
  refine (rright_t HR.out _).mono ?_
  rintro e w2 ⟨rfl, hb⟩
  have I2 := Lib.hid (I1.out.call hb)
  clear hb I1
  go_wp2_with fail
  go_ret
  exact ⟨rfl, I2.out.1⟩

theorem ringApart_walk (C : Array Value) (p : Nat → Int) (s : Nat → Smp) (a b : Int) (S T : Smp) (w : World) (h : IsApart C p s a b S T) (a2 : a ≤ 9223372036854775807) (b2 : b ≤ 9223372036854775807) :
    Calls Try.prog 5 #[.agg C] w fun e w' => e = .returned (.bool true) ∧ Below w.heap.size w w' := by
  cases hr : rightB p s with
  | false => exact ringApart_bad C p s a b S T w h hr
  | true =>
    by_cases ha : a < 1
    · exact ringApart_out1 C p s a b S T w h hr ha
    · by_cases hb : b < 1
      · exact ringApart_out2 C p s a b S T w h hr (by omega) hb
      · by_cases hab : (a - b).tmod 16 = 0
        · exact ringApart_same C p s a b S T w h (by omega) a2 (by omega) b2 hr hab
        · exact ringApart_main C p s a b S T w h (by omega) a2 (by omega) b2 hr hab
end Go.Proofs.Ytoibfkieadhelaa
