/-
  The reference's Put: under the premises named.
-/
import Derived.Test.YtoibfkieadhelaaWe
import Derived.Deep.WholeRow
namespace Go.Proofs.Ytoibfkieadhelaa
open Go.RowKit

theorem w4_0 (w : World) (a b c d : Obj) : ((((w.alloc a).alloc b).alloc c).alloc d).heap[w.heap.size]? = some a := by rw [heap_alloc_old _ _ (by simp; omega), w3_0]
theorem w4_1 (w : World) (a b c d : Obj) : ((((w.alloc a).alloc b).alloc c).alloc d).heap[w.heap.size + 1]? = some b := by rw [heap_alloc_old _ _ (by simp), w3_1]
theorem w4_2 (w : World) (a b c d : Obj) : ((((w.alloc a).alloc b).alloc c).alloc d).heap[w.heap.size + 1 + 1]? = some c := by rw [heap_alloc_old _ _ (by simp), w3_2]
theorem w4_3 (w : World) (a b c d : Obj) : ((((w.alloc a).alloc b).alloc c).alloc d).heap[w.heap.size + 1 + 1 + 1]? = some d := heap_at _ _ _ (by simp)
theorem setRow_new (w : World) (c c' : Array Value) (t : TypeId) (n : Nat) (hn : n = w.heap.size) : (w.alloc (.cells c t)).setRow n c' = w.alloc (.cells c' t) := by
  subst hn; exact World.setRow_alloc_new w c c' t

/-- A whole ring into the block that was made last. -/
theorem wl_store30n {ops : Array Oper} {rest : List Oper} {o : Oper} {a : Act} {W : World} {Q : Exit → Act → World → Prop} (hgd : o.guard = none) (x y : Operand) (ho : o.op = .store 30 x y)
    (b : Nat) (p : Nat → Int) (s : Nat → Smp) (hx : a.eval x = .pointer (some ⟨b, 0, none⟩)) (hy : a.eval y = .agg (mk p s)) (w : World) (p' : Nat → Int) (s' : Nat → Smp) (hW : W = w.alloc (.cells (mk p' s') 30)) (hb : b = w.heap.size)
    (h : wpList Try.prog ops Q rest (a.put o.dst undef) (w.alloc (.cells (mk p s) 30))) : wpList Try.prog ops Q (o :: rest) a W := by
  subst hW
  refine wl_store30 hgd x y ho b p s hx hy p' s' (heap_at _ _ _ hb) ?_
  rw [setRow_new _ _ _ _ _ hb]
  exact h

def upP (p : Nat → Int) (k : Int) : Nat → Int := fun i => if i = slotN k then k else p i
def upS (s : Nat → Smp) (k : Int) (t : Smp) : Nat → Smp := fun i => if i = slotN k then t else s i


set_option maxHeartbeats 2000000 in
theorem rput_yes (p : Nat → Int) (s : Nat → Smp) (k : Int) (t : Smp) (w : World) (h1 : 1 ≤ k) (h2 : k ≤ 4611686018427387904) (h3 : p (slotN k) ≤ k) :
    Calls Try.prog 19 #[.agg (mk p s), .int .i64 k, .agg t.cells] w fun e w' => e = .returned (.agg (mk (upP p k) (upS s k t))) ∧ Below w.heap.size w w' := by
  have H3 := Lib.hid h3
  clear h3
  have hl := slotN_lt k
  unfold Smp.cells
  go_enter Try.func19, Try.ntmps19
  go_wp2_with (first
      | ((with_reducible show wpList _ _ _ (Oper.mk _ (Op.load 30 _) _ _ _ _ :: _) _ _); refine wl_load30 rfl _ rfl _ rfl p s (by exact w3_0 _ _ _ _) ?_)
      | ((with_reducible show wpList _ _ _ (Oper.mk _ (Op.store 30 _ _) _ _ _ _ :: _) _ _); refine wl_store30n rfl _ _ rfl _ p s rfl rfl _ zp zs rfl (by simp) ?_))
  go_loopw [8] (fun i wr => ∃ n : Nat, n ≤ 16 ∧ i = .int .i64 n ∧ ∃ q r, wr = (((w.alloc (.cells (mk p s) 30)).alloc (.cells #[.bool t.m, .int .i64 t.g0, .int .i64 t.g1, .int .i64 t.g2, .int .i64 t.a0, .int .i64 t.a1, .int .i64 t.a2, .bool t.hb, .int .i64 t.b, .bool t.hg, .int .i64 t.n0, .int .i64 t.n1, .int .i64 t.n2] 27)).alloc (.cells (mk zp zs) 30)).alloc (.cells (mk q r) 30) ∧ Hid ((n ≤ slotN k ∧ q = p ∧ r = s) ∨ (slotN k < n ∧ q = upP p k ∧ r = upS s k t))) (fun i _ => 16 - (intOf i).toNat)
  case atStart => exact ⟨0, by omega, rfl, p, s, rfl, Lib.hid (Or.inl ⟨by omega, rfl, rfl⟩)⟩
  case round =>
    obtain ⟨n, hn, rfl, q, r, rfl, HQ⟩ := hrel
    by_cases hlt : n < 16
    · by_cases he : n = slotN k
      · obtain ⟨rfl, rfl⟩ : q = p ∧ r = s := by
          rcases HQ.out with h | h
          · exact h.2
          · omega
        clear HQ
        subst he
        have hp := mk_place q r (slotN k) hl
        have h3 := H3.out
        obtain ⟨c0, c1, c2, c3, c4, c5, c6, c7, c8, c9, c10, c11, c12⟩ := mk13 q r (slotN k) hl
        have n0 : ∀ j, ¬ slotN k = 16 + slotN k * 13 + j := fun j => by omega
        have n1 : ¬ slotN k = 16 + slotN k * 13 := by omega
        go_wp2_with (go_at_call 23; refine (of_any _ _ (by omega) (by omega)).mono ?_; rintro e w' ⟨rfl, rfl⟩)
        rw [put_fin _ _ _ hl]
        go_roundw
        case rel => exact ⟨slotN k + 1, by omega, by go_num, _, _, rfl, Lib.hid (Or.inr ⟨by omega, rfl, rfl⟩)⟩
        case measure => simp [intOf]; omega
      · have hd : ((n : Int) == (slotN k : Int)) = false := by rw [beq_eq_false_iff_ne]; omega
        have HE := Lib.hid he
        clear he
        go_wp2_with (go_at_call 23; refine (of_any _ _ (by omega) (by omega)).mono ?_; rintro e w' ⟨rfl, rfl⟩)
        go_roundw
        case rel => exact ⟨n + 1, by omega, by go_num, q, r, rfl, Lib.hid (by have := HE.out; rcases HQ.out with h | h; exact Or.inl ⟨by omega, h.2⟩; exact Or.inr ⟨by omega, h.2⟩)⟩
        case measure => simp [intOf]; omega
    · obtain ⟨rfl, rfl⟩ : q = upP p k ∧ r = upS s k t := by
        rcases HQ.out with h | h
        · omega
        · exact h.2
      clear HQ
      obtain rfl : n = 16 := by omega
      go_wp2_with (first
        | ((with_reducible show wpList _ _ _ (Oper.mk _ (Op.load 30 _) _ _ _ _ :: _) _ _); refine wl_load30 rfl _ rfl _ rfl (upP p k) (upS s k t) (by exact w4_3 _ _ _ _ _) ?_)
        | ((with_reducible show wpList _ _ _ (Oper.mk _ (Op.store 30 _ _) _ _ _ _ :: _) _ _); refine wl_store30 rfl _ _ rfl _ (upP p k) (upS s k t) rfl rfl zp zs (by exact w4_2 _ _ _ _ _) ?_))
      refine bodyPost_ret (v := .agg (mk (upP p k) (upS s k t))) ?_ rfl ⟨rfl, ?_⟩
      · refine results30 Try.results19 _ _ (w.heap.size + 1 + 1) _ _ rfl ?_
        exact setRow_heap _ _ _ _ _ _ (w4_2 _ _ _ _ _)
      exact below_setRow (((((Below.refl _ _).alloc (Nat.le_refl _) _).alloc (by simp) _).alloc (by simp; omega) _).alloc (by simp; omega) _) (by omega) _

set_option maxHeartbeats 2000000 in
theorem rput_low (p : Nat → Int) (s : Nat → Smp) (k : Int) (t : Smp) (w : World) (h1 : 1 ≤ k) (h2 : k ≤ 4611686018427387904) (h3 : k < p (slotN k)) :
    Calls Try.prog 19 #[.agg (mk p s), .int .i64 k, .agg t.cells] w fun e w' => e = .returned (.agg (mk p s)) ∧ Below w.heap.size w w' := by
  have H3 := Lib.hid h3
  clear h3
  have hl := slotN_lt k
  go_enter Try.func19, Try.ntmps19
  go_wp2_with (first
      | ((with_reducible show wpList _ _ _ (Oper.mk _ (Op.load 30 _) _ _ _ _ :: _) _ _); refine wl_load30 rfl _ rfl _ rfl p s (by exact w3_0 _ _ _ _) ?_)
      | ((with_reducible show wpList _ _ _ (Oper.mk _ (Op.store 30 _ _) _ _ _ _ :: _) _ _); refine wl_store30n rfl _ _ rfl _ p s rfl rfl _ zp zs rfl (by simp) ?_))
  go_loop [8] (fun i => ∃ n : Nat, n ≤ 16 ∧ i = .int .i64 n) (fun i => 16 - (intOf i).toNat)
  case atStart => exact ⟨0, by omega, rfl⟩
  case round =>
    obtain ⟨n, hn, rfl⟩ := hrel
    by_cases hlt : n < 16
    · by_cases he : n = slotN k
      · subst he
        have hp := mk_place p s (slotN k) hl
        have h3 := H3.out
        go_wp2_with (go_at_call 23; refine (of_any _ _ (by omega) (by omega)).mono ?_; rintro e w' ⟨rfl, rfl⟩)
        go_round
        case rel => exact ⟨slotN k + 1, by omega, by go_num⟩
        case measure => simp [intOf]; omega
      · have hd : ((n : Int) == (slotN k : Int)) = false := by rw [beq_eq_false_iff_ne]; omega
        clear he
        go_wp2_with (go_at_call 23; refine (of_any _ _ (by omega) (by omega)).mono ?_; rintro e w' ⟨rfl, rfl⟩)
        go_round
        case rel => exact ⟨n + 1, by omega, by go_num⟩
        case measure => simp [intOf]; omega
    · obtain rfl : n = 16 := by omega
      go_wp2_with (first
        | ((with_reducible show wpList _ _ _ (Oper.mk _ (Op.load 30 _) _ _ _ _ :: _) _ _); refine wl_load30 rfl _ rfl _ rfl p s (by exact w4_3 _ _ _ _ _) ?_)
        | ((with_reducible show wpList _ _ _ (Oper.mk _ (Op.store 30 _ _) _ _ _ _ :: _) _ _); refine wl_store30 rfl _ _ rfl _ p s rfl rfl zp zs (by exact w4_2 _ _ _ _ _) ?_))
      refine bodyPost_ret (v := .agg (mk p s)) ?_ rfl ⟨rfl, ?_⟩
      · refine results30 Try.results19 _ _ (w.heap.size + 1 + 1) _ _ rfl ?_
        exact setRow_heap _ _ _ _ _ _ (w4_2 _ _ _ _ _)
      exact below_setRow (((((Below.refl _ _).alloc (Nat.le_refl _) _).alloc (by simp) _).alloc (by simp; omega) _).alloc (by simp; omega) _) (by omega) _

set_option maxHeartbeats 1000000 in
theorem rput_out (p : Nat → Int) (s : Nat → Smp) (k : Int) (t : Smp) (w : World) (h1 : k < 1 ∨ 4611686018427387904 < k) :
    Calls Try.prog 19 #[.agg (mk p s), .int .i64 k, .agg t.cells] w fun e w' => e = .returned (.agg (mk p s)) ∧ Below w.heap.size w w' := by
  by_cases h0 : k < 1
  all_goals
    first
      | (have h2 : 4611686018427387904 < k := by omega)
      | skip
    clear h1
    go_enter Try.func19, Try.ntmps19
    go_wp2_with (first
      | ((with_reducible show wpList _ _ _ (Oper.mk _ (Op.load 30 _) _ _ _ _ :: _) _ _); refine wl_load30 rfl _ rfl _ rfl p s (by exact w3_0 _ _ _ _) ?_)
      | ((with_reducible show wpList _ _ _ (Oper.mk _ (Op.store 30 _ _) _ _ _ _ :: _) _ _); refine wl_store30n rfl _ _ rfl _ p s rfl rfl _ zp zs rfl (by simp) ?_))
    refine bodyPost_ret (v := .agg (mk p s)) ?_ rfl ⟨rfl, ?_⟩
    · refine results30 Try.results19 _ _ (w.heap.size + 1 + 1) p s rfl ?_
      exact w3_2 _ _ _ _
    exact (((Below.refl _ _).alloc (Nat.le_refl _) _).alloc (by simp) _).alloc (by simp; omega) _
end Go.Proofs.Ytoibfkieadhelaa
