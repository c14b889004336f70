/-
  '==' on samples and rings as the walk meets it, and the reference's Right: for every ring.
-/
import Derived.Test.YtoibfkieadhelaaWa
namespace Go.Proofs.Ytoibfkieadhelaa
open Go.RowKit
theorem guard27 : Try.prog.eqGuardType Try.prog.depth 27 = false := by kernel_rfl
theorem guard30 : Try.prog.eqGuardType Try.prog.depth 30 = false := by kernel_rfl

/-- Are two samples the same? -/
def smpEq (a b : Smp) : Bool := decide (a = b)
theorem smpEq_self (a : Smp) : smpEq a a = true := by simp [smpEq]
theorem smpEq_iff {a b : Smp} : smpEq a b = true ↔ a = b := by simp [smpEq]

theorem exec_neq27 (ρ : Operand → Value) (o : Oper) (w : World) (x y : Operand) (ho : o.op = .binOp .neq 27 x y 27) (A B : Smp) (hx : ρ x = .agg A.cells) (hy : ρ y = .agg B.cells) (c : Bool) (hc : (!smpEq A B) = c) :
    (execOp ρ o).run Try.prog w = .ok (.value (.bool c)) w := by
  subst hc
  unfold execOp
  simp only [ho, hx, hy, Sem.run_bind, run_eqGuard_agg w .neq 27 x y _ _ guard27, Result.andThen_ok, run_neq_struct]
  have := eq27 w 9997 A B
  rw [show (10000 : Nat) = 9997 + 3 from rfl, this]
  rfl
theorem exec_eql27 (ρ : Operand → Value) (o : Oper) (w : World) (x y : Operand) (ho : o.op = .binOp .eql 27 x y 27) (A B : Smp) (hx : ρ x = .agg A.cells) (hy : ρ y = .agg B.cells) (c : Bool) (hc : smpEq A B = c) :
    (execOp ρ o).run Try.prog w = .ok (.value (.bool c)) w := by
  subst hc
  unfold execOp
  simp only [ho, hx, hy, Sem.run_bind, run_eqGuard_agg w .eql 27 x y _ _ guard27, Result.andThen_ok, run_eql_struct]
  have := eq27 w 9997 A B
  rw [show (10000 : Nat) = 9997 + 3 from rfl, this]
  rfl
theorem exec_eql30 (ρ : Operand → Value) (o : Oper) (w : World) (x y : Operand) (ho : o.op = .binOp .eql 30 x y 30) (p : Nat → Int) (s : Nat → Smp) (p' : Nat → Int) (s' : Nat → Smp) (hx : ρ x = .agg (mk p s)) (hy : ρ y = .agg (mk p' s')) (c : Bool) (hc : sameRing p s p' s' = c) :
    (execOp ρ o).run Try.prog w = .ok (.value (.bool c)) w := by
  subst hc
  unfold execOp
  simp only [ho, hx, hy, Sem.run_bind, run_eqGuard_agg w .eql 30 x y _ _ guard30, Result.andThen_ok, run_eql_struct]
  have := eq30 w 9995 p s p' s'
  rw [show (10000 : Nat) = 9995 + 5 from rfl, this]
  rfl
/-- An operation that yields a value, the value said by the caller. -/
theorem wl_val {P : Program} {ops : Array Oper} {rest : List Oper} {o : Oper} {a : Act} {w : World} {Q : Exit → Act → World → Prop} {v : Value} (hw : Region.wanted o (yielded ops a.tmps) = true)
    (hrun : (execOp a.eval o).run P w = .ok (.value v) w) (h : wpList P ops Q rest (a.put o.dst v) w) : wpList P ops Q (o :: rest) a w :=
  wpList_step fun K hK => by
    rw [if_pos hw]
    unfold Oper.wp
    rw [hrun, Oper.upon_value]
    exact hK _ _ h

/-- What 'Right' asks of slot i. -/
def okAt (p : Nat → Int) (s : Nat → Smp) (i : Nat) : Bool :=
  if p i = 0 then decide (s i = Smp.zero) else decide (1 ≤ p i ∧ p i ≤ 4611686018427387904 ∧ slotN (p i) = i)
def rightB (p : Nat → Int) (s : Nat → Smp) : Bool := (List.range 16).all (okAt p s)

theorem rightB_true {p : Nat → Int} {s : Nat → Smp} (h : rightB p s = true) : ∀ i, i < 16 → okAt p s i = true := by
  intro i hi; exact List.all_eq_true.1 h i (by simpa using hi)
theorem rightB_mk {p : Nat → Int} {s : Nat → Smp} (h : ∀ i, i < 16 → okAt p s i = true) : rightB p s = true :=
  List.all_eq_true.2 (fun i hi => h i (by simpa using hi))
theorem rightB_false {p : Nat → Int} {s : Nat → Smp} {i : Nat} (hi : i < 16) (h : okAt p s i = false) : rightB p s = false := by
  cases hr : rightB p s with
  | false => rfl
  | true => rw [rightB_true hr i hi] at h; cases h

theorem all_snoc {P : Nat → Prop} {k : Nat} (h : ∀ j, j < k → P j) (hk : P k) : ∀ j, j < k + 1 → P j := by
  intro j hj
  rcases Nat.lt_succ_iff_lt_or_eq.1 hj with h' | rfl
  · exact h j h'
  · exact hk
theorem Smp.eta (t : Smp) : Smp.mk t.m t.hb t.hg t.g0 t.g1 t.g2 t.a0 t.a1 t.a2 t.b t.n0 t.n1 t.n2 = t := rfl

def szero : Smp := Smp.mk false false false 0 0 0 0 0 0 0 0 0 0
def eqz (t : Smp) : Bool := smpEq (Smp.mk t.m t.hb t.hg t.g0 t.g1 t.g2 t.a0 t.a1 t.a2 t.b t.n0 t.n1 t.n2) (Smp.mk false false false 0 0 0 0 0 0 0 0 0 0)

set_option maxHeartbeats 2000000 in
theorem rright_any (p : Nat → Int) (s : Nat → Smp) (w : World) :
    Calls Try.prog 11 #[.agg (mk p s)] w fun e w' => e = .returned (.bool (rightB p s)) ∧ Below w.heap.size w w' := by
  have hfin : Below w.heap.size w (w.alloc (Obj.cells (mk p s) 30)) := (Below.refl _ _).alloc (Nat.le_refl _) _
  have HF := Lib.hid hfin
  clear hfin
  go_enter Try.func11, Try.ntmps11
  go_wp2
  go_loop [3, 4] (fun i _ => ∃ k : Nat, k ≤ 16 ∧ i = .int .i64 k ∧ ∀ j, j < k → okAt p s j = true) (fun i _ => 16 - (intOf i).toNat)
  case atStart => exact ⟨0, Nat.zero_le _, rfl, fun j hj => by omega⟩
  case round =>
    obtain ⟨k, hk, rfl, hall⟩ := hrel
    have HA := Lib.hid hall
    clear hall
    by_cases hlt : k < 16
    · have hP := mk_place p s k hlt
      obtain ⟨c0, c1, c2, c3, c4, c5, c6, c7, c8, c9, c10, c11, c12⟩ := mk13 p s k hlt
      by_cases h0 : p k = 0
      · have h0' : (p k == 0) = true := by rw [beq_iff_eq]; exact h0
        by_cases hs : s k = Smp.zero
        · have HS : Hid ((!smpEq (s k) Smp.zero) = false) := Lib.hid (by rw [show smpEq (s k) Smp.zero = true from decide_eq_true hs]; rfl)
          have HK : Hid (okAt p s k = true) := by unfold okAt; rw [if_pos h0]; exact decide_eq_true hs
          clear h0 hs
          go_wp2_with ((with_reducible show wpList _ _ _ (Oper.mk _ (Op.binOp BinOp.neq 27 _ _ _) _ _ _ _ :: _) _ _); refine wl_val rfl (exec_neq27 _ _ _ _ _ rfl (s k) Smp.zero rfl rfl false HS.out) ?_)
          go_round
          case rel => exact ⟨k + 1, by omega, by go_num, all_snoc HA.out HK.out⟩
          case measure => simp [intOf]; omega
        · have HS : Hid ((!smpEq (s k) Smp.zero) = true) := Lib.hid (by rw [show smpEq (s k) Smp.zero = false from decide_eq_false hs]; rfl)
          have HK : Hid (okAt p s k = false) := by unfold okAt; rw [if_pos h0]; exact decide_eq_false hs
          clear h0 hs
          go_wp2_with ((with_reducible show wpList _ _ _ (Oper.mk _ (Op.binOp BinOp.neq 27 _ _ _) _ _ _ _ :: _) _ _); refine wl_val rfl (exec_neq27 _ _ _ _ _ rfl (s k) Smp.zero rfl rfl true HS.out) ?_)
          go_ret
          exact ⟨by rw [rightB_false hlt HK.out]; rfl, HF.out⟩
      · have h0' : (p k == 0) = false := by rw [beq_eq_false_iff_ne]; exact h0
        by_cases h1 : 1 ≤ p k ∧ p k ≤ 4611686018427387904
        · obtain ⟨h1, h2⟩ := h1
          by_cases hs : slotN (p k) = k
          · have hd : ((slotN (p k) : Int) != (k : Int)) = false := by rw [bne_eq_false_iff_eq]; omega
            have HK : Hid (okAt p s k = true) := by unfold okAt; rw [if_neg h0]; exact decide_eq_true ⟨h1, h2, hs⟩
            clear h0 hs
            go_wp2_with (go_at_call 23; refine (of_any _ _ (by omega) (by omega)).mono ?_; rintro e w' ⟨rfl, rfl⟩)
            go_round
            case rel => exact ⟨k + 1, by omega, by go_num, all_snoc HA.out HK.out⟩
            case measure => simp [intOf]; omega
          · have hd : ((slotN (p k) : Int) != (k : Int)) = true := by rw [bne_iff_ne]; omega
            have HK : Hid (okAt p s k = false) := by unfold okAt; rw [if_neg h0]; exact decide_eq_false (fun h => hs h.2.2)
            clear h0 hs
            go_wp2_with (go_at_call 23; refine (of_any _ _ (by omega) (by omega)).mono ?_; rintro e w' ⟨rfl, rfl⟩)
            go_ret
            exact ⟨by rw [rightB_false hlt HK.out]; rfl, HF.out⟩
        · have HK : Hid (okAt p s k = false) := by unfold okAt; rw [if_neg h0]; exact decide_eq_false (fun h => h1 ⟨h.1, h.2.1⟩)
          by_cases hb : p k < 1
          · clear h0 h1
            go_wp2
            go_ret
            exact ⟨by rw [rightB_false hlt HK.out]; rfl, HF.out⟩
          · have hb2 : 4611686018427387904 < p k := by omega
            clear h0 h1
            go_wp2
            go_ret
            exact ⟨by rw [rightB_false hlt HK.out]; rfl, HF.out⟩
    · obtain rfl : k = 16 := by omega
      go_wp2
      go_ret
      exact ⟨by rw [rightB_mk HA.out]; rfl, HF.out⟩
end Go.Proofs.Ytoibfkieadhelaa
