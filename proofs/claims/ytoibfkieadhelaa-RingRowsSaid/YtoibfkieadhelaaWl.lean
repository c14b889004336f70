/-
  A quiet operation whose value is said by the caller; plain facts on a ring with one more.
-/
import Derived.Test.YtoibfkieadhelaaWk
namespace Go.Proofs.Ytoibfkieadhelaa
open Go.RowKit Go.BigFrame
theorem quiet_val {P : Program} {C : World → Prop} {a : Act} {o : Oper} {K : Act → Prop} {v : Value} (hrun : ∀ w, C w → (execOp a.eval o).run P w = .ok (.value v) w) (hk : K (a.put o.dst v)) : o.quiet P a C K :=
  ⟨v, fun w hw => by unfold Oper.quietAt; rw [hrun w hw]; exact ⟨rfl, rfl⟩, hk⟩
theorem quiet_call {P : Program} {C : World → Prop} {a : Act} {o : Oper} {K : Act → Prop} {v : Value} {f : FuncId} {args : Array Value} (hrun : ∀ w, C w → (execOp a.eval o).run P w = .ok (.enter f args) w)
    (hc : ∀ w, C w → Calls P f args w fun e w' => e = .returned v ∧ C w') (hk : K (a.put o.dst v)) : o.quiet P a C K :=
  ⟨v, fun w hw => by unfold Oper.quietAt; rw [hrun w hw]; exact ⟨rfl, hc w hw⟩, hk⟩

/-! ### Plain facts on a ring with one more -/
theorem okAt_up {p : Nat → Int} {s : Nat → Smp} {k : Int} {t : Smp} (h1 : 1 ≤ k) (h2 : k ≤ 4611686018427387904) (h : rightB p s = true) : rightB (upP p k) (upS s k t) = true := by
  apply rightB_mk
  intro i hi
  have h0 := rightB_true h i hi
  unfold okAt upP upS at *
  by_cases e : i = slotN k
  · subst e
    simp only [if_true]
    rw [if_neg (by omega)]
    exact decide_eq_true ⟨h1, h2, trivial⟩
  · simp only [if_neg e]
    exact h0
theorem mxTo_ge (p : Nat → Int) : ∀ (n i : Nat), i < n → p i ≤ mxTo p n
  | 0, i, h => by omega
  | n + 1, i, h => by
    have ih := mxTo_ge p n
    show p i ≤ if mxTo p n < p n then p n else mxTo p n
    by_cases e : i = n
    · subst e; split <;> omega
    · have := ih i (by omega)
      split <;> omega
theorem upP_at (p : Nat → Int) (k : Int) : upP p k (slotN k) = k := by simp [upP]
theorem upS_at (s : Nat → Smp) (k : Int) (t : Smp) : upS s k t (slotN k) = t := by simp [upS]
theorem upP_ne (p : Nat → Int) (k : Int) (i : Nat) (h : i ≠ slotN k) : upP p k i = p i := by simp [upP, h]
theorem upS_ne (s : Nat → Smp) (k : Int) (t : Smp) (i : Nat) (h : i ≠ slotN k) : upS s k t i = s i := by simp [upS, h]
theorem sameRing_self (p : Nat → Int) (s : Nat → Smp) : sameRing p s p s = true := (sameRing_iff _ _ _ _).2 ⟨fun _ _ => rfl, fun _ _ => rfl⟩

end Go.Proofs.Ytoibfkieadhelaa
