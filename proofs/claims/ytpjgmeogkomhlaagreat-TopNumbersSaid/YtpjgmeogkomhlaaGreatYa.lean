/-
  Functions, run on what is known, are as the code has them. No conditions but those named.
-/
import Derived.Test.YtpjgmeogkomhlaaGreatXz
import Derived.LoopN
namespace Go.Proofs.YtpjgmeogkomhlaaGreat
open Go.RowKit
def Ex.out : Ex → Exit
  | .normal => .normal
  | .exit id => .exit id
  | .ret => .ret
/-- One of the ways that a run of code tells of. -/
def COuts (w0 : World) (h : CH) (V : Va) (l : List (Ex × Fr × CH)) (e : Exit) (a : Act) (W : World) : Prop := ∃ x ∈ l, e = x.1.out ∧ ∃ V', Ext h V x.2.2 V' ∧ FR V' x.2.1 a ∧ Rel w0 x.2.2 V' W
abbrev Hook := FuncId → List CV → CH → Option (Option (List (CV × CH)))
/-- What is told of some functions beforehand is right. -/
def HookOK (P : Program) (hk : Hook) : Prop := CallOK P fun id args h => (hk id args h).bind fun x => x
/-- The functions' table says what the program's own does. -/
def FS (P : Program) (fs : Tr (Func × List (Nat × List Stp))) : Prop := ∀ id fn sc, fs.get id = some (fn, sc) → P.funcs[id]? = some fn ∧ (fn.name == "runtime.NumGoroutine") = false ∧ ∀ c, fn.body = some c → codeOK sc c = true
theorem argsX_get : ∀ (args : List CV) (k : Nat) (t : Tr CV) (i : Nat), (argsX k args t).get i = if k ≤ i ∧ i < k + args.length then args[i - k]? else t.get i
  | [], k, t, i => by
    have n : ¬ (k ≤ i ∧ i < k + ([] : List CV).length) := by
      show ¬ (k ≤ i ∧ i < k + 0)
      omega
    rw [if_neg n]
    rfl
  | c :: cs, k, t, i => by
    rw [argsX, argsX_get cs (k + 1) (t.set k c) i]
    by_cases h1 : k + 1 ≤ i ∧ i < k + 1 + cs.length
    · rw [if_pos h1, if_pos (by simp; omega)]
      obtain ⟨j, rfl⟩ : ∃ j, i = k + 1 + j := ⟨i - (k + 1), by omega⟩
      rw [show k + 1 + j - (k + 1) = j by omega, show k + 1 + j - k = j + 1 by omega]
      simp
    · rw [if_neg h1]
      by_cases hk : i = k
      · subst hk
        rw [if_pos (by simp), Tr.get_set]
        simp
      · rw [Tr.get_set_ne _ _ hk, if_neg (by simp; omega)]
section
variable {P : Program} {ts : Tr TI} {w0 : World} {h h' : CH} {V V' : Va} {f f' g : Fr} {a : Act} {W : World} {fs : Tr (Func × List (Nat × List Stp))} {hk : Hook}
theorem start_FR {args : List CV} {vs : List Value} (hv : VRs V args vs) (n : Nat) : FR V ⟨max n args.length, argsX 0 args .nil⟩ { tmps := vs.toArray ++ Array.replicate (n - vs.toArray.size) undef, defers := [] } := by
  have hl := hv.length
  refine ⟨by simp; omega, rfl, fun p c hc => ?_⟩
  have hc : (argsX 0 args .nil).get p = some c := hc
  rw [argsX_get] at hc
  split at hc
  · rename_i hp
    rw [Nat.sub_zero] at hc
    obtain ⟨v, h1, h2⟩ := hv.get hc
    refine ⟨by show p < max n args.length; omega, ?_⟩
    have hlt : p < vs.length := (List.getElem?_eq_some_iff.1 h1).1
    have : (vs.toArray ++ Array.replicate (n - vs.toArray.size) undef).getD p undef = v := by
      rw [Array.getD_eq_getD_getElem?, Array.getElem?_append_left (by simpa using hlt)]
      simp [h1]
    rw [this]
    exact h2
  · cases hc
theorem resX_ok (hts : TS P ts) (hr : Rel w0 h V W) (hf : FR V f a) : ∀ (rs : List ResultVar) {cs : List CV}, resX ts f h rs = some cs → ∃ vs, VRs V cs vs ∧ (rs.mapM (m := Sem) fun
    | .tmp t => pure (a.tmps.getD t undef)
    | .cell p t => do loadVar t (← asAddr (a.tmps.getD p undef))).run P W = .ok vs W
  | [], cs, e => by
    cases e
    exact ⟨[], VRs.nil V, rfl⟩
  | r :: rs, cs, e => by
    simp only [resX] at e
    split at e
    · cases e
    · rename_i c hc
      split at e
      · cases e
      · rename_i cs' hcs
        cases e
        obtain ⟨vs, h1, h2⟩ := resX_ok hts hr hf rs hcs
        have K : ∃ v, VR V c v ∧ ((fun
            | .tmp t => pure (a.tmps.getD t undef)
            | .cell p t => do loadVar t (← asAddr (a.tmps.getD p undef)) : ResultVar → Sem Value) r).run P W = .ok v W := by
          cases r with
          | tmp t =>
            simp only [Option.some.injEq] at hc
            subst hc
            refine ⟨_, ?_, rfl⟩
            cases q : f.t.get t with
            | none => trivial
            | some c => exact (hf.2.2 t c q).2
          | cell p t =>
            simp only at hc
            split at hc
            · rename_i ti b o ht hp
              split at hc
              · rename_i cs ro hb
                have hv := (hf.2.2 p _ hp).2
                obtain ⟨s, g1, g2⟩ := hv
                obtain ⟨v, g3, g4⟩ := loadVar_ok (P := P) hts hr ht hb g1 hc
                refine ⟨v, g3, ?_⟩
                simp only [g2]
                rw [Sem.run_bind]
                exact g4
              · cases hc
            · cases hc
        obtain ⟨v, h3, h4⟩ := K
        refine ⟨v :: vs, VRs.cons h3 h1, ?_⟩
        rw [List.mapM_cons, Sem.run_bind, h4]
        simp only [Result.andThen_ok, Sem.run_bind, h2, Sem.run_pure]
theorem run_results (hts : TS P ts) (hr : Rel w0 h V W) (hf : FR V f a) {fn : Func} {cs : List CV} (e : resX ts f h fn.results.toList = some cs) : ∃ v, VR V (match cs with | [c] => c | cs => .tup cs) v ∧ (results fn a.tmps).run P W = .ok v W := by
  obtain ⟨vs, h1, h2⟩ := resX_ok (P := P) hts hr hf _ e
  refine ⟨if h : vs.toArray.size = 1 then vs.toArray[0] else .tuple vs.toArray, ?_, ?_⟩
  · rcases cs with _ | ⟨c, _ | ⟨d, cs⟩⟩
    · rw [show vs = [] from h1]
      exact ⟨[], rfl, rfl⟩
    · obtain ⟨v, ws, e1, e2, e3⟩ := h1
      rw [show ws = [] from e3] at e1
      subst e1
      exact e2
    · have hl := h1.length
      rw [dif_neg (by simp at hl ⊢; omega)]
      exact ⟨vs, h1, rfl⟩
  · unfold results
    rw [Array.mapM_eq_mapM_toList, Sem.run_bind]
    simp only [map_eq_pure_bind, Sem.run_bind, Sem.run_pure]
    exact congrArg (fun r : Result (List Value) => (r.andThen fun a w' => Result.ok a.toArray w').andThen fun a w' => Result.ok (if h : a.size = 1 then a[0] else Value.tuple a) w') h2
theorem COuts.mono {l l' : List (Ex × Fr × CH)} {e : Exit} (hE : Ext h V h' V') (hl : ∀ x ∈ l, x ∈ l') (ho : COuts w0 h' V' l e a W) : COuts w0 h V l' e a W :=
  let ⟨x, h1, h2, V'', h3, h4, h5⟩ := ho
  ⟨x, hl x h1, h2, V'', hE.trans h3, h4, h5⟩
theorem code_ok (hts : TS P ts) (hfs : FS P fs) (hhk : HookOK P hk) (hm : P.follows .mixedOrders = true) : ∀ (n : Nat), CallOK P (funX P ts fs hk n) ∧ ∀ (sc : List (Nat × List Stp)) (c : Code) (f : Fr) (h : CH) (V : Va) (a : Act) (W : World) (w0 : World) (l : List (Ex × Fr × CH)) (Q : Exit → Act → World → Prop),
    codeX P ts fs hk n sc c f h = some l → codeOK sc c = true → Rel w0 h V W → FR V f a → (∀ e a' W', COuts w0 h V l e a' W' → Q e a' W') → c.wp P Q a W ∧ ∀ b, c = .loop b → Code.rounds P b Q n a W
  | 0 => ⟨fun id args h l e => (by unfold funX at e; cases e), fun sc c f h V a W w0 l Q e => (by unfold codeX at e; cases e)⟩
  | n + 1 => by
    obtain ⟨IHf, IHc⟩ := code_ok hts hfs hhk hm n
    refine ⟨fun id args h l e => ?_, fun sc c f h V a W w0 l Q e hok hr hf hQ => ?_⟩
    · -- a function
      unfold funX at e
      split at e
      · rename_i r hr
        exact hhk id args h l (by show (hk id args h).bind (fun x => x) = some l; rw [hr]; exact e)
      · split at e
        · cases e
        · rename_i fn sc hfn
          obtain ⟨g1, g2, g3⟩ := hfs id fn sc hfn
          split at e
          · cases e
          · rename_i c hc
            split at e
            · cases e
            · rename_i l' hl
              refine ⟨⟨fn, c, g1, g2, hc⟩, fun w0 V W vs hr hv => ?_⟩
              refine calls_of_wp g1 hc ?_
              refine (IHc sc c _ h V _ W w0 l' _ hl (g3 c hc) hr (start_FR hv fn.ntmps) ?_).1
              rintro e' a' W' ⟨x, hx, he, V', h1, h2, h3⟩
              obtain ⟨l'', z1, z2⟩ := eachX_ok e x hx
              obtain ⟨ex, f', h'⟩ := x
              have K : ∀ cs, resX ts f' h' fn.results.toList = some cs → (∀ y, y = ((match cs with | [c] => c | cs => .tup cs), h') → y ∈ l) → a'.defers = [] ∧ ∃ v, (results fn a'.tmps).run P W' = .ok v W' ∧ ∃ x ∈ l, ∃ V'' v', Ending.returned v = .returned v' ∧ Ext h V x.2 V'' ∧ VR V'' x.1 v' ∧ Rel w0 x.2 V'' W' := fun cs hcs hin => by
                obtain ⟨v, k1, k2⟩ := run_results (P := P) hts h3 h2 hcs
                exact ⟨h2.2.1, v, k2, _, hin _ rfl, V', v, rfl, h1, k1, h3⟩
              have done : ∀ (hne : ∀ id, ex ≠ .exit id), a'.defers = [] ∧ ∃ v, (results fn a'.tmps).run P W' = .ok v W' ∧ ∃ x ∈ l, ∃ V'' v', Ending.returned v = .returned v' ∧ Ext h V x.2 V'' ∧ VR V'' x.1 v' ∧ Rel w0 x.2 V'' W' := fun hne => by
                cases ex with
                | exit id => exact absurd rfl (hne id)
                | normal =>
                  simp only at z1
                  split at z1
                  · rename_i c1 hcs
                    cases z1
                    exact K _ hcs fun y hy => z2 _ (by rw [hy]; exact List.mem_singleton.2 rfl)
                  · rename_i cs hne' hcs
                    cases z1
                    refine K _ hcs fun y hy => z2 _ ?_
                    rw [hy]
                    split
                    · exact absurd rfl (hne' _)
                    · exact List.mem_singleton.2 rfl
                  · cases z1
                | ret =>
                  simp only at z1
                  split at z1
                  · rename_i c1 hcs
                    cases z1
                    exact K _ hcs fun y hy => z2 _ (by rw [hy]; exact List.mem_singleton.2 rfl)
                  · rename_i cs hne' hcs
                    cases z1
                    refine K _ hcs fun y hy => z2 _ ?_
                    rw [hy]
                    split
                    · exact absurd rfl (hne' _)
                    · exact List.mem_singleton.2 rfl
                  · cases z1
              cases ex with
              | exit id => cases z1
              | normal => subst he; exact done (fun _ q => by cases q)
              | ret => subst he; exact done (fun _ q => by cases q)
    · -- code
      have nl : ∀ {b : Code}, (∀ b', c ≠ .loop b') → c = .loop b → Code.rounds P b Q (n + 1) a W := fun h1 h2 => absurd h2 (h1 _)
      unfold codeX at e
      cases c with
      | skip =>
        cases e
        exact ⟨wp_skip (hQ _ _ _ ⟨_, List.mem_singleton.2 rfl, rfl, V, Ext.refl h V, hf, hr⟩), fun b q => by cases q⟩
      | ret =>
        cases e
        exact ⟨wp_ret (hQ _ _ _ ⟨_, List.mem_singleton.2 rfl, rfl, V, Ext.refl h V, hf, hr⟩), fun b q => by cases q⟩
      | exit id =>
        cases e
        exact ⟨wp_exit (hQ _ _ _ ⟨_, List.mem_singleton.2 rfl, rfl, V, Ext.refl h V, hf, hr⟩), fun b q => by cases q⟩
      | region id ops d =>
        refine ⟨?_, fun b q => by cases q⟩
        simp only at e
        split at e
        · rename_i l' hl
          cases e
          have hQ' : ∀ a' W', Outs w0 h V l' a' W' → Q .normal a' W' := fun a' W' ⟨x, hx, V', h1, h2, h3⟩ => hQ _ _ _ ⟨(.normal, x.1, x.2), List.mem_map.2 ⟨x, hx, rfl⟩, rfl, V', h1, h2, h3⟩
          cases d with
          | true =>
            rw [if_pos rfl] at hl
            exact drawX_ok hts IHf hm Q hok hl hr hf hQ'
          | false =>
            rw [if_neg (by simp)] at hl
            refine wp_region ?_
            rw [List.range_eq_range']
            exact opsX_ok hts IHf Q ops.size 0 f h V a W l' (by simp) (by simpa using hl) hr hf hQ'
        · cases e
      | seq x y =>
        refine ⟨?_, fun b q => by cases q⟩
        simp only [codeOK, Bool.and_eq_true] at hok
        simp only at e
        split at e
        · cases e
        · rename_i l' hl
          refine wp_seq ((IHc sc x f h V a W w0 l' _ hl hok.1 hr hf ?_).1)
          rintro e' a' W' ⟨z, hz, he, V', h1, h2, h3⟩
          obtain ⟨l'', z1, z2⟩ := eachX_ok e z hz
          obtain ⟨ex, f', h'⟩ := z
          cases ex with
          | normal =>
            subst he
            exact (IHc sc y f' h' V' a' W' w0 l'' Q z1 hok.2 h3 h2 fun e2 a2 W2 ho => hQ e2 a2 W2 (ho.mono h1 z2)).1
          | exit id =>
            subst he
            cases z1
            exact hQ _ _ _ ⟨_, z2 _ (List.mem_singleton.2 rfl), rfl, V', h1, h2, h3⟩
          | ret =>
            subst he
            cases z1
            exact hQ _ _ _ ⟨_, z2 _ (List.mem_singleton.2 rfl), rfl, V', h1, h2, h3⟩
      | cond cc x y =>
        refine ⟨?_, fun b q => by cases q⟩
        simp only [codeOK, Bool.and_eq_true] at hok
        simp only at e
        have hv := evC_ok hf cc
        split at e
        · rename_i hcv
          rw [hcv] at hv
          obtain ⟨b, h1, h2⟩ := hv
          cases h1
          exact wp_cond_true h2 ((IHc sc x f h V a W w0 l Q e hok.1 hr hf hQ).1)
        · rename_i hcv
          rw [hcv] at hv
          obtain ⟨b, h1, h2⟩ := hv
          cases h1
          exact wp_cond_false h2 ((IHc sc y f h V a W w0 l Q e hok.2 hr hf hQ).1)
        · rename_i be _ _ hcv
          rw [hcv] at hv
          obtain ⟨b, h1, h2⟩ := hv
          split at e
          · rename_i l1 l2 hl1 hl2
            cases e
            refine wp_cond_split h2 (fun _ => ?_) (fun _ => ?_)
            · exact (IHc sc x f h V a W w0 l1 Q hl1 hok.1 hr hf fun e2 a2 W2 ho => hQ e2 a2 W2 (ho.mono (Ext.refl h V) fun z hz => List.mem_append_left _ hz)).1
            · exact (IHc sc y f h V a W w0 l2 Q hl2 hok.2 hr hf fun e2 a2 W2 ho => hQ e2 a2 W2 (ho.mono (Ext.refl h V) fun z hz => List.mem_append_right _ hz)).1
          · cases e
        · cases e
      | block id x =>
        refine ⟨?_, fun b q => by cases q⟩
        simp only [codeOK] at hok
        simp only at e
        split at e
        · cases e
        · rename_i l' hl
          cases e
          refine wp_block ((IHc sc x f h V a W w0 l' _ hl hok hr hf ?_).1)
          rintro e' a' W' ⟨z, hz, he, V', h1, h2, h3⟩
          obtain ⟨ex, f', h'⟩ := z
          have hm := List.mem_map_of_mem (f := fun x : Ex × Fr × CH => match x with | (.exit i, f', h') => if i = id then (Ex.normal, f', h') else (Ex.exit i, f', h') | y => y) hz
          subst he
          cases ex with
          | normal => exact hQ _ _ _ ⟨_, hm, rfl, V', h1, h2, h3⟩
          | ret => exact hQ _ _ _ ⟨_, hm, rfl, V', h1, h2, h3⟩
          | exit i =>
            simp only at hm
            show if i = id then Q .normal a' W' else Q (.exit i) a' W'
            by_cases hi : i = id
            · rw [if_pos hi] at hm ⊢
              exact hQ _ _ _ ⟨_, hm, rfl, V', h1, h2, h3⟩
            · rw [if_neg hi] at hm ⊢
              exact hQ _ _ _ ⟨_, hm, rfl, V', h1, h2, h3⟩
      | loop x =>
        have hx : codeOK sc x = true := hok
        simp only at e
        split at e
        · cases e
        · rename_i l' hl
          have R : Code.rounds P x Q (n + 1) a W := by
            rw [rounds_succ]
            refine (IHc sc x f h V a W w0 l' _ hl hx hr hf ?_).1
            rintro e' a' W' ⟨z, hz, he, V', h1, h2, h3⟩
            obtain ⟨l'', z1, z2⟩ := eachX_ok e z hz
            obtain ⟨ex, f', h'⟩ := z
            subst he
            cases ex with
            | normal => exact (IHc sc (.loop x) f' h' V' a' W' w0 l'' Q z1 hok h3 h2 fun e2 a2 W2 ho => hQ e2 a2 W2 (ho.mono h1 z2)).2 x rfl
            | exit id =>
              cases z1
              exact hQ _ _ _ ⟨_, z2 _ (List.mem_singleton.2 rfl), rfl, V', h1, h2, h3⟩
            | ret =>
              cases z1
              exact hQ _ _ _ ⟨_, z2 _ (List.mem_singleton.2 rfl), rfl, V', h1, h2, h3⟩
          refine ⟨wp_loop_rounds (n + 1) R, fun b q => ?_⟩
          cases q
          exact R
      | _ => simp only at e; cases e
end
end Go.Proofs.YtpjgmeogkomhlaaGreat
