/-
  The run in its quick form, with many outcomes: all of them are asked.
  New letters: numbers and truths that a function yields, of which bounds are known. No conditions but those named.
-/
import Derived.Test.YtpjgmeogkomhlaaGreatYb
namespace Go.Proofs.YtpjgmeogkomhlaaGreat
open Go.RowKit
theorem eachX_all {α β : Type} {g : α → Option (List β)} {p : β → Prop} : ∀ {l : List α}, (∀ x ∈ l, ∃ l', g x = some l' ∧ ∀ y ∈ l', p y) → ∃ l'', eachX g l = some l'' ∧ ∀ y ∈ l'', p y
  | [], _ => ⟨[], rfl, fun _ h => (by cases h)⟩
  | x :: l, h => by
    obtain ⟨l1, h1, h2⟩ := h x List.mem_cons_self
    obtain ⟨l2, h3, h4⟩ := eachX_all (l := l) fun y hy => h y (List.mem_cons_of_mem _ hy)
    refine ⟨l1 ++ l2, by simp only [eachX, h1, h3], fun y hy => ?_⟩
    rcases List.mem_append.1 hy with q | q
    · exact h2 y q
    · exact h4 y q
/-- What a function may yield, as the run has it. -/
def FunOKL (cl : Caller) (fk : FunT) : Prop := ∀ id args h k, fk id args h k = true → ∃ l, cl id args h = some l ∧ ∀ x ∈ l, k x.1 x.2 = true
section
variable {P : Program} {ts : Tr TI} {cl : Caller} {fk : FunT} {N : Nat} {t : Tr CV} {h : CH} {ops : Array Oper}
theorem one_all {α : Type} {p : α → Prop} {x : α} (h : p x) : ∀ y ∈ [x], p y := fun y hy => by rw [List.mem_singleton] at hy; subst hy; exact h
theorem opK_same (o : Op) (hn : ∀ c, o ≠ .call c) (k : CV → CH → Bool) : opK o P ts fk N t h k = opK o P ts noFun N t h k := by
  cases o with
  | call c => exact absurd rfl (hn c)
  | _ => rfl
theorem callX_same (o : Op) (hn : ∀ c, o ≠ .call c) (cl' : Caller) (f : Fr) : callX P ts cl h f o = callX P ts cl' h f o := by
  cases o with
  | call c => exact absurd rfl (hn c)
  | _ => rfl
theorem opL_ok (hf : FunOKL cl fk) {o : Op} {k : CV → CH → Bool} (e : opK o P ts fk N t h k = true) : ∃ l, callX P ts cl h ⟨N, t⟩ o = some l ∧ ∀ x ∈ l, k x.1 x.2 = true := by
  have plain : (∀ c, o ≠ .call c) → ∃ l, callX P ts cl h ⟨N, t⟩ o = some l ∧ ∀ x ∈ l, k x.1 x.2 = true := fun hn => by
    rw [opK_same o hn] at e
    rw [callX_same o hn (fun _ _ _ => none)]
    obtain ⟨c', h', q1, q2⟩ := opK_ok noFun_ok e
    exact ⟨_, q1, one_all q2⟩
  cases o with
  | call c =>
    have e : callK c P ts fk N t h k = true := e
    unfold callK at e
    cases hc : c.callee with
    | value g =>
      rw [hc] at e
      have e : (Option.rec false (fun p => fk p.1 (p.2.1 ++ c.args.toList.map (evK t) ++ p.2.2) h k) (asF (evK t g)) : Bool) = true := e
      unfold asF at e
      split at e
      · rename_i id first captured q
        obtain ⟨l, q1, q2⟩ := hf _ _ _ _ e
        refine ⟨l, ?_, q2⟩
        rw [evK_eq N] at q
        rw [evK_list N] at q1
        simp only [callX, hc, q]
        exact q1
      · cases e
    | invoke _ _ => rw [hc] at e; cases e
    | builtin b =>
      rw [hc] at e
      obtain ⟨c', h', q1, q2⟩ := fall_ok e
      refine ⟨[(c', h')], ?_, one_all q2⟩
      rw [evK_list N] at q1
      simp only [callX, hc, opX, q1]
  | _ => exact plain (fun _ q => by cases q)
def FrAll (N : Nat) (k : KT) (l : List (Fr × CH)) : Prop := ∀ x ∈ l, ∃ t', x.1 = ⟨N, t'⟩ ∧ k t' x.2 = true
theorem oneL_ok (hf : FunOKL cl fk) {o : Oper} {k : KT} (e : oneK P ts fk ops N o t h k = true) : ∃ l, oneX P ts cl ops o ⟨N, t⟩ h = some l ∧ FrAll N k l := by
  obtain ⟨e1, e2⟩ := bI_and e
  rw [okD_eq (t := t)] at e1
  have run : opK o.op P ts fk N t h (fun c h' => k (putK o.dst t c) h') = true → wantX ops ⟨N, t⟩ o = .yes → ∃ l, oneX P ts cl ops o ⟨N, t⟩ h = some l ∧ FrAll N k l := fun q hw => by
    obtain ⟨l, q1, q2⟩ := opL_ok hf q
    refine ⟨l.map fun x => ((⟨N, t⟩ : Fr).put o.dst x.1, x.2), ?_, fun x hx => ?_⟩
    · unfold oneX oneV
      rw [if_pos e1, hw]
      simp only [q1]
    · obtain ⟨y, hy, rfl⟩ := List.mem_map.1 hx
      exact ⟨_, (putK_eq N o.dst t y.1).symm, q2 y hy⟩
  cases hg : o.guard with
  | none =>
    rw [hg] at e2
    exact run e2 (by unfold wantX; rw [hg])
  | some g =>
    rw [hg] at e2
    have e2 : guardK P ts fk ops N o t h k (wantX ops ⟨N, t⟩ o) = true := e2
    cases hw : wantX ops ⟨N, t⟩ o with
    | yes => rw [hw] at e2; exact run e2 hw
    | no =>
      rw [hw] at e2
      refine ⟨[(⟨N, putK o.dst t (.tup [])⟩, h)], ?_, one_all ⟨_, rfl, e2⟩⟩
      unfold oneX oneV
      rw [if_pos e1, hw]
      simp only [List.map_cons, List.map_nil, putK_eq]
    | odd => rw [hw] at e2; cases e2
    | hangs s w =>
      rw [hw] at e2
      obtain ⟨q1, q2⟩ := bI_and e2
      obtain ⟨c, h', q3, q4⟩ := fall_ok q2
      obtain ⟨q5, q6⟩ := bI_and q4
      refine ⟨[(⟨N, putK o.dst t (.cond s w c)⟩, h)], ?_, one_all ⟨_, rfl, q6⟩⟩
      rw [stillK_eq] at q1
      unfold oneX oneV
      rw [if_pos e1, hw]
      simp only [if_pos q1, q3, if_pos (Nat.eq_of_beq_eq_true q5), List.map_cons, List.map_nil, putK_eq]
theorem opsL_ok (hf : FunOKL cl fk) : ∀ {l : List Oper} {t : Tr CV} {h : CH} {k : KT}, opsK P ts fk ops N l t h k = true → ∃ r, opsX P ts cl ops l ⟨N, t⟩ h = some r ∧ FrAll N k r
  | [], t, h, _, e => ⟨_, rfl, one_all ⟨t, rfl, e⟩⟩
  | o :: l, t, h, k, e => by
    obtain ⟨r, q1, q2⟩ := oneL_ok hf (show oneK P ts fk ops N o t h (fun t' h' => opsK P ts fk ops N l t' h' k) = true from e)
    simp only [opsX, q1]
    refine eachX_all fun x hx => ?_
    obtain ⟨t1, q3, q4⟩ := q2 x hx
    obtain ⟨f1, h1⟩ := x
    dsimp only at q3 q4
    subst q3
    exact opsL_ok hf q4
theorem drawL_ok (hf : FunOKL cl fk) : ∀ {l : List Stp} {t : Tr CV} {h : CH} {k : KT}, drawK P ts fk ops N l t h k = true → ∃ r, drawX P ts cl ops l ⟨N, t⟩ h = some r ∧ FrAll N k r
  | [], t, h, _, e => ⟨_, rfl, one_all ⟨t, rfl, e⟩⟩
  | .take i :: l, t, h, k, e => by
    have e : (Option.rec false (fun o => takeK P ts ops N o t h (fun t' h' => drawK P ts fk ops N l t' h' k)) ops[i]? : Bool) = true := e
    cases ho : ops[i]? with
    | none => rw [ho] at e; cases e
    | some o =>
      rw [ho] at e
      obtain ⟨t1, h1, q1, q2⟩ := takeK_ok e
      obtain ⟨r, q3, q4⟩ := drawL_ok hf q2
      exact ⟨r, by simp only [drawX, ho, q1, q3], q4⟩
  | .run i re :: l, t, h, k, e => by
    have e : (Option.rec false (fun o => oneK P ts fk ops N o t h (fun t' h' => bI (re.all (readsX P ts ops ⟨N, t⟩ h h')) (drawK P ts fk ops N l t' h' k) false)) ops[i]? : Bool) = true := e
    cases ho : ops[i]? with
    | none => rw [ho] at e; cases e
    | some o =>
      rw [ho] at e
      obtain ⟨r, q1, q2⟩ := oneL_ok hf e
      simp only [drawX, ho, q1]
      refine eachX_all fun x hx => ?_
      obtain ⟨t1, q3, q4⟩ := q2 x hx
      obtain ⟨f1, h1⟩ := x
      dsimp only at q3 q4
      subst q3
      obtain ⟨q5, q6⟩ := bI_and q4
      simp only [if_pos q5]
      exact drawL_ok hf q6
end
def isB : CV → Bool
  | .bool _ => true
  | _ => false
noncomputable def codeStepL (c : Code) : KC := Code.rec (motive := fun _ => KC)
  (fun _ _ _ _ _ _ t h kN _ _ => kN t h)
  (fun id ops d P ts fk _ sc N t h kN _ _ => Bool.rec (opsK P ts fk ops N ops.toList t h kN) (drawK P ts fk ops N (scrOf sc id) t h kN) d)
  (fun a b _ _ _ _ _ ck sc N t h kN kX kR => ck sc N a t h (fun t' h' => ck sc N b t' h' kN kX kR) kX kR)
  (fun c a b _ _ _ _ _ ck sc N t h kN kX kR => Option.rec (bI (isB (evK t c)) (bI (ck sc N a t h kN kX kR) (ck sc N b t h kN kX kR) false) false) (fun q => Bool.rec (ck sc N b t h kN kX kR) (ck sc N a t h kN kX kR) q) (asB (evK t c)))
  (fun id a _ _ _ _ ck sc N t h kN kX kR => ck sc N a t h kN (fun i t' h' => bI (Nat.beq i id) (kN t' h') (kX i t' h')) kR)
  (fun a _ _ _ _ ck sc N t h kN kX kR => ck sc N a t h (fun t' h' => ck sc N (.loop a) t' h' kN kX kR) kX kR)
  (fun _ _ _ _ _ _ _ _ _ _ _ _ _ _ _ _ _ => false)
  (fun i _ _ _ _ _ _ t h _ kX _ => kX i t h)
  (fun _ _ _ _ _ _ _ _ _ _ _ _ _ => false)
  (fun _ _ _ _ _ _ _ _ _ _ _ _ => false)
  (fun _ _ _ _ _ _ _ _ _ _ _ _ => false)
  (fun _ _ _ _ _ _ t h _ _ kR => kR t h)
  (fun _ _ _ _ _ _ _ _ _ _ _ _ => false) c
noncomputable def hookRL (r : Option (List (CV × CH))) (k : CV → CH → Bool) : Bool := match r with
  | some l => List.rec true (fun x _ ih => bI (k x.1 x.2) ih false) l
  | none => false
theorem all_ok {l : List (CV × CH)} {k : CV → CH → Bool} (e : (List.rec true (fun x _ ih => bI (k x.1 x.2) ih false) l : Bool) = true) : ∀ x ∈ l, k x.1 x.2 = true := by
  induction l with
  | nil => exact fun x h => (by cases h)
  | cons y l ih =>
    obtain ⟨h1, h2⟩ := bI_and (show bI (k y.1 y.2) (List.rec true (fun x _ ih => bI (k x.1 x.2) ih false) l : Bool) false = true from e)
    intro x hx
    rcases List.mem_cons.1 hx with q | q
    · subst q; exact h1
    · exact ih h2 x q
noncomputable def funStepL (ts : Tr TI) (fs : Tr (Func × List (Nat × List Stp))) (hk : Hook) (ck : CodeT) : FunT := fun id args h k =>
  Option.rec (Option.rec false (fun p => Option.rec false (fun c => ck p.2 (max p.1.ntmps args.length) c (argsK args 0 .nil) h (retK ts p.1 (max p.1.ntmps args.length) k) (fun _ _ _ => false) (retK ts p.1 (max p.1.ntmps args.length) k)) p.1.body) (getO fs id)) (fun r => hookRL r k) (hk id args h)
noncomputable def runL (P : Program) (ts : Tr TI) (fs : Tr (Func × List (Nat × List Stp))) (hk : Hook) (n : Nat) : FunT × CodeT :=
  Nat.rec (motive := fun _ => FunT × CodeT) ⟨fun _ _ _ _ => false, fun _ _ _ _ _ _ _ _ => false⟩ (fun _ ih => ⟨funStepL ts fs hk ih.2, fun sc N c t h kN kX kR => codeStepL c P ts ih.1 ih.2 sc N t h kN kX kR⟩) n
def ExAll (N : Nat) (kN : KT) (kX : Nat → KT) (kR : KT) (l : List (Ex × Fr × CH)) : Prop := ∀ x ∈ l, ∃ t', x.2.1 = ⟨N, t'⟩ ∧ kont kN kX kR x.1 t' x.2.2 = true
theorem runL_ok {P : Program} {ts : Tr TI} {fs : Tr (Func × List (Nat × List Stp))} {hk : Hook} : ∀ n, FunOKL (funX P ts fs hk n) (runL P ts fs hk n).1 ∧ ∀ sc N c t h kN kX kR, (runL P ts fs hk n).2 sc N c t h kN kX kR = true → ∃ l, codeX P ts fs hk n sc c ⟨N, t⟩ h = some l ∧ ExAll N kN kX kR l
  | 0 => ⟨fun _ _ _ _ e => (by cases e), fun _ _ _ _ _ _ _ _ e => (by cases e)⟩
  | n + 1 => by
    obtain ⟨IHf, IHc⟩ := runL_ok (P := P) (ts := ts) (fs := fs) (hk := hk) n
    refine ⟨fun id args h k e => ?_, fun sc N c t h kN kX kR e => ?_⟩
    · have e : funStepL ts fs hk (runL P ts fs hk n).2 id args h k = true := e
      unfold funStepL at e
      unfold funX
      cases hh : hk id args h with
      | some r =>
        rw [hh] at e
        have e : hookRL r k = true := e
        unfold hookRL at e
        split at e
        · exact ⟨_, rfl, all_ok e⟩
        · cases e
      | none =>
        rw [hh] at e
        rw [getO_eq] at e
        cases hf : fs.get id with
        | none => rw [hf] at e; cases e
        | some p =>
          obtain ⟨fn, sc⟩ := p
          rw [hf] at e
          have e : (Option.rec false (fun c => (runL P ts fs hk n).2 sc (max fn.ntmps args.length) c (argsK args 0 .nil) h (retK ts fn (max fn.ntmps args.length) k) (fun _ _ _ => false) (retK ts fn (max fn.ntmps args.length) k)) fn.body : Bool) = true := e
          cases hb : fn.body with
          | none => rw [hb] at e; cases e
          | some c =>
            rw [hb] at e
            obtain ⟨l, q1, q2⟩ := IHc _ _ _ _ _ _ _ _ e
            rw [argsK_eq] at q1
            simp only [hb, q1]
            refine eachX_all fun x hx => ?_
            obtain ⟨t', q3, q4⟩ := q2 x hx
            obtain ⟨ex, f', h'⟩ := x
            dsimp only at q3 q4
            subst q3
            have res : retK ts fn (max fn.ntmps args.length) k t' h' = true → (∀ i, ex ≠ .exit i) → ∃ l', (match ((ex, ⟨max fn.ntmps args.length, t'⟩, h') : Ex × Fr × CH) with
              | (.exit _, _, _) => none
              | (_, f', h') => match resX ts f' h' fn.results.toList with
                | some [c] => some [(c, h')]
                | some cs => some [(.tup cs, h')]
                | none => none) = some l' ∧ ∀ y ∈ l', k y.1 y.2 = true := fun q hne => by
              unfold retK at q
              cases hr : resX ts ⟨max fn.ntmps args.length, t'⟩ h' fn.results.toList with
              | none => rw [hr] at q; cases q
              | some cs =>
                rw [hr] at q
                refine ⟨[(oneR cs, h')], ?_, one_all q⟩
                cases ex with
                | exit i => exact absurd rfl (hne i)
                | normal => rcases cs with _ | ⟨c, _ | ⟨d, cs⟩⟩ <;> simp only [hr] <;> rfl
                | ret => rcases cs with _ | ⟨c, _ | ⟨d, cs⟩⟩ <;> simp only [hr] <;> rfl
            cases ex with
            | exit i => cases q4
            | normal => exact res q4 (fun _ q => by cases q)
            | ret => exact res q4 (fun _ q => by cases q)
    · have e : codeStepL c P ts (runL P ts fs hk n).1 (runL P ts fs hk n).2 sc N t h kN kX kR = true := e
      unfold codeX
      cases c with
      | skip => exact ⟨_, rfl, one_all ⟨t, rfl, e⟩⟩
      | ret => exact ⟨_, rfl, one_all ⟨t, rfl, e⟩⟩
      | exit i => exact ⟨_, rfl, one_all ⟨t, rfl, e⟩⟩
      | region id ops d =>
        have fin : ∀ {l : List (Fr × CH)}, FrAll N kN l → ExAll N kN kX kR (l.map fun x => (Ex.normal, x.1, x.2)) := fun hl x hx => by
          obtain ⟨y, hy, rfl⟩ := List.mem_map.1 hx
          exact hl y hy
        cases d with
        | false =>
          obtain ⟨l, q1, q2⟩ := opsL_ok IHf (show opsK P ts (runL P ts fs hk n).1 ops N ops.toList t h kN = true from e)
          exact ⟨_, by simp only [Bool.false_eq_true, if_false, q1], fin q2⟩
        | true =>
          obtain ⟨l, q1, q2⟩ := drawL_ok IHf (show drawK P ts (runL P ts fs hk n).1 ops N (scrOf sc id) t h kN = true from e)
          exact ⟨_, by simp only [if_true, q1], fin q2⟩
      | seq a b =>
        obtain ⟨l, q1, q2⟩ := IHc _ _ _ _ _ _ _ _ (show (runL P ts fs hk n).2 sc N a t h (fun t' h' => (runL P ts fs hk n).2 sc N b t' h' kN kX kR) kX kR = true from e)
        simp only [q1]
        refine eachX_all fun x hx => ?_
        obtain ⟨t1, q3, q4⟩ := q2 x hx
        obtain ⟨ex, f1, h1⟩ := x
        dsimp only at q3 q4
        subst q3
        cases ex with
        | normal => exact IHc _ _ _ _ _ _ _ _ q4
        | exit i => exact ⟨_, rfl, one_all ⟨t1, rfl, q4⟩⟩
        | ret => exact ⟨_, rfl, one_all ⟨t1, rfl, q4⟩⟩
      | cond cc a b =>
        have e : (Option.rec (bI (isB (evK t cc)) (bI ((runL P ts fs hk n).2 sc N a t h kN kX kR) ((runL P ts fs hk n).2 sc N b t h kN kX kR) false) false) (fun q => Bool.rec ((runL P ts fs hk n).2 sc N b t h kN kX kR) ((runL P ts fs hk n).2 sc N a t h kN kX kR) q) (asB (evK t cc)) : Bool) = true := e
        rw [evK_eq N] at e
        cases hq : asB (evC ⟨N, t⟩ cc) with
        | some q =>
          rw [hq] at e
          unfold asB at hq
          split at hq
          · rename_i q' hq'
            cases hq
            cases q with
            | true => simp only [hq']; exact IHc _ _ _ _ _ _ _ _ e
            | false => simp only [hq']; exact IHc _ _ _ _ _ _ _ _ e
          · cases hq
        | none =>
          rw [hq] at e
          obtain ⟨e1, e2⟩ := bI_and (show bI (isB (evC ⟨N, t⟩ cc)) (bI ((runL P ts fs hk n).2 sc N a t h kN kX kR) ((runL P ts fs hk n).2 sc N b t h kN kX kR) false) false = true from e)
          obtain ⟨e3, e4⟩ := bI_and e2
          obtain ⟨l1, q1, q2⟩ := IHc _ _ _ _ _ _ _ _ e3
          obtain ⟨l2, q3, q4⟩ := IHc _ _ _ _ _ _ _ _ e4
          refine ⟨l1 ++ l2, ?_, fun x hx => ?_⟩
          · unfold isB at e1
            split at e1
            · rename_i b' hb
              simp only [hb]
              cases b' with
              | lit q => rw [hb] at hq; cases hq
              | _ => simp only [q1, q3]
            · cases e1
          · rcases List.mem_append.1 hx with q | q
            · exact q2 x q
            · exact q4 x q
      | block id a =>
        obtain ⟨l, q1, q2⟩ := IHc _ _ _ _ _ _ _ _ (show (runL P ts fs hk n).2 sc N a t h kN (fun i t' h' => bI (Nat.beq i id) (kN t' h') (kX i t' h')) kR = true from e)
        simp only [q1]
        refine ⟨_, rfl, fun x hx => ?_⟩
        obtain ⟨y, hy, rfl⟩ := List.mem_map.1 hx
        obtain ⟨t1, q3, q4⟩ := q2 y hy
        obtain ⟨ex, f1, h1⟩ := y
        dsimp only at q3 q4
        subst q3
        cases ex with
        | normal => exact ⟨t1, rfl, q4⟩
        | ret => exact ⟨t1, rfl, q4⟩
        | exit i =>
          rcases bI_true q4 with ⟨q5, q6⟩ | ⟨q5, q6⟩
          · refine ⟨t1, ?_, ?_⟩ <;> simp only [if_pos (Nat.eq_of_beq_eq_true q5)]
            exact q6
          · have : ¬ i = id := fun q => by rw [beqT q] at q5; cases q5
            refine ⟨t1, ?_, ?_⟩ <;> simp only [if_neg this]
            exact q6
      | loop a =>
        obtain ⟨l, q1, q2⟩ := IHc _ _ _ _ _ _ _ _ (show (runL P ts fs hk n).2 sc N a t h (fun t' h' => (runL P ts fs hk n).2 sc N (.loop a) t' h' kN kX kR) kX kR = true from e)
        simp only [q1]
        refine eachX_all fun x hx => ?_
        obtain ⟨t1, q3, q4⟩ := q2 x hx
        obtain ⟨ex, f1, h1⟩ := x
        dsimp only at q3 q4
        subst q3
        cases ex with
        | normal => exact IHc _ _ _ _ _ _ _ _ q4
        | exit i => exact ⟨_, rfl, one_all ⟨t1, rfl, q4⟩⟩
        | ret => exact ⟨_, rfl, one_all ⟨t1, rfl, q4⟩⟩
      | _ => cases e
end Go.Proofs.YtpjgmeogkomhlaaGreat
namespace Go.Proofs.YtpjgmeogkomhlaaGreat
open Go.RowKit
/-- New letters for numbers. -/
def Va.nums (V : Va) (n : Nat) (l : List Int) : Va := { V with num := fun i => if n ≤ i then l[i - n]? else V.num i }
theorem Va.le_nums {V : Va} {n : Nat} (l : List Int) (h : ∀ i, n ≤ i → V.num i = none) : V.le (V.nums n l) :=
  ⟨fun _ _ e => e, fun i x e => by
    show (if n ≤ i then l[i - n]? else V.num i) = some x
    by_cases hi : n ≤ i
    · rw [h i hi] at e; cases e
    · rw [if_neg hi]; exact e, fun _ _ e => e, fun _ _ e => e⟩
theorem Va.nums_get (V : Va) (n : Nat) (l : List Int) (i : Nat) : (V.nums n l).num (n + i) = l[i]? := by
  show (if n ≤ n + i then l[n + i - n]? else V.num (n + i)) = l[i]?
  rw [if_pos (Nat.le_add_right _ _), Nat.add_sub_cancel_left]
theorem Rel.nums {w0 : World} {h : CH} {V : Va} {W : World} (r : Rel w0 h V W) (hfs : h.fs = []) (l : List Int) : Rel w0 { h with nv := h.nv + l.length } (V.nums h.nv l) W := by
  have le := Va.le_nums l r.fv
  refine { r with blk := fun b o s h1 h2 => (r.blk b o s h1 h2).mono le, fv := fun i hi => ?_, facts := fun f hf => ?_ }
  · have hi : h.nv + l.length ≤ i := hi
    show (if h.nv ≤ i then l[i - h.nv]? else V.num i) = none
    rw [if_pos (by omega), List.getElem?_eq_none (by omega)]
  · have hf : f ∈ h.fs := hf
    rw [hfs] at hf
    cases hf
theorem Ext.nums {w0 : World} {h : CH} {V : Va} {W : World} (r : Rel w0 h V W) (l : List Int) : Ext h V { h with nv := h.nv + l.length } (V.nums h.nv l) :=
  ⟨Va.le_nums l r.fv, Nat.le_refl _, fun _ _ hv => ⟨hv, rfl⟩⟩
/-- New letters for truths. -/
def Va.bols (V : Va) (n : Nat) (l : List Bool) : Va := { V with bol := fun i => if n ≤ i then l[i - n]? else V.bol i }
theorem Va.le_bols {V : Va} {n : Nat} (l : List Bool) (h : ∀ i, n ≤ i → V.bol i = none) : V.le (V.bols n l) :=
  ⟨fun _ _ e => e, fun _ _ e => e, fun i x e => by
    show (if n ≤ i then l[i - n]? else V.bol i) = some x
    by_cases hi : n ≤ i
    · rw [h i hi] at e; cases e
    · rw [if_neg hi]; exact e, fun _ _ e => e⟩
theorem Va.bols_get (V : Va) (n : Nat) (l : List Bool) (i : Nat) : (V.bols n l).bol (n + i) = l[i]? := by
  show (if n ≤ n + i then l[n + i - n]? else V.bol (n + i)) = l[i]?
  rw [if_pos (Nat.le_add_right _ _), Nat.add_sub_cancel_left]
theorem Rel.bols {w0 : World} {h : CH} {V : Va} {W : World} (r : Rel w0 h V W) (l : List Bool) : Rel w0 { h with nb := h.nb + l.length } (V.bols h.nb l) W := by
  have le := Va.le_bols l r.fo
  refine { r with blk := fun b o s h1 h2 => (r.blk b o s h1 h2).mono le, fo := fun i hi => ?_ }
  have hi : h.nb + l.length ≤ i := hi
  show (if h.nb ≤ i then l[i - h.nb]? else V.bol i) = none
  rw [if_pos (by omega), List.getElem?_eq_none (by omega)]
theorem Ext.bols {w0 : World} {h : CH} {V : Va} {W : World} (r : Rel w0 h V W) (l : List Bool) : Ext h V { h with nb := h.nb + l.length } (V.bols h.nb l) :=
  ⟨Va.le_bols l r.fo, Nat.le_refl _, fun _ _ hv => ⟨hv, rfl⟩⟩
/-- Numbers within bounds, in a row. -/
def Within (lo hi : Int) (l : List Int) : Prop := ∀ x ∈ l, lo ≤ x ∧ x ≤ hi
def numV (l : List Int) : List Value := l.map fun n => Value.int .i64 n
def bndC (lo hi : Int) : Nat → Nat → List CV
  | 0, _ => []
  | n + 1, i => .int .i64 (.bnd i lo hi) :: bndC lo hi n (i + 1)
theorem bndC_ok {V : Va} {lo hi : Int} : ∀ (l : List Int) (i : Nat), Within lo hi l → (∀ j x, l[j]? = some x → V.num (i + j) = some x) → VRs V (bndC lo hi l.length i) (numV l)
  | [], _, _, _ => rfl
  | x :: l, i, hw, hV => by
    refine ⟨.int .i64 x, numV l, rfl, ⟨x, ?_, rfl⟩, bndC_ok l (i + 1) (fun y hy => hw y (List.mem_cons_of_mem _ hy)) (fun j y hy => ?_)⟩
    · have := hV 0 x rfl
      simp only [Nat.add_zero] at this
      simp only [IE.den, this, if_pos (hw x List.mem_cons_self)]
    · rw [show i + 1 + j = i + (j + 1) by omega]
      exact hV (j + 1) y (by simpa using hy)
/-- Letters without bounds. -/
def varC : Nat → Nat → List CV
  | 0, _ => []
  | n + 1, i => .int .i64 (.var i) :: varC n (i + 1)
theorem varC_ok {V : Va} : ∀ (l : List Int) (i : Nat), (∀ j x, l[j]? = some x → V.num (i + j) = some x) → VRs V (varC l.length i) (numV l)
  | [], _, _ => rfl
  | x :: l, i, hV => by
    refine ⟨.int .i64 x, numV l, rfl, ⟨x, ?_, rfl⟩, varC_ok l (i + 1) (fun j y hy => ?_)⟩
    · have := hV 0 x rfl
      simp only [Nat.add_zero] at this
      exact this
    · rw [show i + 1 + j = i + (j + 1) by omega]
      exact hV (j + 1) y (by simpa using hy)
/-- Numbers, whichever they are. -/
def allI : List CV → Bool
  | [] => true
  | .int .i64 _ :: l => allI l
  | _ :: _ => false
theorem allI_ok {V : Va} : ∀ {cs : List CV} {vs : List Value}, allI cs = true → VRs V cs vs → ∃ l : List Int, l.length = cs.length ∧ vs = numV l
  | [], _, _, h => ⟨[], rfl, h⟩
  | c :: cs, _, e, ⟨v, ws, e1, h1, h2⟩ => by
    unfold allI at e
    split at e
    · rename_i q; cases q
    · rename_i x l q
      cases q
      obtain ⟨n, _, h3⟩ := h1
      obtain ⟨l, h4, h5⟩ := allI_ok e h2
      exact ⟨n :: l, by simp [h4], by rw [e1, h3, h5]; rfl⟩
    · cases e
/-- What the bounds tell: numbers within them. -/
def inBs (lo hi : Int) : List CV → Bool
  | [] => true
  | .int .i64 e :: l => (match ivl e with | some (a, b) => decide (lo ≤ a) && decide (b ≤ hi) | none => false) && inBs lo hi l
  | _ :: _ => false
theorem inBs_ok {V : Va} {lo hi : Int} : ∀ {cs : List CV} {vs : List Value}, inBs lo hi cs = true → VRs V cs vs → ∃ l : List Int, l.length = cs.length ∧ Within lo hi l ∧ vs = numV l
  | [], _, _, h => ⟨[], rfl, fun _ h => (by cases h), h⟩
  | c :: cs, _, e, ⟨v, ws, e1, h1, h2⟩ => by
    unfold inBs at e
    split at e
    · rename_i q; cases q
    · rename_i x l q
      cases q
      rw [Bool.and_eq_true] at e
      obtain ⟨n, hn, h3⟩ := h1
      obtain ⟨l, h4, h6, h5⟩ := inBs_ok e.2 h2
      refine ⟨n :: l, by simp [h4], fun y hy => ?_, by rw [e1, h3, h5]; rfl⟩
      rcases List.mem_cons.1 hy with q | q
      · subst q
        have e' := e.1
        split at e'
        · rename_i a b hab
          simp only [Bool.and_eq_true, decide_eq_true_eq] at e'
          have := ivl_ok hab hn
          omega
        · cases e'
      · exact h6 y q
    · cases e
/-- Every low and top of the fixed point. -/
abbrev lowQ : Int := -70368744177664
abbrev topQ : Int := 70368744177663
/-- No facts are kept. -/
def bare (h : CH) : Bool := match h.fs with | [] => true | _ => false
theorem bare_ok {h : CH} (e : bare h = true) : h.fs = [] := by
  unfold bare at e
  split at e
  · assumption
  · cases e
end Go.Proofs.YtpjgmeogkomhlaaGreat
