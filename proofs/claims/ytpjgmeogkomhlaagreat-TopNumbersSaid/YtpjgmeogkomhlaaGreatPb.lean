/-
  Single operations, run on what is known, are run as the code runs them: what reckons alone.
  Single operations that only reckon, run on what is known, are run as the code runs them. No conditions but those named.
-/
import Derived.Test.YtpjgmeogkomhlaaGreatXc
namespace Go.Proofs.YtpjgmeogkomhlaaGreat
open Go.RowKit
/-- A frame is what is known of it. -/
def FR (V : Va) (f : Fr) (a : Act) : Prop := a.tmps.size = f.n ∧ a.defers = [] ∧ ∀ i c, f.t.get i = some c → i < f.n ∧ VR V c (a.tmps.getD i undef)
theorem FR.mono {V V' : Va} {f : Fr} {a : Act} (h : FR V f a) (hV : V.le V') : FR V' f a := ⟨h.1, h.2.1, fun i c hc => ⟨(h.2.2 i c hc).1, VR.mono hV c _ (h.2.2 i c hc).2⟩⟩
theorem FR.put {V : Va} {f : Fr} {a : Act} (h : FR V f a) {d : Option Tmp} (hd : ∀ t, d = some t → t < f.n) {c : CV} {v : Value} (hv : VR V c v) : FR V (f.put d c) (a.put d v) := by
  cases d with
  | none => exact h
  | some t =>
    have ht := hd t rfl
    refine ⟨by simpa [Act.put, Fr.put] using h.1, h.2.1, fun i c' hc => ?_⟩
    by_cases e : i = t
    · subst e
      have : c' = c := by simpa [Fr.put, Tr.get_set] using hc.symm
      subst this
      refine ⟨ht, ?_⟩
      have hs : i < a.tmps.size := by rw [h.1]; exact ht
      simpa [Act.put, hs] using hv
    · have hc' : f.t.get i = some c' := by simpa [Fr.put, Tr.get_set_ne _ _ e] using hc
      obtain ⟨h1, h2⟩ := h.2.2 i c' hc'
      refine ⟨h1, ?_⟩
      have : (a.put (some t) v).tmps.getD i undef = a.tmps.getD i undef := by
        simp [Act.put, Array.getElem?_setIfInBounds_ne (Ne.symm e)]
      rw [this]
      exact h2
theorem cvOf1_ok (V : Va) (v : Value) : VR V (cvOf1 v) v := by
  unfold cvOf1
  split <;> simp [VR, BE.den, IE.den, CC.den]
theorem cvOf_ok (V : Va) (v : Value) : VR V (cvOf v) v := by
  unfold cvOf
  split
  · rename_i cs
    refine ⟨cs.toList, ?_, by simp⟩
    refine VRs.of_get (by simp) fun i c u hc hu => ?_
    simp only [List.getElem?_map, hu, Option.map_some, Option.some.injEq] at hc
    subst hc
    exact cvOf1_ok V u
  · exact cvOf1_ok V v
theorem evC_ok {V : Va} {f : Fr} {a : Act} (h : FR V f a) (x : Operand) : VR V (evC f x) (a.eval x) := by
  cases x with
  | tmp t =>
    cases hc : f.t.get t with
    | none =>
      have e : evC f (.tmp t) = .any := by simp only [evC, hc]
      rw [e]
      trivial
    | some c =>
      have e : evC f (.tmp t) = c := by simp only [evC, hc]
      rw [e]
      exact (h.2.2 t c hc).2
  | const v => exact cvOf_ok V v
  | global g => simp [evC, VR]
  | func g => exact ⟨[], [], VRs.nil V, VRs.nil V, rfl⟩
theorem evCs_ok {V : Va} {f : Fr} {a : Act} (h : FR V f a) : ∀ xs : List Operand, VRs V (xs.map (evC f)) (xs.map a.eval)
  | [] => VRs.nil V
  | x :: xs => VRs.cons (evC_ok h x) (evCs_ok h xs)
/-- An operation goes on: what it yields, and memory behind it, are what the run says. -/
def Goes (P : Program) (w0 : World) (h : CH) (V : Va) (o : Oper) (a : Act) (W : World) (r : CV × CH) : Prop :=
  ∃ V' v W', Ext h V r.2 V' ∧ VR V' r.1 v ∧ Rel w0 r.2 V' W' ∧ ∀ (K : Act → World → Prop) (Q : Exit → Act → World → Prop), K (a.put o.dst v) W' → o.wp P a W K Q
theorem Goes.value {P : Program} {w0 : World} {h : CH} {V V' : Va} {o : Oper} {a : Act} {W W' : World} {c : CV} {h' : CH} {v : Value} (hrun : (execOp a.eval o).run P W = .ok (.value v) W') (hV : Ext h V h' V') (hv : VR V' c v) (hr : Rel w0 h' V' W') : Goes P w0 h V o a W (c, h') :=
  ⟨V', v, W', hV, hv, hr, fun K Q hk => by unfold Oper.wp; rw [hrun]; exact hk⟩
theorem Goes.skip {P : Program} {w0 : World} {h : CH} {V V' : Va} {o : Oper} {a : Act} {W W' : World} {h' : CH} (hrun : (execOp a.eval o).run P W = .ok .skip W') (hV : Ext h V h' V') (hr : Rel w0 h' V' W') : Goes P w0 h V o a W (.any, h') :=
  ⟨V', undef, W', hV, trivial, hr, fun K Q hk => by unfold Oper.wp; rw [hrun]; exact hk⟩
theorem pureIn_ok {α : Type} {P : Program} : ∀ (s : Sem α) (x : α), pureIn P s = some x → ∀ W, s.run P W = .ok x W
  | .pure a, x, h, W => by
    simp [pureIn] at h
    subst h
    rfl
  | .program k, x, h, W => by
    have := pureIn_ok (k P) x h W
    exact this
  | .load _ _ _, _, h, _ => by cases h
  | .store _ _ _ _, _, h, _ => by cases h
  | .new _ _, _, h, _ => by cases h
  | .shape _ _, _, h, _ => by cases h
  | .freeze _ _ _, _, h, _ => by cases h
  | .frozen _ _, _, h, _ => by cases h
  | .getObj _ _, _, h, _ => by cases h
  | .setObj _ _ _, _, h, _ => by cases h
  | .choose _ _, _, h, _ => by cases h
  | .sys _ _, _, h, _ => by cases h
  | .mark _ _, _, h, _ => by cases h
  | .halt _, _, h, _ => by cases h
theorem IE.same_eq : ∀ a b : IE, a.same b = true → a = b := by
  intro a
  induction a with
  | lit n => intro b h; cases b <;> simp_all [IE.same]
  | var n => intro b h; cases b <;> simp_all [IE.same]
  | add k a b iha ihb => intro c h; cases c <;> simp [IE.same] at h; obtain ⟨⟨h1, h2⟩, h3⟩ := h; rw [h1, iha _ h2, ihb _ h3]
  | sub k a b iha ihb => intro c h; cases c <;> simp [IE.same] at h; obtain ⟨⟨h1, h2⟩, h3⟩ := h; rw [h1, iha _ h2, ihb _ h3]
  | mn a b iha ihb => intro c h; cases c <;> simp [IE.same] at h; obtain ⟨h2, h3⟩ := h; rw [iha _ h2, ihb _ h3]
  | mx a b iha ihb => intro c h; cases c <;> simp [IE.same] at h; obtain ⟨h2, h3⟩ := h; rw [iha _ h2, ihb _ h3]
  | conv k a iha => intro c h; cases c <;> simp [IE.same] at h; obtain ⟨h1, h2⟩ := h; rw [h1, iha _ h2]
  | bnd i a b => intro c h; cases c <;> simp [IE.same] at h; obtain ⟨⟨h1, h2⟩, h3⟩ := h; rw [h1, h2, h3]
  | half a iha => intro c h; cases c <;> simp [IE.same] at h; rw [iha _ h]
theorem BE.same_eq : ∀ a b : BE, a.same b = true → a = b := by
  intro a
  induction a with
  | lit n => intro b h; cases b <;> simp_all [BE.same]
  | var n => intro b h; cases b <;> simp_all [BE.same]
  | lt a b => intro c h; cases c <;> simp [BE.same] at h; rw [IE.same_eq _ _ h.1, IE.same_eq _ _ h.2]
  | le a b => intro c h; cases c <;> simp [BE.same] at h; rw [IE.same_eq _ _ h.1, IE.same_eq _ _ h.2]
  | eq a b => intro c h; cases c <;> simp [BE.same] at h; rw [IE.same_eq _ _ h.1, IE.same_eq _ _ h.2]
  | not a iha => intro c h; cases c <;> simp [BE.same] at h; rw [iha _ h]
  | beq a b iha ihb => intro c h; cases c <;> simp [BE.same] at h; rw [iha _ h.1, ihb _ h.2]
  | ite a b c iha ihb ihc => intro d h; cases d <;> simp [BE.same] at h; rw [iha _ h.1.1, ihb _ h.1.2, ihc _ h.2]
theorem inR_ok {l h l' h' n : Int} (e : inR l h = some (l', h')) (h1 : l ≤ n) (h2 : n ≤ h) : IntKind.i64.wrap n = n ∧ l' ≤ n ∧ n ≤ h' := by
  unfold inR at e
  split at e
  · cases e
    rw [IntKind.wrap_i64]
    omega
  · cases e
theorem ivl_ok {V : Va} : ∀ {e : IE} {l h n : Int}, ivl e = some (l, h) → e.den V = some n → l ≤ n ∧ n ≤ h
  | .lit m, l, h, n, e1, e2 => by
    simp only [ivl, Option.some.injEq, Prod.mk.injEq] at e1
    simp only [IE.den, Option.some.injEq] at e2
    omega
  | .bnd i lo hi, l, h, n, e1, e2 => by
    simp only [ivl, Option.some.injEq, Prod.mk.injEq] at e1
    simp only [IE.den] at e2
    split at e2
    · split at e2
      · cases e2; omega
      · cases e2
    · cases e2
  | .mn a b, l, h, n, e1, e2 => by
    simp only [ivl] at e1
    split at e1
    · rename_i l1 h1 l2 h2 q1 q2
      simp only [IE.den] at e2
      split at e2
      · rename_i x y q3 q4
        have := ivl_ok q1 q3
        have := ivl_ok q2 q4
        simp only [Option.some.injEq, Prod.mk.injEq] at e1 e2
        obtain ⟨rfl, rfl⟩ := e1
        subst e2
        constructor <;> (repeat' split) <;> omega
      · cases e2
    · cases e1
  | .mx a b, l, h, n, e1, e2 => by
    simp only [ivl] at e1
    split at e1
    · rename_i l1 h1 l2 h2 q1 q2
      simp only [IE.den] at e2
      split at e2
      · rename_i x y q3 q4
        have := ivl_ok q1 q3
        have := ivl_ok q2 q4
        simp only [Option.some.injEq, Prod.mk.injEq] at e1 e2
        obtain ⟨rfl, rfl⟩ := e1
        subst e2
        constructor <;> (repeat' split) <;> omega
      · cases e2
    · cases e1
  | .var _, _, _, _, e1, _ => by cases e1
  | .add k a b, l, h, n, e1, e2 => by
    cases k <;> first | (cases e1; done) | skip
    simp only [ivl] at e1
    split at e1
    · rename_i l1 h1 l2 h2 q1 q2
      simp only [IE.den] at e2
      split at e2
      · rename_i x y q3 q4
        have r1 := ivl_ok q1 q3
        have r2 := ivl_ok q2 q4
        have r3 := inR_ok (n := x + y) e1 (by omega) (by omega)
        rw [r3.1] at e2
        cases e2
        exact r3.2
      · cases e2
    · cases e1
  | .sub k a b, l, h, n, e1, e2 => by
    cases k <;> first | (cases e1; done) | skip
    simp only [ivl] at e1
    split at e1
    · rename_i l1 h1 l2 h2 q1 q2
      simp only [IE.den] at e2
      split at e2
      · rename_i x y q3 q4
        have r1 := ivl_ok q1 q3
        have r2 := ivl_ok q2 q4
        have r3 := inR_ok (n := x - y) e1 (by omega) (by omega)
        rw [r3.1] at e2
        cases e2
        exact r3.2
      · cases e2
    · cases e1
  | .conv k a, l, h, n, e1, e2 => by
    cases k <;> first | (cases e1; done) | skip
    simp only [ivl] at e1
    split at e1
    · rename_i l1 h1 q1
      simp only [IE.den] at e2
      split at e2
      · rename_i x q3
        have r1 := ivl_ok q1 q3
        have r3 := inR_ok (n := x) e1 (by omega) (by omega)
        rw [r3.1] at e2
        cases e2
        exact r3.2
      · cases e2
    · cases e1
  | .half a, l, h, n, e1, e2 => by
    simp only [ivl] at e1
    split at e1
    · rename_i l1 h1 q1
      simp only [IE.den] at e2
      split at e2
      · rename_i x q3
        have r1 := ivl_ok q1 q3
        cases e1
        cases e2
        unfold halfN
        constructor <;> (repeat' split) <;> omega
      · cases e2
    · cases e1
theorem decB_ok {V : Va} : ∀ {e : BE} {b : Bool}, e.den V = some b → (decB e).den V = some b
  | .lt x y, b, e => by
    have e0 := e
    simp only [BE.den] at e
    split at e
    · rename_i m n q1 q2
      cases e
      simp only [decB]
      split
      · rename_i l h l' h' i1 i2
        have := ivl_ok i1 q1
        have := ivl_ok i2 q2
        split
        · simp only [BE.den, Option.some.injEq]; symm; rw [decide_eq_true_eq]; omega
        · split
          · simp only [BE.den, Option.some.injEq]; symm; rw [decide_eq_false_iff_not]; omega
          · exact e0
      · exact e0
    · cases e
  | .le x y, b, e => by
    have e0 := e
    simp only [BE.den] at e
    split at e
    · rename_i m n q1 q2
      cases e
      simp only [decB]
      split
      · rename_i l h l' h' i1 i2
        have := ivl_ok i1 q1
        have := ivl_ok i2 q2
        split
        · simp only [BE.den, Option.some.injEq]; symm; rw [decide_eq_true_eq]; omega
        · split
          · simp only [BE.den, Option.some.injEq]; symm; rw [decide_eq_false_iff_not]; omega
          · exact e0
      · exact e0
    · cases e
  | .eq x y, b, e => by
    have e0 := e
    simp only [BE.den] at e
    split at e
    · rename_i m n q1 q2
      cases e
      simp only [decB]
      split
      · rename_i hs
        have := IE.same_eq _ _ hs
        subst this
        rw [q1] at q2
        cases q2
        simp [BE.den]
      · split
        · rename_i l h l' h' i1 i2
          have := ivl_ok i1 q1
          have := ivl_ok i2 q2
          split
          · simp only [BE.den, Option.some.injEq]; symm; rw [beq_eq_false_iff_ne]; omega
          · split
            · simp only [BE.den, Option.some.injEq]; symm; rw [beq_eq_false_iff_ne]; omega
            · exact e0
        · exact e0
    · cases e
  | .not x, b, e => by
    simp only [BE.den] at e
    split at e
    · rename_i c q
      cases e
      have ih := decB_ok q
      simp only [decB]
      split
      · rename_i b' hb
        rw [hb] at ih
        cases ih
        rfl
      · simp only [BE.den, ih]
    · cases e
  | .lit _, _, e => e
  | .var _, _, e => e
  | .beq _ _, _, e => e
  | .ite _ _ _, _, e => e
theorem stripB_ok {V : Va} {s : BE} {want : Bool} {c : CV} {e : BE} {v : Value} (h : stripB s want c = some e) (hv : VR V c v) (hs : s.den V = some want) : ∃ b, e.den V = some b ∧ v = .bool b := by
  unfold stripB at h
  split at h
  · cases h; exact hv
  · rename_i s' w e'
    split at h
    · rename_i hc
      cases h
      simp only [Bool.and_eq_true, beq_iff_eq] at hc
      obtain ⟨b, h1, h2, _⟩ := hv
      have := BE.same_eq _ _ hc.1
      subst this
      rw [hs] at h1
      cases h1
      exact h2 hc.2.symm
    · cases h
  · cases h
theorem pickC_ok {P : Program} {V : Va} {c a b r : CV} {vc va vb : Value} {W : World} (h : pickC c a b = some r) (hc : VR V c vc) (ha : VR V a va) (hb : VR V b vb) :
    ∃ t, vc = .bool t ∧ (asBool vc).run P W = .ok t W ∧ VR V r (if t then va else vb) := by
  unfold pickC at h
  split at h
  · cases h
    obtain ⟨t, h1, h2⟩ := hc
    cases h1
    subst h2
    exact ⟨true, rfl, rfl, ha⟩
  · cases h
    obtain ⟨t, h1, h2⟩ := hc
    cases h1
    subst h2
    exact ⟨false, rfl, rfl, hb⟩
  · rename_i e _ _
    split at h
    · rename_i x y hx hy
      cases h
      obtain ⟨t, h1, h2⟩ := hc
      subst h2
      refine ⟨t, rfl, rfl, ?_⟩
      cases t with
      | true =>
        obtain ⟨q, h3, h4⟩ := stripB_ok hx ha h1
        exact ⟨q, by simp only [BE.den, h1]; exact h3, h4⟩
      | false =>
        obtain ⟨q, h3, h4⟩ := stripB_ok hy hb h1
        exact ⟨q, by simp only [BE.den, h1]; exact h3, h4⟩
    · cases h
  · cases h
theorem litV_ok {V : Va} {c : CV} {v u : Value} (h : litV c = some u) (hv : VR V c v) : v = u := by
  unfold litV at h
  split at h
  · cases h; obtain ⟨b, h1, h2⟩ := hv; cases h1; exact h2
  · cases h; obtain ⟨b, h1, h2⟩ := hv; cases h1; exact h2
  · cases h
theorem litVs_ok {V : Va} : ∀ {cs : List CV} {vs us : List Value}, litVs cs = some us → VRs V cs vs → vs = us
  | [], vs, us, h, hv => by
    simp [litVs] at h
    subst h
    exact hv
  | c :: cs, vs, us, h, hv => by
    unfold litVs at h
    split at h
    · rename_i v us' h1 h2
      cases h
      obtain ⟨v', ws, e, h3, h4⟩ := hv
      rw [e, litV_ok h1 h3, litVs_ok h2 h4]
    · cases h
theorem groundV_ok {V : Va} {c : CV} {v u : Value} (h : groundV c = some u) (hv : VR V c v) : v = u := by
  unfold groundV at h
  split at h
  · split at h
    · rename_i vs hvs
      cases h
      obtain ⟨xs, h1, h2⟩ := hv
      rw [h2, litVs_ok hvs h1]
    · cases h
  · exact litV_ok h hv
end Go.Proofs.YtpjgmeogkomhlaaGreat
namespace Go.Proofs.YtpjgmeogkomhlaaGreat
open Go.RowKit
/-- The types' table says what the program's own does. -/
def TS (P : Program) (ts : Tr TI) : Prop := ∀ t ti, ts.get t = some ti → tiOf P t = some ti
theorem tiOf_ok {P : Program} {t : TypeId} {ti : TI} (h : tiOf P t = some ti) : ∃ i z, P.info? t = some i ∧ i.zero = some z ∧ ti.kind = kindOf P t ∧ ti.size = i.size ∧ ti.agg = aggB P t ∧ ti.zero = cvOf z ∧ ∃ d, P.underlying t = some d := by
  unfold tiOf at h
  split at h
  · rename_i i hi
    split at h
    · split at h
      · rename_i z d hz hd
        cases h
        exact ⟨i, z, hi, hz, rfl, rfl, rfl, rfl, d, hd⟩
      · cases h
    · cases h
  · cases h
theorem tiOf_bytes {P : Program} {t : TypeId} {ti : TI} {i : TypeInfo} (h : tiOf P t = some ti) (hi : P.info? t = some i) : i.bytes ≤ 16777216 := by
  unfold tiOf at h
  rw [hi] at h
  simp only at h
  split at h
  · assumption
  · cases h
theorem kind_int {P : Program} {t : TypeId} {k : IntKind} (h : kindOf P t = .int k) : P.underlying t = some (.int k) := by
  unfold kindOf at h
  split at h <;> first | (cases h; assumption) | cases h | (split at h <;> cases h)
theorem kind_bool {P : Program} {t : TypeId} (h : kindOf P t = .bool) : P.underlying t = some .bool := by
  unfold kindOf at h
  split at h <;> first | assumption | cases h | (split at h <;> cases h)
theorem kind_struct {P : Program} {t : TypeId} {fs : List (Nat × Nat × Bool)} (h : kindOf P t = .struct fs) : ∃ fields, P.underlying t = some (.struct fields) ∧ (fs = fields.toList.map fun f => (f.offset, szB P f.type, aggB P f.type)) ∧ ∀ f ∈ fields.toList, ∃ d, P.underlying f.type = some d := by
  unfold kindOf at h
  split at h <;> first | cases h | (split at h <;> first | cases h | skip)
  all_goals first
    | (rename_i fields hu ha
       refine ⟨fields, hu, rfl, fun f hf => ?_⟩
       have := List.all_eq_true.1 ha f hf
       exact Option.isSome_iff_exists.1 this)
theorem kind_array {P : Program} {t : TypeId} {n es : Nat} {ea : Bool} (h : kindOf P t = .array n es ea) : ∃ e, P.underlying t = some (.array n e) ∧ es = szB P e ∧ ea = aggB P e ∧ ∃ d, P.underlying e = some d := by
  unfold kindOf at h
  split at h <;> first | cases h | (split at h <;> first | cases h | skip)
  all_goals first
    | (rename_i e ha hu
       exact ⟨e, hu, rfl, rfl, Option.isSome_iff_exists.1 ha⟩)
theorem kind_slice {P : Program} {t : TypeId} {e es : Nat} (h : kindOf P t = .slice e es) : P.underlying t = some (.slice e) ∧ es = szB P e := by
  unfold kindOf at h
  split at h <;> first | (cases h; exact ⟨by assumption, rfl⟩) | cases h | (split at h <;> cases h)
theorem kind_map {P : Program} {t : TypeId} {k e : Nat} (h : kindOf P t = .map k e) : P.underlying t = some (.map k e) := by
  unfold kindOf at h
  split at h <;> first | (cases h; assumption) | cases h | (split at h <;> cases h)
theorem run_underlying {P : Program} {t : TypeId} {d : TypeDesc} (h : P.underlying t = some d) (W : World) : (underlying t).run P W = .ok d W := by
  simp [underlying, program, Sem.run, Sem.bind, bind, h, pure]
section
variable {P : Program} {ts : Tr TI} {w0 : World} {h : CH} {V : Va} {f : Fr} {a : Act} {W : World} {o : Oper} {r : CV × CH}
theorem op_move (hr : Rel w0 h V W) (hf : FR V f a) {x : Operand} (ho : o.op = .move x) (e : opX P ts h f (.move x) = some r) : Goes P w0 h V o a W r := by
  cases e
  exact Goes.value (v := a.eval x) (W' := W) (by simp only [execOp, ho]; rfl) (Ext.refl h V) (evC_ok hf x) hr
theorem op_assign (hr : Rel w0 h V W) (hf : FR V f a) {x : Operand} (ho : o.op = .assign x) (e : opX P ts h f (.assign x) = some r) : Goes P w0 h V o a W r := by
  cases e
  exact Goes.value (v := a.eval x) (W' := W) (by simp only [execOp, ho]; rfl) (Ext.refl h V) (evC_ok hf x) hr
theorem op_pick (hr : Rel w0 h V W) (hf : FR V f a) {c x y : Operand} (ho : o.op = .pick c x y) (e : opX P ts h f (.pick c x y) = some r) : Goes P w0 h V o a W r := by
  simp only [opX] at e
  split at e
  · rename_i v hv
    cases e
    obtain ⟨t, h1, h2, h3⟩ := pickC_ok (P := P) (W := W) hv (evC_ok hf c) (evC_ok hf x) (evC_ok hf y)
    exact Goes.value (W' := W) (by simp only [execOp, ho, Sem.run_bind, Sem.run_pure, Result.andThen_ok, h2]) (Ext.refl h V) h3 hr
  · cases e
theorem eqGuard_int (op : BinOp) (t : TypeId) (x y : Operand) (k l : IntKind) (m n : Int) : (eqGuard op t x y (.int k m) (.int l n)).run P W = .ok () W := by
  cases op <;> rfl
theorem eqGuard_bool (op : BinOp) (t : TypeId) (x y : Operand) (m n : Bool) : (eqGuard op t x y (.bool m) (.bool n)).run P W = .ok () W := by
  cases op <;> rfl
theorem eqGuard_slice (op : BinOp) (t : TypeId) (x y : Operand) (p q : Option Addr) (i j k l : Nat) : (eqGuard op t x y (.slice p i j) (.slice q k l)).run P W = .ok () W := by
  cases op <;> rfl
theorem equal_bool {t : TypeId} (ht : P.underlying t = some .bool) (m n : Bool) : (Op.equal t (.bool m) (.bool n)).run P W = .ok (m == n) W := by
  show (Op.equalIn (9999 + 1) t _ _).run P W = _
  unfold Op.equalIn
  simp only [Sem.run_bind, run_underlying ht, Result.andThen_ok, Sem.run_pure]
theorem equal_slice {t e : TypeId} (ht : P.underlying t = some (.slice e)) (p : Option Addr) (i j k l : Nat) : (Op.equal t (.slice p i j) (.slice none k l)).run P W = .ok p.isNone W := by
  show (Op.equalIn (9999 + 1) t _ _).run P W = _
  unfold Op.equalIn
  simp only [Sem.run_bind, run_underlying ht, Result.andThen_ok]
  cases p <;> simp [Sem.run_pure]
theorem eqGuard_agg {op : BinOp} {t : TypeId} (x y : Operand) {xs ys : Array Value} (h : pureIn P (Op.eqGuardIn Op.maxDepth t (.agg xs) (.agg ys)) = some false) : (eqGuard op t x y (.agg xs) (.agg ys)).run P W = .ok () W := by
  have hr := pureIn_ok _ _ h W
  unfold eqGuard
  cases op <;> first
    | rfl
    | (simp only [Sem.run_bind, program, Sem.run, Result.andThen_ok, Bool.not_true, Bool.false_eq_true, if_false]
       split <;> simp [Sem.run_pure, hr, Sem.run_bind, Result.andThen_ok])
/-- Two operands, known: what comes of them. -/
theorem binC_ok (hts : TS P ts) {op : BinOp} {t : TypeId} {x y c : CV} {vx vy : Value} (ox oy : Operand) (e : binC P ts op t x y = some c) (hx : VR V x vx) (hy : VR V y vy) :
    ∃ v, VR V c v ∧ ∀ W : World, (do eqGuard op t ox oy vx vy; Go.binOp op t vx vy : Sem Value).run P W = .ok v W := by
  unfold binC at e
  split at e
  · rename_i p q
    obtain ⟨m, h1, rfl⟩ := hx
    obtain ⟨n, h2, rfl⟩ := hy
    split at e
    · rename_i ht
      have hk := kind_bool ((tiOf_ok (hts _ _ ht)).choose_spec.choose_spec.2.2.1).symm
      have E : ∀ W : World, (do eqGuard .eql t ox oy (.bool m) (.bool n); Go.binOp .eql t (.bool m) (.bool n) : Sem Value).run P W = .ok (.bool (m == n)) W := fun W => by
        simp only [Sem.run_bind, eqGuard_bool, Result.andThen_ok, Go.binOp, equal_bool hk, Sem.run_pure]
      have N : ∀ W : World, (do eqGuard .neq t ox oy (.bool m) (.bool n); Go.binOp .neq t (.bool m) (.bool n) : Sem Value).run P W = .ok (.bool (!(m == n))) W := fun W => by
        simp only [Sem.run_bind, eqGuard_bool, Result.andThen_ok, Go.binOp, equal_bool hk, Sem.run_pure]
      split at e
      · cases e; cases h1; cases h2; exact ⟨_, ⟨_, rfl, rfl⟩, E⟩
      · cases e; cases h1; cases h2; exact ⟨_, ⟨_, rfl, rfl⟩, N⟩
      · cases e; exact ⟨_, ⟨m == n, by simp only [BE.den, h1, h2], rfl⟩, E⟩
      · cases e; exact ⟨_, ⟨!(m == n), by simp only [BE.den, h1, h2], rfl⟩, N⟩
      · cases e
    · cases e
  · rename_i k p l q
    obtain ⟨m, h1, rfl⟩ := hx
    obtain ⟨n, h2, rfl⟩ := hy
    cases h1
    cases h2
    split at e
    · rename_i v hv
      cases e
      exact ⟨v, cvOf_ok V v, fun W => by simp only [Sem.run_bind, eqGuard_int, Result.andThen_ok]; exact pureIn_ok _ _ hv W⟩
    · cases e
  · rename_i k p l q _
    obtain ⟨m, h1, rfl⟩ := hx
    obtain ⟨n, h2, rfl⟩ := hy
    split at e
    · rename_i hkl
      have hkl : k = l := by simpa using hkl
      subst hkl
      have R : ∀ (v : Value), (∀ W : World, (Go.binOp op t (.int k m) (.int k n)).run P W = .ok v W) → ∀ W : World, (do eqGuard op t ox oy (.int k m) (.int k n); Go.binOp op t (.int k m) (.int k n) : Sem Value).run P W = .ok v W := fun v hv W => by
        simp only [Sem.run_bind, eqGuard_int, Result.andThen_ok, hv]
      split at e <;> cases e
      · exact ⟨.int k (k.wrap (m + n)), ⟨_, by simp only [IE.den, h1, h2], rfl⟩, R _ fun W => by simp [Go.binOp, Op.intArith, Sem.run_pure]⟩
      · exact ⟨.int k (k.wrap (m - n)), ⟨_, by simp only [IE.den, h1, h2], rfl⟩, R _ fun W => by simp [Go.binOp, Op.intArith, Sem.run_pure]⟩
      · exact ⟨.bool (m == n), ⟨_, decB_ok (by simp only [BE.den, h1, h2]), rfl⟩, R _ fun W => by simp [Go.binOp, Op.intCmp, Sem.run_pure]⟩
      · exact ⟨.bool (!(m == n)), ⟨_, decB_ok (by simp only [BE.den, h1, h2]), rfl⟩, R _ fun W => by simp [Go.binOp, Op.intCmp, Sem.run_pure, bne]⟩
      · exact ⟨.bool (decide (m < n)), ⟨_, decB_ok (by simp only [BE.den, h1, h2]), rfl⟩, R _ fun W => by simp [Go.binOp, Op.intCmp, Sem.run_pure]⟩
      · exact ⟨.bool (decide (m ≤ n)), ⟨_, decB_ok (by simp only [BE.den, h1, h2]), rfl⟩, R _ fun W => by simp [Go.binOp, Op.intCmp, Sem.run_pure]⟩
      · exact ⟨.bool (decide (n < m)), ⟨_, decB_ok (by simp only [BE.den, h1, h2]), rfl⟩, R _ fun W => by simp [Go.binOp, Op.intCmp, Sem.run_pure]⟩
      · exact ⟨.bool (decide (n ≤ m)), ⟨_, decB_ok (by simp only [BE.den, h1, h2]), rfl⟩, R _ fun W => by simp [Go.binOp, Op.intCmp, Sem.run_pure]⟩
    · cases e
  · rename_i p _ _ _ _ _ _
    have hx' : ∃ q i j, vx = .slice q i j ∧ q.isNone = p.isNone := by
      cases p with
      | none => obtain ⟨_, _, rfl⟩ := hx; exact ⟨_, _, _, rfl, rfl⟩
      | some b => obtain ⟨_, _, _, _, _, _, rfl⟩ := hx; exact ⟨_, _, _, rfl, rfl⟩
    obtain ⟨q, i, j, rfl, hq⟩ := hx'
    obtain ⟨_, _, rfl⟩ := hy
    split at e
    · rename_i ht
      cases e
      have hk := (kind_slice ((tiOf_ok (hts _ _ ht)).choose_spec.choose_spec.2.2.1).symm).1
      exact ⟨_, ⟨_, rfl, rfl⟩, fun W => by simp only [Sem.run_bind, eqGuard_slice, Result.andThen_ok, Go.binOp, equal_slice hk, Sem.run_pure, hq]⟩
    · rename_i ht
      cases e
      have hk := (kind_slice ((tiOf_ok (hts _ _ ht)).choose_spec.choose_spec.2.2.1).symm).1
      exact ⟨_, ⟨_, rfl, rfl⟩, fun W => by simp only [Sem.run_bind, eqGuard_slice, Result.andThen_ok, Go.binOp, equal_slice hk, Sem.run_pure, hq]⟩
    · cases e
  · split at e
    · rename_i u v hu hv
      have e1 := groundV_ok hu hx
      have e2 := groundV_ok hv hy
      obtain ⟨xs, _, e3⟩ := hx
      obtain ⟨ys, _, e4⟩ := hy
      rw [e1] at e3
      rw [e2] at e4
      subst e1 e2 e3 e4
      split at e
      · split at e
        · rename_i q hg he
          cases e
          exact ⟨_, ⟨_, rfl, rfl⟩, fun W => by simp only [Sem.run_bind, eqGuard_agg ox oy hg, Result.andThen_ok, Go.binOp, pureIn_ok _ _ he W, Sem.run_pure]⟩
        · cases e
      · split at e
        · rename_i q hg he
          cases e
          exact ⟨_, ⟨_, rfl, rfl⟩, fun W => by simp only [Sem.run_bind, eqGuard_agg ox oy hg, Result.andThen_ok, Go.binOp, pureIn_ok _ _ he W, Sem.run_pure]⟩
        · cases e
      · cases e
    · cases e
  · cases e
theorem op_binOp (hts : TS P ts) (hr : Rel w0 h V W) (hf : FR V f a) {op : BinOp} {t t' : TypeId} {x y : Operand} (ho : o.op = .binOp op t x y t') (e : opX P ts h f (.binOp op t x y t') = some r) : Goes P w0 h V o a W r := by
  simp only [opX] at e
  split at e
  · rename_i c hc
    cases e
    obtain ⟨v, h1, h2⟩ := binC_ok hts x y hc (evC_ok hf x) (evC_ok hf y)
    have h2 := h2 W
    exact Goes.value (W' := W) (by simp only [execOp, ho]; rw [Sem.run_bind, h2]; rfl) (Ext.refl h V) h1 hr
  · cases e
theorem op_unOp (hr : Rel w0 h V W) (hf : FR V f a) {op : UnOp} {t : TypeId} {x : Operand} (ho : o.op = .unOp op t x) (e : opX P ts h f (.unOp op t x) = some r) : Goes P w0 h V o a W r := by
  simp only [opX] at e
  split at e
  · rename_i c hc
    cases e
    have hx := evC_ok hf x
    have K : ∃ v, VR V c v ∧ (Op.unary op (a.eval x)).run P W = .ok v W := by
      unfold unC at hc
      split at hc
      · rename_i b q
        rw [q] at hx
        cases hc
        obtain ⟨u, h1, h2⟩ := hx
        cases h1
        rw [h2]
        exact ⟨_, ⟨_, rfl, rfl⟩, rfl⟩
      · rename_i b _ q
        rw [q] at hx
        cases hc
        obtain ⟨u, h1, h2⟩ := hx
        rw [h2]
        exact ⟨_, ⟨_, by simp only [BE.den, h1], rfl⟩, rfl⟩
      · rename_i op' k n _ _ _ q
        rw [q] at hx
        obtain ⟨u, h1, h2⟩ := hx
        cases h1
        split at hc
        · rename_i v hv
          cases hc
          rw [h2]
          exact ⟨v, cvOf_ok V v, pureIn_ok _ _ hv W⟩
        · cases hc
      · cases hc
    obtain ⟨v, h1, h2⟩ := K
    exact Goes.value (W' := W) (by simp only [execOp, ho]; rw [Sem.run_bind, h2]; rfl) (Ext.refl h V) h1 hr
  · cases e
theorem op_convert (hts : TS P ts) (hr : Rel w0 h V W) (hf : FR V f a) {s d : TypeId} {x : Operand} (ho : o.op = .convert s d x) (e : opX P ts h f (.convert s d x) = some r) : Goes P w0 h V o a W r := by
  simp only [opX] at e
  split at e
  · rename_i c hc
    cases e
    have hx := evC_ok hf x
    have K : ∃ v, VR V c v ∧ (convert s d (a.eval x)).run P W = .ok v W := by
      have G : ∀ {ks kd : IntKind} {z1 z2 : Nat} {a1 a2 : Bool} {q1 q2 : CV} (k : IntKind) (n : Int), ts.get s = some ⟨.int ks, z1, a1, q1⟩ → ts.get d = some ⟨.int kd, z2, a2, q2⟩ → (convert s d (.int k n)).run P W = .ok (.int kd (kd.wrap n)) W := fun k n h1 h2 => by
        have k1 := kind_int ((tiOf_ok (hts _ _ h1)).choose_spec.choose_spec.2.2.1).symm
        have k2 := kind_int ((tiOf_ok (hts _ _ h2)).choose_spec.choose_spec.2.2.1).symm
        unfold convert
        simp only [Sem.run_bind, run_underlying k1, run_underlying k2, Result.andThen_ok]
        rfl
      unfold convC at hc
      split at hc
      · rename_i h1 h2 q
        rw [q] at hx
        cases hc
        obtain ⟨u, h3, h4⟩ := hx
        cases h3
        rw [h4]
        exact ⟨_, ⟨_, rfl, rfl⟩, G _ _ h1 h2⟩
      · rename_i h1 h2 q
        rw [q] at hx
        cases hc
        obtain ⟨u, h3, h4⟩ := hx
        rw [h4]
        exact ⟨_, ⟨_, by simp only [IE.den, h3], rfl⟩, G _ _ h1 h2⟩
      · cases hc
    obtain ⟨v, h1, h2⟩ := K
    exact Goes.value (W' := W) (by simp only [execOp, ho]; rw [Sem.run_bind, h2]; rfl) (Ext.refl h V) h1 hr
  · cases e
theorem op_makeFunc (hr : Rel w0 h V W) (hf : FR V f a) {g : FuncId} {x y : Array Operand} (ho : o.op = .makeFunc (.func g) x y) (e : opX P ts h f (.makeFunc (.func g) x y) = some r) : Goes P w0 h V o a W r := by
  cases e
  refine Goes.value (v := .func (.func g) (x.map a.eval) (y.map a.eval)) (W' := W) (by simp only [execOp, ho]; rfl) (Ext.refl h V) ⟨x.toList.map a.eval, y.toList.map a.eval, evCs_ok hf _, evCs_ok hf _, ?_⟩ hr
  simp [← Array.toList_map]
theorem op_extract (hr : Rel w0 h V W) (hf : FR V f a) {x : Operand} {i : Nat} (ho : o.op = .extract x i) (e : opX P ts h f (.extract x i) = some r) : Goes P w0 h V o a W r := by
  simp only [opX] at e
  split at e
  · rename_i cs q
    split at e
    · rename_i c hc
      cases e
      have hx := evC_ok hf x
      rw [q] at hx
      obtain ⟨xs, h1, h2⟩ := hx
      obtain ⟨v, h3, h4⟩ := h1.get hc
      refine Goes.value (v := v) (W' := W) ?_ (Ext.refl h V) h4 hr
      simp only [execOp, ho, h2, Instr.extract, List.getElem?_toArray, h3]
      rfl
    · cases e
  · cases e
theorem op_nilCheck (hr : Rel w0 h V W) (hf : FR V f a) {x : Operand} (ho : o.op = .nilCheck x) (e : opX P ts h f (.nilCheck x) = some r) : Goes P w0 h V o a W r := by
  have hx := evC_ok hf x
  simp only [opX] at e
  split at e
  · rename_i q
    cases e
    rw [q] at hx
    have hx' := hx
    obtain ⟨s, h1, h2⟩ := hx
    exact Goes.value (v := a.eval x) (W' := W) (by simp only [execOp, ho, h2]; rfl) (Ext.refl h V) hx' hr
  · rename_i q
    cases e
    rw [q] at hx
    have hx' := hx
    obtain ⟨s, h1, _, _, h2⟩ := hx
    exact Goes.value (v := a.eval x) (W' := W) (by simp only [execOp, ho, h2]; rfl) (Ext.refl h V) hx' hr
  · rename_i q
    cases e
    rw [q] at hx
    have hx' := hx
    obtain ⟨s, h1, h2⟩ := hx
    exact Goes.value (v := a.eval x) (W' := W) (by simp only [execOp, ho, h2]; rfl) (Ext.refl h V) hx' hr
  · cases e
end
end Go.Proofs.YtpjgmeogkomhlaaGreat
