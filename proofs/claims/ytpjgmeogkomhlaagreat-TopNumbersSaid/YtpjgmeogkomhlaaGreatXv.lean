/-
  Operations with guards, calls, and regions that don't draw, run on what is known, are as the code has them. No conditions but those named.
-/
import Derived.Test.YtpjgmeogkomhlaaGreatPf
import Derived.Test.YtpjgmeogkomhlaaGreatXd
import Derived.Orders
namespace Go.Proofs.YtpjgmeogkomhlaaGreat
open Go.RowKit
/-- A function that may be entered. -/
def Ent (P : Program) (id : FuncId) : Prop := ∃ fn c, P.funcs[id]? = some fn ∧ (fn.name == "runtime.NumGoroutine") = false ∧ fn.body = some c
/-- How functions run is right. -/
def CallOK (P : Program) (cl : Caller) : Prop := ∀ id args h l, cl id args h = some l → Ent P id ∧ ∀ (w0 : World) (V : Va) (W : World) (vs : List Value), Rel w0 h V W → VRs V args vs →
  Calls P id vs.toArray W (fun e W' => ∃ x ∈ l, ∃ V' v, e = .returned v ∧ Ext h V x.2 V' ∧ VR V' x.1 v ∧ Rel w0 x.2 V' W')
/-- One of the ways that a run tells of. -/
def Outs (w0 : World) (h : CH) (V : Va) (l : List (Fr × CH)) (a : Act) (W : World) : Prop := ∃ x ∈ l, ∃ V', Ext h V x.2 V' ∧ FR V' x.1 a ∧ Rel w0 x.2 V' W
theorem Outs.mono {w0 : World} {h h' : CH} {V V' : Va} {l l' : List (Fr × CH)} {a : Act} {W : World} (hE : Ext h V h' V') (hl : ∀ x ∈ l, x ∈ l') (ho : Outs w0 h' V' l a W) : Outs w0 h V l' a W :=
  let ⟨x, h1, V'', h2, h3, h4⟩ := ho
  ⟨x, hl x h1, V'', hE.trans h2, h3, h4⟩
theorem eachX_ok {α β : Type} {g : α → Option (List β)} : ∀ {l : List α} {out : List β}, eachX g l = some out → ∀ x ∈ l, ∃ l', g x = some l' ∧ ∀ y ∈ l', y ∈ out
  | [], _, _, x, hx => by cases hx
  | a :: as', out, e, x, hx => by
    simp only [eachX] at e
    split at e
    · cases e
    · rename_i l1 h1
      split at e
      · cases e
      · rename_i l2 h2
        cases e
        rcases List.mem_cons.1 hx with rfl | hm
        · exact ⟨l1, h1, fun y hy => List.mem_append_left _ hy⟩
        · obtain ⟨l', h3, h4⟩ := eachX_ok h2 x hm
          exact ⟨l', h3, fun y hy => List.mem_append_right _ (h4 y hy)⟩
theorem want_ok {ops : Array Oper} {V : Va} {f : Fr} {a : Act} {o : Oper} (hg : ∀ j w d c, o.guard = some (j, w) → (ops[j]?).bind (·.dst) = some d → f.t.get d = some c → d < a.tmps.size ∧ VR V c (a.tmps.getD d undef)) :
    match wantX ops f o with
    | .yes => Region.wanted o (yielded ops a.tmps) = true
    | .no => Region.wanted o (yielded ops a.tmps) = false
    | .hangs s w => ∃ b, s.den V = some b ∧ Region.wanted o (yielded ops a.tmps) = (b == w)
    | .odd => True := by
  unfold wantX
  cases hgd : o.guard with
  | none => simp [Region.wanted, hgd]
  | some jw =>
    obtain ⟨j, w⟩ := jw
    simp only
    cases hd : (ops[j]?).bind (·.dst) with
    | none => trivial
    | some d =>
      simp only
      have hw : Region.wanted o (yielded ops a.tmps) = (yielded ops a.tmps j == some w) := by simp [Region.wanted, hgd]
      cases hc : f.t.get d with
      | none => trivial
      | some c =>
        obtain ⟨h1, h2⟩ := hg j w d c hgd hd hc
        have hy : yielded ops a.tmps j = match a.tmps.getD d undef with | .bool b => some b | _ => none := by
          unfold yielded
          rw [hd]
          simp only [Option.bind_some, Array.getElem?_eq_getElem h1]
          rw [show a.tmps.getD d undef = a.tmps[d] by simp [Array.getD, h1]]
          cases a.tmps[d] <;> rfl
        split
        · rename_i q
          split at q
          · rename_i b hcb
            cases hcb
            obtain ⟨b', h3, h4⟩ := h2
            cases h3
            rw [hw, hy, h4]
            split at q
            · rename_i hbw; simpa using hbw
            · cases q
          · cases q
          · cases q
          · cases q
          · cases q
        · rename_i q
          split at q
          · rename_i b hcb
            cases hcb
            obtain ⟨b', h3, h4⟩ := h2
            cases h3
            rw [hw, hy, h4]
            split at q
            · cases q
            · rename_i hbw; simpa using hbw
          · cases q
          · cases q
          · rename_i hcb
            cases hcb
            obtain ⟨xs, h3, h4⟩ := h2
            rw [show xs = [] from h3] at h4
            rw [hw, hy, h4]
            rfl
          · cases q
        · rename_i s' w' q
          split at q
          · split at q <;> cases q
          · rename_i e hcb
            cases hcb
            cases q
            obtain ⟨b', h3, h4⟩ := h2
            refine ⟨b', h3, ?_⟩
            rw [hw, hy, h4]
            rfl
          · rename_i s v e hcb
            cases hcb
            cases q
            obtain ⟨b', h3, h4, h5⟩ := h2
            by_cases hb : b' = v
            · obtain ⟨be, h6, h7⟩ := h4 hb
              refine ⟨be == w, ?_, ?_⟩
              · subst hb
                cases b' <;> cases w <;> simp [BE.den, h3, h6]
              · rw [hw, hy, h7]
                cases be <;> cases w <;> rfl
            · have h6 := h5 hb
              refine ⟨false, ?_, ?_⟩
              · cases b' <;> cases v <;> first | exact absurd rfl hb | (cases w <;> simp [BE.den, h3])
              · rw [hw, hy, h6]
                rfl
          · cases q
          · cases q
        · trivial
theorem enter_run {P : Program} {id : FuncId} (h : Ent P id) (args : Array Value) (W : World) : (callFunc id args).run P W = .ok (.enter id args) W := by
  obtain ⟨fn, c, h1, h2, h3⟩ := h
  unfold callFunc
  rw [Sem.run_bind, run_program]
  simp only [Result.andThen_ok, h1, h2, h3, Bool.false_eq_true, if_false, Option.isNone_some]
  rfl
section
variable {P : Program} {ts : Tr TI} {w0 : World} {h : CH} {V : Va} {f : Fr} {a : Act} {W : World} {o : Oper} {cl : Caller} {ops : Array Oper}
theorem callX_ok (hts : TS P ts) (hcl : CallOK P cl) (hr : Rel w0 h V W) (hf : FR V f a) {l : List (CV × CH)} (e : callX P ts cl h f o.op = some l) (K : Act → World → Prop) (Q : Exit → Act → World → Prop)
    (hK : ∀ x ∈ l, ∀ V' v W', Ext h V x.2 V' → VR V' x.1 v → Rel w0 x.2 V' W' → K (a.put o.dst v) W') : o.wp P a W K Q := by
  have plain : ∀ x, opX P ts h f o.op = some x → l = [x] → o.wp P a W K Q := fun x hx hl => by
    obtain ⟨V', v, W', h1, h2, h3, h4⟩ := opX_ok hts hr hf o.op rfl hx
    exact h4 K Q (hK x (by rw [hl]; exact List.mem_singleton.2 rfl) V' v W' h1 h2 h3)
  unfold callX at e
  split at e
  · rename_i c hc
    split at e
    · rename_i g hg
      split at e
      · rename_i id first captured hv
        obtain ⟨hE, hC⟩ := hcl _ _ _ _ e
        have hx := evC_ok hf g
        rw [hv] at hx
        obtain ⟨xs, ys, h1, h2, h3⟩ := hx
        have hargs := (h1.append (evCs_ok hf c.args.toList)).append h2
        have C := hC w0 V W _ hr hargs
        unfold Oper.wp
        have hrun : (execOp a.eval o).run P W = .ok (.enter id (xs ++ c.args.toList.map a.eval ++ ys).toArray) W := by
          simp only [execOp, hc]
          rw [Sem.run_bind]
          unfold resolve
          simp only [hg, h3, Deferred.ofValue, Sem.run_pure, Result.andThen_ok]
          have ha : xs.toArray ++ c.args.map a.eval ++ ys.toArray = (xs ++ c.args.toList.map a.eval ++ ys).toArray := by
            apply Array.ext'
            simp
          rw [← ha]
          exact enter_run hE _ _
        rw [hrun, Oper.upon_enter]
        refine C.mono ?_
        rintro e W' ⟨x, hx, V', v, rfl, hE', hv', hr'⟩
        exact hK x hx V' v W' hE' hv' hr'
      · cases e
    · split at e
      · rename_i x hx
        cases e
        exact plain x hx rfl
      · cases e
  · split at e
    · rename_i x hx
      cases e
      exact plain x hx rfl
    · cases e
theorem okDst_ok {d : Option Tmp} (hd : okDst f d = true) : ∀ t, d = some t → t < f.n := fun t e => by
  subst e
  simpa [okDst] using hd
theorem builtC_same {b : Builtin} {tys : List TypeId} {xs : List CV} (hb : (match b with | .len => true | .cap => true | .min => true | .max => true | _ => false) = true) {c : CV} {h' : CH} (e : builtC ts b tys xs h = some (c, h')) : h' = h := by
  cases b <;> first | (cases hb; done) | skip
  · rcases xs with _ | ⟨x, _ | ⟨y, zs⟩⟩
    · cases e
    · simp only [builtC] at e
      split at e
      · split at e
        · split at e <;> cases e; rfl
        · cases e
      · cases e
    · cases e
  · rcases xs with _ | ⟨x, _ | ⟨y, zs⟩⟩
    · cases e
    · simp only [builtC] at e
      split at e
      · split at e
        · split at e <;> cases e; rfl
        · split at e <;> cases e; rfl
        · cases e
      · cases e
    · cases e
  · rcases xs with _ | ⟨x, zs⟩
    · cases e
    · simp only [builtC] at e
      split at e <;> cases e; rfl
  · rcases xs with _ | ⟨x, zs⟩
    · cases e
    · simp only [builtC] at e
      split at e <;> cases e; rfl
/-- Operations that leave memory as it is. -/
theorem still_plain (hk : plainOp o.op = true) {c : CV} {h' : CH} (e : opX P ts h f o.op = some (c, h')) : h' = h := by
  cases hop : o.op with
  | call cc =>
    rw [hop] at hk e
    simp only [plainOp] at hk
    simp only [opX] at e
    split at e
    · rename_i b hb
      rw [hb] at hk
      exact builtC_same (by cases b <;> first | rfl | cases hk) e
    · cases e
  | makeFunc fn x y =>
    rw [hop] at e
    cases fn <;> simp only [opX] at e <;> first | (cases e; rfl) | cases e
  | build t ps =>
    rw [hop] at e
    simp only [opX] at e
    split at e
    · split at e
      · split at e
        · split at e
          · cases e; rfl
          · cases e
        · split at e
          · cases e
          · split at e
            · cases e; rfl
            · cases e
        · cases e
      · cases e
    · cases e
  | move _ => rw [hop] at e; cases e; rfl
  | assign _ => rw [hop] at e; cases e; rfl
  | pick _ _ _ => rw [hop] at e; simp only [opX] at e; split at e <;> cases e; rfl
  | binOp _ _ _ _ _ => rw [hop] at e; simp only [opX] at e; split at e <;> cases e; rfl
  | unOp _ _ _ => rw [hop] at e; simp only [opX] at e; split at e <;> cases e; rfl
  | convert _ _ _ => rw [hop] at e; simp only [opX] at e; split at e <;> cases e; rfl
  | nilCheck _ => rw [hop] at e; simp only [opX] at e; split at e <;> cases e <;> rfl
  | sliceToArrayPointer _ _ => rw [hop] at e; simp only [opX] at e; split at e <;> (try cases e; done); split at e <;> cases e; rfl
  | fieldAddr _ _ _ => rw [hop] at e; simp only [opX] at e; split at e <;> (try cases e; done); split at e <;> (try cases e; done); split at e <;> cases e; rfl
  | field _ _ _ => rw [hop] at e; simp only [opX] at e; split at e <;> (try cases e; done); split at e <;> (try cases e; done); split at e <;> cases e; rfl
  | indexAddr _ _ _ => rw [hop] at e; simp only [opX] at e; split at e <;> (try cases e; done) <;> split at e <;> cases e <;> rfl
  | index _ _ _ => rw [hop] at e; simp only [opX] at e; split at e <;> (try cases e; done); split at e <;> (try cases e; done); split at e <;> cases e; rfl
  | extract _ _ => rw [hop] at e; simp only [opX] at e; split at e <;> (try cases e; done); split at e <;> cases e; rfl
  | _ => rw [hop] at hk; cases hk
theorem still_same (hk : (plainOp o.op || lookOp o.op) = true) {c : CV} {h' : CH} (e : opX P ts h f o.op = some (c, h')) (hn : h'.n = h.n) : h' = h := by
  rcases Bool.or_eq_true _ _ ▸ hk with hp | hl
  · exact still_plain hp e
  cases hop : o.op with
  | slice t x lo hi mx =>
    rw [hop] at e
    simp only [opX] at e
    split at e
    · split at e
      · split at e
        · cases e; rfl
        · unfold restC at e
          split at e
          · split at e
            · split at e
              · cases e
                simp at hn
              · cases e
            · cases e
          · cases e
      · cases e
    · split at e
      · split at e
        · split at e
          · cases e; rfl
          · cases e
        · cases e
      · cases e
    · cases e
  | lookup t m k ok =>
    rw [hop] at e
    cases ok <;> simp only [opX] at e <;> split at e <;> (try cases e; done) <;> split at e <;> (try cases e; done) <;> split at e <;> cases e <;> rfl
  | load _ _ =>
    rw [hop] at e
    simp only [opX] at e
    split at e
    · split at e
      · split at e
        · split at e <;> cases e; rfl
        · split at e <;> cases e; rfl
      · cases e
    · cases e
  | _ => rw [hop] at hl; cases hl
theorem stripX_ok {s : BE} {w : Bool} (hs : s.den V = some w) {c : CV} {v : Value} (hv : VR V c v) : VR V (stripX s w c) v := by
  unfold stripX
  split
  · rename_i s' w' c0
    split
    · rename_i hc
      simp only [Bool.and_eq_true, beq_iff_eq] at hc
      obtain ⟨b, h1, h2, _⟩ := hv
      have := BE.same_eq _ _ hc.1
      subst this
      rw [hs] at h1
      cases h1
      exact h2 hc.2.symm
    · exact hv
  · exact hv
theorem stripT_get {s : BE} {w : Bool} : ∀ {l : List Tmp} {p : Tmp} {c : CV}, (stripT s w f l).get p = some c → ∃ c0, f.t.get p = some c0 ∧ c = stripX s w c0
  | [], _, _, e => by cases e
  | q :: l, p, c, e => by
    simp only [stripT] at e
    split at e
    · rename_i c0 h0
      by_cases hq : p = q
      · subst hq
        rw [Tr.get_set] at e
        cases e
        exact ⟨c0, h0, rfl⟩
      · rw [Tr.get_set_ne _ _ hq] at e
        exact stripT_get e
    · exact stripT_get e
theorem strip_FR {s : BE} {w : Bool} (hs : s.den V = some w) (hf : FR V f a) (l : List Tmp) : FR V (stripF s w f l) a :=
  ⟨hf.1, hf.2.1, fun p c hc => by
    obtain ⟨c0, h1, h2⟩ := stripT_get (show (stripT s w f l).get p = some c from hc)
    obtain ⟨h3, h4⟩ := hf.2.2 p c0 h1
    subst h2
    exact ⟨h3, stripX_ok hs h4⟩⟩
/-- An operation with its guard. -/
theorem oneV_ok (hts : TS P ts) (hcl : CallOK P cl) (hr : Rel w0 h V W) (hf : FR V f a) {l : List (CV × CH)} (e : oneV P ts cl ops o f h = some l) (K : Act → World → Prop) (Q : Exit → Act → World → Prop)
    (hK : ∀ x ∈ l, ∀ V' v W', Ext h V x.2 V' → VR V' x.1 v → Rel w0 x.2 V' W' → K (a.put o.dst v) W') : if Region.wanted o (yielded ops a.tmps) then o.wp P a W K Q else K (a.put o.dst undef) W := by
  unfold oneV at e
  have hw := want_ok (ops := ops) (V := V) (f := f) (a := a) (o := o) (fun j w d c _ _ hc => by
    obtain ⟨h1, h2⟩ := hf.2.2 d c hc
    exact ⟨by rw [hf.1]; exact h1, h2⟩)
  split at e
  · cases e
  · rename_i hq
    cases e
    rw [hq] at hw
    rw [if_neg (by rw [hw]; simp)]
    exact hK _ (List.mem_singleton.2 rfl) V undef W (Ext.refl h V) ⟨[], rfl, rfl⟩ hr
  · rename_i hq
    rw [hq] at hw
    rw [if_pos hw]
    exact callX_ok hts hcl hr hf e K Q hK
  · rename_i s w hq
    rw [hq] at hw
    obtain ⟨b, h1, h2⟩ := hw
    split at e
    · rename_i hk
      split at e
      · rename_i c h' hx
        split at e
        · rename_i hn
          cases e
          by_cases hb : b = w
          · rw [if_pos (by rw [h2]; simpa using hb)]
            obtain ⟨V', v, W', g1, g2, g3, g4⟩ := opX_ok hts hr (strip_FR (by rw [← hb]; exact h1) hf _) o.op rfl hx
            have := still_same hk hx hn
            subst this
            exact g4 K Q (hK _ (List.mem_singleton.2 rfl) V' v W' g1 ⟨b, BE.den_mono g1.le s b h1, fun _ => g2, fun q => absurd hb q⟩ g3)
          · rw [if_neg (by rw [h2]; simpa using hb)]
            exact hK _ (List.mem_singleton.2 rfl) V undef W (Ext.refl h V) ⟨b, h1, fun q => absurd q hb, fun _ => rfl⟩ hr
        · cases e
      · cases e
    · cases e
theorem oneX_ok (hts : TS P ts) (hcl : CallOK P cl) (hr : Rel w0 h V W) (hf : FR V f a) {l : List (Fr × CH)} (e : oneX P ts cl ops o f h = some l) (K : Act → World → Prop) (Q : Exit → Act → World → Prop)
    (hK : ∀ a' W', Outs w0 h V l a' W' → K a' W') : if Region.wanted o (yielded ops a.tmps) then o.wp P a W K Q else K (a.put o.dst undef) W := by
  unfold oneX at e
  split at e
  · rename_i hd
    have hd := okDst_ok hd
    split at e
    · cases e
    · rename_i l' hl
      cases e
      exact oneV_ok hts hcl hr hf hl K Q fun x hx V' v W' h1 h2 h3 => hK _ _ ⟨(f.put o.dst x.1, x.2), List.mem_map.2 ⟨x, hx, rfl⟩, V', h1, (hf.mono h1.le).put hd h2, h3⟩
  · cases e
theorem opsX_ok (hts : TS P ts) (hcl : CallOK P cl) (Q : Exit → Act → World → Prop) : ∀ (m i : Nat) (f : Fr) (h : CH) (V : Va) (a : Act) (W : World) (outs : List (Fr × CH)), ops.size = i + m → opsX P ts cl ops (ops.toList.drop i) f h = some outs → Rel w0 h V W → FR V f a → (∀ a' W', Outs w0 h V outs a' W' → Q .normal a' W') → wpOps P ops Q (List.range' i m) a W
  | 0, i, f, h, V, a, W, outs, hs, e, hr, hf, hQ => by
    have hd : ops.toList.drop i = [] := List.drop_eq_nil_of_le (by simp; omega)
    rw [hd] at e
    cases e
    exact hQ a W ⟨_, List.mem_singleton.2 rfl, V, Ext.refl h V, hf, hr⟩
  | m + 1, i, f, h, V, a, W, outs, hs, e, hr, hf, hQ => by
    have hi : i < ops.toList.length := by simp; omega
    rw [List.drop_eq_getElem_cons hi] at e
    have ho : ops[i]? = some ops.toList[i] := by
      rw [← Array.getElem?_toList, List.getElem?_eq_getElem hi]
    simp only [opsX] at e
    split at e
    · cases e
    · rename_i l hl
      rw [List.range'_succ]
      simp only [wpOps, ho]
      have H := oneX_ok hts hcl hr hf hl (wpOps P ops Q (List.range' (i + 1) m)) Q (fun a' W' ⟨x, hx, V', h1, h2, h3⟩ => by
        obtain ⟨l', h4, h5⟩ := eachX_ok e x hx
        exact opsX_ok hts hcl Q m (i + 1) x.1 x.2 V' a' W' l' (by omega) h4 h3 h2 (fun a'' W'' ho => hQ a'' W'' (ho.mono h1 h5)))
      by_cases hw : Region.wanted ops.toList[i] (yielded ops a.tmps) = true
      · rw [if_pos hw] at H
        rw [if_pos hw]
        exact .inl H
      · rw [if_neg hw] at H
        rw [if_neg hw]
        exact H
end
end Go.Proofs.YtpjgmeogkomhlaaGreat
