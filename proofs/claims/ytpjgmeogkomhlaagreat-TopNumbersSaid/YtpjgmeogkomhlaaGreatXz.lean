/-
  Regions that draw, run on what is known, are as the code has them, whatever is drawn. No conditions but those named.
-/
import Derived.Test.YtpjgmeogkomhlaaGreatXy
namespace Go.Proofs.YtpjgmeogkomhlaaGreat
open Go.RowKit
theorem getD_set_self {L : Array Bool} {k : Nat} (d : Bool) (h : k < L.size) : (L.setIfInBounds k true).getD k d = true := by
  simp [h]
theorem getD_both {L : Array Bool} {k : Nat} (h : k < L.size) (d d' : Bool) : L.getD k d = L.getD k d' := by
  simp [h]
theorem ord_first {ops : Array Oper} {L : Array Bool} : ∀ {d : List Nat}, Ord ops d → (∃ k ∈ d, L.getD k false = false) → ∃ m ∈ d, L.getD m false = false ∧ ∃ o, ops[m]? = some o ∧ ∀ e ∈ o.after, Region.binds .any e = true → L.getD e.on false = true
  | [], _, ⟨_, h, _⟩ => by cases h
  | k :: d, ⟨⟨o, h1, h2⟩, hO⟩, ⟨k', h3, h4⟩ => by
    by_cases hd : ∃ k ∈ d, L.getD k false = false
    · obtain ⟨m, m1, m2⟩ := ord_first hO hd
      exact ⟨m, List.mem_cons_of_mem _ m1, m2⟩
    · have hall : ∀ i ∈ d, L.getD i false = true := fun i hi => by
        cases q : L.getD i false with
        | true => rfl
        | false => exact absurd ⟨i, hi, q⟩ hd
      rcases List.mem_cons.1 h3 with rfl | h3
      · exact ⟨_, List.mem_cons_self, h4, o, h1, fun e he hb => hall _ (h2 e he hb)⟩
      · rw [hall _ h3] at h4; cases h4
mutual
theorem CV.same_eq : ∀ a b : CV, CV.same a b = true → a = b
  | .any, b, h => by cases b <;> first | rfl | cases h
  | .nilp, b, h => by cases b <;> first | rfl | cases h
  | .nilf, b, h => by cases b <;> first | rfl | cases h
  | .bool x, b, h => by
    cases b <;> first | (cases h; done) | skip
    simp only [CV.same] at h
    rw [BE.same_eq _ _ h]
  | .int k x, b, h => by
    cases b <;> first | (cases h; done) | skip
    simp only [CV.same, Bool.and_eq_true, beq_iff_eq] at h
    rw [h.1, IE.same_eq _ _ h.2]
  | .ptr x y, b, h => by
    cases b <;> first | (cases h; done) | skip
    simp only [CV.same, Bool.and_eq_true] at h
    rw [Nat.eq_of_beq_eq_true h.1, Nat.eq_of_beq_eq_true h.2]
  | .map x, b, h => by
    cases b <;> first | (cases h; done) | skip
    simp only [CV.same] at h
    rw [Nat.eq_of_beq_eq_true h]
  | .slice x es len cap, b, h => by
    cases b <;> first | (cases h; done) | skip
    rename_i x' es' len' cap'
    simp only [CV.same, Bool.and_eq_true] at h
    obtain ⟨⟨⟨h1, h2⟩, h3⟩, h4⟩ := h
    have e1 : x = x' := by
      cases x with
      | none => cases x' <;> first | rfl | cases h1
      | some y =>
        cases x' with
        | none => cases h1
        | some y' =>
          obtain ⟨b, o⟩ := y
          obtain ⟨b', o'⟩ := y'
          simp only [Bool.and_eq_true] at h1
          rw [Nat.eq_of_beq_eq_true h1.1, Nat.eq_of_beq_eq_true h1.2]
    have e4 : cap = cap' := by
      cases cap <;> cases cap' <;> first | (cases h4; done) | skip
      · rw [Nat.eq_of_beq_eq_true h4]
      · simp only [Bool.and_eq_true] at h4
        rw [Nat.eq_of_beq_eq_true h4.1, Nat.eq_of_beq_eq_true h4.2]
    rw [e1, Nat.eq_of_beq_eq_true h2, Nat.eq_of_beq_eq_true h3, e4]
  | .func x y z, b, h => by
    cases b <;> first | (cases h; done) | skip
    simp only [CV.same, Bool.and_eq_true] at h
    rw [Nat.eq_of_beq_eq_true h.1.1, CV.sames_eq _ _ h.1.2, CV.sames_eq _ _ h.2]
  | .agg x, b, h => by
    cases b <;> first | (cases h; done) | skip
    simp only [CV.same] at h
    rw [CV.sames_eq _ _ h]
  | .tup x, b, h => by
    cases b <;> first | (cases h; done) | skip
    simp only [CV.same] at h
    rw [CV.sames_eq _ _ h]
  | .cond x y z, b, h => by
    cases b <;> first | (cases h; done) | skip
    simp only [CV.same, Bool.and_eq_true, beq_iff_eq] at h
    rw [BE.same_eq _ _ h.1.1, h.1.2, CV.same_eq _ _ h.2]
theorem CV.sames_eq : ∀ a b : List CV, CV.sames a b = true → a = b
  | [], b, h => by cases b <;> first | rfl | cases h
  | x :: xs, b, h => by
    cases b <;> first | (cases h; done) | skip
    simp only [CV.sames, Bool.and_eq_true] at h
    rw [CV.same_eq _ _ h.1, CV.sames_eq _ _ h.2]
end
theorem reach_in {ops : Array Oper} {L : Array Bool} (hs : ∀ k o, ops[k]? = some o → L.getD k false = true → ∀ e ∈ o.after, Region.binds .any e = true → L.getD e.on false = true) : ∀ (n j k : Nat), (∀ o, ops[j]? = some o → ∀ e ∈ o.after, Region.binds .any e = true → L.getD e.on false = true) → reaches ops n j k = true → L.getD k false = true
  | 0, _, _, _, h => by cases h
  | n + 1, j, k, hj, h => by
    unfold reaches at h
    split at h
    · cases h
    · rename_i o ho
      simp only [List.any_eq_true, Bool.and_eq_true, Bool.or_eq_true, beq_iff_eq] at h
      obtain ⟨e, h1, h2, h3⟩ := h
      have hL := hj o ho e (by simpa using h1) h2
      rcases h3 with rfl | h3
      · exact hL
      · exact reach_in hs n e.on k (fun o' ho' => hs _ o' ho' hL) h3
section
variable {P : Program} {ts : Tr TI} {w0 : World} {h h' : CH} {V V' : Va} {f f' g : Fr} {a : Act} {W : World} {o : Oper} {cl : Caller} {ops : Array Oper} {h0 : CH} {V0 : Va} {done : List Nat} {L : Array Bool} {N : Nat → Option (Nat × CB)}
/-- What an operation that comes up looks at is there. -/
theorem Inv.looks (I : Inv P ts ops w0 h0 V0 done L N f h a V W) {l : List Tmp} (hp : ∀ p ∈ l, ∀ k ∈ done, L.getD k false = false → ∀ ok, ops[k]? = some ok → ok.dst ≠ some p) : FR V (f.only l) a :=
  only_FR I.tm I.df fun p hm c hc => let ⟨h1, h2⟩ := I.fr p c hc; ⟨h1, h2 (hp p hm)⟩
theorem Inv.lt (I : Inv P ts ops w0 h0 V0 done L N f h a V W) {k : Nat} (ho : ops[k]? = some o) : k < L.size := by
  rw [I.size]
  exact (Array.getElem?_eq_some_iff.1 ho).1
/-- An operation that was taken at once comes up. -/
theorem pend_ok (hts : TS P ts) (I : Inv P ts ops w0 h0 V0 done L N f h a V W) {k : Nat} (hk : k ∈ done) (hL : L.getD k false = false) (ho : ops[k]? = some o) (hrd : ∀ e ∈ o.after, Region.binds .any e = true → L.getD e.on false = true) (K : Act → World → Prop) (Q : Exit → Act → World → Prop)
    (hK : ∀ a' V' W', Inv P ts ops w0 h0 V0 done (L.setIfInBounds k true) N f h a' V' W' → K a' W') : if Region.wanted o (yielded ops a.tmps) then o.wp P a W K Q else K (a.put o.dst undef) W := by
  obtain ⟨o1, q1, hP⟩ := I.pend k hk hL
  rw [ho] at q1
  cases q1
  have hlt := I.lt ho
  have hlk : ∀ p ∈ o.looksAt ops, ∀ k' ∈ done, L.getD k' false = false → ∀ ok, ops[k']? = some ok → ok.dst ≠ some p := fun p hp k' hk' hL' ok hok hd => by
    obtain ⟨e, e1, e2, e3⟩ := I.reads k k' hk hk' hL o ok p ho hok hd hp
    have := hrd e e1 e2
    rw [e3, hL'] at this
    cases this
  have hF := I.looks hlk
  have hget : ∀ p ∈ o.looksAt ops, (f.only (o.looksAt ops)).t.get p = f.t.get p := fun p hp => onlyT_in hp
  have hw := want_ok (ops := ops) (V := V) (f := f.only (o.looksAt ops)) (a := a) (o := o) (fun j w d c _ _ hc => by
    obtain ⟨h1, h2⟩ := hF.2.2 d c hc
    exact ⟨by rw [hF.1]; exact h1, h2⟩)
  rw [want_looks hget] at hw
  -- what is kept behind it
  have keep : ∀ (c : CV) (v : Value) (V' : Va) (W' : World), atD f o c → VR V' c v → Rel w0 h V' W' → Ext h0 V0 h V' → V.le V' → (∀ k' n ob, k' ∈ done → k' ≠ k → L.getD k' false = false → N k' = some (n, ob) → V.blk n = none → V'.blk n = none) → K (a.put o.dst v) W' := by
    intro c v V' W' hat hv hR hE hle hN
    have hmem : ∀ {k' : Nat}, (L.setIfInBounds k true).getD k' false = false → k' ≠ k ∧ L.getD k' false = false := fun {k'} q => by
      by_cases e : k' = k
      · subst e
        rw [getD_set_self _ hlt] at q; cases q
      · exact ⟨e, by rw [getD_set_ne _ (Ne.symm e)] at q; exact q⟩
    refine hK _ V' W' ⟨hR, hE, by simpa using I.size, fun k' q => ?_, fun k' ok hok q e he hb => ?_, ?_, ?_, ?_, ?_, ?_, I.dsts, ?_, I.ord⟩
    · by_cases e : k' = k
      · subst e; exact hk
      · rw [getD_set_ne _ (Ne.symm e)] at q
        exact I.sub k' q
    · by_cases e' : k' = k
      · subst e'
        rw [ho] at hok
        cases hok
        exact getD_set_true (hrd e he hb)
      · rw [getD_set_ne _ (Ne.symm e')] at q
        exact getD_set_true (I.shut k' ok hok q e he hb)
    · cases q : o.dst with
      | none => exact I.tm
      | some d => simpa [Act.put] using I.tm
    · cases q : o.dst with
      | none => exact I.df
      | some d => exact I.df
    · intro p c' hc
      obtain ⟨g1, g2⟩ := I.fr p c' hc
      refine ⟨g1, fun hh => ?_⟩
      by_cases hd : o.dst = some p
      · have := hat p hd
        rw [hc] at this
        cases this
        rw [hd]
        have hs : p < a.tmps.size := by rw [I.tm]; exact g1
        simpa [Act.put, hs] using hv
      · have hold := g2 fun k' hk' hL' ok hok => by
          by_cases e : k' = k
          · subst e
            rw [ho] at hok
            cases hok
            exact hd
          · exact hh k' hk' (by rw [getD_set_ne _ (Ne.symm e)]; exact hL') ok hok
        have : (a.put o.dst v).tmps.getD p undef = a.tmps.getD p undef := by
          cases q : o.dst with
          | none => rfl
          | some d =>
            have hne : d ≠ p := fun e => hd (by rw [q, e])
            simp [Act.put, Array.getElem?_setIfInBounds_ne hne]
        rw [this]
        exact VR.mono hle _ _ hold
    · intro k' hk' hL'
      obtain ⟨hne, hL''⟩ := hmem hL'
      obtain ⟨ok, hok, hp⟩ := I.pend k' hk' hL''
      exact ⟨ok, hok, hp.move rfl (fun _ _ => rfl) (fun _ _ => rfl) (fun _ _ he => he) (Nat.le_refl _) fun n ob hn _ hv => ⟨hN k' n ob hk' hne hL'' hn hv, rfl⟩⟩
    · intro k1 k2 n ob ob' h1 h2 h3 h4
      exact I.names k1 k2 n ob ob' h1 h2 (hmem h3).2 (hmem h4).2
    · intro k1 k2 h1 h2 h3
      exact I.reads k1 k2 h1 h2 (hmem h3).2
  obtain ⟨hok, hlt', hP⟩ := hP
  -- an operation that leaves memory as it is
  have still : ∀ c, opX P ts h f o.op = some (c, h) → ∃ V' v W', Ext h V h V' ∧ VR V' c v ∧ Rel w0 h V' W' ∧ ∀ (K : Act → World → Prop) (Q : Exit → Act → World → Prop), K (a.put o.dst v) W' → o.wp P a W K Q := fun c hx => opX_ok hts I.rel hF o.op rfl ((op_looks hget).trans hx)
  have nm : ∀ {V' : Va}, Ext h V h V' → ∀ k' n ob, k' ∈ done → k' ≠ k → L.getD k' false = false → N k' = some (n, ob) → V.blk n = none → V'.blk n = none := fun {V'} hE k' n ob h1 _ h3 h4 h5 => by
    obtain ⟨ok, _, hp⟩ := I.pend k' h1 h3
    exact (hE.old n (pend_lt hp h4) h5).1
  cases q : wantX ops f o with
  | odd => rw [q] at hP; exact hP.elim
  | no =>
    rw [q] at hP hw
    rw [if_neg (by rw [hw]; simp)]
    exact keep _ undef V W hP ⟨[], rfl, rfl⟩ I.rel I.ext (Va.le.refl V) (fun _ _ _ _ _ _ _ e => e)
  | yes =>
    rw [q] at hP hw
    rw [if_pos hw]
    cases hN : N k with
    | none =>
      rw [hN] at hP
      obtain ⟨_, c, hx, hat⟩ := hP
      obtain ⟨V', v, W', g1, g2, g3, g4⟩ := still c (by unfold actF at hx; rw [q] at hx; exact hx)
      exact g4 K Q (keep c v V' W' hat g2 g3 (I.ext.trans g1) g1.le (nm g1))
    | some x =>
      obtain ⟨n, ob⟩ := x
      rw [hN] at hP
      obtain ⟨hk2, c, hh, hx, hn, hat, h5, h6, h7, h8⟩ := hP
      obtain ⟨ob', e1, v, obj, sz, e2, e3, e4⟩ := alloc_late hts hF W hk2 ((op_looks hget).trans hx)
      have : ob = ob' := by
        have z1 : (hh.push ob).t.get hh.n = some ob := CH.push_get
        rw [e1, CH.push_get] at z1
        cases z1
        rfl
      subst this
      rw [hn] at e3
      let s : Spot := ⟨W.heap.size, 0, sz⟩
      have R : Rel w0 h (V.setBlk n s) (W.alloc obj) := I.rel.name n s h6 h7 ((Below.refl _ _).alloc (Nat.le_refl _) _) (by simp [s]) (fun o' ho' => by
        rw [h8] at ho'
        cases ho'
        exact e4 _ I.rel.siz) (fun o' _ _ b o2 s' hb _ hs' => by
        have := I.rel.there b s' hs'
        show s'.blk ≠ W.heap.size
        omega)
      have le := Va.le_setBlk s h7
      unfold Oper.wp
      rw [e2, Oper.upon_value]
      refine keep c v _ _ hat (e3 _ le Va.setBlk_same) R ⟨I.ext.le.trans le, I.ext.n, fun b hb hv => ?_⟩ le (fun k' n' ob2 h1 h2 h3 h4 hv => ?_)
      · obtain ⟨z1, z2⟩ := I.ext.old b hb hv
        exact ⟨(Va.setBlk_ne (by omega)).trans z1, z2⟩
      · refine (Va.setBlk_ne fun e => ?_).trans hv
        subst e
        exact h2 (I.names k' k _ _ _ h1 hk h3 hL h4 hN)
  | hangs s w =>
    rw [q] at hP hw
    obtain ⟨b, w1, w2⟩ := hw
    obtain ⟨_, c, hx, hat⟩ := hP
    by_cases hb : b = w
    · rw [if_pos (by rw [w2]; simpa using hb)]
      have w3 : s.den V = some w := by rw [← hb]; exact w1
      have hx' : opX P ts h (stripF s w f (o.looksAt ops)) o.op = some (c, h) := by
        unfold actF at hx
        rw [q] at hx
        exact hx
      obtain ⟨V', v, W', g1, g2, g3, g4⟩ := opX_ok hts I.rel (strip_FR w3 hF (o.looksAt ops)) o.op rfl ((strip_looks hget).trans hx')
      exact g4 K Q (keep _ v V' W' hat ⟨b, BE.den_mono g1.le s b w1, fun _ => g2, fun q => absurd hb q⟩ g3 (I.ext.trans g1) g1.le (nm g1))
    · rw [if_neg (by rw [w2]; simpa using hb)]
      exact keep _ undef V W hat ⟨b, w1, fun q => absurd q hb, fun _ => rfl⟩ I.rel I.ext (Va.le.refl V) (fun _ _ _ _ _ _ _ e => e)
theorem reads_ok {ok : Oper} {k : Nat} (hok : ops[k]? = some ok) (hk : (plainOp ok.op || lookOp ok.op) = true) {c : CV} (e : opX P ts h (actF ops f ok) ok.op = some (c, h)) (hr : readsX P ts ops f h h' k = true) : opX P ts h' (actF ops f ok) ok.op = some (c, h') := by
  unfold readsX at hr
  rw [hok] at hr
  simp only [e] at hr
  split at hr
  · rename_i c1 h1 c' h2 q1 q2
    cases q1
    simp only [Bool.and_eq_true] at hr
    have e1 := CV.same_eq _ _ hr.1
    subst e1
    rw [q2, still_same hk q2 (Nat.eq_of_beq_eq_true hr.2)]
  · rename_i q; cases q
  · cases hr
/-- The one that must come up next comes up. -/
theorem run_ok (hts : TS P ts) (hcl : CallOK P cl) (I : Inv P ts ops w0 h0 V0 done L N f h a V W) {j : Nat} {re : List Nat} (hfit : fits1 ops done false j = true) (ho : ops[j]? = some o) (hre : ∀ k ∈ done, ∃ ok, ops[k]? = some ok ∧ (lookOp ok.op = false ∨ k ∈ re ∨ reaches ops 4 j k = true)) (hrd : ∀ e ∈ o.after, Region.binds .any e = true → L.getD e.on false = true)
    {l : List (Fr × CH)} (e : oneX P ts cl ops o f h = some l) (hall : ∀ x ∈ l, re.all (readsX P ts ops f h x.2) = true) (K : Act → World → Prop) (Q : Exit → Act → World → Prop)
    (hK : ∀ x ∈ l, ∀ a' V' W', Inv P ts ops w0 h0 V0 (j :: done) (L.setIfInBounds j true) N x.1 x.2 a' V' W' → K a' W') : if Region.wanted o (yielded ops a.tmps) then o.wp P a W K Q else K (a.put o.dst undef) W := by
  obtain ⟨o1, q1, q2, q3, q4, _⟩ := fits_ok hfit
  rw [ho] at q1
  cases q1
  have hlt := I.lt ho
  have hrd' : ∀ o', ops[j]? = some o' → ∀ e ∈ o'.after, Region.binds .any e = true → L.getD e.on false = true := fun o' ho' => by
    rw [ho] at ho'
    cases ho'
    exact hrd
  have hlk : ∀ p ∈ o.looksAt ops, ∀ k' ∈ done, L.getD k' false = false → ∀ ok, ops[k']? = some ok → ok.dst ≠ some p := fun p hp k' hk' hL' ok hok hd => by
    obtain ⟨ok2, j1, _, j3⟩ := q4 k' hk'
    rw [hok] at j1
    cases j1
    obtain ⟨e, e1, e2, e3⟩ := j3 p hd hp
    have := hrd e e1 e2
    rw [e3, hL'] at this
    cases this
  have hF := I.looks hlk
  have hget : ∀ p ∈ o.looksAt ops, (f.only (o.looksAt ops)).t.get p = f.t.get p := fun p hp => onlyT_in hp
  have hmem : ∀ {k' : Nat}, (L.setIfInBounds j true).getD k' false = false → k' ≠ j ∧ L.getD k' false = false := fun {k'} q => by
    by_cases e : k' = j
    · subst e
      rw [getD_set_self _ hlt] at q; cases q
    · exact ⟨e, by rw [getD_set_ne _ (Ne.symm e)] at q; exact q⟩
  unfold oneX at e
  split at e
  · rename_i hok
    split at e
    · cases e
    · rename_i l' hl
      cases e
      refine oneV_ok hts hcl I.rel hF ((oneV_looks hget).trans hl) K Q fun x hx V' v W' hE hv hR => ?_
      have hxm : (f.put o.dst x.1, x.2) ∈ l'.map fun x => (f.put o.dst x.1, x.2) := List.mem_map.2 ⟨x, hx, rfl⟩
      refine hK _ hxm _ V' W' ⟨hR, I.ext.trans hE, by simpa using I.size, fun k' q => ?_, fun k' ok hok' q e he hb => ?_, ?_, ?_, ?_, ?_, ?_, ?_, ?_, ⟨⟨o, ho, q3⟩, I.ord⟩⟩
      · by_cases e : k' = j
        · subst e; exact List.mem_cons_self
        · rw [getD_set_ne _ (Ne.symm e)] at q
          exact List.mem_cons_of_mem _ (I.sub k' q)
      · by_cases e' : k' = j
        · subst e'
          rw [ho] at hok'
          cases hok'
          exact getD_set_true (hrd e he hb)
        · rw [getD_set_ne _ (Ne.symm e')] at q
          exact getD_set_true (I.shut k' ok hok' q e he hb)
      · rw [put_n]
        cases q : o.dst with
        | none => exact I.tm
        | some d => simpa [Act.put] using I.tm
      · cases q : o.dst with
        | none => exact I.df
        | some d => exact I.df
      · intro p c' hc
        by_cases hd : o.dst = some p
        · have hp : p < f.n := okDst_ok hok p hd
          have := put_at f o x.1 p hd
          rw [show (f.put o.dst x.1, x.2).1 = f.put o.dst x.1 from rfl] at hc
          rw [hc] at this
          cases this
          refine ⟨by rw [put_n]; exact hp, fun _ => ?_⟩
          rw [hd]
          have hs : p < a.tmps.size := by rw [I.tm]; exact hp
          simpa [Act.put, hs] using hv
        · have hc : f.t.get p = some c' := (put_ne hd).symm.trans hc
          obtain ⟨g1, g2⟩ := I.fr p c' hc
          refine ⟨by rw [put_n]; exact g1, fun hh => ?_⟩
          have hold := g2 fun k' hk' hL' ok hok' => hh k' (List.mem_cons_of_mem _ hk') (by rw [getD_set_ne _ (fun e : j = k' => q2 (by rw [e]; exact hk'))]; exact hL') ok hok'
          have : (a.put o.dst v).tmps.getD p undef = a.tmps.getD p undef := by
            cases q : o.dst with
            | none => rfl
            | some d =>
              have hne : d ≠ p := fun e => hd (by rw [q, e])
              simp [Act.put, Array.getElem?_setIfInBounds_ne hne]
          rw [this]
          exact VR.mono hE.le _ _ hold
      · intro k' hk' hL'
        obtain ⟨hne, hL''⟩ := hmem hL'
        have hk' := (List.mem_cons.1 hk').resolve_left hne
        obtain ⟨ok, hok', hp⟩ := I.pend k' hk' hL''
        obtain ⟨ok2, j1, j2, j3⟩ := q4 k' hk'
        rw [hok'] at j1
        cases j1
        refine ⟨ok, hok', hp.move (put_n _ _ _) (fun p hp' => put_ne fun hd => ?_) (fun d hd => put_ne fun hd' => (j2 d hd').1 hd) (fun c hk he => ?_) hE.n fun n ob _ hn hv => hE.old n hn hv⟩
        · obtain ⟨_, e, e1, e2, e3⟩ := (j2 p hd).2 hp'
          have := hrd e e1 e2
          rw [e3, hL''] at this
          cases this
        · rcases Bool.or_eq_true _ _ ▸ hk with hk1 | hk2
          · exact plain_at hk1 he
          · obtain ⟨ok3, y1, y2⟩ := hre k' hk'
            rw [hok'] at y1
            cases y1
            rcases y2 with y2 | y2 | y2
            · rw [hk2] at y2; cases y2
            · exact reads_ok hok' hk he (List.all_eq_true.1 (hall _ hxm) k' y2)
            · have := reach_in I.shut 4 j k' hrd' y2
              rw [hL''] at this
              cases this
      · intro k1 k2 n ob ob' h1 h2 h3 h4
        obtain ⟨z1, z2⟩ := hmem h3
        obtain ⟨z3, z4⟩ := hmem h4
        exact I.names k1 k2 n ob ob' ((List.mem_cons.1 h1).resolve_left z1) ((List.mem_cons.1 h2).resolve_left z3) z2 z4
      · intro k k' hk hk' hne ok ok' d h1 h2 hd hd'
        rcases List.mem_cons.1 hk with rfl | hk1
        · rcases List.mem_cons.1 hk' with rfl | hk2
          · exact hne rfl
          · rw [ho] at h1
            cases h1
            obtain ⟨ok2, j1, j2, j3⟩ := q4 k' hk2
            rw [h2] at j1
            cases j1
            exact (j2 d hd).1 hd'
        · rcases List.mem_cons.1 hk' with rfl | hk2
          · rw [ho] at h2
            cases h2
            obtain ⟨ok2, j1, j2, j3⟩ := q4 k hk1
            rw [h1] at j1
            cases j1
            exact (j2 d hd').1 hd
          · exact I.dsts k k' hk1 hk2 hne ok ok' d h1 h2 hd hd'
      · intro k k' hk hk' hL ok ok' d h1 h2 hd hl
        obtain ⟨z1, z2⟩ := hmem hL
        have hk1 := (List.mem_cons.1 hk).resolve_left z1
        rcases List.mem_cons.1 hk' with rfl | hk2
        · rw [ho] at h2
          cases h2
          obtain ⟨ok2, j1, j2, j3⟩ := q4 k hk1
          rw [h1] at j1
          cases j1
          obtain ⟨_, e, e1, e2, e3⟩ := (j2 d hd).2 hl
          have := hrd e e1 e2
          rw [e3, z2] at this
          cases this
        · exact I.reads k k' hk1 hk2 z2 ok ok' d h1 h2 hd hl
  · cases e
theorem listedOf_get : ∀ (d : List Nat) (L : Array Bool) (i : Nat), i < L.size → (d.foldl (fun l i => l.setIfInBounds i true) L).getD i true = (d.contains i || L.getD i true) ∧ (d.foldl (fun l i => l.setIfInBounds i true) L).size = L.size
  | [], L, i, _ => ⟨by simp, rfl⟩
  | k :: d, L, i, hi => by
    obtain ⟨h1, h2⟩ := listedOf_get d (L.setIfInBounds k true) i (by simpa using hi)
    refine ⟨?_, by simpa using h2⟩
    rw [List.foldl_cons, h1]
    by_cases e : i = k
    · subst e
      rw [getD_set_self _ hi]
      simp
    · rw [getD_set_ne _ (Ne.symm e)]
      simp [e]
/-- How many have not come up. -/
def left (L : Array Bool) (n : Nat) : Nat := (List.range n).countP fun i => !L.getD i true
theorem count_less {p q : Nat → Bool} {k : Nat} (hp : p k = true) (hq : q k = false) (hs : ∀ i, i ≠ k → q i = p i) : ∀ (l : List Nat), l.Nodup → k ∈ l → l.countP q + 1 = l.countP p
  | x :: l, hn, hm => by
    obtain ⟨h1, h2⟩ := List.nodup_cons.1 hn
    by_cases e : x = k
    · subst e
      have hl : l.countP q = l.countP p := by
        refine List.countP_congr fun i hi => ?_
        rw [hs i (fun e => h1 (e ▸ hi))]
      rw [List.countP_cons_of_pos hp, List.countP_cons_of_neg (by simp [hq]), hl]
    · have ih := count_less hp hq hs l h2 ((List.mem_cons.1 hm).resolve_left (Ne.symm e))
      cases hx : p x with
      | true => rw [List.countP_cons_of_pos hx, List.countP_cons_of_pos (by rw [hs x e]; exact hx)]; omega
      | false =>
        have hx' : q x = false := (hs x e).trans hx
        rw [List.countP_cons_of_neg (p := q) (by rw [hx']; simp), List.countP_cons_of_neg (p := p) (by rw [hx]; simp)]
        exact ih
theorem left_less {k n : Nat} (hk : k < n) (hs : L.size = n) (hL : L.getD k true = false) : left (L.setIfInBounds k true) n + 1 = left L n := by
  refine count_less (k := k) (by rw [hL]; rfl) (by rw [getD_set_self _ (by omega)]; rfl) (fun i hi => by rw [getD_set_ne _ (Ne.symm hi)]) _ List.nodup_range (List.mem_range.2 hk)
theorem left_none {k n : Nat} (hk : k < n) (h : left L n = 0) : L.getD k true = true := by
  have := List.countP_eq_zero.1 h k (List.mem_range.2 hk)
  simpa using this
theorem chk_run {done : List Nat} {i : Nat} {re : List Nat} {rest : List Stp} (h : chkS ops done (.run i re :: rest) = true) : fits1 ops done false i = true ∧ Region.ready .any ops (listedOf ops done) = [i] ∧ (∀ k ∈ done, ∃ ok, ops[k]? = some ok ∧ (lookOp ok.op = false ∨ k ∈ re ∨ reaches ops 4 i k = true)) ∧ chkS ops (i :: done) rest = true := by
  simp only [chkS, Bool.and_eq_true, beq_iff_eq, List.all_eq_true] at h
  obtain ⟨⟨⟨h1, h2⟩, h3⟩, h4⟩ := h
  refine ⟨h1, h2, fun k hk => ?_, h4⟩
  have h5 := h3 k hk
  split at h5
  · cases h5
  · rename_i ok hok
    simp only [Bool.or_eq_true, Bool.not_eq_true', List.contains_iff_mem] at h5
    refine ⟨ok, hok, ?_⟩
    rcases h5 with (h5 | h5) | h5
    · exact .inl h5
    · exact .inr (.inl h5)
    · exact .inr (.inr h5)
/-- A region that draws, whatever is drawn. -/
theorem draw_go (hts : TS P ts) (hcl : CallOK P cl) (Q : Exit → Act → World → Prop) : ∀ (fuel : Nat) (steps : List Stp) (done : List Nat) (L : Array Bool) (N : Nat → Option (Nat × CB)) (f : Fr) (h : CH) (a : Act) (V : Va) (W : World) (outs : List (Fr × CH)),
    Inv P ts ops w0 h0 V0 done L N f h a V W → chkS ops done steps = true → drawX P ts cl ops steps f h = some outs → left L ops.size ≤ fuel → (∀ a' W', Outs w0 h0 V0 outs a' W' → Q .normal a' W') → wpAny P .any ops Q fuel L a W := by
  intro fuel
  induction fuel with
  | zero =>
    intro steps
    induction steps with
    | nil =>
      intro done L N f h a V W outs I hc hd hl hQ
      have hz : left L ops.size = 0 := by omega
      cases hd
      refine ⟨?_, hQ _ _ ⟨_, List.mem_singleton.2 rfl, V, I.ext, ⟨I.tm, I.df, fun p c hc => ?_⟩, I.rel⟩⟩
      · refine List.eq_nil_iff_forall_not_mem.2 fun j hj => ?_
        obtain ⟨h1, o, h2, _⟩ := mem_ready.1 hj
        rw [left_none (by rw [← I.size]; exact I.lt h2) hz] at h1
        cases h1
      · obtain ⟨h1, h2⟩ := I.fr p c hc
        refine ⟨h1, h2 fun k hk hL o ho => ?_⟩
        have hlt := I.lt ho
        rw [getD_both hlt false true, left_none (by rw [← I.size]; exact hlt) hz] at hL
        cases hL
    | cons st rest ih =>
      intro done L N f h a V W outs I hc hd hl hQ
      have hz : left L ops.size = 0 := by omega
      have no : ∀ {t : Bool} {i : Nat}, fits1 ops done t i = true → False := fun {t i} hf => by
        obtain ⟨o, q1, q2, _⟩ := fits_ok hf
        have hlt := I.lt q1
        refine q2 (I.sub i ?_)
        rw [getD_both hlt false true]
        exact left_none (by rw [← I.size]; exact hlt) hz
      cases st with
      | take i =>
        simp only [chkS, Bool.and_eq_true] at hc
        exact (no hc.1).elim
      | run i re => exact (no (chk_run hc).1).elim
  | succ fuel IH =>
    intro steps
    induction steps with
    | nil =>
      intro done L N f h a V W outs I hc hd hl hQ
      cases hd
      have pendgo : ∀ i ∈ Region.ready .any ops L, wpOp P ops Q i (wpAny P .any ops Q fuel (L.setIfInBounds i true)) a W := fun i hi => by
        obtain ⟨h1, o, h2, h3⟩ := mem_ready.1 hi
        have hlt := I.lt h2
        have hin : i ∈ done := by
          simp only [chkS, List.all_eq_true] at hc
          simpa using hc i (List.mem_range.2 (by rw [← I.size]; exact hlt))
        have H := pend_ok hts I hin (by rw [getD_both hlt false true]; exact h1) h2 h3 (wpAny P .any ops Q fuel (L.setIfInBounds i true)) Q (fun a' V' W' I' => IH [] done _ N f h a' V' W' _ I' hc rfl (by
          have := left_less (by rw [← I.size]; exact hlt) I.size h1
          omega) hQ)
        unfold wpOp
        simp only [h2]
        by_cases hw : Region.wanted o (yielded ops a.tmps) = true
        · rw [if_pos hw] at H ⊢; exact .inl H
        · rw [if_neg hw] at H ⊢; exact H
      refine ⟨fun hr => hQ _ _ ⟨_, List.mem_singleton.2 rfl, V, I.ext, ⟨I.tm, I.df, fun p c hc' => ?_⟩, I.rel⟩, pendgo⟩
      obtain ⟨h1, h2⟩ := I.fr p c hc'
      refine ⟨h1, h2 fun k hk hL o ho => ?_⟩
      obtain ⟨m, m1, m2, om, m3, m4⟩ := ord_first I.ord ⟨k, hk, hL⟩
      have : m ∈ Region.ready .any ops L := mem_ready.2 ⟨by rw [getD_both (I.lt m3) true false]; exact m2, om, m3, m4⟩
      rw [hr] at this
      cases this
    | cons st rest ih =>
      intro done L N f h a V W outs I hc hd hl hQ
      cases st with
      | take i =>
        simp only [chkS, Bool.and_eq_true] at hc
        simp only [drawX] at hd
        split at hd
        · cases hd
        · rename_i o ho
          split at hd
          · cases hd
          · rename_i f' h' ht
            obtain ⟨N', I'⟩ := take_ok I hc.1 ho ht
            exact ih (i :: done) L N' f' h' a V W outs I' hc.2 hd hl hQ
      | run i re =>
        obtain ⟨c1, c2, c3, c4⟩ := chk_run hc
        have hd0 := hd
        simp only [drawX] at hd
        split at hd
        · cases hd
        · rename_i o ho
          split at hd
          · cases hd
          · rename_i l hl'
            obtain ⟨o1, q1, q2, q3, q4, _⟩ := fits_ok c1
            rw [ho] at q1
            cases q1
            refine ⟨fun hr => ?_, fun m hm => ?_⟩
            · -- something is ready
              exfalso
              by_cases hp : ∃ k ∈ done, L.getD k false = false
              · obtain ⟨m, m1, m2, om, m3, m4⟩ := ord_first I.ord hp
                have : m ∈ Region.ready .any ops L := mem_ready.2 ⟨by rw [getD_both (I.lt m3) true false]; exact m2, om, m3, m4⟩
                rw [hr] at this
                cases this
              · have hall : ∀ k ∈ done, L.getD k false = true := fun k hk => by
                  cases q : L.getD k false with
                  | true => rfl
                  | false => exact absurd ⟨k, hk, q⟩ hp
                have hni : L.getD i true = false := by
                  rw [getD_both (I.lt ho) true false]
                  cases q : L.getD i false with
                  | false => rfl
                  | true => exact absurd (I.sub i q) q2
                have : i ∈ Region.ready .any ops L := mem_ready.2 ⟨hni, o, ho, fun e he hb => hall _ (q3 e he hb)⟩
                rw [hr] at this
                cases this
            · obtain ⟨h1, om, h2, h3⟩ := mem_ready.1 hm
              have hlt := I.lt h2
              have hless := left_less (by rw [← I.size]; exact hlt) I.size h1
              by_cases hin : m ∈ done
              · have H := pend_ok hts I hin (by rw [getD_both hlt false true]; exact h1) h2 h3 (wpAny P .any ops Q fuel (L.setIfInBounds m true)) Q (fun a' V' W' I' => IH (.run i re :: rest) done _ N f h a' V' W' _ I' hc hd0 (by omega) hQ)
                unfold wpOp
                simp only [h2]
                by_cases hw : Region.wanted om (yielded ops a.tmps) = true
                · rw [if_pos hw] at H ⊢; exact .inl H
                · rw [if_neg hw] at H ⊢; exact H
              · have : m ∈ Region.ready .any ops (listedOf ops done) := by
                  have hget : ∀ k, k < ops.size → (listedOf ops done).getD k true = done.contains k := fun k hk => by
                    unfold listedOf
                    rw [(listedOf_get done (Array.replicate ops.size false) k (by simpa using hk)).1]
                    simp [hk]
                  have hsz : (listedOf ops done).size = ops.size := by
                    unfold listedOf
                    by_cases h0 : 0 < ops.size
                    · rw [(listedOf_get done (Array.replicate ops.size false) 0 (by simpa using h0)).2]; simp
                    · exact absurd (Nat.lt_of_le_of_lt (Nat.zero_le m) (by rw [← I.size]; exact hlt)) h0
                  have hms : m < ops.size := by rw [← I.size]; exact hlt
                  refine mem_ready.2 ⟨by rw [hget m hms]; simpa using hin, om, h2, fun e he hb => ?_⟩
                  have hLe := h3 e he hb
                  have hed := I.sub _ hLe
                  have hes : e.on < ops.size := by
                    obtain ⟨oe, g1, _⟩ | g1 : (∃ oe, ops[e.on]? = some oe ∧ True) ∨ ¬ e.on < L.size := by
                      by_cases z : e.on < L.size
                      · exact .inl ⟨ops[e.on]'(by rw [← I.size]; exact z), by simp, trivial⟩
                      · exact .inr z
                    · exact (Array.getElem?_eq_some_iff.1 g1).1
                    · simp [g1] at hLe
                  rw [getD_both (by rw [hsz]; exact hes) false true, hget _ hes]
                  simpa using hed
                rw [c2, List.mem_singleton] at this
                subst this
                rw [ho] at h2
                cases h2
                have H := run_ok hts hcl I c1 ho c3 h3 hl' (fun x hx => by
                  obtain ⟨l', z1, _⟩ := eachX_ok hd x hx
                  split at z1
                  · assumption
                  · cases z1) (wpAny P .any ops Q fuel (L.setIfInBounds m true)) Q (fun x hx a' V' W' I' => by
                  obtain ⟨l', z1, z2⟩ := eachX_ok hd x hx
                  split at z1
                  · exact IH rest (m :: done) _ N x.1 x.2 a' V' W' l' I' c4 z1 (by omega) (fun a'' W'' ⟨y, y1, V'', y2, y3, y4⟩ => hQ a'' W'' ⟨y, z2 y y1, V'', y2, y3, y4⟩)
                  · cases z1)
                unfold wpOp
                simp only [ho]
                by_cases hw : Region.wanted o (yielded ops a.tmps) = true
                · rw [if_pos hw] at H ⊢; exact .inl H
                · rw [if_neg hw] at H ⊢; exact H
theorem drawX_ok (hts : TS P ts) (hcl : CallOK P cl) (hm : P.follows .mixedOrders = true) (Q : Exit → Act → World → Prop) {id : Nat} {steps : List Stp} {outs : List (Fr × CH)} (hc : chkS ops [] steps = true) (e : drawX P ts cl ops steps f h = some outs) (hr : Rel w0 h V W) (hf : FR V f a) (hQ : ∀ a' W', Outs w0 h V outs a' W' → Q .normal a' W') : (Code.region id ops true).wp P Q a W := by
  refine wp_region_any hm ?_
  have nl : ∀ k, (Array.replicate ops.size false).getD k false = false := fun k => by
    by_cases hk : k < ops.size <;> simp [hk]
  refine draw_go (w0 := w0) (h0 := h) (V0 := V) hts hcl Q ops.size steps [] (Array.replicate ops.size false) (fun _ => none) f h a V _ outs ⟨hr.drew, Ext.refl h V, by simp, fun k q => (by rw [nl] at q; cases q), fun k o _ q => (by rw [nl] at q; cases q), hf.1, hf.2.1, fun p c hc => ⟨(hf.2.2 p c hc).1, fun _ => (hf.2.2 p c hc).2⟩, fun k hk => (by cases hk), fun k _ _ _ _ hk => (by cases hk), fun k _ hk => (by cases hk), fun k _ hk => (by cases hk), trivial⟩ hc e ?_ hQ
  unfold left
  exact Nat.le_trans List.countP_le_length (by simp)
end
end Go.Proofs.YtpjgmeogkomhlaaGreat
