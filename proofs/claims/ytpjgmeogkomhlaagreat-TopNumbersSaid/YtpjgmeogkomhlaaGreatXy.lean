/-
  Regions that draw, run on what is known, are as the code has them, whatever is drawn: what the proof keeps. No conditions but those named.
-/
import Derived.Test.YtpjgmeogkomhlaaGreatXw
namespace Go.Proofs.YtpjgmeogkomhlaaGreat
open Go.RowKit
def onlyT (f : Fr) : List Tmp → Tr CV
  | [] => .nil
  | p :: l => match f.t.get p with
    | some c => (onlyT f l).set p c
    | none => onlyT f l
/-- A frame of which only these places are known. -/
def Fr.only (f : Fr) (l : List Tmp) : Fr := { n := f.n, t := onlyT f l }
theorem onlyT_in {f : Fr} : ∀ {l : List Tmp} {p : Tmp}, p ∈ l → (onlyT f l).get p = f.t.get p
  | q :: l, p, hm => by
    simp only [onlyT]
    split
    · rename_i c hc
      by_cases e : p = q
      · subst e; rw [Tr.get_set, hc]
      · rw [Tr.get_set_ne _ _ e]
        exact onlyT_in ((List.mem_cons.1 hm).resolve_left e)
    · rename_i hc
      by_cases e : p = q
      · subst e
        by_cases hl : p ∈ l
        · exact onlyT_in hl
        · rw [hc]
          exact onlyT_out hl
      · exact onlyT_in ((List.mem_cons.1 hm).resolve_left e)
where
  onlyT_out {f : Fr} : ∀ {l : List Tmp} {p : Tmp}, p ∉ l → (onlyT f l).get p = none
    | [], _, _ => rfl
    | q :: l, p, hm => by
      have h1 : p ≠ q := fun e => hm (by rw [e]; exact List.mem_cons_self)
      have h2 : p ∉ l := fun e => hm (List.mem_cons_of_mem _ e)
      simp only [onlyT]
      split
      · rw [Tr.get_set_ne _ _ h1]; exact onlyT_out h2
      · exact onlyT_out h2
theorem onlyT_mem {f : Fr} {l : List Tmp} {p : Tmp} {c : CV} (h : (onlyT f l).get p = some c) : p ∈ l ∧ f.t.get p = some c := by
  by_cases hm : p ∈ l
  · exact ⟨hm, by rw [← onlyT_in hm]; exact h⟩
  · rw [onlyT_in.onlyT_out hm] at h; cases h
theorem only_FR {V : Va} {f : Fr} {a : Act} {l : List Tmp} (h1 : a.tmps.size = f.n) (h2 : a.defers = []) (h3 : ∀ p ∈ l, ∀ c, f.t.get p = some c → p < f.n ∧ VR V c (a.tmps.getD p undef)) : FR V (f.only l) a :=
  ⟨h1, h2, fun p c hc => let ⟨m, e⟩ := onlyT_mem hc; h3 p m c e⟩
theorem evC_same {f g : Fr} {x : Operand} (h : ∀ t, x = .tmp t → g.t.get t = f.t.get t) : evC g x = evC f x := by
  cases x with
  | tmp t => simp only [evC, h t rfl]
  | _ => rfl
theorem mem_looks {ops : Array Oper} {o : Oper} {t : Tmp} (h : Operand.tmp t ∈ o.op.operands) : t ∈ o.looksAt ops :=
  List.mem_append_left _ (List.mem_filterMap.2 ⟨.tmp t, by simpa using h, rfl⟩)
theorem guard_looks {ops : Array Oper} {o : Oper} {j : Nat} {w : Bool} {d : Tmp} (h : o.guard = some (j, w)) (hd : (ops[j]?).bind (·.dst) = some d) : d ∈ o.looksAt ops := by
  refine List.mem_append_right _ ?_
  rw [h]
  simp [hd]
section
variable {P : Program} {ts : Tr TI} {w0 : World} {h h' : CH} {V V' : Va} {f f' g : Fr} {a : Act} {W : World} {o : Oper} {cl : Caller} {ops : Array Oper}
theorem op_looks (hg : ∀ p ∈ o.looksAt ops, g.t.get p = f.t.get p) : opX P ts h g o.op = opX P ts h f o.op :=
  opX_congr _ fun _ hx => evC_same fun _ e => hg _ (mem_looks (e ▸ hx))
theorem want_looks (hg : ∀ p ∈ o.looksAt ops, g.t.get p = f.t.get p) : wantX ops g o = wantX ops f o := by
  unfold wantX
  cases hgd : o.guard with
  | none => rfl
  | some jw =>
    obtain ⟨j, w⟩ := jw
    simp only
    cases hd : (ops[j]?).bind (·.dst) with
    | none => rfl
    | some d => simp only [hg d (guard_looks hgd hd)]
theorem stripT_same {s : BE} {w : Bool} : ∀ {l : List Tmp}, (∀ p ∈ l, g.t.get p = f.t.get p) → stripT s w g l = stripT s w f l
  | [], _ => rfl
  | p :: l, hg => by
    simp only [stripT]
    rw [hg p List.mem_cons_self, stripT_same fun q hq => hg q (List.mem_cons_of_mem _ hq)]
theorem strip_looks {s : BE} {w : Bool} (hg : ∀ p ∈ o.looksAt ops, g.t.get p = f.t.get p) : opX P ts h (stripF s w g (o.looksAt ops)) o.op = opX P ts h (stripF s w f (o.looksAt ops)) o.op :=
  op_looks (ops := ops) fun p _ => by
    show (stripT s w g _).get p = (stripT s w f _).get p
    rw [stripT_same hg]
theorem act_looks (hg : ∀ p ∈ o.looksAt ops, g.t.get p = f.t.get p) : opX P ts h (actF ops g o) o.op = opX P ts h (actF ops f o) o.op := by
  unfold actF
  rw [want_looks hg]
  cases wantX ops f o with
  | hangs s w => exact strip_looks hg
  | _ => exact op_looks hg
theorem oneV_looks (hg : ∀ p ∈ o.looksAt ops, g.t.get p = f.t.get p) : oneV P ts cl ops o g h = oneV P ts cl ops o f h := by
  have e1 := want_looks hg
  have e2 : opX P ts h g o.op = opX P ts h f o.op := op_looks hg
  have e3 : callX P ts cl h g o.op = callX P ts cl h f o.op := by
    unfold callX
    cases hop : o.op with
    | call c =>
      rw [hop] at e2
      simp only [e2]
      cases hc : c.callee with
      | value x =>
        have e4 : evC g x = evC f x := evC_same fun t e => hg _ (mem_looks (by rw [hop]; simp [Op.operands, Call.operands, hc, e]))
        have e5 : c.args.toList.map (evC g) = c.args.toList.map (evC f) := List.map_congr_left fun y hy => evC_same fun t e => hg _ (mem_looks (by
          rw [hop]
          simp only [Op.operands, Call.operands]
          refine Array.mem_append.2 (.inr ?_)
          rw [← e]
          exact Array.mem_toList_iff.1 hy))
        simp only [e4, e5]
      | _ => rfl
    | _ => rw [hop] at e2; simp only [e2]
  unfold oneV
  rw [e1, e3]
  cases wantX ops f o with
  | hangs s w => simp only [strip_looks (P := P) (ts := ts) (h := h) (s := s) (w := w) hg]
  | _ => rfl
/-- Where an operation's value lies ready. -/
def atD (f : Fr) (o : Oper) (c : CV) : Prop := ∀ d, o.dst = some d → f.t.get d = some c
/-- An operation that was taken at once, and hasn't come up yet. -/
def Pend (P : Program) (ts : Tr TI) (ops : Array Oper) (h : CH) (n0 : Nat) (V : Va) (f : Fr) (nm : Option (Nat × CB)) (o : Oper) : Prop :=
  okDst f o.dst = true ∧ (∀ n ob, nm = some (n, ob) → n < h.n) ∧
  match wantX ops f o with
  | .odd => False
  | .no => atD f o (.tup [])
  | .yes => match nm with
    | none => (plainOp o.op || lookOp o.op) = true ∧ ∃ c, opX P ts h (actF ops f o) o.op = some (c, h) ∧ atD f o c
    | some (n, ob) => allocOp o.op = true ∧ ∃ c hh, opX P ts hh f o.op = some (c, hh.push ob) ∧ hh.n = n ∧ atD f o c ∧ n0 ≤ n ∧ n < h.n ∧ V.blk n = none ∧ h.t.get n = some ob
  | .hangs s w => (plainOp o.op || lookOp o.op) = true ∧ ∃ c, opX P ts h (actF ops f o) o.op = some (c, h) ∧ atD f o (.cond s w c)
theorem Pend.move {n0 : Nat} {nm : Option (Nat × CB)} (hp : Pend P ts ops h n0 V f nm o) (hn : f'.n = f.n) (hl : ∀ p ∈ o.looksAt ops, f'.t.get p = f.t.get p) (hd : ∀ d, o.dst = some d → f'.t.get d = f.t.get d) (hA : ∀ c, (plainOp o.op || lookOp o.op) = true → opX P ts h (actF ops f o) o.op = some (c, h) → opX P ts h' (actF ops f o) o.op = some (c, h'))
    (hN : h.n ≤ h'.n) (hE : ∀ n ob, nm = some (n, ob) → n < h.n → V.blk n = none → V'.blk n = none ∧ h'.t.get n = h.t.get n) : Pend P ts ops h' n0 V' f' nm o := by
  have hat : ∀ c, atD f o c → atD f' o c := fun c hc d e => by rw [hd d e]; exact hc d e
  obtain ⟨h1, h0, h2⟩ := hp
  refine ⟨by cases q : o.dst with
    | none => rfl
    | some d => rw [q] at h1; simpa [okDst, hn] using h1, fun n ob e => Nat.lt_of_lt_of_le (h0 n ob e) hN, ?_⟩
  rw [want_looks hl]
  cases q : wantX ops f o with
  | odd => rw [q] at h2; exact h2
  | no => rw [q] at h2; exact hat _ h2
  | yes =>
    rw [q] at h2
    cases nm with
    | none =>
      obtain ⟨h3, c, h4, h5⟩ := h2
      exact ⟨h3, c, (act_looks hl).trans (hA c h3 h4), hat c h5⟩
    | some x =>
      obtain ⟨n, ob⟩ := x
      obtain ⟨h3, c, hh, h4, h5, h6, h7, h8, h9, h10⟩ := h2
      obtain ⟨e2, e3⟩ := hE n ob rfl h8 h9
      exact ⟨h3, c, hh, (op_looks hl).trans h4, h5, hat c h6, h7, Nat.lt_of_lt_of_le h8 hN, e2, e3.trans h10⟩
  | hangs s w =>
    rw [q] at h2
    obtain ⟨h3, c, h4, h5⟩ := h2
    exact ⟨h3, c, (act_looks hl).trans (hA c h3 h4), hat _ h5⟩
theorem pend_lt {n0 : Nat} {nm : Option (Nat × CB)} {n : Nat} {ob : CB} (hp : Pend P ts ops h n0 V f nm o) (hn : nm = some (n, ob)) : n < h.n := hp.2.1 n ob hn
/-- In such an order each comes behind what it waits for. -/
def Ord (ops : Array Oper) : List Nat → Prop
  | [] => True
  | k :: d => (∃ o, ops[k]? = some o ∧ ∀ e ∈ o.after, Region.binds .any e = true → e.on ∈ d) ∧ Ord ops d
/-- What a region that draws keeps: 'done' are behind the run, 'L' behind the code. -/
structure Inv (P : Program) (ts : Tr TI) (ops : Array Oper) (w0 : World) (h0 : CH) (V0 : Va) (done : List Nat) (L : Array Bool) (N : Nat → Option (Nat × CB)) (f : Fr) (h : CH) (a : Act) (V : Va) (W : World) : Prop where
  rel : Rel w0 h V W
  ext : Ext h0 V0 h V
  size : L.size = ops.size
  sub : ∀ k, L.getD k false = true → k ∈ done
  shut : ∀ k o, ops[k]? = some o → L.getD k false = true → ∀ e ∈ o.after, Region.binds .any e = true → L.getD e.on false = true
  tm : a.tmps.size = f.n
  df : a.defers = []
  fr : ∀ p c, f.t.get p = some c → p < f.n ∧ ((∀ k ∈ done, L.getD k false = false → ∀ o, ops[k]? = some o → o.dst ≠ some p) → VR V c (a.tmps.getD p undef))
  pend : ∀ k ∈ done, L.getD k false = false → ∃ o, ops[k]? = some o ∧ Pend P ts ops h h0.n V f (N k) o
  names : ∀ k k' n ob ob', k ∈ done → k' ∈ done → L.getD k false = false → L.getD k' false = false → N k = some (n, ob) → N k' = some (n, ob') → k = k'
  dsts : ∀ k k', k ∈ done → k' ∈ done → k ≠ k' → ∀ o o' d, ops[k]? = some o → ops[k']? = some o' → o.dst = some d → o'.dst ≠ some d
  reads : ∀ k k', k ∈ done → k' ∈ done → L.getD k false = false → ∀ o o' d, ops[k]? = some o → ops[k']? = some o' → o'.dst = some d → d ∈ o.looksAt ops → ∃ e ∈ o.after, Region.binds .any e = true ∧ e.on = k'
  ord : Ord ops done
/-- Operations that leave memory as it is find the same where memory has grown. -/
theorem still_grown (hk : (plainOp o.op || lookOp o.op) = true) {c : CV} (e : opX P ts h f o.op = some (c, h)) (hm : ∀ b ob, h.t.get b = some ob → h'.t.get b = some ob) : opX P ts h' f o.op = some (c, h') := by
  rcases Bool.or_eq_true _ _ ▸ hk with hp | hl
  · exact plain_at hp e
  · exact look_at hl e rfl hm
theorem alloc_push (hk : allocOp o.op = true) {c : CV} (e : opX P ts h f o.op = some (c, h')) : ∃ ob, h' = h.push ob := by
  cases hop : o.op with
  | alloc t =>
    rw [hop] at e
    simp only [opX] at e
    split at e
    · split at e
      · cases e; exact ⟨_, rfl⟩
      · cases e
    · cases e
  | box t x =>
    rw [hop] at e
    simp only [opX] at e
    split at e
    · cases e; exact ⟨_, rfl⟩
    · cases e
  | makeMap t n =>
    rw [hop] at e
    cases n <;> simp only [opX] at e
    · cases e; exact ⟨_, rfl⟩
    · cases e
  | buildSlice t len parts =>
    rw [hop] at e
    simp only [opX] at e
    split at e
    · split at e
      · cases e
      · split at e
        · cases e; exact ⟨_, rfl⟩
        · cases e
    · cases e
  | makeSlice t l cp =>
    rw [hop] at e
    simp only [opX] at e
    split at e
    · split at e
      · split at e
        · split at e
          · cases e; exact ⟨_, rfl⟩
          · cases e
        · cases e
      · cases e
    · cases e
  | _ => rw [hop] at hk; cases hk
theorem put_n (f : Fr) (d : Option Tmp) (c : CV) : (f.put d c).n = f.n := by cases d <;> rfl
theorem put_ne {f : Fr} {d : Option Tmp} {c : CV} {p : Tmp} (h : d ≠ some p) : (f.put d c).t.get p = f.t.get p := by
  cases d with
  | none => rfl
  | some t => exact Tr.get_set_ne _ _ (fun e => h (by rw [e]))
theorem put_at (f : Fr) (o : Oper) (c : CV) : atD (f.put o.dst c) o c := fun d e => by
  rw [e]; exact Tr.get_set _ _ _
theorem direct {i k : Nat} (h : reaches ops 1 i k = true) (ho : ops[i]? = some o) : ∃ e ∈ o.after, Region.binds .any e = true ∧ e.on = k := by
  unfold reaches at h
  rw [ho] at h
  simp only [List.any_eq_true, Bool.and_eq_true, Bool.or_eq_true, beq_iff_eq] at h
  obtain ⟨e, h1, h2, h3⟩ := h
  refine ⟨e, by simpa using h1, h2, ?_⟩
  rcases h3 with h3 | h3
  · exact h3
  · cases h3
/-- What 'fits1' says. -/
theorem fits_ok {done : List Nat} {take : Bool} {i : Nat} (h : fits1 ops done take i = true) : ∃ o, ops[i]? = some o ∧ i ∉ done ∧ (∀ e ∈ o.after, Region.binds .any e = true → e.on ∈ done) ∧
    (∀ k ∈ done, ∃ ok, ops[k]? = some ok ∧ (∀ d, o.dst = some d → ok.dst ≠ some d ∧ (d ∈ ok.looksAt ops → take = false ∧ ∃ e ∈ o.after, Region.binds .any e = true ∧ e.on = k)) ∧ (∀ d, ok.dst = some d → d ∈ o.looksAt ops → ∃ e ∈ o.after, Region.binds .any e = true ∧ e.on = k)) ∧
    (take = true → ∀ d, o.dst = some d → d ∉ o.looksAt ops) := by
  unfold fits1 at h
  split at h
  · cases h
  · rename_i o ho
    simp only [Bool.and_eq_true, Bool.not_eq_true', List.all_eq_true, Bool.or_eq_true] at h
    obtain ⟨⟨⟨h1, h2⟩, h3⟩, h4⟩ := h
    refine ⟨o, ho, by simpa using h1, fun e he hb => ?_, fun k hk => ?_, fun ht d hd => ?_⟩
    · rcases h2 e (by simpa using he) with q | q
      · rw [hb] at q; cases q
      · simpa using q
    · have h5 := h3 k hk
      split at h5
      · cases h5
      · rename_i ok hok
        simp only [Bool.and_eq_true] at h5
        obtain ⟨h6, h7⟩ := h5
        refine ⟨ok, hok, fun d hd => ?_, fun d hd hl => ?_⟩
        · rw [hd] at h6
          simp only [Bool.and_eq_true, Bool.or_eq_true, Bool.not_eq_true', bne_iff_ne, ne_eq] at h6
          refine ⟨h6.1, fun hl => ?_⟩
          rcases h6.2 with q | q
          · rw [List.contains_iff_mem.2 hl] at q; cases q
          · exact ⟨q.1, direct q.2 ho⟩
        · rw [hd] at h7
          simp only [Bool.or_eq_true, Bool.not_eq_true'] at h7
          rcases h7 with q | q
          · rw [List.contains_iff_mem.2 hl] at q; cases q
          · exact direct q ho
    · rcases h4 with q | q
      · rw [ht] at q; cases q
      · rw [hd] at q
        intro hl
        simp only [Bool.not_eq_true'] at q
        rw [List.contains_iff_mem.2 hl] at q; cases q
def upd (N : Nat → Option (Nat × CB)) (m : Nat) (x : Option (Nat × CB)) : Nat → Option (Nat × CB) := fun k => if k = m then x else N k
theorem upd_same (N : Nat → Option (Nat × CB)) (m : Nat) (x : Option (Nat × CB)) : upd N m x m = x := if_pos rfl
theorem upd_ne (N : Nat → Option (Nat × CB)) {m k : Nat} (x : Option (Nat × CB)) (h : k ≠ m) : upd N m x k = N k := if_neg h
/-- An operation is taken at once. -/
theorem take_ok {h0 : CH} {V0 : Va} {done : List Nat} {L : Array Bool} {N : Nat → Option (Nat × CB)} {m : Nat} (I : Inv P ts ops w0 h0 V0 done L N f h a V W) (hfit : fits1 ops done true m = true) (ho : ops[m]? = some o) (e : takeX P ts ops o f h = some (f', h')) :
    ∃ N', Inv P ts ops w0 h0 V0 (m :: done) L N' f' h' a V W := by
  obtain ⟨o1, q1, q2, q3, q4, q5⟩ := fits_ok hfit
  rw [ho] at q1
  cases q1
  have q5 := q5 rfl
  have hLm : L.getD m false = false := by
    cases q : L.getD m false with
    | false => rfl
    | true => exact absurd (I.sub m q) q2
  -- whatever is put, and however memory grows
  have go : ∀ (c : CV) (nm : Option (Nat × CB)), f' = f.put o.dst c → okDst f o.dst = true → Rel w0 h' V W → Ext h V h' V → (∀ b ob, h.t.get b = some ob → h'.t.get b = some ob) → Pend P ts ops h' h0.n V f' nm o → (∀ n ob, nm = some (n, ob) → h.n ≤ n) → ∃ N', Inv P ts ops w0 h0 V0 (m :: done) L N' f' h' a V W := by
    intro c nm hf' hok hR hE hm hP hnm
    subst hf'
    refine ⟨upd N m nm, ⟨hR, I.ext.trans hE, I.size, fun k hk => List.mem_cons_of_mem _ (I.sub k hk), I.shut, by rw [put_n]; exact I.tm, I.df, ?_, ?_, ?_, ?_, ?_, ⟨⟨o, ho, q3⟩, I.ord⟩⟩⟩
    · intro p c' hc
      by_cases hp : o.dst = some p
      · refine ⟨by rw [put_n]; rw [hp] at hok; simpa [okDst] using hok, fun hh => absurd hp (hh m List.mem_cons_self hLm o ho)⟩
      · rw [put_ne hp] at hc
        obtain ⟨g1, g2⟩ := I.fr p c' hc
        exact ⟨by rw [put_n]; exact g1, fun hh => g2 fun k hk => hh k (List.mem_cons_of_mem _ hk)⟩
    · intro k hk hL
      rcases List.mem_cons.1 hk with rfl | hk
      · exact ⟨o, ho, by rw [upd_same]; exact hP⟩
      · have hne : k ≠ m := fun e => q2 (e ▸ hk)
        obtain ⟨ok, hok', hp⟩ := I.pend k hk hL
        obtain ⟨ok2, j1, j2, j3⟩ := q4 k hk
        rw [hok'] at j1
        cases j1
        refine ⟨ok, hok', ?_⟩
        rw [upd_ne _ _ hne]
        refine hp.move (put_n _ _ _) (fun p hp' => put_ne fun hd => ?_) (fun d hd => put_ne fun hd' => (j2 d hd').1 hd) (fun c' hk' he => still_grown hk' he hm) hE.n (fun n ob _ hn hv => hE.old n hn hv)
        exact absurd ((j2 p hd).2 hp').1 (by simp)
    · intro k k' n ob ob' hk hk' hL hL' hN hN'
      rcases List.mem_cons.1 hk with rfl | hk1
      · rcases List.mem_cons.1 hk' with rfl | hk2
        · rfl
        · have hne : k' ≠ k := fun e => q2 (e ▸ hk2)
          rw [upd_same] at hN
          rw [upd_ne _ _ hne] at hN'
          have z1 := hnm n ob hN
          obtain ⟨ok, _, hp⟩ := I.pend k' hk2 hL'
          have z2 : n < h.n := pend_lt hp hN'
          omega
      · have hne : k ≠ m := fun e => q2 (e ▸ hk1)
        rw [upd_ne _ _ hne] at hN
        rcases List.mem_cons.1 hk' with rfl | hk2
        · rw [upd_same] at hN'
          have z1 := hnm n ob' hN'
          obtain ⟨ok, _, hp⟩ := I.pend k hk1 hL
          have z2 : n < h.n := pend_lt hp hN
          omega
        · have hne' : k' ≠ m := fun e => q2 (e ▸ hk2)
          rw [upd_ne _ _ hne'] at hN'
          exact I.names k k' n ob ob' hk1 hk2 hL hL' hN hN'
    · intro k k' hk hk' hne ok ok' d h1 h2 hd hd'
      rcases List.mem_cons.1 hk with rfl | hk1
      · rcases List.mem_cons.1 hk' with rfl | hk2
        · exact hne rfl
        · rw [ho] at h1
          cases h1
          obtain ⟨ok2, j1, j2, j3⟩ := q4 k' hk2
          rw [h2] at j1
          cases j1
          exact (j2 d hd).1 hd'
      · rcases List.mem_cons.1 hk' with rfl | hk2
        · rw [ho] at h2
          cases h2
          obtain ⟨ok2, j1, j2, j3⟩ := q4 k hk1
          rw [h1] at j1
          cases j1
          exact (j2 d hd').1 hd
        · exact I.dsts k k' hk1 hk2 hne ok ok' d h1 h2 hd hd'
    · intro k k' hk hk' hL ok ok' d h1 h2 hd hl
      rcases List.mem_cons.1 hk with rfl | hk1
      · rw [ho] at h1
        cases h1
        rcases List.mem_cons.1 hk' with rfl | hk2
        · rw [ho] at h2
          cases h2
          exact absurd hl (q5 d hd)
        · obtain ⟨ok2, j1, j2, j3⟩ := q4 k' hk2
          rw [h2] at j1
          cases j1
          exact j3 d hd hl
      · rcases List.mem_cons.1 hk' with rfl | hk2
        · rw [ho] at h2
          cases h2
          obtain ⟨ok2, j1, j2, j3⟩ := q4 k hk1
          rw [h1] at j1
          cases j1
          exact absurd ((j2 d hd).2 hl).1 (by simp)
        · exact I.reads k k' hk1 hk2 hL ok ok' d h1 h2 hd hl
  have hlook : ∀ c, ∀ p ∈ o.looksAt ops, (f.put o.dst c).t.get p = f.t.get p := fun c p hp => put_ne fun hd => q5 p hd hp
  have hok2 : ∀ c, okDst f o.dst = true → okDst (f.put o.dst c) o.dst = true := fun c hk => by
    cases q : o.dst with
    | none => rfl
    | some d => rw [q] at hk; exact hk
  unfold takeX at e
  split at e
  · rename_i hok
    split at e
    · cases e
    · rename_i hq
      cases e
      refine go _ none rfl hok I.rel (Ext.refl h V) (fun _ _ q => q) ⟨hok2 _ hok, fun _ _ q => (by cases q), ?_⟩ (fun _ _ q => by cases q)
      rw [want_looks (hlook _), hq]
      exact put_at _ _ _
    · rename_i hq
      split at e
      · rename_i hk
        split at e
        · rename_i c h1 hx
          split at e
          · rename_i hn
            cases e
            have := still_same hk hx hn
            subst this
            refine go _ none rfl hok I.rel (Ext.refl _ V) (fun _ _ q => q) ⟨hok2 _ hok, fun _ _ q => (by cases q), ?_⟩ (fun _ _ q => by cases q)
            rw [want_looks (hlook _), hq]
            exact ⟨hk, c, (act_looks (hlook _)).trans (by unfold actF; rw [hq]; exact hx), put_at _ _ _⟩
          · cases e
        · cases e
      · split at e
        · rename_i hk
          split at e
          · rename_i c h1 hx
            cases e
            obtain ⟨ob, rfl⟩ := alloc_push hk hx
            have hfb := I.rel.fb h.n (Nat.le_refl _)
            refine go _ (some (h.n, ob)) rfl hok (I.rel.reserve ob) ⟨Va.le.refl V, Nat.le_succ _, fun b hb hv => ⟨hv, CH.push_ne (Nat.ne_of_lt hb)⟩⟩ (fun b ob' q => ?_) ⟨hok2 _ hok, fun n ob' q => (by cases q; exact Nat.lt_succ_self _), ?_⟩ (fun n ob' q => by cases q; exact Nat.le_refl _)
            · rw [CH.push_ne (fun e => by subst e; rw [hfb.2] at q; cases q)]
              exact q
            · rw [want_looks (hlook _), hq]
              exact ⟨hk, c, h, (op_looks (hlook _)).trans hx, rfl, put_at _ _ _, I.ext.n, Nat.lt_succ_self _, hfb.1, CH.push_get⟩
          · cases e
        · cases e
    · rename_i s w hq
      split at e
      · rename_i hk
        split at e
        · rename_i c h1 hx
          split at e
          · rename_i hn
            cases e
            have := still_same hk hx hn
            subst this
            refine go _ none rfl hok I.rel (Ext.refl _ V) (fun _ _ q => q) ⟨hok2 _ hok, fun _ _ q => (by cases q), ?_⟩ (fun _ _ q => by cases q)
            rw [want_looks (hlook _), hq]
            exact ⟨hk, c, (act_looks (hlook _)).trans (by unfold actF; rw [hq]; exact hx), put_at _ _ _⟩
          · cases e
        · cases e
      · cases e
  · cases e
end
end Go.Proofs.YtpjgmeogkomhlaaGreat
