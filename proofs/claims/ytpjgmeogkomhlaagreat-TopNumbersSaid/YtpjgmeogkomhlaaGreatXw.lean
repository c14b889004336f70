/-
  What operations look at, run on what is known. No conditions but those named.
-/
import Derived.Test.YtpjgmeogkomhlaaGreatXv
namespace Go.Proofs.YtpjgmeogkomhlaaGreat
open Go.RowKit
section
variable {P : Program} {ts : Tr TI} {w0 : World} {h : CH} {V : Va} {f : Fr} {a : Act} {W : World} {o : Oper}
/-- An operation hangs on its operands alone. -/
theorem opX_congr {f g : Fr} (op : Op) (hx : ∀ x ∈ op.operands, evC f x = evC g x) : opX P ts h f op = opX P ts h g op := by
  have arr : ∀ xs : Array Operand, (∀ x ∈ xs, evC f x = evC g x) → xs.toList.map (evC f) = xs.toList.map (evC g) := fun xs hh => List.map_congr_left fun x hm => hh x (Array.mem_toList_iff.1 hm)
  have pairs : ∀ ps : Array (Nat × Operand), (∀ x ∈ (ps.toList.map (·.2)).toArray, evC f x = evC g x) → (ps.toList.map fun p => (p.1, evC f p.2)) = ps.toList.map fun p => (p.1, evC g p.2) := fun ps hh => List.map_congr_left fun p hm => by
    rw [hh p.2 (by simpa using ⟨p.1, by simpa using hm⟩)]
  have opt : ∀ x : Option Operand, (∀ y, x = some y → evC f y = evC g y) → x.map (evC f) = x.map (evC g) := fun x hh => by
    cases x with
    | none => rfl
    | some y => simp only [Option.map_some, hh y rfl]
  cases op with
  | build t ps => simp only [opX, pairs ps hx]
  | buildSlice t n ps => simp only [opX, pairs ps hx]
  | makeFunc fn x y =>
    have e1 := arr x fun z hz => hx z (by simp [Op.operands, hz])
    have e2 := arr y fun z hz => hx z (by simp [Op.operands, hz])
    cases fn <;> simp only [opX, e1, e2]
  | call c =>
    have e1 := arr c.args fun z hz => hx z (by simp [Op.operands, Call.operands, hz])
    simp only [opX, e1]
  | slice t x lo hi mx =>
    have e0 := hx x (by simp [Op.operands])
    have e1 := opt lo fun y hy => hx y (by subst hy; simp [Op.operands])
    have e2 := opt hi fun y hy => hx y (by subst hy; simp [Op.operands])
    have e3 := opt mx fun y hy => hx y (by subst hy; simp [Op.operands])
    simp only [opX, e0, e1, e2, e3]
  | makeMap t r => cases r <;> rfl
  | lookup t m k ok =>
    have e1 := hx m (by simp [Op.operands])
    have e2 := hx k (by simp [Op.operands])
    cases ok <;> simp only [opX, e1, e2]
  | pick c x y =>
    have e1 := hx c (by simp [Op.operands])
    have e2 := hx x (by simp [Op.operands])
    have e3 := hx y (by simp [Op.operands])
    simp only [opX, e1, e2, e3]
  | insert t m k x =>
    have e1 := hx m (by simp [Op.operands])
    have e2 := hx k (by simp [Op.operands])
    have e3 := hx x (by simp [Op.operands])
    simp only [opX, e1, e2, e3]
  | store t x y =>
    have e1 := hx x (by simp [Op.operands])
    have e2 := hx y (by simp [Op.operands])
    simp only [opX, e1, e2]
  | binOp _ t x y _ =>
    have e1 := hx x (by simp [Op.operands])
    have e2 := hx y (by simp [Op.operands])
    simp only [opX, e1, e2]
  | makeSlice t x y =>
    have e1 := hx x (by simp [Op.operands])
    have e2 := hx y (by simp [Op.operands])
    simp only [opX, e1, e2]
  | indexAddr t x y =>
    have e1 := hx x (by simp [Op.operands])
    have e2 := hx y (by simp [Op.operands])
    simp only [opX, e1, e2]
  | index t x y =>
    have e1 := hx x (by simp [Op.operands])
    have e2 := hx y (by simp [Op.operands])
    simp only [opX, e1, e2]
  | move x => simp only [opX, hx x (by simp [Op.operands])]
  | assign x => simp only [opX, hx x (by simp [Op.operands])]
  | box _ x => simp only [opX, hx x (by simp [Op.operands])]
  | load _ x => simp only [opX, hx x (by simp [Op.operands])]
  | nilCheck x => simp only [opX, hx x (by simp [Op.operands])]
  | unOp _ _ x => simp only [opX, hx x (by simp [Op.operands])]
  | convert _ _ x => simp only [opX, hx x (by simp [Op.operands])]
  | sliceToArrayPointer _ x => simp only [opX, hx x (by simp [Op.operands])]
  | fieldAddr _ x _ => simp only [opX, hx x (by simp [Op.operands])]
  | field _ x _ => simp only [opX, hx x (by simp [Op.operands])]
  | extract x _ => simp only [opX, hx x (by simp [Op.operands])]
  | _ => rfl
theorem builtC_any {h2 : CH} {b : Builtin} {tys : List TypeId} {xs : List CV} (hb : (match b with | .len => true | .cap => true | .min => true | .max => true | _ => false) = true) : (builtC ts b tys xs h).map (·.1) = (builtC ts b tys xs h2).map (·.1) := by
  cases b <;> first | (cases hb; done) | skip
  · rcases xs with _ | ⟨x, _ | ⟨y, zs⟩⟩
    · rfl
    · simp only [builtC]
      repeat' split
      all_goals rfl
    · rfl
  · rcases xs with _ | ⟨x, _ | ⟨y, zs⟩⟩
    · rfl
    · simp only [builtC]
      repeat' split
      all_goals rfl
    · rfl
  · rcases xs with _ | ⟨x, zs⟩
    · rfl
    · simp only [builtC]
      split <;> rfl
  · rcases xs with _ | ⟨x, zs⟩
    · rfl
    · simp only [builtC]
      split <;> rfl
/-- What only reckons hangs on no memory. -/
theorem plain_any {h2 : CH} {op : Op} (hk : plainOp op = true) : (opX P ts h f op).map (·.1) = (opX P ts h2 f op).map (·.1) := by
  cases op with
  | call c =>
    simp only [plainOp] at hk
    simp only [opX]
    split
    · rename_i b hb
      rw [hb] at hk
      exact builtC_any (by cases b <;> first | rfl | cases hk)
    · rfl
  | build t ps => simp only [opX]; repeat' split
                  all_goals rfl
  | makeFunc fn x y => cases fn <;> rfl
  | move x => rfl
  | assign x => rfl
  | pick _ _ _ => simp only [opX]; split <;> rfl
  | binOp _ _ _ _ _ => simp only [opX]; split <;> rfl
  | unOp _ _ _ => simp only [opX]; split <;> rfl
  | convert _ _ _ => simp only [opX]; split <;> rfl
  | nilCheck _ => simp only [opX]; split <;> rfl
  | sliceToArrayPointer _ _ => simp only [opX]; repeat' split
                               all_goals rfl
  | fieldAddr _ _ _ => simp only [opX]; repeat' split
                       all_goals rfl
  | field _ _ _ => simp only [opX]; repeat' split
                   all_goals rfl
  | indexAddr _ _ _ => simp only [opX]; repeat' split
                       all_goals rfl
  | index _ _ _ => simp only [opX]; repeat' split
                   all_goals rfl
  | extract _ _ => simp only [opX]; repeat' split
                   all_goals rfl
  | _ => cases hk
theorem plain_at {h1 h2 : CH} {c : CV} (hk : plainOp o.op = true) (e : opX P ts h f o.op = some (c, h1)) : opX P ts h2 f o.op = some (c, h2) := by
  have h3 := plain_any (P := P) (ts := ts) (h := h) (f := f) (h2 := h2) hk
  rw [e] at h3
  cases q : opX P ts h2 f o.op with
  | none => rw [q] at h3; cases h3
  | some r =>
    rw [q] at h3
    obtain ⟨c', h'⟩ := r
    simp only [Option.map_some, Option.some.injEq] at h3
    subst h3
    rw [still_plain hk q]
/-- What looks at memory finds the same where memory has grown. -/
theorem look_at {h1 h2 : CH} {c : CV} (hk : lookOp o.op = true) (e : opX P ts h f o.op = some (c, h1)) (hn : h1.n = h.n) (hm : ∀ b ob, h.t.get b = some ob → h2.t.get b = some ob) : opX P ts h2 f o.op = some (c, h2) := by
  cases hop : o.op with
  | load t x =>
    rw [hop] at e
    simp only [opX] at e ⊢
    split at e
    · rename_i ti b p ht q
      split at e
      · rename_i cs ro hb
        simp only [hm _ _ hb]
        split at e
        · rename_i hg
          rw [if_pos hg]
          split at e
          · rename_i hl
            cases e
            rw [if_pos hl]
          · cases e
        · rename_i hg
          rw [if_neg hg]
          split at e
          · rename_i c' hc
            cases e
            rfl
          · cases e
      · cases e
    · cases e
  | lookup t m k ok =>
    rw [hop] at e
    cases ok with
    | true =>
      simp only [opX] at e ⊢
      split at e
      · rename_i kt et s1 g1 z1 b n ht hm' hk'
        split at e
        · rename_i s2 g2 z2 te es hkt het hb
          simp only [hkt, het, hm _ _ hb]
          split at e <;> (cases e; rfl)
        · cases e
      · cases e
    | false =>
      simp only [opX] at e ⊢
      split at e
      · rename_i kt et s1 g1 z1 b n ht hm' hk'
        split at e
        · rename_i s2 g2 z2 es hkt hb
          simp only [hkt, hm _ _ hb]
          split at e
          · cases e; rfl
          · cases e
        · cases e
      · cases e
  | slice t x lo hi mx =>
    rw [hop] at e
    simp only [opX] at e ⊢
    split at e
    · rename_i el es s1 g1 z1 q es' len cap ht hq
      split at e
      · rename_i hc
        rw [if_pos hc]
        split at e
        · rename_i v hv
          cases e
          rfl
        · unfold restC at e
          split at e
          · split at e
            · split at e
              · cases e
                simp at hn
              · cases e
            · cases e
          · cases e
      · cases e
    · rename_i n es ea s1 g1 z1 b p ht hq
      split at e
      · rename_i cs ro hb
        simp only [hm _ _ hb]
        split at e
        · rename_i hc
          rw [if_pos hc]
          split at e
          · rename_i v hv
            cases e
            rfl
          · cases e
        · cases e
      · cases e
    · cases e
  | _ => rw [hop] at hk; cases hk
/-- A new block is made, whatever memory holds: under a name that was kept. -/
def Late (P : Program) (o : Oper) (a : Act) (V : Va) (W : World) (n : Nat) (c : CV) (ob : CB) : Prop :=
  ∃ v obj sz, (execOp a.eval o).run P W = .ok (.value v) (W.alloc obj) ∧ (∀ V', V.le V' → V'.blk n = some ⟨W.heap.size, 0, sz⟩ → VR V' c v) ∧ ∀ base, base ≤ W.heap.size → BR base V (W.alloc obj) ⟨W.heap.size, 0, sz⟩ ob
theorem BR.fresh {base : Nat} {cs : List CV} {vs : Array Value} (hv : VRs V cs vs.toList) (e : TypeId) (hb : base ≤ W.heap.size) : BR base V (W.alloc (.cells vs e)) ⟨W.heap.size, 0, vs.size⟩ (.cells cs false) := by
  refine ⟨?_, fun _ => ⟨hb, vs, e, heap_alloc_new W _, rfl⟩, fun i c hc => ?_⟩
  · show 0 + cs.length ≤ vs.size
    rw [hv.length]; simp
  · obtain ⟨v, h1, h2⟩ := hv.get hc
    refine ⟨v, ?_, h2⟩
    unfold World.cell?
    simp only [heap_alloc_new, Nat.zero_add]
    simpa using h1
theorem alloc_late (hts : TS P ts) (hf : FR V f a) (W : World) (hk : allocOp o.op = true) {c : CV} {h1 : CH} (e : opX P ts h f o.op = some (c, h1)) : ∃ ob, h1 = h.push ob ∧ Late P o a V W h.n c ob := by
  cases hop : o.op with
  | alloc t =>
    rw [hop] at e
    simp only [opX] at e
    split at e
    · rename_i ti ht
      split at e
      · rename_i cs hc
        cases e
        obtain ⟨i, z, g1, g2, g3, g4, g5, g6, d, hu⟩ := tiOf_ok (hts _ _ ht)
        rw [g6] at hc
        have hv := cellsC_ok hc (cvOf_ok V z)
        refine ⟨_, rfl, .pointer (some ⟨W.heap.size, 0, none⟩), .cells z.cells t, z.cells.size, ?_, fun V' _ hb => ⟨_, hb, rfl⟩, fun base hb => BR.fresh hv t hb⟩
        simp only [execOp, hop]
        rw [Sem.run_bind]
        unfold Instr.alloc
        simp only [Sem.run_bind, zero_run g1 g2, Result.andThen_ok, newVar, newRow_run, Sem.run_pure]
      · cases e
    · cases e
  | box t x =>
    rw [hop] at e
    simp only [opX] at e
    split at e
    · rename_i cs hc
      cases e
      have hv := cellsC_ok hc (evC_ok hf x)
      refine ⟨_, rfl, .pointer (some ⟨W.heap.size, 0, none⟩), .cells (a.eval x).cells t, (a.eval x).cells.size, ?_, fun V' _ hb => ⟨_, hb, rfl⟩, fun base hb => BR.fresh hv t hb⟩
      simp only [execOp, hop]
      rw [Sem.run_bind]
      unfold Instr.box
      simp only [Sem.run_bind, Result.andThen_ok, newVar, newRow_run, Sem.run_pure]
    · cases e
  | makeMap t n =>
    rw [hop] at e
    cases n with
    | some x => simp only [opX] at e; cases e
    | none =>
      simp only [opX] at e
      cases e
      refine ⟨_, rfl, .map (some W.heap.size), .map #[] 0, 0, ?_, fun V' _ hb => ⟨_, hb, rfl⟩, fun base hb => ⟨hb, #[], 0, heap_alloc_new W _, rfl⟩⟩
      simp only [execOp, hop]
      rw [Sem.run_bind]
      rfl
  | buildSlice t len parts =>
    rw [hop] at e
    simp only [opX] at e
    split at e
    · rename_i el es s1 g1 z1 ht
      split at e
      · cases e
      · rename_i hn
        split at e
        · rename_i cs hc
          cases e
          obtain ⟨k1, k2⟩ := kind_slice ((tiOf_ok (hts _ _ ht)).choose_spec.choose_spec.2.2.1).symm
          obtain ⟨te, he⟩ : ∃ te, ts.get el = some te := by
            cases q : ts.get el with
            | none => simp [q] at hn
            | some te => exact ⟨te, rfl⟩
          obtain ⟨i, zv, q1, q2, _⟩ := tiOf_ok (hts _ _ he)
          obtain ⟨p1, p2⟩ := parts_ok hf parts
          have n1 : ¬ len * es > 2 ^ 24 := by omega
          have n2 : es ≠ 0 := by omega
          have hv : ∀ z : Array Value, VRs V (List.replicate (len * es) CV.any) ((Array.range (len * es)).map (z[· % z.size]!)).toList := fun z => by
            refine VRs.of_get (by simp) (fun i c v hc' _ => ?_)
            rw [List.getElem?_replicate] at hc'
            split at hc'
            · cases hc'; trivial
            · cases hc'
          have go : ∀ z : Array Value, (Instr.buildSlice t len (parts.map fun (i, x) => (i, a.eval x))).run P W = ((match Instr.fill (fun i => some (i * es, es)) ((Array.range (len * es)).map (z[· % z.size]!)) (parts.map fun (i, x) => (i, a.eval x)).toList with | some cells => (do pure (.slice (some (← newRow el cells)) len len)) | _ => stuck "buildSlice: a part of the wrong size" : Sem Value)).run P W → ∃ ob, h.push (.cells cs false) = h.push ob ∧ Late P o a V W h.n (.slice (some (h.n, 0)) es len (.lit len)) ob := fun z hz => by
            obtain ⟨vs, m1, m2⟩ := fill_ok _ _ _ _ p1 p2 (hv z) hc
            have l1 := m2.length
            refine ⟨_, rfl, .slice (some ⟨W.heap.size, 0, none⟩) len len, .cells vs el, vs.size, ?_, fun V' _ hb => ⟨_, len, hb, rfl, Nat.le_refl _, ?_, by simp⟩, fun base hb => BR.fresh m2 el hb⟩
            · simp only [execOp, hop]
              rw [Sem.run_bind, hz, m1]
              rfl
            · have l2 := fillC_length _ _ hc
              simp only [List.length_replicate, Array.length_toList] at l1 l2
              show 0 + 0 + len * es ≤ vs.size
              omega
          by_cases c : len * es = 0
          · refine go #[] ?_
            unfold Instr.buildSlice
            simp only [Sem.run_bind, run_underlying k1, Result.andThen_ok, szB_run k2.symm n2, if_neg n1, if_pos c, pure_bind]; rfl
          · refine go zv.cells ?_
            unfold Instr.buildSlice
            simp only [Sem.run_bind, run_underlying k1, Result.andThen_ok, szB_run k2.symm n2, if_neg n1, if_neg c, pure_bind, zero_run q1 q2]; rfl
        · cases e
    · cases e
  | makeSlice t l cp =>
    rw [hop] at e
    simp only [opX] at e
    split at e
    · rename_i el es s1 g1 z1 n m ht hn hm
      split at e
      · rename_i te he
        split at e
        · rename_i z hz
          split at e
          · rename_i hc
            cases e
            obtain ⟨k1, k2⟩ := kind_slice ((tiOf_ok (hts _ _ ht)).choose_spec.choose_spec.2.2.1).symm
            obtain ⟨i, zv, q1, q2, q3, q4, q5, q6, d, hu⟩ := tiOf_ok (hts _ _ he)
            have hby := tiOf_bytes (hts _ _ he) q1
            obtain ⟨kl, vl⟩ := litN_ok hn (evC_ok hf l)
            obtain ⟨kc, vc⟩ := litN_ok hm (evC_ok hf cp)
            rw [q6] at hz
            have hzv : VRs V z zv.cells.toList := cellsC_ok hz (cvOf_ok V zv)
            have hes : es = i.size := by rw [k2]; simp [szB, q1]
            have hb : (i.bytes : Int) * (m : Int) ≤ 281474976710656 := by
              have h1 : i.bytes * m ≤ 16777216 * 10000 := Nat.mul_le_mul hby hc.2.1
              have h2 : ((i.bytes * m : Nat) : Int) ≤ 16777216 * 10000 := by omega
              rw [Int.natCast_mul] at h2
              omega
            have hrun := run_make (P := P) W t el i zv k1 q1 q2 kl kc (n : Int) (m : Int) (by omega) (by omega) hb (by omega)
            simp only [Int.toNat_natCast] at hrun
            have hrow := madeCells_ok hzv (by omega) m
            rw [hc.2.2.1, hes] at hrow
            have hsz : (madeCells zv.cells (m * i.size)).size = m * i.size := size_madeCells _ _
            refine ⟨_, rfl, .slice (some ⟨W.heap.size, 0, none⟩) n m, .cells (madeCells zv.cells (m * i.size)) el, (madeCells zv.cells (m * i.size)).size, ?_, fun V' _ hb => ⟨_, m, hb, rfl, hc.1, ?_, by simp⟩, fun base hb => BR.fresh hrow el hb⟩
            · simp only [execOp, hop]
              rw [Sem.run_bind, vl, vc, hrun]
              rfl
            · show 0 + 0 + m * es ≤ (madeCells zv.cells (m * i.size)).size
              rw [hsz, hes]
              omega
          · cases e
        · cases e
      · cases e
    · cases e
  | _ => rw [hop] at hk; cases hk
end
end Go.Proofs.YtpjgmeogkomhlaaGreat
