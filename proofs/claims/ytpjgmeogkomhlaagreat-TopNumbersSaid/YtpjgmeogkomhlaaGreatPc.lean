/-
  Addresses and parts, run on what is known, are run as the code runs them.
  Memory read and written, run on what is known, is as the code reads and writes it.
  Memory written and made, run on what is known, is as the code writes and makes it.
  Parts of rows, slices, maps, run on what is known, are run as the code runs them. No conditions but those named.
-/
import Derived.Test.YtpjgmeogkomhlaaGreatPb
namespace Go.Proofs.YtpjgmeogkomhlaaGreat
open Go.RowKit
theorem add_at (b o n : Nat) : (Addr.mk b o none).add n = ⟨b, o + n, none⟩ := by
  unfold Addr.add
  split
  · rename_i h; subst h; rfl
  · rfl
theorem szB_run {P : Program} {t : TypeId} {s : Nat} (h : szB P t = s) (h0 : s ≠ 0) (W : World) : (sizeOf t).run P W = .ok s W := by
  unfold szB at h
  split at h
  · rename_i i hi
    simp [sizeOf, typeInfo, program, Sem.run, Sem.bind, bind, hi, pure, h]
  · exact absurd h.symm h0
theorem agg_run {P : Program} {t : TypeId} {d : TypeDesc} (h : P.underlying t = some d) (W : World) : (isAgg t).run P W = .ok (aggB P t) W := by
  unfold isAgg aggB
  rw [Sem.run_bind, run_underlying h]
  simp only [Result.andThen_ok, h]
  cases d <;> rfl
theorem litN_ok {V : Va} {c : CV} {n : Nat} {v : Value} (h : litN c = some n) (hv : VR V c v) : ∃ k, v = .int k (n : Int) := by
  unfold litN at h
  split at h
  · rename_i k m
    split at h
    · rename_i h0
      cases h
      obtain ⟨u, h1, h2⟩ := hv
      cases h1
      refine ⟨k, ?_⟩
      rw [h2]
      congr 1
      omega
    · cases h
  · cases h
section
variable {P : Program} {ts : Tr TI} {w0 : World} {h : CH} {V : Va} {f : Fr} {a : Act} {W : World} {o : Oper} {r : CV × CH}
theorem op_fieldAddr (hts : TS P ts) (hr : Rel w0 h V W) (hf : FR V f a) {t : TypeId} {x : Operand} {i : Nat} (ho : o.op = .fieldAddr t x i) (e : opX P ts h f (.fieldAddr t x i) = some r) : Goes P w0 h V o a W r := by
  simp only [opX] at e
  split at e
  · rename_i fs s1 g1 z1 b p ht q
    split at e
    · rename_i off s ag hi
      split at e
      · cases e
      · rename_i h0
        cases e
        obtain ⟨fields, k1, k2, _⟩ := kind_struct ((tiOf_ok (hts _ _ ht)).choose_spec.choose_spec.2.2.1).symm
        have hx := evC_ok hf x
        rw [q] at hx
        obtain ⟨sp, h1, h2⟩ := hx
        subst k2
        rw [List.getElem?_map] at hi
        cases hfd : fields[i]? with
        | none =>
          rw [Array.getElem?_toList, hfd] at hi
          cases hi
        | some fd =>
          rw [Array.getElem?_toList, hfd] at hi
          simp only [Option.map_some, Option.some.injEq, Prod.mk.injEq] at hi
          obtain ⟨e1, e2, _⟩ := hi
          refine Goes.value (v := .pointer (some ⟨sp.blk, sp.off + p + off, none⟩)) (W' := W) ?_ (Ext.refl h V) ⟨sp, h1, by rw [Nat.add_assoc]⟩ hr
          simp only [execOp, ho, h2]
          rw [Sem.run_bind]
          unfold Instr.fieldAt
          simp only [Sem.run_bind, run_underlying k1, Result.andThen_ok, hfd, Instr.sureAddr, Sem.run_pure, fieldPlace, szB_run e2 h0, if_neg h0, add_at, e1]
    · cases e
  · cases e
theorem asInt_run (k : IntKind) (n : Int) (W : World) : (asIntOf (.int k n)).run P W = .ok (k, n) W := rfl
theorem op_indexAddr (hts : TS P ts) (hr : Rel w0 h V W) (hf : FR V f a) {t : TypeId} {x y : Operand} (ho : o.op = .indexAddr t x y) (e : opX P ts h f (.indexAddr t x y) = some r) : Goes P w0 h V o a W r := by
  simp only [opX] at e
  split at e
  · rename_i n es ea s1 g1 z1 b p k ht q hk
    split at e
    · rename_i hc
      cases e
      obtain ⟨el, k1, k2, _⟩ := kind_array ((tiOf_ok (hts _ _ ht)).choose_spec.choose_spec.2.2.1).symm
      have hx := evC_ok hf x
      rw [q] at hx
      obtain ⟨sp, h1, h2⟩ := hx
      obtain ⟨ik, h3⟩ := litN_ok hk (evC_ok hf y)
      refine Goes.value (v := .pointer (some ⟨sp.blk, sp.off + p + k * es, none⟩)) (W' := W) ?_ (Ext.refl h V) ⟨sp, h1, by rw [Nat.add_assoc]⟩ hr
      have hlt : (0 : Int) ≤ (k : Int) ∧ (k : Int) < (n : Int) := by omega
      simp only [execOp, ho, h2, h3]
      rw [Sem.run_bind]
      unfold Instr.indexAt
      simp only [Sem.run_bind, asInt_run, Result.andThen_ok, run_underlying k1, Instr.sureAddr, Sem.run_pure, if_pos hlt, szB_run k2.symm hc.2, Int.toNat_natCast, add_at]
    · cases e
  · rename_i el es s1 g1 z1 b p e' n cp k ht q hk
    split at e
    · rename_i hc
      cases e
      obtain ⟨k1, k2⟩ := kind_slice ((tiOf_ok (hts _ _ ht)).choose_spec.choose_spec.2.2.1).symm
      have hx := evC_ok hf x
      rw [q] at hx
      obtain ⟨sp, cv, h1, _, _, _, h2⟩ := hx
      obtain ⟨ik, h3⟩ := litN_ok hk (evC_ok hf y)
      refine Goes.value (v := .pointer (some ⟨sp.blk, sp.off + p + k * es, none⟩)) (W' := W) ?_ (Ext.refl h V) ⟨sp, h1, by rw [Nat.add_assoc]⟩ hr
      have hlt : (0 : Int) ≤ (k : Int) ∧ (k : Int) < (n : Int) := by omega
      simp only [execOp, ho, h2, h3]
      rw [Sem.run_bind]
      unfold Instr.indexAt
      simp only [Sem.run_bind, asInt_run, Result.andThen_ok, run_underlying k1, Sem.run_pure, if_pos hlt, szB_run k2.symm hc.2, Int.toNat_natCast, add_at]
    · cases e
  · cases e
theorem partC_ok {V : Va} {t : TypeId} {d : TypeDesc} {s off : Nat} {cs : List CV} {xs : Array Value} {c : CV} (hu : P.underlying t = some d) (hs : aggB P t = true → (sizeOf t).run P W = .ok s W) (hv : VRs V cs xs.toList) (e : partC (aggB P t) s cs off = some c) : ∃ v, VR V c v ∧ (part t xs off).run P W = .ok v W := by
  unfold partC at e
  unfold part
  rw [Sem.run_bind, agg_run hu]
  simp only [Result.andThen_ok]
  split at e
  · rename_i hg
    cases e
    refine ⟨.agg (xs.extract off (off + s)), ⟨(xs.toList.drop off).take s, (hv.drop off).take s, ?_⟩, ?_⟩
    · congr 1
      apply Array.ext'
      simp [List.extract_eq_take_drop]
    · rw [if_pos hg, Sem.run_bind, hs hg]
      rfl
  · rename_i hg
    obtain ⟨v, h1, h2⟩ := hv.get e
    refine ⟨v, h2, ?_⟩
    rw [if_neg hg]
    have : xs[off]? = some v := by simpa using h1
    rw [this]
    rfl
end
end Go.Proofs.YtpjgmeogkomhlaaGreat
namespace Go.Proofs.YtpjgmeogkomhlaaGreat
open Go.RowKit
theorem VRs.choose {V : Va} : ∀ (l : List CV) (p : Nat → Value → Prop), (∀ j c, l[j]? = some c → ∃ v, p j v ∧ VR V c v) → ∃ vs, VRs V l vs ∧ ∀ j v, vs[j]? = some v → p j v
  | [], _, _ => ⟨[], VRs.nil V, fun j v h => by cases h⟩
  | c :: cs, p, h => by
    obtain ⟨v, h1, h2⟩ := h 0 c rfl
    obtain ⟨vs, h3, h4⟩ := VRs.choose cs (fun j => p (j + 1)) (fun j c' hc => h (j + 1) c' (by simpa using hc))
    refine ⟨v :: vs, VRs.cons h2 h3, fun j u hu => ?_⟩
    cases j with
    | zero =>
      have : v = u := by simpa using hu
      subst this
      exact h1
    | succ j => exact h4 j u (by simpa using hu)
/-- The cells of a known block, in the world. -/
theorem Rel.read {w0 : World} {h : CH} {V : Va} {W : World} (r : Rel w0 h V W) {b o n : Nat} {cs : List CV} {ro : Bool} {s : Spot} (hb : h.t.get b = some (.cells cs ro)) (hs : V.blk b = some s) :
    ∃ vs, VRs V ((cs.drop o).take n) vs ∧ ∀ j v, vs[j]? = some v → W.cell? ⟨s.blk, s.off + o + j, none⟩ = some v := by
  have h2 := r.blk b _ s hb hs
  obtain ⟨vs, h3, h4⟩ := VRs.choose (V := V) ((cs.drop o).take n) (fun j v => W.cell? ⟨s.blk, s.off + o + j, none⟩ = some v) (fun j c hc => by
    rw [List.getElem?_take] at hc
    split at hc
    · rw [List.getElem?_drop] at hc
      obtain ⟨v, h5, h6⟩ := h2.2.2 _ c hc
      exact ⟨v, by rw [Nat.add_assoc]; exact h5, h6⟩
    · cases hc)
  exact ⟨vs, h3, h4⟩
theorem loadCellsFrom_run {P : Program} {W : World} {b o : Nat} : ∀ (n i : Nat) (acc : Array Value) (vs : List Value), vs.length = n → (∀ j v, vs[j]? = some v → W.cell? ⟨b, o + (i + j), none⟩ = some v) → (loadCellsFrom ⟨b, o, none⟩ i n acc).run P W = .ok (acc ++ vs.toArray) W
  | 0, i, acc, vs, hl, _ => by
    have : vs = [] := List.length_eq_zero_iff.1 hl
    subst this
    simp [loadCellsFrom, Sem.run_pure]
  | n + 1, i, acc, [], hl, _ => by cases hl
  | n + 1, i, acc, v :: vs, hl, hc => by
    unfold loadCellsFrom
    have h0 := hc 0 v rfl
    rw [Sem.run_bind]
    have e : (load ((Addr.mk b o none).add i)).run P W = .ok v W := by
      rw [add_at]
      simp only [load, Sem.run]
      rw [show o + i = o + (i + 0) by omega, h0]
    rw [e]
    simp only [Result.andThen_ok]
    rw [loadCellsFrom_run n (i + 1) (acc.push v) vs (by simpa using hl) (fun j u hu => by
      have := hc (j + 1) u (by simpa using hu)
      rw [show i + 1 + j = i + (j + 1) by omega]
      exact this)]
    simp
theorem loadCells_run {P : Program} {W : World} {b o n : Nat} {vs : List Value} (hl : vs.length = n) (hc : ∀ j v, vs[j]? = some v → W.cell? ⟨b, o + j, none⟩ = some v) : (loadCells ⟨b, o, none⟩ n).run P W = .ok vs.toArray W := by
  unfold loadCells
  rw [loadCellsFrom_run n 0 #[] vs hl (fun j v hj => by rw [Nat.zero_add]; exact hc j v hj)]
  simp
section
variable {P : Program} {ts : Tr TI} {w0 : World} {h : CH} {V : Va} {f : Fr} {a : Act} {W : World} {o : Oper} {r : CV × CH}
theorem size_run {P : Program} {t : TypeId} {i : TypeInfo} (h : P.info? t = some i) (W : World) : (sizeOf t).run P W = .ok i.size W := by
  simp [sizeOf, typeInfo, program, Sem.run, Sem.bind, bind, h, pure]
/-- A variable is read. -/
theorem loadVar_ok (hts : TS P ts) (hr : Rel w0 h V W) {t : TypeId} {ti : TI} (ht : ts.get t = some ti) {b p : Nat} {cs : List CV} {ro : Bool} {s : Spot} (hb : h.t.get b = some (.cells cs ro)) (hs : V.blk b = some s) {c : CV}
    (e : (if ti.agg then (if p + ti.size ≤ cs.length then some (CV.agg ((cs.drop p).take ti.size)) else none) else cs[p]?) = some c) : ∃ v, VR V c v ∧ (loadVar t ⟨s.blk, s.off + p, none⟩).run P W = .ok v W := by
  have T := hts _ _ ht
  obtain ⟨i, z, h1, h2, h3, h4, h5, h6, d, hu⟩ := tiOf_ok T
  split at e
  · rename_i hg
    split at e
    · rename_i hl
      cases e
      obtain ⟨vs, g2, g3⟩ := hr.read (o := p) (n := ti.size) hb hs
      refine ⟨.agg vs.toArray, ⟨vs, g2, rfl⟩, ?_⟩
      unfold loadVar
      have hlen : vs.length = ti.size := by rw [← g2.length, List.length_take, List.length_drop]; omega
      rw [Sem.run_bind, agg_run hu]
      simp only [Result.andThen_ok]
      rw [if_pos (by rw [← h5]; exact hg), Sem.run_bind, size_run h1]
      simp only [Result.andThen_ok]
      rw [Sem.run_bind, loadCells_run (hlen.trans h4) g3]
      rfl
    · cases e
  · rename_i hg
    obtain ⟨v, g2, g3⟩ := hr.load hb hs e
    refine ⟨v, g3, ?_⟩
    unfold loadVar
    rw [Sem.run_bind, agg_run hu]
    simp only [Result.andThen_ok]
    rw [if_neg (by rw [← h5]; exact hg)]
    simp only [load, Sem.run]
    rw [g2]
theorem op_load (hts : TS P ts) (hr : Rel w0 h V W) (hf : FR V f a) {t : TypeId} {x : Operand} (ho : o.op = .load t x) (e : opX P ts h f (.load t x) = some r) : Goes P w0 h V o a W r := by
  have K : ∃ (ti : TI) (b p : Nat) (cs : List CV) (ro : Bool) (c : CV), ts.get t = some ti ∧ evC f x = .ptr b p ∧ h.t.get b = some (.cells cs ro) ∧ (if ti.agg then (if p + ti.size ≤ cs.length then some (CV.agg ((cs.drop p).take ti.size)) else none) else cs[p]?) = some c ∧ r = (c, h) := by
    simp only [opX] at e
    split at e
    · rename_i ti b p ht q
      split at e
      · rename_i cs ro hb
        split at e
        · rename_i hg
          split at e
          · rename_i hl
            cases e
            exact ⟨ti, b, p, cs, ro, _, ht, q, hb, by rw [if_pos hg, if_pos hl], rfl⟩
          · cases e
        · rename_i hg
          split at e
          · rename_i c hc
            cases e
            exact ⟨ti, b, p, cs, ro, c, ht, q, hb, by rw [if_neg hg]; exact hc, rfl⟩
          · cases e
      · cases e
    · cases e
  obtain ⟨ti, b, p, cs, ro, c, ht, q, hb, hc, rfl⟩ := K
  have hx := evC_ok hf x
  rw [q] at hx
  obtain ⟨s, g1, g5⟩ := hx
  obtain ⟨v, g2, g3⟩ := loadVar_ok (P := P) hts hr ht hb g1 hc
  refine Goes.value (v := v) (W' := W) ?_ (Ext.refl h V) g2 hr
  simp only [execOp, ho, g5]
  rw [Sem.run_bind]
  unfold Instr.loadAt
  simp only [Instr.sureAddr, Sem.run_bind, Sem.run_pure, Result.andThen_ok, g3]
end
end Go.Proofs.YtpjgmeogkomhlaaGreat
namespace Go.Proofs.YtpjgmeogkomhlaaGreat
open Go.RowKit
theorem Tr.setF_setF {α : Type} : ∀ (n : Nat) (t : Tr α) (i : Nat) (x y : α), Tr.setF n (Tr.setF n t i x) i y = Tr.setF n t i y
  | 0, _, _, _, _ => rfl
  | n + 1, .nil, i, x, y => by
    by_cases h0 : i = 0
    · simp [Tr.setF, h0]
    · by_cases h1 : i % 2 = 1
      · simp [Tr.setF, h0, h1, Tr.setF_setF n]
      · simp [Tr.setF, h0, h1, Tr.setF_setF n]
  | n + 1, .node l v r, i, x, y => by
    by_cases h0 : i = 0
    · simp [Tr.setF, h0]
    · by_cases h1 : i % 2 = 1
      · simp [Tr.setF, h0, h1, Tr.setF_setF n]
      · simp [Tr.setF, h0, h1, Tr.setF_setF n]
theorem Tr.set_set {α : Type} (t : Tr α) (i : Nat) (x y : α) : (t.set i x).set i y = t.set i y := Tr.setF_setF _ _ _ _ _
def setFrom : List CV → Nat → List CV → List CV
  | cs, _, [] => cs
  | cs, k, x :: xs => setFrom (cs.set k x) (k + 1) xs
theorem setFrom_length : ∀ (xs cs : List CV) (k : Nat), (setFrom cs k xs).length = cs.length
  | [], _, _ => rfl
  | x :: xs, cs, k => by rw [setFrom, setFrom_length xs]; simp
theorem setFrom_get : ∀ (xs cs : List CV) (k i : Nat), k + xs.length ≤ cs.length → (setFrom cs k xs)[i]? = if k ≤ i ∧ i < k + xs.length then xs[i - k]? else cs[i]?
  | [], cs, k, i, _ => by
    have n : ¬ (k ≤ i ∧ i < k + ([] : List CV).length) := by
      show ¬ (k ≤ i ∧ i < k + 0)
      omega
    rw [if_neg n]
    rfl
  | x :: xs, cs, k, i, h => by
    have h : k + (xs.length + 1) ≤ cs.length := h
    rw [setFrom, setFrom_get xs (cs.set k x) (k + 1) i (by simp; omega)]
    by_cases hi : k + 1 ≤ i ∧ i < k + 1 + xs.length
    · rw [if_pos hi, if_pos (by simp; omega)]
      obtain ⟨j, rfl⟩ : ∃ j, i = k + 1 + j := ⟨i - (k + 1), by omega⟩
      rw [show k + 1 + j - (k + 1) = j by omega, show k + 1 + j - k = j + 1 by omega]
      simp
    · rw [if_neg hi]
      by_cases hk : i = k
      · subst hk
        rw [if_pos (by simp)]
        rw [List.getElem?_set_self (by omega)]
        simp
      · rw [List.getElem?_set_ne (by omega), if_neg (by simp; omega)]
theorem setFrom_splice (xs cs : List CV) (k : Nat) (h : k + xs.length ≤ cs.length) : setFrom cs k xs = spliceC cs k xs := by
  apply List.ext_getElem?
  intro i
  rw [setFrom_get xs cs k i h]
  unfold spliceC
  by_cases h1 : i < k
  · rw [if_neg (by omega), List.append_assoc, List.getElem?_append_left (by simp; omega), List.getElem?_take, if_pos h1]
  · rw [List.append_assoc, List.getElem?_append_right (by simp; omega)]
    have hk : (cs.take k).length = k := by rw [List.length_take]; omega
    rw [hk]
    by_cases h2 : i < k + xs.length
    · rw [if_pos ⟨by omega, h2⟩, List.getElem?_append_left (by omega)]
    · rw [if_neg (by omega), List.getElem?_append_right (by omega), List.getElem?_drop]
      congr 1
      omega
theorem oneC_val {V : Va} {c : CV} {v : Value} (h : oneC c = true) (hv : VR V c v) : (∀ xs, v ≠ .agg xs) ∧ (∀ xs, v ≠ .tuple xs) := by
  cases c with
  | any => cases h
  | agg => cases h
  | tup => cases h
  | cond => cases h
  | bool e => obtain ⟨_, _, rfl⟩ := hv; simp
  | int k e => obtain ⟨_, _, rfl⟩ := hv; simp
  | nilp => rw [show v = .pointer none from hv]; simp
  | nilf => rw [show v = .nilFunc from hv]; simp
  | ptr b o => obtain ⟨_, _, rfl⟩ := hv; simp
  | map b => obtain ⟨_, _, rfl⟩ := hv; simp
  | func g x y => obtain ⟨_, _, _, _, rfl⟩ := hv; simp
  | slice a es len cap =>
    cases a with
    | none => obtain ⟨_, _, rfl⟩ := hv; simp
    | some b => obtain ⟨_, _, _, _, _, _, rfl⟩ := hv; simp
theorem store_run {P : Program} {W : World} {b o : Nat} {v u : Value} (h1 : ∀ xs, v ≠ .agg xs) (h2 : ∀ xs, v ≠ .tuple xs) (hc : W.cell? ⟨b, o, none⟩ = some u) (hf : W.frozen? ⟨b, o, none⟩ = false) : (store ⟨b, o, none⟩ v).run P W = .ok () (W.setCell ⟨b, o, none⟩ v) := by
  cases v with
  | agg xs => exact absurd rfl (h1 xs)
  | tuple xs => exact absurd rfl (h2 xs)
  | _ => simp [store, Sem.run, hc, hf]
/-- Cells are written one by one. -/
theorem Rel.writes {P : Program} {w0 : World} {V : Va} {b o : Nat} {s : Spot} (hs : V.blk b = some s) : ∀ (xs : List CV) (vs : List Value) (i : Nat) (cs : List CV) (h : CH) (W : World), VRs V xs vs → xs.all oneC = true → Rel w0 h V W → h.t.get b = some (.cells cs false) → o + i + xs.length ≤ cs.length →
    ∃ W', (storeCells ⟨s.blk, s.off + o, none⟩ vs i).run P W = .ok () W' ∧ Rel w0 { h with t := h.t.set b (.cells (setFrom cs (o + i) xs) false) } V W'
  | [], vs, i, cs, h, W, hv, _, hr, hb, _ => by
    rw [show vs = [] from hv]
    refine ⟨W, by simp [storeCells, Sem.run_pure], ?_⟩
    have e : ∀ b', (h.t.set b (.cells cs false)).get b' = h.t.get b' := fun b' => by
      by_cases q : b' = b
      · subst q; rw [Tr.get_set, hb]
      · rw [Tr.get_set_ne _ _ q]
    exact { hr with
      blk := fun b' o' s' hb' => hr.blk b' o' s' (by rw [← e b']; exact hb')
      sep := fun b1 b2 o1 o2 h1 h2 => hr.sep b1 b2 o1 o2 (by rw [← e b1]; exact h1) (by rw [← e b2]; exact h2)
      fb := fun b' hb' => ⟨(hr.fb b' hb').1, (e b').trans (hr.fb b' hb').2⟩ }
  | x :: xs, vs, i, cs, h, W, hv, ha, hr, hb, hl => by
    obtain ⟨v, ws, rfl, h1, h2⟩ := hv
    simp only [List.all_cons, Bool.and_eq_true] at ha
    have hl : o + i + (xs.length + 1) ≤ cs.length := hl
    obtain ⟨⟨u, q1⟩, q2, q3⟩ := hr.store hb (i := o + i) (by omega) h1 hs
    obtain ⟨n1, n2⟩ := oneC_val ha.1 h1
    obtain ⟨W', e1, e2⟩ := Rel.writes (P := P) (o := o) hs xs ws (i + 1) (cs.set (o + i) x) _ _ h2 ha.2 q3 (Tr.get_set _ _ _) (by rw [List.length_set]; omega)
    refine ⟨W', ?_, ?_⟩
    · unfold storeCells
      rw [Sem.run_bind, add_at, Nat.add_assoc, store_run n1 n2 q1 q2]
      simp only [Result.andThen_ok]
      exact e1
    · rw [Tr.set_set] at e2
      exact e2
theorem cellsC_ok {V : Va} {c : CV} {xs : List CV} {v : Value} (h : cellsC c = some xs) (hv : VR V c v) : VRs V xs v.cells.toList := by
  have one : (∀ ys, v ≠ .agg ys) → xs = [c] → VRs V xs v.cells.toList := fun hn e => by
    subst e
    have : v.cells = #[v] := by
      cases v with
      | agg ys => exact absurd rfl (hn ys)
      | _ => rfl
    rw [this]
    exact VRs.cons hv (VRs.nil V)
  cases c with
  | any => cases h
  | tup => cases h
  | cond => cases h
  | agg cs =>
    cases h
    obtain ⟨ys, h1, rfl⟩ := hv
    exact h1
  | bool e => cases h; exact one (oneC_val rfl hv).1 rfl
  | int k e => cases h; exact one (oneC_val rfl hv).1 rfl
  | nilp => cases h; exact one (oneC_val rfl hv).1 rfl
  | nilf => cases h; exact one (oneC_val rfl hv).1 rfl
  | ptr b o => cases h; exact one (oneC_val rfl hv).1 rfl
  | map b => cases h; exact one (oneC_val rfl hv).1 rfl
  | func g x y => cases h; exact one (oneC_val rfl hv).1 rfl
  | slice a es len cap => cases h; exact one (oneC_val rfl hv).1 rfl
section
variable {P : Program} {ts : Tr TI} {w0 : World} {h : CH} {V : Va} {f : Fr} {a : Act} {W : World} {o : Oper} {r : CV × CH}
theorem writeC_ok {P : Program} {b p : Nat} {xs : List CV} {h' : CH} {vs : List Value} {s : Spot} (hr : Rel w0 h V W) (e : writeC h b p xs = some h') (hs : V.blk b = some s) (hv : VRs V xs vs) : ∃ W', (storeCells ⟨s.blk, s.off + p, none⟩ vs).run P W = .ok () W' ∧ Rel w0 h' V W' ∧ Ext h V h' V := by
  unfold writeC at e
  split at e
  · rename_i cs hb
    split at e
    · rename_i hc
      cases e
      obtain ⟨W', e1, e2⟩ := Rel.writes (P := P) (o := p) hs xs vs 0 cs h W hv hc.2 hr hb (by omega)
      refine ⟨W', e1, ?_, Ext.set hs _⟩
      rw [setFrom_splice xs cs (p + 0) (by omega)] at e2
      exact e2
    · cases e
  · cases e
theorem op_store (hts : TS P ts) (hr : Rel w0 h V W) (hf : FR V f a) {t : TypeId} {x y : Operand} (ho : o.op = .store t x y) (e : opX P ts h f (.store t x y) = some r) : Goes P w0 h V o a W r := by
  simp only [opX] at e
  split at e
  · rename_i ti b p xs ht q hx
    split at e
    · rename_i hl
      split at e
      · rename_i h' hw
        cases e
        have hp := evC_ok hf x
        rw [q] at hp
        obtain ⟨s, h1, h2⟩ := hp
        have hv := cellsC_ok hx (evC_ok hf y)
        obtain ⟨W', e1, e2, e3⟩ := writeC_ok (P := P) hr hw h1 hv
        obtain ⟨i, z, g1, g2, g3, g4, g5, g6, d, hu⟩ := tiOf_ok (hts _ _ ht)
        refine Goes.skip (W' := W') ?_ e3 e2
        have hsz : (a.eval y).cells.size = i.size := by
          have q1 := hv.length
          rw [Array.length_toList] at q1
          exact q1.symm.trans (hl.trans g4)
        simp only [execOp, ho, h2]
        rw [Sem.run_bind]
        unfold Instr.storeAt storeVar
        simp only [Instr.sureAddr, Sem.run_bind, Sem.run_pure, Result.andThen_ok, size_run g1, hsz, ne_eq, not_true_eq_false, if_false, e1]
      · cases e
    · cases e
  · cases e
theorem newRow_run {P : Program} (t : TypeId) (cs : Array Value) (W : World) : (newRow t cs).run P W = .ok ⟨W.heap.size, 0, none⟩ (W.alloc (.cells cs t)) := rfl
theorem zero_run {P : Program} {t : TypeId} {i : TypeInfo} {z : Value} (h : P.info? t = some i) (hz : i.zero = some z) (W : World) : (zeroValue t).run P W = .ok z W := by
  simp [zeroValue, typeInfo, program, Sem.run, Sem.bind, bind, h, hz, pure]
theorem op_alloc (hts : TS P ts) (hr : Rel w0 h V W) {t : TypeId} (ho : o.op = .alloc t) (e : opX P ts h f (.alloc t) = some r) : Goes P w0 h V o a W r := by
  simp only [opX] at e
  split at e
  · rename_i ti ht
    split at e
    · rename_i cs hc
      cases e
      obtain ⟨i, z, g1, g2, g3, g4, g5, g6, d, hu⟩ := tiOf_ok (hts _ _ ht)
      rw [g6] at hc
      have hv := cellsC_ok hc (cvOf_ok V z)
      refine Goes.value (v := .pointer (some ⟨W.heap.size, 0, none⟩)) (W' := W.alloc (.cells z.cells t)) ?_ (Ext.push hr _ _) ⟨_, Va.setBlk_same, rfl⟩ (hr.alloc hv t)
      simp only [execOp, ho]
      rw [Sem.run_bind]
      unfold Instr.alloc
      simp only [Sem.run_bind, zero_run g1 g2, Result.andThen_ok, newVar, newRow_run, Sem.run_pure]
    · cases e
  · cases e
theorem op_box (hr : Rel w0 h V W) (hf : FR V f a) {t : TypeId} {x : Operand} (ho : o.op = .box t x) (e : opX P ts h f (.box t x) = some r) : Goes P w0 h V o a W r := by
  simp only [opX] at e
  split at e
  · rename_i cs hc
    cases e
    have hv := cellsC_ok hc (evC_ok hf x)
    refine Goes.value (v := .pointer (some ⟨W.heap.size, 0, none⟩)) (W' := W.alloc (.cells (a.eval x).cells t)) ?_ (Ext.push hr _ _) ⟨_, Va.setBlk_same, rfl⟩ (hr.alloc hv t)
    simp only [execOp, ho]
    rw [Sem.run_bind]
    unfold Instr.box
    simp only [Sem.run_bind, Result.andThen_ok, newVar, newRow_run, Sem.run_pure]
  · cases e
end
end Go.Proofs.YtpjgmeogkomhlaaGreat
namespace Go.Proofs.YtpjgmeogkomhlaaGreat
open Go.RowKit
section
variable {P : Program} {ts : Tr TI} {w0 : World} {h : CH} {V : Va} {f : Fr} {a : Act} {W : World} {o : Oper} {r : CV × CH}
theorem szB_run' {P : Program} {t : TypeId} {i : TypeInfo} (h : P.info? t = some i) (W : World) : (sizeOf t).run P W = .ok (szB P t) W := by
  rw [size_run h]
  simp [szB, h]
theorem info_of_und {P : Program} {t : TypeId} {d : TypeDesc} (h : P.underlying t = some d) : ∃ i, P.info? t = some i := by
  unfold Program.underlying at h
  split at h
  · rename_i hi; exact ⟨_, hi⟩
  · rename_i i _ hi; exact ⟨_, hi⟩
  · cases h
theorem op_sliceToArrayPointer (hts : TS P ts) (hr : Rel w0 h V W) (hf : FR V f a) {t : TypeId} {x : Operand} (ho : o.op = .sliceToArrayPointer t x) (e : opX P ts h f (.sliceToArrayPointer t x) = some r) : Goes P w0 h V o a W r := by
  simp only [opX] at e
  split at e
  · rename_i n es ea s1 g1 z1 b p e' len cp ht q
    split at e
    · rename_i hl
      cases e
      obtain ⟨el, k1, k2, _, _⟩ := kind_array ((tiOf_ok (hts _ _ ht)).choose_spec.choose_spec.2.2.1).symm
      have hx := evC_ok hf x
      rw [q] at hx
      obtain ⟨sp, cv, h1, _, _, _, h2⟩ := hx
      refine Goes.value (v := .pointer (some ⟨sp.blk, sp.off + p, none⟩)) (W' := W) ?_ (Ext.refl h V) ⟨sp, h1, rfl⟩ hr
      simp only [execOp, ho, h2]
      rw [Sem.run_bind]
      unfold Instr.arrayAt
      simp only [Sem.run_bind, run_underlying k1, Result.andThen_ok, if_neg (Nat.not_lt.2 hl), Sem.run_pure]
    · cases e
  · cases e
theorem op_field (hts : TS P ts) (hr : Rel w0 h V W) (hf : FR V f a) {t : TypeId} {x : Operand} {i : Nat} (ho : o.op = .field t x i) (e : opX P ts h f (.field t x i) = some r) : Goes P w0 h V o a W r := by
  simp only [opX] at e
  split at e
  · rename_i fs s1 g1 z1 cs ht q
    split at e
    · rename_i off s ag hi
      split at e
      · rename_i v hv
        cases e
        obtain ⟨fields, k1, k2, k3⟩ := kind_struct ((tiOf_ok (hts _ _ ht)).choose_spec.choose_spec.2.2.1).symm
        have hx := evC_ok hf x
        rw [q] at hx
        obtain ⟨xs, h1, h2⟩ := hx
        subst k2
        rw [List.getElem?_map, Array.getElem?_toList] at hi
        cases hfd : fields[i]? with
        | none => rw [hfd] at hi; cases hi
        | some fd =>
          rw [hfd] at hi
          simp only [Option.map_some, Option.some.injEq, Prod.mk.injEq] at hi
          obtain ⟨e1, e2, e3⟩ := hi
          obtain ⟨d, hd⟩ := k3 fd (Array.mem_toList_iff.2 (Array.mem_of_getElem? hfd))
          obtain ⟨inf, hin⟩ := info_of_und hd
          subst e3
          obtain ⟨u, h3, h4⟩ := partC_ok (W := W) hd (fun _ => by rw [← e2]; exact szB_run' hin W) h1 hv
          refine Goes.value (v := u) (W' := W) ?_ (Ext.refl h V) h3 hr
          simp only [execOp, ho, h2]
          rw [Sem.run_bind]
          unfold Instr.field
          simp only [Sem.run_bind, run_underlying k1, Result.andThen_ok, hfd, asAgg, Sem.run_pure, e1]
          rw [h4]
          rfl
      · cases e
    · cases e
  · cases e
theorem op_index (hts : TS P ts) (hr : Rel w0 h V W) (hf : FR V f a) {t : TypeId} {x y : Operand} (ho : o.op = .index t x y) (e : opX P ts h f (.index t x y) = some r) : Goes P w0 h V o a W r := by
  simp only [opX] at e
  split at e
  · rename_i n es ea s1 g1 z1 cs k ht q hk
    split at e
    · rename_i hc
      split at e
      · rename_i v hv
        cases e
        obtain ⟨el, k1, k2, k3, d, hd⟩ := kind_array ((tiOf_ok (hts _ _ ht)).choose_spec.choose_spec.2.2.1).symm
        have hx := evC_ok hf x
        rw [q] at hx
        obtain ⟨xs, h1, h2⟩ := hx
        obtain ⟨ik, h3⟩ := litN_ok hk (evC_ok hf y)
        obtain ⟨inf, hin⟩ := info_of_und hd
        rw [k3] at hv
        obtain ⟨u, h4, h5⟩ := partC_ok (W := W) hd (fun _ => szB_run k2.symm hc.2 W) h1 hv
        refine Goes.value (v := u) (W' := W) ?_ (Ext.refl h V) h4 hr
        have hlt : (0 : Int) ≤ (k : Int) ∧ (k : Int) < (n : Int) := by omega
        simp only [execOp, ho, h2, h3]
        rw [Sem.run_bind]
        unfold Instr.index
        simp only [Sem.run_bind, asInt_run, Result.andThen_ok, run_underlying k1, if_pos hlt, szB_run k2.symm hc.2, Int.toNat_natCast]
        rw [h5]
        rfl
      · cases e
    · cases e
  · cases e
end
end Go.Proofs.YtpjgmeogkomhlaaGreat
