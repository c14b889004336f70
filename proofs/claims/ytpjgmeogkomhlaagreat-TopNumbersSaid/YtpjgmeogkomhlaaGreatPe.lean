/-
  Maps and made slices, run on what is known, are as the code has them.
  Built-in functions, run on what is known, are as the code has them: all but append. No conditions but those named.
-/
import Derived.Test.YtpjgmeogkomhlaaGreatPd
import Derived.MapKept
import Derived.Laws.OwnMore
import Derived.Laws.IdiomCopy
namespace Go.Proofs.YtpjgmeogkomhlaaGreat
open Go.RowKit
theorem MR.find {V : Va} (n : Int) : ∀ (es : List (Int × CV)) (l : List MapEntry) (i : Nat), MR V es l → (lookC n es = none → Instr.findNow (.int .i64) (.int .i64 n) l i = some none) ∧ ∀ c, lookC n es = some c → ∃ j v, Instr.findNow (.int .i64) (.int .i64 n) l i = some (some (j, v)) ∧ VR V c v
  | [], l, i, h => by
    rw [show l = [] from h]
    exact ⟨fun _ => rfl, fun c hc => by cases hc⟩
  | (k, c0) :: es, l, i, ⟨e, rest, e1, e2, e3, e4⟩ => by
    subst e1
    have ih := MR.find n es rest (i + 1) e4
    by_cases hk : k = n
    · subst hk
      refine ⟨fun h => ?_, fun c hc => ⟨i, e.val, ?_, ?_⟩⟩
      · simp [lookC] at h
      · simp [Instr.findNow, e2, Instr.sameNow]
      · have : c0 = c := by simpa [lookC] using hc
        subst this
        exact e3
    · have hn : Instr.findNow (.int .i64) (.int .i64 n) (e :: rest) i = Instr.findNow (.int .i64) (.int .i64 n) rest (i + 1) := by
        have : (n == k) = false := by simpa using Ne.symm hk
        simp [Instr.findNow, e2, Instr.sameNow, this]
      have hl : lookC n ((k, c0) :: es) = lookC n es := if_neg hk
      rw [hn, hl]
      exact ih
theorem MR.push {V : Va} : ∀ {es : List (Int × CV)} {l : List MapEntry} {n : Int} {c : CV} {e : MapEntry}, MR V es l → e.key = .int .i64 n → VR V c e.val → MR V (es ++ [(n, c)]) (l ++ [e])
  | [], l, n, c, e, h, h1, h2 => by
    rw [show l = [] from h]
    exact ⟨e, [], rfl, h1, h2, rfl⟩
  | (k, c0) :: es, _, n, c, e, ⟨e0, rest, e1, e2, e3, e4⟩, h1, h2 => ⟨e0, rest ++ [e], by rw [e1]; rfl, e2, e3, MR.push e4 h1 h2⟩
section
variable {P : Program} {ts : Tr TI} {w0 : World} {h : CH} {V : Va} {f : Fr} {a : Act} {W : World} {o : Oper} {r : CV × CH}
theorem Rel.setMap (hr : Rel w0 h V W) {b : Nat} {es es' : List (Int × CV)} (hb : h.t.get b = some (.map es)) {s : Spot} (hs : V.blk b = some s) {l' : Array MapEntry} {ck' : Nat} (hm : MR V es' l'.toList) :
    Rel w0 { h with t := h.t.set b (.map es') } V { W with heap := W.heap.setIfInBounds s.blk (.map l' ck') } := by
  obtain ⟨h3, l, ck, h4, h5⟩ := hr.blk b _ s hb hs
  have far : ∀ k, k ≠ s.blk → (W.heap.setIfInBounds s.blk (Obj.map l' ck'))[k]? = W.heap[k]? := fun k hk => by simp [Ne.symm hk]
  have near : (W.heap.setIfInBounds s.blk (Obj.map l' ck'))[s.blk]? = some (Obj.map l' ck') := by
    have hlt : s.blk < W.heap.size := (Array.getElem?_eq_some_iff.1 h4).1
    simp [hlt]
  have g : ∀ b' o', (h.t.set b (.map es')).get b' = some o' → ∃ o'', h.t.get b' = some o'' ∧ o''.own = o'.own ∧ o''.live = o'.live := fun b' o' hb' => by
    by_cases e' : b' = b
    · subst e'
      have : o' = .map es' := by simpa [Tr.get_set] using hb'.symm
      subst this
      exact ⟨_, hb, rfl, rfl⟩
    · exact ⟨o', by simpa [Tr.get_set_ne _ _ e'] using hb', rfl, rfl⟩
  refine { hr with bel := ⟨hr.bel.os, hr.bel.tape, hr.bel.output, by simpa using hr.bel.size, fun k hk => ?_⟩, siz := by simpa using hr.siz, blk := ?_, sep := ?_, fb := ?_, there := ?_ }
  · show (W.heap.setIfInBounds s.blk (Obj.map l' ck'))[k]? = _
    rw [far k (by omega)]
    exact hr.bel.block k hk
  · intro b' o' s' hb' hs'
    by_cases e' : b' = b
    · subst e'
      have : o' = .map es' := by simpa [Tr.get_set] using hb'.symm
      subst this
      rw [hs] at hs'
      cases hs'
      exact ⟨h3, l', ck', near, hm⟩
    · have hb'' : h.t.get b' = some o' := by simpa [Tr.get_set_ne _ _ e'] using hb'
      by_cases hl : o'.live = true
      · exact (hr.blk b' o' s' hb'' hs').same (far _ (fun q => hr.sep b b' _ o' hb hb'' rfl hl (Ne.symm e') s s' hs hs' q.symm))
      · cases o' with
        | dead => trivial
        | _ => exact absurd rfl hl
  · intro b1 b2 o1 o2 hb1 hb2 ho1 ho2 hne s1 s2 hs1 hs2
    obtain ⟨o1', q1, q2, _⟩ := g b1 o1 hb1
    obtain ⟨o2', q3, _, q4⟩ := g b2 o2 hb2
    exact hr.sep b1 b2 o1' o2' q1 q3 (q2.trans ho1) (q4.trans ho2) hne s1 s2 hs1 hs2
  · intro b' hb'
    have := hr.fb b' hb'
    refine ⟨this.1, ?_⟩
    have e' : b' ≠ b := fun e => by rw [e] at this; rw [this.2] at hb; cases hb
    simpa [Tr.get_set_ne _ _ e'] using this.2
  · intro b' s' hs'
    simpa using hr.there b' s' hs'
theorem op_insert (hts : TS P ts) (hr : Rel w0 h V W) (hf : FR V f a) {t : TypeId} {m k x : Operand} (ho : o.op = .insert t m k x) (e : opX P ts h f (.insert t m k x) = some r) : Goes P w0 h V o a W r := by
  simp only [opX] at e
  split at e
  · rename_i kt et s1 g1 z1 b n ht hm hk
    split at e
    · rename_i s2 g2 z2 es hkt hb
      split at e
      · rename_i hl
        cases e
        have k1 := kind_map ((tiOf_ok (hts _ _ ht)).choose_spec.choose_spec.2.2.1).symm
        have k2 := kind_int ((tiOf_ok (hts _ _ hkt)).choose_spec.choose_spec.2.2.1).symm
        have vm := evC_ok hf m
        have vk := evC_ok hf k
        rw [hm] at vm
        rw [hk] at vk
        obtain ⟨s, hs, vm⟩ := vm
        obtain ⟨n', hn, vk⟩ := vk
        cases hn
        obtain ⟨s', h1, h3, l, ck, h4, h5⟩ := hr.blkAt hb hs
        rw [hs] at h1
        cases h1
        refine Goes.skip (W' := { W with heap := W.heap.setIfInBounds s.blk (.map (l.push { key := .int .i64 n, val := a.eval x, born := ck }) (ck + 1)) }) ?_ (Ext.set hs _) (hr.setMap hb hs ?_)
        · simp only [execOp, ho]
          rw [Sem.run_bind, vm, vk]
          unfold Instr.mapUpdate
          simp only [Sem.run_bind, run_underlying k1, Result.andThen_ok, Go.MapKept.run_getObj_map h4, Go.MapKept.run_checkKey (n := 9999) k2 (show Go.MapKept.IsKey (.int .i64) (.int .i64 n) from rfl), Go.MapKept.run_findKey k2 (((MR.find n es l.toList 0 h5).1 hl)), Go.MapKept.run_setObj_map _ h4]
          rfl
        · rw [Array.toList_push]
          exact h5.push rfl (evC_ok hf x)
      · cases e
    · cases e
  · cases e
theorem op_lookup (hts : TS P ts) (hr : Rel w0 h V W) (hf : FR V f a) {t : TypeId} {m k : Operand} {ok : Bool} (ho : o.op = .lookup t m k ok) (e : opX P ts h f (.lookup t m k ok) = some r) : Goes P w0 h V o a W r := by
  cases ok with
  | true =>
    simp only [opX] at e
    split at e
    · rename_i kt et s1 g1 z1 b n ht hm hk
      split at e
      · rename_i s2 g2 z2 te es hkt het hb
        have k1 := kind_map ((tiOf_ok (hts _ _ ht)).choose_spec.choose_spec.2.2.1).symm
        have k2 := kind_int ((tiOf_ok (hts _ _ hkt)).choose_spec.choose_spec.2.2.1).symm
        have vm := evC_ok hf m
        have vk := evC_ok hf k
        rw [hm] at vm
        rw [hk] at vk
        obtain ⟨s, hs, vm⟩ := vm
        obtain ⟨n', hn, vk⟩ := vk
        cases hn
        obtain ⟨s', h1, h3, l, ck, h4, h5⟩ := hr.blkAt hb hs
        rw [hs] at h1
        cases h1
        have M := MR.find n es l.toList 0 h5
        split at e
        · rename_i c hl
          cases e
          obtain ⟨j, v, q1, q2⟩ := M.2 c hl
          refine Goes.value (v := .tuple #[v, .bool true]) (W' := W) ?_ (Ext.refl h V) ⟨[v, .bool true], VRs.cons q2 (VRs.cons ⟨true, rfl, rfl⟩ (VRs.nil V)), rfl⟩ hr
          simp only [execOp, ho]
          rw [Sem.run_bind, vm, vk]
          unfold Instr.lookup
          simp only [Sem.run_bind, run_underlying k1, Result.andThen_ok, Go.MapKept.run_getObj_map h4, Go.MapKept.run_checkKey (n := 9999) k2 (show Go.MapKept.IsKey (.int .i64) (.int .i64 n) from rfl), Go.MapKept.run_findKey k2 q1, Sem.run_pure, if_true]
        · rename_i hl
          cases e
          obtain ⟨i, z, g1, g2, g3, g4, g5, g6, d, hu⟩ := tiOf_ok (hts _ _ het)
          refine Goes.value (v := .tuple #[z, .bool false]) (W' := W) ?_ (Ext.refl h V) ⟨[z, .bool false], VRs.cons (by rw [g6]; exact cvOf_ok V z) (VRs.cons ⟨false, rfl, rfl⟩ (VRs.nil V)), rfl⟩ hr
          simp only [execOp, ho]
          rw [Sem.run_bind, vm, vk]
          unfold Instr.lookup
          simp only [Sem.run_bind, run_underlying k1, Result.andThen_ok, Go.MapKept.run_getObj_map h4, Go.MapKept.run_checkKey (n := 9999) k2 (show Go.MapKept.IsKey (.int .i64) (.int .i64 n) from rfl), Go.MapKept.run_findKey k2 (M.1 hl), Sem.run_pure, if_true, zero_run g1 g2]
      · cases e
    · cases e
  | false =>
    simp only [opX] at e
    split at e
    · rename_i kt et s1 g1 z1 b n ht hm hk
      split at e
      · rename_i s2 g2 z2 es hkt hb
        have k1 := kind_map ((tiOf_ok (hts _ _ ht)).choose_spec.choose_spec.2.2.1).symm
        have k2 := kind_int ((tiOf_ok (hts _ _ hkt)).choose_spec.choose_spec.2.2.1).symm
        have vm := evC_ok hf m
        have vk := evC_ok hf k
        rw [hm] at vm
        rw [hk] at vk
        obtain ⟨s, hs, vm⟩ := vm
        obtain ⟨n', hn, vk⟩ := vk
        cases hn
        obtain ⟨s', h1, h3, l, ck, h4, h5⟩ := hr.blkAt hb hs
        rw [hs] at h1
        cases h1
        have M := MR.find n es l.toList 0 h5
        split at e
        · rename_i c hl
          cases e
          obtain ⟨j, v, q1, q2⟩ := M.2 c hl
          refine Goes.value (v := v) (W' := W) ?_ (Ext.refl h V) q2 hr
          simp only [execOp, ho]
          rw [Sem.run_bind, vm, vk]
          unfold Instr.lookup
          simp only [Sem.run_bind, run_underlying k1, Result.andThen_ok, Go.MapKept.run_getObj_map h4, Go.MapKept.run_checkKey (n := 9999) k2 (show Go.MapKept.IsKey (.int .i64) (.int .i64 n) from rfl), Go.MapKept.run_findKey k2 q1, Sem.run_pure, Bool.false_eq_true, if_false]
        · cases e
      · cases e
    · cases e
/-- Rows of zeros. -/
theorem madeCells_ok {z : Value} {zc : List CV} (hz : VRs V zc z.cells.toList) (h0 : 0 < zc.length) (m : Nat) : VRs V (List.replicate m zc).flatten (madeCells z.cells (m * zc.length)).toList := by
  have hl := hz.length
  have hs : z.cells.size = zc.length := by rw [hl, Array.length_toList]
  have hlen : (List.replicate m zc).flatten.length = m * zc.length := by simp
  refine VRs.of_get (by rw [hlen]; simp [madeCells]) (fun i c v hc hv => ?_)
  have hi : i < m * zc.length := by
    have := (List.getElem?_eq_some_iff.1 hc).1
    omega
  have e1 : zc[i % zc.length]? = some c := by
    rw [← hc]
    clear hc hv hlen
    induction m generalizing i with
    | zero => omega
    | succ m ih =>
      rw [List.replicate_succ, List.flatten_cons]
      by_cases q : i < zc.length
      · rw [List.getElem?_append_left q, Nat.mod_eq_of_lt q]
      · rw [List.getElem?_append_right (by omega), ← ih (i - zc.length) (by rw [Nat.add_mul] at hi; omega)]
        rw [← Nat.mod_eq_sub_mod (by omega)]
  obtain ⟨u, e2, e3⟩ := hz.get e1
  have : v = u := by
    have hb : i % zc.length < z.cells.size := by rw [hs]; exact Nat.mod_lt _ h0
    simp [madeCells, hi, hs] at hv
    rw [Array.getElem?_toList] at e2
    rw [← hv, Array.getElem!_eq_getD, Array.getD_eq_getD_getElem?, e2]
    rfl
  subst this
  exact e3
theorem op_makeSlice (hts : TS P ts) (hr : Rel w0 h V W) (hf : FR V f a) {t : TypeId} {l c : Operand} (ho : o.op = .makeSlice t l c) (e : opX P ts h f (.makeSlice t l c) = some r) : Goes P w0 h V o a W r := by
  simp only [opX] at e
  split at e
  · rename_i el es s1 g1 z1 n m ht hn hm
    split at e
    · rename_i te he
      split at e
      · rename_i z hz
        split at e
        · rename_i hc
          cases e
          obtain ⟨k1, k2⟩ := kind_slice ((tiOf_ok (hts _ _ ht)).choose_spec.choose_spec.2.2.1).symm
          obtain ⟨i, zv, q1, q2, q3, q4, q5, q6, d, hu⟩ := tiOf_ok (hts _ _ he)
          have hby := tiOf_bytes (hts _ _ he) q1
          obtain ⟨kl, vl⟩ := litN_ok hn (evC_ok hf l)
          obtain ⟨kc, vc⟩ := litN_ok hm (evC_ok hf c)
          rw [q6] at hz
          have hzv : VRs V z zv.cells.toList := cellsC_ok hz (cvOf_ok V zv)
          have hes : es = i.size := by rw [k2]; simp [szB, q1]
          have hb : (i.bytes : Int) * (m : Int) ≤ 281474976710656 := by
            have h1 : i.bytes * m ≤ 16777216 * 10000 := Nat.mul_le_mul hby hc.2.1
            have h2 : ((i.bytes * m : Nat) : Int) ≤ 16777216 * 10000 := by omega
            rw [Int.natCast_mul] at h2
            omega
          have hrun := run_make (P := P) W t el i zv k1 q1 q2 kl kc (n : Int) (m : Int) (by omega) (by omega) hb (by omega)
          simp only [Int.toNat_natCast] at hrun
          have hrow := madeCells_ok hzv (by omega) m
          rw [hc.2.2.1, hes] at hrow
          have hsz : (madeCells zv.cells (m * i.size)).size = m * i.size := size_madeCells _ _
          refine Goes.value (v := .slice (some ⟨W.heap.size, 0, none⟩) n m) (W' := W.alloc (.cells (madeCells zv.cells (m * i.size)) el)) ?_ (Ext.push hr _ _) ⟨_, m, Va.setBlk_same, rfl, hc.1, ?_, by simp⟩ (hr.alloc hrow el)
          · simp only [execOp, ho]
            rw [Sem.run_bind, vl, vc, hrun]
            rfl
          · show 0 + 0 + m * es ≤ (madeCells zv.cells (m * i.size)).size
            rw [hsz, hes]
            omega
        · cases e
      · cases e
    · cases e
  · cases e
end
end Go.Proofs.YtpjgmeogkomhlaaGreat
namespace Go.Proofs.YtpjgmeogkomhlaaGreat
open Go.RowKit
section
variable {P : Program} {ts : Tr TI} {w0 : World} {h : CH} {V : Va} {f : Fr} {a : Act} {W : World} {o : Oper} {r : CV × CH}
/-- What a built-in function's run comes to. -/
def Built (P : Program) (w0 : World) (h : CH) (V : Va) (W : World) (b : Builtin) (tys : Array TypeId) (vs : Array Value) (r : CV × CH) : Prop :=
  ∃ V' v W', Ext h V r.2 V' ∧ VR V' r.1 v ∧ Rel w0 r.2 V' W' ∧ ∀ ty consts, (builtin b tys ty consts vs).run P W = .ok (.value v) W'
theorem op_builtin (hf : FR V f a) {c : Call} {b : Builtin} (ho : o.op = .call c) (hc : c.callee = .builtin b) (h1 : VRs V (c.args.toList.map (evC f)) (c.args.map a.eval).toList → Built P w0 h V W b c.argTypes (c.args.map a.eval) r) : Goes P w0 h V o a W r := by
  obtain ⟨V', v, W', h2, h3, h4, h5⟩ := h1 (by rw [Array.toList_map]; exact evCs_ok hf _)
  refine Goes.value (v := v) (W' := W') ?_ h2 h3 h4
  simp only [execOp, ho]
  rw [Sem.run_bind]
  unfold resolve
  simp only [hc, Sem.run_pure, Result.andThen_ok]
  exact h5 _ _
theorem min2C_ok {x y c : CV} {vx vy : Value} (e : minC x y = some c) (hx : VR V x vx) (hy : VR V y vy) : ∃ v, VR V c v ∧ ∀ W : World, (Builtin.min2 vx vy).run P W = .ok v W := by
  unfold minC at e
  split at e
  · cases e
    obtain ⟨m, h1, rfl⟩ := hx
    obtain ⟨n, h2, rfl⟩ := hy
    cases h1; cases h2
    exact ⟨_, ⟨_, rfl, rfl⟩, fun W => rfl⟩
  · cases e
    obtain ⟨m, h1, rfl⟩ := hx
    obtain ⟨n, h2, rfl⟩ := hy
    exact ⟨_, ⟨_, by simp only [IE.den, h1, h2], rfl⟩, fun W => rfl⟩
  · cases e
theorem max2C_ok {x y c : CV} {vx vy : Value} (e : maxC x y = some c) (hx : VR V x vx) (hy : VR V y vy) : ∃ v, VR V c v ∧ ∀ W : World, (Builtin.max2 vx vy).run P W = .ok v W := by
  unfold maxC at e
  split at e
  · cases e
    obtain ⟨m, h1, rfl⟩ := hx
    obtain ⟨n, h2, rfl⟩ := hy
    cases h1; cases h2
    exact ⟨_, ⟨_, rfl, rfl⟩, fun W => rfl⟩
  · cases e
    obtain ⟨m, h1, rfl⟩ := hx
    obtain ⟨n, h2, rfl⟩ := hy
    exact ⟨_, ⟨_, by simp only [IE.den, h1, h2], rfl⟩, fun W => rfl⟩
  · cases e
theorem foldC_ok {g : CV → CV → Option CV} {G : Value → Value → Sem Value} (hg : ∀ x y c vx vy, g x y = some c → VR V x vx → VR V y vy → ∃ v, VR V c v ∧ ∀ W : World, (G vx vy).run P W = .ok v W) :
    ∀ (cs : List CV) (vs : List Value) (x c : CV) (vx : Value), foldC g x cs = some c → VR V x vx → VRs V cs vs → ∃ v, VR V c v ∧ ∀ W : World, (vs.foldlM G vx).run P W = .ok v W
  | [], vs, x, c, vx, e, hx, hv => by
    cases e
    rw [show vs = [] from hv]
    exact ⟨vx, hx, fun W => rfl⟩
  | d :: ds, _, x, c, vx, e, hx, ⟨v, ws, e1, h1, h2⟩ => by
    subst e1
    unfold foldC at e
    split at e
    · rename_i c' hc
      obtain ⟨v', h3, h4⟩ := hg _ _ _ _ _ hc hx h1
      obtain ⟨v'', h5, h6⟩ := foldC_ok hg ds ws c' c v' e h3 h2
      refine ⟨v'', h5, fun W => ?_⟩
      rw [List.foldlM_cons, Sem.run_bind, h4 W]
      exact h6 W
    · cases e
theorem built_min {tys : Array TypeId} {vs : Array Value} {cs : List CV} (hr : Rel w0 h V W) (hv : VRs V cs vs.toList) (e : builtC ts .min tys.toList cs h = some r) : Built P w0 h V W .min tys vs r := by
  cases cs with
  | nil => cases e
  | cons x xs =>
    simp only [builtC] at e
    split at e
    · rename_i c hc
      cases e
      obtain ⟨v, ws, e1, h1, h2⟩ := hv
      obtain ⟨u, h3, h4⟩ := foldC_ok (P := P) (fun x y c vx vy e hx hy => min2C_ok (P := P) e hx hy) xs ws x c v hc h1 h2
      refine ⟨V, u, W, Ext.refl h V, h3, hr, fun ty consts => ?_⟩
      simp only [builtin]
      rw [Sem.run_bind]
      unfold Builtin.min_
      rw [e1]
      simp only [h4 W]
      rfl
    · cases e
theorem built_max {tys : Array TypeId} {vs : Array Value} {cs : List CV} (hr : Rel w0 h V W) (hv : VRs V cs vs.toList) (e : builtC ts .max tys.toList cs h = some r) : Built P w0 h V W .max tys vs r := by
  cases cs with
  | nil => cases e
  | cons x xs =>
    simp only [builtC] at e
    split at e
    · rename_i c hc
      cases e
      obtain ⟨v, ws, e1, h1, h2⟩ := hv
      obtain ⟨u, h3, h4⟩ := foldC_ok (P := P) (fun x y c vx vy e hx hy => max2C_ok (P := P) e hx hy) xs ws x c v hc h1 h2
      refine ⟨V, u, W, Ext.refl h V, h3, hr, fun ty consts => ?_⟩
      simp only [builtin]
      rw [Sem.run_bind]
      unfold Builtin.max_
      rw [e1]
      simp only [h4 W]
      rfl
    · cases e
theorem arr_head {tys : Array TypeId} {t : TypeId} {rest : List TypeId} (e : tys.toList = t :: rest) : tys[0]? = some t := by
  rw [← Array.getElem?_toList, e]; rfl
theorem arr_one {vs : Array Value} {x : Value} {rest : List Value} (e : vs.toList = x :: rest) : vs[0]? = some x := by
  rw [← Array.getElem?_toList, e]; rfl
theorem arr_two {vs : Array Value} {x y : Value} {rest : List Value} (e : vs.toList = x :: y :: rest) : vs[1]? = some y := by
  rw [← Array.getElem?_toList, e]; rfl
theorem slice_shape {a0 : Option (Nat × Nat)} {es len : Nat} {cap : CC} {v : Value} (h : VR V (.slice a0 es len cap) v) : ∃ p c, v = .slice p len c ∧ cap.den V = some c ∧ len ≤ c ∧ (p = none ↔ a0 = none) := by
  cases a0 with
  | none =>
    obtain ⟨h1, h2, h3⟩ := h
    subst h1
    exact ⟨none, 0, h3, h2, Nat.le_refl _, by simp⟩
  | some b =>
    obtain ⟨s, c, h1, h2, h3, h4, h5⟩ := h
    exact ⟨_, c, h5, h2, h3, by simp⟩
theorem built_len {tys : Array TypeId} {vs : Array Value} {cs : List CV} (hts : TS P ts) (hr : Rel w0 h V W) (hv : VRs V cs vs.toList) (e : builtC ts .len tys.toList cs h = some r) : Built P w0 h V W .len tys vs r := by
  cases cs with
  | nil => cases e
  | cons x xs => cases xs with
    | cons y ys => cases e
    | nil =>
      simp only [builtC] at e
      obtain ⟨v, ws, e1, h1, h2⟩ := hv
      split at e
      · rename_i t rest ht
        split at e
        · rename_i hk
          split at e
          · cases e
            have k1 := (kind_slice ((tiOf_ok (hts _ _ hk)).choose_spec.choose_spec.2.2.1).symm).1
            obtain ⟨p, c, q1, _⟩ := slice_shape h1
            refine ⟨V, _, W, Ext.refl h V, ⟨_, rfl, rfl⟩, hr, fun ty consts => ?_⟩
            simp only [builtin]
            rw [Sem.run_bind]
            unfold Builtin.len_
            simp only [arr_head ht, arr_one e1, Sem.run_bind, run_underlying k1, Result.andThen_ok, q1, Sem.run_pure, goInt]
          · cases e
        · rename_i hk
          split at e
          · cases e
            obtain ⟨el, k1, _⟩ := kind_array ((tiOf_ok (hts _ _ hk)).choose_spec.choose_spec.2.2.1).symm
            refine ⟨V, _, W, Ext.refl h V, ⟨_, rfl, rfl⟩, hr, fun ty consts => ?_⟩
            simp only [builtin]
            rw [Sem.run_bind]
            unfold Builtin.len_
            simp only [arr_head ht, arr_one e1, Sem.run_bind, run_underlying k1, Result.andThen_ok, Sem.run_pure, goInt]
          · cases e
        · cases e
      · cases e
theorem built_cap {tys : Array TypeId} {vs : Array Value} {cs : List CV} (hts : TS P ts) (hr : Rel w0 h V W) (hv : VRs V cs vs.toList) (e : builtC ts .cap tys.toList cs h = some r) : Built P w0 h V W .cap tys vs r := by
  cases cs with
  | nil => cases e
  | cons x xs => cases xs with
    | cons y ys => cases e
    | nil =>
      simp only [builtC] at e
      obtain ⟨v, ws, e1, h1, h2⟩ := hv
      split at e
      · rename_i t rest ht
        split at e
        · rename_i hk
          split at e
          · cases e
            have k1 := (kind_slice ((tiOf_ok (hts _ _ hk)).choose_spec.choose_spec.2.2.1).symm).1
            obtain ⟨p, c, q1, q2, _⟩ := slice_shape h1
            cases q2
            refine ⟨V, _, W, Ext.refl h V, ⟨_, rfl, rfl⟩, hr, fun ty consts => ?_⟩
            simp only [builtin]
            rw [Sem.run_bind]
            unfold Builtin.cap_
            simp only [arr_head ht, arr_one e1, Sem.run_bind, run_underlying k1, Result.andThen_ok, q1, Sem.run_pure, goInt]
          · cases e
        · cases e
      · cases e
/-- What is read. -/
theorem readC_ok {b p n : Nat} {xs : List CV} (hr : Rel w0 h V W) (e : readC h b p n = some xs) {s : Spot} (hs : V.blk b = some s) : xs.length = n ∧ ∃ vs, VRs V xs vs ∧ ∀ j v, vs[j]? = some v → W.cell? ⟨s.blk, s.off + p + j, none⟩ = some v := by
  unfold readC at e
  split at e
  · rename_i hn
    cases e
    exact ⟨hn.symm, [], VRs.nil V, fun j v hj => by cases hj⟩
  · split at e
    · rename_i cs ro hb
      split at e
      · rename_i hl
        cases e
        refine ⟨by rw [List.length_take, List.length_drop]; omega, ?_⟩
        exact hr.read (o := p) (n := n) hb hs
      · cases e
    · cases e
theorem built_copy {tys : Array TypeId} {vs : Array Value} {cs : List CV} (hts : TS P ts) (hr : Rel w0 h V W) (hv : VRs V cs vs.toList) (e : builtC ts .copy tys.toList cs h = some r) : Built P w0 h V W .copy tys vs r := by
  rcases cs with _ | ⟨x, _ | ⟨y, _ | ⟨z, zs⟩⟩⟩
  · cases e
  · cases e
  · simp only [builtC] at e
    obtain ⟨v, ws, e1, h1, v2, ws2, e2, h2, h3⟩ := hv
    subst e2
    split at e
    · rename_i a1 es1 len cap1 a2 es2 n cap2 t rest ht
      split at e
      · rename_i el es s1 g1 z1 hk
        split at e
        · cases e
        · rename_i h0
          obtain ⟨k1, k2⟩ := kind_slice ((tiOf_ok (hts _ _ hk)).choose_spec.choose_spec.2.2.1).symm
          obtain ⟨p1, c1, q1, q2, q3, q4⟩ := slice_shape h1
          obtain ⟨p2, c2, q5, q6, q7, q8⟩ := slice_shape h2
          have hmin : Nat.min n len = min n len := rfl
          split at e
          · rename_i hk0
            cases e
            refine ⟨V, .int .i64 0, W, Ext.refl h V, ⟨0, rfl, rfl⟩, hr, fun ty consts => ?_⟩
            simp only [builtin]
            rw [Sem.run_bind]
            unfold Builtin.copy_
            have hl : ∀ x : Addr, (loadCells x 0).run P W = .ok #[] W := fun x => by simpa using run_loadCells_list (P := P) W x [] (by simp)
            cases p1 <;> cases p2 <;> simp [arr_head ht, arr_one e1, arr_two e1, Sem.run_bind, run_underlying k1, Result.andThen_ok, q1, q5, Builtin.lenOf, hmin, hk0, szB_run k2.symm h0, Builtin.firstCells, storeCells, Sem.run_pure, goInt, hl]
          · split at e
            · rename_i b1 o1 b2 o2
              split at e
              · rename_i xs hx
                split at e
                · rename_i h' hw
                  cases e
                  obtain ⟨s1, d1, g1, g2, g3, g4, g5⟩ := h1
                  obtain ⟨s2, d2, g6, g7, g8, g9, g10⟩ := h2
                  obtain ⟨l1, us, m1, m2⟩ := readC_ok hr hx g6
                  obtain ⟨W', m3, m4, m5⟩ := writeC_ok (P := P) hr hw g1 m1
                  refine ⟨V, .int .i64 ((min n len : Nat) : Int), W', m5, ⟨_, rfl, rfl⟩, m4, fun ty consts => ?_⟩
                  have hld := loadCells_run (P := P) (m1.length.symm.trans l1) m2
                  simp only [builtin]
                  rw [Sem.run_bind]
                  unfold Builtin.copy_
                  simp only [arr_head ht, arr_one e1, arr_two e1, Sem.run_bind, run_underlying k1, Result.andThen_ok, g5, g10, Builtin.lenOf, hmin, szB_run k2.symm h0, Builtin.firstCells, Sem.run_pure, goInt, hld, m3]
                · cases e
              · cases e
            · cases e
      · cases e
    · cases e
  · cases e
end
end Go.Proofs.YtpjgmeogkomhlaaGreat
