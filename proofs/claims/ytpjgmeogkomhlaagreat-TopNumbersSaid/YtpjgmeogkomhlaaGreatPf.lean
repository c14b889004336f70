/-
  append, run on what is known, is as the code has it.
  append's two forms, and every operation, run on what is known, are as the code has them.
  Every operation that enters no function, run on what is known, is as the code has it. No conditions but those named.
-/
import Derived.Test.YtpjgmeogkomhlaaGreatPe
import Derived.Laws.OwnMore
namespace Go.Proofs.YtpjgmeogkomhlaaGreat
open Go.RowKit
theorem setCells_block (b : Nat) : ∀ (vs : List Value) (o : Nat) (w : World) (us : Array Value) (e : TypeId), w.heap[b]? = some (.cells us e) → ∃ us', (w.setCells b o vs).heap[b]? = some (.cells us' e) ∧ us'.size = us.size
  | [], _, _, us, _, h => ⟨us, h, rfl⟩
  | v :: vs, o, w, us, e, h => by
    obtain ⟨us', h1, h2⟩ := setCells_block b vs (o + 1) (w.setCell ⟨b, o, none⟩ v) _ e (heap_setCell_same _ _ _ _ _ _ h)
    exact ⟨us', h1, by rw [h2]; simp⟩
theorem setCells_far (b : Nat) : ∀ (vs : List Value) (o : Nat) (w : World) (k : Nat), k ≠ b → (w.setCells b o vs).heap[k]? = w.heap[k]?
  | [], _, _, _, _ => rfl
  | v :: vs, o, w, k, h => by
    rw [World.setCells, setCells_far b vs (o + 1) _ k h]
    exact heap_setCell_other _ _ _ _ h
theorem setCells_size (b : Nat) : ∀ (vs : List Value) (o : Nat) (w : World), (w.setCells b o vs).heap.size = w.heap.size
  | [], _, _ => rfl
  | v :: vs, o, w => by
    rw [World.setCells, setCells_size b vs (o + 1)]
    simp
theorem setCells_below {B : Nat} {w0 : World} (b : Nat) (hb : B ≤ b) : ∀ (vs : List Value) (o : Nat) (w : World), Below B w0 w → Below B w0 (w.setCells b o vs)
  | [], _, _, h => h
  | v :: vs, o, w, h => by
    rw [World.setCells]
    exact setCells_below b hb vs (o + 1) _ (h.setCell hb _)
def Va.setCap (V : Va) (i n : Nat) : Va := { V with cap := fun j => if j = i then some n else V.cap j }
theorem Va.le_setCap {V : Va} {i : Nat} (n : Nat) (h : V.cap i = none) : V.le (V.setCap i n) :=
  ⟨fun _ _ e => e, fun _ _ e => e, fun _ _ e => e, fun j x e => by
    show (if j = i then some n else V.cap j) = some x
    by_cases hi : j = i
    · subst hi; rw [h] at e; cases e
    · rw [if_neg hi]; exact e⟩
theorem Rel.setCap {w0 : World} {h : CH} {V : Va} {W : World} (r : Rel w0 h V W) (n : Nat) : Rel w0 { h with nc := h.nc + 1 } (V.setCap h.nc n) W := by
  have le := Va.le_setCap n (r.fc h.nc (Nat.le_refl _))
  refine { r with blk := fun b o s hb hs => (r.blk b o s hb hs).mono le, fc := fun i hi => ?_ }
  · have hi : h.nc + 1 ≤ i := hi
    show (if i = h.nc then some n else V.cap i) = none
    rw [if_neg (by omega)]
    exact r.fc i (by omega)
theorem Ext.pushCap {w0 : World} {h : CH} {V : Va} {W : World} (r : Rel w0 h V W) (o : CB) (s : Spot) (c : Nat) : Ext h V { h.push o with nc := h.nc + 1 } ((V.setBlk h.n s).setCap h.nc c) :=
  ⟨(Va.le_setBlk s (r.fb _ (Nat.le_refl _)).1).trans (Va.le_setCap c (r.fc _ (Nat.le_refl _))), Nat.le_succ _, fun _ hb hv => ⟨(Va.setBlk_ne (Nat.ne_of_lt hb)).trans hv, CH.push_ne (Nat.ne_of_lt hb)⟩⟩
theorem Ext.killPushCap {w0 : World} {h : CH} {V : Va} {W : World} {b : Nat} {s0 : Spot} (r : Rel w0 h V W) (hb : V.blk b = some s0) (o : CB) (s : Spot) (c : Nat) : Ext h V { ({ h with t := h.t.set b .dead } : CH).push o with nc := h.nc + 1 } ((V.setBlk h.n s).setCap h.nc c) :=
  ⟨(Va.le_setBlk s (r.fb _ (Nat.le_refl _)).1).trans (Va.le_setCap c (r.fc _ (Nat.le_refl _))), Nat.le_succ _, fun i hi hv => ⟨(Va.setBlk_ne (Nat.ne_of_lt hi)).trans hv, (CH.push_ne (h := { h with t := h.t.set b .dead }) (Nat.ne_of_lt hi)).trans (Tr.get_set_ne _ _ (fun e => by subst e; rw [hb] at hv; cases hv))⟩⟩
theorem one_of {V : Va} : ∀ {xs : List CV} {vs : List Value}, xs.all oneC = true → VRs V xs vs → ∀ v ∈ vs, v.oneCell' = true
  | [], vs, _, h, v, hv => by rw [show vs = [] from h] at hv; cases hv
  | x :: xs, _, ha, ⟨u, ws, e, h1, h2⟩, v, hv => by
    subst e
    simp only [List.all_cons, Bool.and_eq_true] at ha
    rcases List.mem_cons.1 hv with rfl | hm
    · obtain ⟨n1, n2⟩ := oneC_val ha.1 h1
      cases v with
      | agg ys => exact absurd rfl (n1 ys)
      | tuple ys => exact absurd rfl (n2 ys)
      | _ => rfl
    · exact one_of ha.2 h2 v hm
section
variable {P : Program} {ts : Tr TI} {w0 : World} {h : CH} {V : Va} {f : Fr} {a : Act} {W : World} {o : Oper} {r : CV × CH}
/-- How 'append' runs where there is room, and where there is none. -/
structure Apd (P : Program) (tys : Array TypeId) (vs : Array Value) (W : World) (s : Value) (len n es : Nat) (news : List Value) : Prop where
  room : ∀ (ad : Addr) (c : Nat) (W' : World), s = .slice (some ad) len c → len + n ≤ c → (storeCells (ad.add (len * es)) news).run P W = .ok () W' → ∀ ty, (Builtin.append_ tys ty vs).run P W = .ok (.slice (some ad) (len + n) c) W'
  grow : ∀ (p : Option Addr) (c : Nat) (olds : List Value), s = .slice p len c → c < len + n → (Builtin.firstCells es len s).run P W.drew = .ok olds.toArray W.drew → olds.length = len * es → ∃ (rest : List Value) (c' : Nat) (el : TypeId), len + n ≤ c' ∧ olds.length + news.length + rest.length = c' * es ∧ ∀ ty, (Builtin.append_ tys ty vs).run P W = .ok (.slice (some ⟨W.heap.size, 0, none⟩) (len + n) c') (W.drew.alloc (.cells (olds ++ news ++ rest).toArray el))
theorem Rel.fresh (hr : Rel w0 h V W) {ks : List CV} {us rest : List Value} {el : TypeId} (hu : VRs V ks us) : Rel w0 (h.push (.cells ks false)) (V.setBlk h.n ⟨W.heap.size, 0, (us ++ rest).length⟩) (W.drew.alloc (.cells (us ++ rest).toArray el)) := by
  refine hr.drew.pushAt _ _ ((Below.refl _ _).alloc (Nat.le_refl _) _) (by simp) ⟨?_, fun _ => ⟨hr.siz, (us ++ rest).toArray, el, heap_alloc_new W.drew _, by simp⟩, fun i c hc => ?_⟩ (fun b o' s' _ _ hs => ?_)
  · show 0 + ks.length ≤ (us ++ rest).length
    rw [hu.length]; simp
  · obtain ⟨v, h1, h2⟩ := hu.get hc
    refine ⟨v, ?_, h2⟩
    have e : (W.drew.alloc (.cells (us ++ rest).toArray el)).heap[W.heap.size]? = some (.cells (us ++ rest).toArray el) := heap_alloc_new W.drew _
    unfold World.cell?
    simp only [e, Nat.zero_add]
    have hlt : i < us.length := (List.getElem?_eq_some_iff.1 h1).1
    simp [List.getElem?_append_left hlt, h1]
  · have := hr.there b s' hs
    show s'.blk ≠ W.heap.size
    omega
theorem built_grow {tys : Array TypeId} {vs : Array Value} {s : Value} {len n es c : Nat} {p : Option Addr} {news : List Value} {old xs : List CV} (hr : Rel w0 h V W) (A : Apd P tys vs W s len n es news) (hs : s = .slice p len c) (hc : c < len + n) (hxs : VRs V xs news)
    {olds : List Value} (ho : VRs V old olds) (hl : old.length = len * es) (hf : (Builtin.firstCells es len s).run P W.drew = .ok olds.toArray W.drew) :
    Built P w0 h V W .append tys vs (.slice (some (h.n, 0)) es (len + n) (.var h.nc 0), { h.push (.cells (old ++ xs) false) with nc := h.nc + 1 }) := by
  have l1 : olds.length = len * es := by rw [← hl, ho.length]
  obtain ⟨rest, c', el, g1, g2, g3⟩ := A.grow p c olds hs hc hf l1
  have R := (hr.fresh (rest := rest) (el := el) (ho.append hxs)).setCap c'
  have nb := (hr.fb h.n (Nat.le_refl _)).1
  have nc := hr.fc h.nc (Nat.le_refl _)
  refine ⟨_, .slice (some ⟨W.heap.size, 0, none⟩) (len + n) c', _, Ext.pushCap hr _ _ _, ?_, R, fun ty consts => ?_⟩
  · refine ⟨⟨W.heap.size, 0, (olds ++ news ++ rest).length⟩, c', Va.setBlk_same, ?_, g1, ?_, by simp⟩
    · show CC.den _ (.var h.nc 0) = some c'
      have : ((V.setBlk h.n ⟨W.heap.size, 0, (olds ++ news ++ rest).length⟩).setCap h.nc c').cap h.nc = some c' := if_pos rfl
      simp only [CC.den]
      rw [this]
      simp
    · show 0 + 0 + c' * es ≤ (olds ++ news ++ rest).length
      rw [← g2]
      simp only [List.length_append]
      omega
  · simp only [builtin]
    rw [Sem.run_bind, g3 ty]
    rfl
/-- In place, though how much room there is isn't known: the block goes on under a new name. -/
theorem Rel.grownIn {b o n es c : Nat} {len : Nat} {cs xs : List CV} {news : List Value} {s : Spot} (hr : Rel w0 h V W) (hb : h.t.get b = some (.cells cs false)) (hs : V.blk b = some s) (hl : o + len * es ≤ cs.length) (hroom : s.off + o + c * es ≤ s.size) (hn : len + n ≤ c) (hxs : VRs V xs news) (hxl : xs.length = n * es) (hone : xs.all oneC = true) :
    (storeCells ⟨s.blk, s.off + o + len * es, none⟩ news).run P W = .ok () (W.setCells s.blk (s.off + o + len * es) news) ∧
    Rel w0 (({ h with t := h.t.set b .dead } : CH).push (.cells ((cs.drop o).take (len * es) ++ xs) false)) (V.setBlk h.n ⟨s.blk, s.off + o, s.size⟩) (W.setCells s.blk (s.off + o + len * es) news) := by
  have h2 := hr.blk b _ s hb hs
  obtain ⟨h3, us, e, h4, h5⟩ := h2.2.1 rfl
  have nl : news.length = n * es := by rw [← hxs.length, hxl]
  have hle : (len + n) * es ≤ c * es := Nat.mul_le_mul_right _ hn
  rw [Nat.add_mul] at hle
  have inn : ∀ j, j < s.size → ∃ u, W.cell? ⟨s.blk, j, none⟩ = some u := fun j hj => by
    have : j < us.size := by omega
    exact ⟨us[j], by unfold World.cell?; simp [h4, this]⟩
  refine ⟨?_, ?_⟩
  · have := run_storeCells_cells (P := P) s.blk (s.off + o + len * es) news 0 W (fun j hj => by
        obtain ⟨u, hu⟩ := inn (s.off + o + len * es + 0 + j) (by omega)
        rw [hu]; rfl) (fun j hj => by simp [World.frozen?, h4]) (one_of hone hxs)
    simpa using this
  have hk : Rel w0 { h with t := h.t.set b .dead } V W := hr.kill hb
  have hsep : ∀ b' o' s', (h.t.set b .dead).get b' = some o' → o'.live = true → V.blk b' = some s' → s'.blk ≠ s.blk := fun b' o' s' q1 q2 q3 => by
    by_cases e' : b' = b
    · subst e'
      rw [Tr.get_set] at q1
      cases q1
      cases q2
    · rw [Tr.get_set_ne _ _ e'] at q1
      exact fun q => hr.sep b b' _ o' hb q1 rfl q2 (Ne.symm e') s s' hs q3 q.symm
  -- the world behind the stores: as known, the dead block apart
  have hk' : Rel w0 { h with t := h.t.set b .dead } V (W.setCells s.blk (s.off + o + len * es) news) := by
    refine { hk with bel := setCells_below _ h3 _ _ _ hk.bel, siz := ?_, blk := ?_, there := ?_ }
    · rw [setCells_size]; exact hk.siz
    · intro b' o' s' hb' q1
      by_cases hlv : o'.live = true
      · exact (hk.blk b' o' s' hb' q1).same (setCells_far _ _ _ _ _ (hsep b' o' s' hb' hlv q1))
      · cases o' with
        | dead => trivial
        | _ => exact absurd rfl hlv
    · intro b' s' q
      rw [setCells_size]
      exact hk.there b' s' q
  refine hk'.pushAt _ _ (Below.refl _ _) ?_ ?_ hsep
  · rw [setCells_size]
    exact hr.there b s hs
  · obtain ⟨us', g1, g2⟩ := setCells_block s.blk news (s.off + o + len * es) W us e h4
    have ol : ((cs.drop o).take (len * es)).length = len * es := by rw [List.length_take, List.length_drop]; omega
    refine ⟨?_, fun _ => ⟨h3, us', e, g1, g2.trans h5⟩, fun i c0 hc => ?_⟩
    · show s.off + o + ((cs.drop o).take (len * es) ++ xs).length ≤ s.size
      rw [List.length_append, ol, hxl]
      omega
    · show ∃ v, World.cell? _ ⟨s.blk, s.off + o + i, none⟩ = some v ∧ _
      by_cases hi : i < len * es
      · rw [List.getElem?_append_left (by omega), List.getElem?_take, if_pos hi, List.getElem?_drop] at hc
        obtain ⟨v, q1, q2⟩ := h2.2.2 _ c0 hc
        refine ⟨v, ?_, q2⟩
        rw [World.cell?_setCells_out _ _ _ _ _ (fun _ _ => Or.inl (show s.off + o + i < s.off + o + len * es by omega)), ← q1]
        congr 2
        omega
      · rw [List.getElem?_append_right (by omega), ol] at hc
        obtain ⟨v, q1, q2⟩ := hxs.get hc
        refine ⟨v, ?_, q2⟩
        have hlt : i - len * es < news.length := (List.getElem?_eq_some_iff.1 q1).1
        have := World.cell?_setCells_in s.blk news (s.off + o + len * es) W (fun j hj => by
          obtain ⟨u, hu⟩ := inn (s.off + o + len * es + j) (by omega)
          rw [hu]; rfl) (i - len * es) hlt
        rw [show s.off + o + len * es + (i - len * es) = s.off + o + i by omega] at this
        rw [this, ← q1, List.getElem?_eq_getElem hlt]
theorem appendC_ok {tys : Array TypeId} {vs : Array Value} {a0 : Option (Nat × Nat)} {s : Value} {len n es : Nat} {cap : CC} {news : List Value} {xs : List CV} (hr : Rel w0 h V W) (hs : VR V (.slice a0 es len cap) s) (hn : 0 < n) (hxs : VRs V xs news) (hxl : xs.length = n * es)
    (A : Apd P tys vs W s len n es news) (e : appendC h a0 es len cap n xs = some r) : Built P w0 h V W .append tys vs r := by
  unfold appendC at e
  split at e
  · rename_i hone
    split at e
    · cases e
      obtain ⟨h1, h2, h3⟩ := hs
      subst h1
      have B := built_grow (old := []) (olds := []) hr A h3 (by omega) hxs (VRs.nil V) (by simp) (by rw [h3]; simp [Builtin.firstCells])
      rw [Nat.zero_add] at B
      exact B
    · rename_i b p
      split at e
      · cases e
      · rename_i old hold
        obtain ⟨s0, c, h1, h2, h3, h4, h5⟩ := hs
        obtain ⟨l1, olds, m1, m2⟩ := readC_ok hr hold h1
        have hfc : (Builtin.firstCells es len s).run P W.drew = .ok olds.toArray W.drew := by
          rw [h5]
          simp only [Builtin.firstCells]
          exact loadCells_run (m1.length.symm.trans l1) (fun j v hj => by
            rw [← m2 j v hj]
            rfl)
        split at e
        · rename_i c0
          have hcc : c0 = c := by simpa [CC.den] using h2
          subst hcc
          split at e
          · rename_i hle
            split at e
            · rename_i h' hw
              cases e
              obtain ⟨W', q1, q2, q5⟩ := writeC_ok (P := P) hr hw h1 hxs
              have q1' : (storeCells ((Addr.mk s0.blk (s0.off + p) none).add (len * es)) news).run P W = .ok () W' := by
                rw [add_at, show s0.off + p + len * es = s0.off + (p + len * es) by omega]
                exact q1
              refine ⟨V, _, W', q5, ⟨s0, c0, h1, rfl, hle, h4, rfl⟩, q2, fun ty consts => ?_⟩
              simp only [builtin]
              rw [Sem.run_bind, A.room _ _ _ h5 hle q1' ty]
              rfl
            · cases e
          · rename_i hle
            cases e
            exact built_grow hr A h5 (by omega) hxs m1 l1 hfc
        · rename_i i d
          split at e
          · rename_i cs hb
            split at e
            · rename_i hpl
              cases e
              by_cases hle : len + n ≤ c
              · have hcs : p + len * es ≤ cs.length ∧ old = (cs.drop p).take (len * es) := by
                  unfold readC at hold
                  rw [hb] at hold
                  simp only at hold
                  split at hold
                  · rename_i hz
                    cases hold
                    refine ⟨?_, by rw [hz]; rfl⟩
                    rw [hz]
                    exact hpl
                  · split at hold
                    · rename_i hq
                      cases hold
                      exact ⟨hq, rfl⟩
                    · cases hold
                obtain ⟨q1, q2⟩ := hr.grownIn (P := P) hb h1 hcs.1 h4 hle hxs hxl hone
                rw [← hcs.2] at q2
                have R := q2.setCap c
                have nb := (hr.fb h.n (Nat.le_refl _)).1
                have nc := hr.fc h.nc (Nat.le_refl _)
                have q1' : (storeCells ((Addr.mk s0.blk (s0.off + p) none).add (len * es)) news).run P W = .ok () (W.setCells s0.blk (s0.off + p + len * es) news) := by
                  rw [add_at]
                  exact q1
                refine ⟨_, .slice (some ⟨s0.blk, s0.off + p, none⟩) (len + n) c, _, Ext.killPushCap hr h1 _ _ _, ?_, R, fun ty consts => ?_⟩
                · refine ⟨⟨s0.blk, s0.off + p, s0.size⟩, c, Va.setBlk_same, ?_, hle, h4, rfl⟩
                  show CC.den _ (.var h.nc 0) = some c
                  have : ((V.setBlk h.n ⟨s0.blk, s0.off + p, s0.size⟩).setCap h.nc c).cap h.nc = some c := if_pos rfl
                  simp only [CC.den]
                  refine (congrArg (fun z => match z with | some c => some (c - 0) | none => none) this).trans ?_
                  simp
                · simp only [builtin]
                  rw [Sem.run_bind, A.room _ _ _ h5 hle q1' ty]
                  rfl
              · -- a new row: the old block stays where it is, and is let go
                have B := built_grow (P := P) hr A h5 (by omega) hxs m1 l1 hfc
                obtain ⟨V', v, W', g1, g2, g3, g4⟩ := B
                refine ⟨V', v, W', ⟨g1.le, g1.n, fun i hi hv => ?_⟩, g2, ?_, g4⟩
                · obtain ⟨y1, y2⟩ := g1.old i hi hv
                  refine ⟨y1, (?_ : _ = _).trans y2⟩
                  have e1 : i ≠ b := fun e => by subst e; rw [h1] at hv; cases hv
                  have e2 : i ≠ h.n := Nat.ne_of_lt hi
                  exact (Tr.get_set_ne _ _ e2).trans ((Tr.get_set_ne _ _ e1).trans (Tr.get_set_ne _ _ e2).symm)
                have hne : b ≠ h.n := fun e => by rw [e, (hr.fb h.n (Nat.le_refl _)).2] at hb; cases hb
                have hb' : ({ h.push (.cells (old ++ xs) false) with nc := h.nc + 1 } : CH).t.get b = some (.cells cs false) := by
                  show (h.t.set h.n (.cells (old ++ xs) false)).get b = _
                  rw [Tr.get_set_ne _ _ hne]
                  exact hb
                have K := g3.kill hb'
                have same : ∀ k, ((h.t.set h.n (.cells (old ++ xs) false)).set b .dead).get k = ((h.t.set b .dead).set h.n (.cells (old ++ xs) false)).get k := fun k => by
                  by_cases k1 : k = b
                  · subst k1
                    rw [Tr.get_set, Tr.get_set_ne _ _ hne, Tr.get_set]
                  · rw [Tr.get_set_ne _ _ k1]
                    by_cases k2 : k = h.n
                    · subst k2
                      rw [Tr.get_set, Tr.get_set]
                    · rw [Tr.get_set_ne _ _ k2, Tr.get_set_ne _ _ k2, Tr.get_set_ne _ _ k1]
                exact { K with
                  blk := fun k o' s' hk => K.blk k o' s' ((same k).trans hk)
                  sep := fun k k' o1 o2 h1 h2 => K.sep k k' o1 o2 ((same k).trans h1) ((same k').trans h2)
                  fb := fun k hk => ⟨(K.fb k hk).1, (same k).symm.trans (K.fb k hk).2⟩ }
            · cases e
          · cases e
  · cases e
end
end Go.Proofs.YtpjgmeogkomhlaaGreat
namespace Go.Proofs.YtpjgmeogkomhlaaGreat
open Go.RowKit
section
variable {P : Program} {ts : Tr TI} {w0 : World} {h : CH} {V : Va} {f : Fr} {a : Act} {W : World} {o : Oper} {r : CV × CH}
theorem zc_length (z : Array Value) (n : Nat) : (Builtin.zeroCells z n).toList.length = n * z.size := by
  rw [Array.length_toList, size_zeroCells]
theorem fits {len n by' c : Nat} (h1 : len + n ≤ 110000) (h2 : by' ≤ 16777216) (hc : c < len + n) : Builtin.nextslicecap (len + n) c * by' ≤ 281474976710656 := by
  refine growslice_fits hc ?_
  have := Nat.mul_le_mul h1 h2
  omega
theorem apd_slice {tys : Array TypeId} {vs : Array Value} {s x : Value} {t t2 e e2 : TypeId} {i : TypeInfo} {z : Value} {len n c2 : Nat} {q : Addr} {news : List Value} (htys : tys = #[t, t2]) (hvs : vs = #[s, x]) (h1 : P.underlying t = some (.slice e)) (h2 : P.underlying t2 = some (.slice e2)) (hi : P.info? e = some i) (hz : i.zero = some z) (hzs : z.cells.size = i.size) (hby : i.bytes ≤ 16777216) (hx : x = .slice (some q) n c2) (hln : len + n ≤ 110000) (hnl : news.length = n * i.size)
    (hc : ∀ W' : World, W'.heap = W.heap → (loadCells q (n * i.size)).run P W' = .ok news.toArray W') : Apd P tys vs W s len n i.size news := by
  subst htys; subst hvs; subst hx
  refine ⟨fun ad c W' hs hr hst ty => ?_, fun p c olds hs hr ho hol => ?_⟩
  · subst hs
    simp [Builtin.append_, run_underlying h1, run_underlying h2, sizeOf, typeInfo, hi, Builtin.lenOf, hr, Builtin.firstCells, hc W rfl, hst]
  · subst hs
    have hn : ¬ (len + n ≤ c) := by omega
    have h63' : ¬ (9223372036854775807 < ((len : Int) + (n : Int))) := by omega
    have h48' : ¬ (281474976710656 < Builtin.nextslicecap (len + n) c * i.bytes) := by
      have := fits (by' := i.bytes) hln hby hr
      omega
    refine ⟨(Builtin.zeroCells z.cells (grownCap W (len + n) c e - (len + n))).toList, grownCap W (len + n) c e, e, grownCap_ge _ _ _ _, ?_, fun ty => ?_⟩
    · rw [zc_length, hzs, hol, hnl, ← Nat.add_mul, ← Nat.add_mul]
      congr 1
      have := grownCap_ge W (len + n) c e
      omega
    · simp [Builtin.append_, run_underlying h1, run_underlying h2, sizeOf, typeInfo, zeroValue, hi, hz, Builtin.lenOf, hn, h63', h48', Question.forced, ho, newRow, grownCap]
      simp only [Builtin.firstCells, hc W.drew rfl, Result.andThen_ok]
      congr 3
      apply Array.ext'
      simp
theorem apd_make {tys : Array TypeId} {vs : Array Value} {s x : Value} {t t2 e : TypeId} {k kx : IntKind} {i : TypeInfo} {z : Value} {len n : Nat} (htys : tys = #[t, t2]) (hvs : vs = #[s, x]) (h1 : P.underlying t = some (.slice e)) (h2 : P.underlying t2 = some (.int k)) (hi : P.info? e = some i) (hz : i.zero = some z) (hzs : z.cells.size = i.size) (hpos : 0 < i.size) (hby : i.bytes ≤ 16777216) (hx : x = .int kx (n : Int)) (hn0 : 0 < n) (hn1 : n ≤ 10000) (hln : len + n ≤ 110000) :
    Apd P tys vs W s len n i.size (Builtin.zeroCells z.cells n).toList := by
  subst htys; subst hvs; subst hx
  have hw : IntKind.i64.wrap (n : Int) = (n : Int) := by rw [IntKind.wrap_i64]; omega
  have hneg : ¬ ((n : Int) < 0) := by omega
  have hbig : ¬ (281474976710656 < (n : Int) * (i.bytes : Int)) := by
    have q1 : n * i.bytes ≤ 10000 * 16777216 := Nat.mul_le_mul hn1 hby
    have q2 : ((n * i.bytes : Nat) : Int) ≤ 10000 * 16777216 := by omega
    rw [Int.natCast_mul] at q2
    omega
  have hnz' : ¬ (n * i.size = 0) := by
    have := Nat.mul_pos hn0 hpos
    omega
  refine ⟨fun ad c W' hs hr hst ty => ?_, fun p c olds hs hr ho hol => ?_⟩
  · subst hs
    simp [Builtin.append_, run_underlying h1, run_underlying h2, sizeOf, typeInfo, zeroValue, hi, hz, asInt, asIntOf, hw, hneg, hbig, hr, hst]
    exact fun q => absurd q hnz'
  · subst hs
    have hn : ¬ (len + n ≤ c) := by omega
    have h63' : ¬ (9223372036854775807 < ((len : Int) + (n : Int))) := by omega
    have h48' : ¬ (281474976710656 < Builtin.nextslicecap (len + n) c * i.bytes) := by
      have := fits (by' := i.bytes) hln hby hr
      omega
    refine ⟨(Builtin.zeroCells z.cells (grownCap W (len + n) c e - (len + n))).toList, grownCap W (len + n) c e, e, grownCap_ge _ _ _ _, ?_, fun ty => ?_⟩
    · rw [zc_length, zc_length, hzs, hol, ← Nat.add_mul, ← Nat.add_mul]
      congr 1
      have := grownCap_ge W (len + n) c e
      omega
    · simp [Builtin.append_, run_underlying h1, run_underlying h2, sizeOf, typeInfo, zeroValue, hi, hz, asInt, asIntOf, hw, hneg, hbig, hn, h63', h48', Question.forced, ho, newRow, grownCap]
      rw [if_neg hnz']
      congr 3
      apply Array.ext'
      simp
theorem two_tys {tys : Array TypeId} {t t2 : TypeId} (e : tys.toList = [t, t2]) : tys = #[t, t2] := by
  apply Array.ext'
  rw [e]
theorem two_vals {vs : Array Value} {x y : Value} (e : vs.toList = [x, y]) : vs = #[x, y] := by
  apply Array.ext'
  rw [e]
theorem zeroOK_ok (hts : TS P ts) {e es : Nat} (h : zeroOK ts e es = true) : ∃ i z, P.info? e = some i ∧ i.zero = some z ∧ z.cells.size = es ∧ i.bytes ≤ 16777216 := by
  unfold zeroOK at h
  split at h
  · rename_i te he
    split at h
    · rename_i zc hz
      obtain ⟨i, zv, q1, q2, q3, q4, q5, q6, d, hu⟩ := tiOf_ok (hts _ _ he)
      rw [q6] at hz
      have hv := cellsC_ok hz (cvOf_ok ⟨fun _ => none, fun _ => none, fun _ => none, fun _ => none⟩ zv)
      refine ⟨i, zv, q1, q2, ?_, tiOf_bytes (hts _ _ he) q1⟩
      have h1 : zc.length = es := by simpa using h
      have h2 : zv.cells.toList.length = zv.cells.size := Array.length_toList
      rw [← h2, ← hv.length, h1]
    · cases h
  · cases h
theorem lift_es {a0 : Option (Nat × Nat)} {e' es len : Nat} {cap : CC} {v : Value} (hv : VR V (.slice a0 e' len cap) v) (h : (a0.isNone || e' == es) = true) : VR V (.slice a0 es len cap) v := by
  cases a0 with
  | none => exact hv
  | some b =>
    have : e' = es := by simpa using h
    subst this
    exact hv
theorem built_append {tys : Array TypeId} {vs : Array Value} {cs : List CV} (hts : TS P ts) (hr : Rel w0 h V W) (hv : VRs V cs vs.toList) (e : builtC ts .append tys.toList cs h = some r) : Built P w0 h V W .append tys vs r := by
  rcases cs with _ | ⟨x, _ | ⟨y, _ | ⟨z, zs⟩⟩⟩
  · cases e
  · cases e
  · simp only [builtC] at e
    obtain ⟨v, ws, e1, h1, v2, ws2, e2, h2, h3⟩ := hv
    subst e2
    rw [show ws2 = [] from h3] at e1
    have hvs := two_vals e1
    split at e
    · rename_i a1 es1 len cap1 a2 es2 n cap2 t t2 ht
      have htys := two_tys ht
      split at e
      · rename_i el es s1 g1 z1 el2 es3 s2 g2 z2 hk hk2
        split at e
        · rename_i hc
          simp only [Bool.and_eq_true, bne_iff_ne, decide_eq_true_eq] at hc
          obtain ⟨⟨⟨c1, c2⟩, c3⟩, c4⟩ := hc
          obtain ⟨i, z, q1, q2, q3, q4⟩ := zeroOK_ok hts c3
          obtain ⟨k1, k2⟩ := kind_slice ((tiOf_ok (hts _ _ hk)).choose_spec.choose_spec.2.2.1).symm
          obtain ⟨k3, k4⟩ := kind_slice ((tiOf_ok (hts _ _ hk2)).choose_spec.choose_spec.2.2.1).symm
          have hes : es = i.size := by rw [k2]; simp [szB, q1]
          split at e
          · rename_i hn0
            cases e
            obtain ⟨p1, d1, m1, m2, m3, m4⟩ := slice_shape h1
            obtain ⟨p2, d2, m5, m6, m7, m8⟩ := slice_shape h2
            refine ⟨V, v, W, Ext.refl h V, h1, hr, fun ty consts => ?_⟩
            simp only [builtin]
            have hl : ∀ x : Addr, (loadCells x 0).run P W = .ok #[] W := fun x => by simpa using run_loadCells_list (P := P) W x [] (by simp)
            rw [Sem.run_bind, htys, hvs, m1, m5, hn0]
            cases p1 <;> cases p2 <;> simp [Builtin.append_, run_underlying k1, run_underlying k3, sizeOf, typeInfo, q1, Builtin.lenOf, m3, Builtin.firstCells, hl, storeCells]
          · rename_i hn0
            split at e
            · rename_i b' o'
              split at e
              · rename_i xs hx
                obtain ⟨s2, d2, g6, g7, g8, g9, g10⟩ := h2
                obtain ⟨l1, us, m1, m2⟩ := readC_ok hr hx g6
                have A : Apd P tys vs W v len n i.size us := apd_slice htys hvs k1 k3 q1 q2 (q3.trans hes) q4 g10 (by omega) (by rw [← hes, ← l1, m1.length]) (fun W' hW => by
                  refine loadCells_run (by rw [← hes, ← l1, m1.length]) (fun j w hj => ?_)
                  rw [← m2 j w hj]
                  unfold World.cell?
                  rw [hW])
                rw [← hes] at A
                exact appendC_ok hr (lift_es h1 c1) (by omega) m1 l1 A e
              · cases e
            · cases e
        · cases e
      · cases e
    · rename_i a1 es1 len cap1 kx n t t2 ht
      have htys := two_tys ht
      split at e
      · rename_i el es s1 g1 z1 kk s2 g2 z2 hk hk2
        split at e
        · rename_i te he
          split at e
          · rename_i zc hz
            split at e
            · rename_i hc
              obtain ⟨c1, c2, c3, c4, c5, c6⟩ := hc
              obtain ⟨i, z, q1, q2, q3, q4, q5, q6, d, hu⟩ := tiOf_ok (hts _ _ he)
              have hby := tiOf_bytes (hts _ _ he) q1
              obtain ⟨k1, k2⟩ := kind_slice ((tiOf_ok (hts _ _ hk)).choose_spec.choose_spec.2.2.1).symm
              have k3 := kind_int ((tiOf_ok (hts _ _ hk2)).choose_spec.choose_spec.2.2.1).symm
              have hes : es = i.size := by rw [k2]; simp [szB, q1]
              rw [q6] at hz
              have hzv : VRs V zc z.cells.toList := cellsC_ok hz (cvOf_ok V z)
              have hzl : z.cells.size = zc.length := by rw [hzv.length, Array.length_toList]
              have hzs : z.cells.size = i.size := by omega
              obtain ⟨n', hn', g10⟩ := h2
              cases hn'
              split at e
              · rename_i hn0
                cases e
                obtain ⟨p1, d1, m1, m2, m3, m4⟩ := slice_shape h1
                refine ⟨V, v, W, Ext.refl h V, h1, hr, fun ty consts => ?_⟩
                simp only [builtin]
                have hw : IntKind.i64.wrap 0 = 0 := rfl
                rw [Sem.run_bind, htys, hvs, m1, g10, hn0]
                cases p1 <;> simp [Builtin.append_, run_underlying k1, run_underlying k3, sizeOf, typeInfo, q1, asInt, asIntOf, hw, m3, storeCells]
              · rename_i hn0
                obtain ⟨m, rfl⟩ : ∃ m : Nat, n = (m : Int) := ⟨n.toNat, by omega⟩
                rw [Int.toNat_natCast] at e
                have A : Apd P tys vs W v len m i.size (Builtin.zeroCells z.cells m).toList := apd_make htys hvs k1 k3 q1 q2 hzs (by omega) hby g10 (by omega) (by omega) (by omega)
                have hrow := madeCells_ok hzv (by omega) m
                have heq : madeCells z.cells (m * zc.length) = Builtin.zeroCells z.cells m := by
                  rw [← hzl]; rfl
                rw [heq] at hrow
                rw [← hes] at A
                exact appendC_ok hr (lift_es h1 c6) (by omega) hrow (by simp [c3]) A e
            · cases e
          · cases e
        · cases e
      · cases e
    · cases e
  · cases e
end
end Go.Proofs.YtpjgmeogkomhlaaGreat
namespace Go.Proofs.YtpjgmeogkomhlaaGreat
open Go.RowKit
section
variable {P : Program} {ts : Tr TI} {w0 : World} {h : CH} {V : Va} {f : Fr} {a : Act} {W : World} {o : Oper} {r : CV × CH}
theorem op_call_builtin (hts : TS P ts) (hr : Rel w0 h V W) (hf : FR V f a) {c : Call} {b : Builtin} (ho : o.op = .call c) (hc : c.callee = .builtin b) (e : builtC ts b c.argTypes.toList (c.args.toList.map (evC f)) h = some r) : Goes P w0 h V o a W r := by
  refine op_builtin hf ho hc fun hv => ?_
  cases b with
  | append => exact built_append hts hr hv e
  | len => exact built_len hts hr hv e
  | cap => exact built_cap hts hr hv e
  | min => exact built_min hr hv e
  | max => exact built_max hr hv e
  | copy => exact built_copy hts hr hv e
  | _ => simp only [builtC] at e; cases e
theorem opX_ok (hts : TS P ts) (hr : Rel w0 h V W) (hf : FR V f a) (op : Op) (ho : o.op = op) (e : opX P ts h f op = some r) : Goes P w0 h V o a W r := by
  cases op with
  | move x => exact op_move hr hf ho e
  | assign x => exact op_assign hr hf ho e
  | pick c x y => exact op_pick hr hf ho e
  | alloc t => exact op_alloc hts hr ho e
  | box t x => exact op_box hr hf ho e
  | build t ps => exact op_build hts hr hf ho e
  | buildSlice t n ps => exact op_buildSlice hts hr hf ho e
  | insert t m k x => exact op_insert hts hr hf ho e
  | load t x => exact op_load hts hr hf ho e
  | store t x y => exact op_store hts hr hf ho e
  | nilCheck x => exact op_nilCheck hr hf ho e
  | binOp op t x y t' => exact op_binOp hts hr hf ho e
  | unOp op t x => exact op_unOp hr hf ho e
  | convert s d x => exact op_convert hts hr hf ho e
  | sliceToArrayPointer t x => exact op_sliceToArrayPointer hts hr hf ho e
  | makeFunc fn x y =>
    cases fn with
    | func g => exact op_makeFunc hr hf ho e
    | _ => simp only [opX] at e; cases e
  | makeMap t n =>
    cases n with
    | none => exact op_makeMap hr ho e
    | some x => simp only [opX] at e; cases e
  | makeSlice t l c => exact op_makeSlice hts hr hf ho e
  | slice t x lo hi mx => exact op_slice hts hr hf ho e
  | fieldAddr t x i => exact op_fieldAddr hts hr hf ho e
  | field t x i => exact op_field hts hr hf ho e
  | indexAddr t x y => exact op_indexAddr hts hr hf ho e
  | index t x y => exact op_index hts hr hf ho e
  | lookup t m k ok => exact op_lookup hts hr hf ho e
  | extract x i => exact op_extract hr hf ho e
  | call c =>
    simp only [opX] at e
    split at e
    · rename_i b hc
      exact op_call_builtin hts hr hf ho hc e
    · cases e
  | _ => simp only [opX] at e; cases e
end
end Go.Proofs.YtpjgmeogkomhlaaGreat
