/-
  Both sides of LinkOrders' script in memory: no conditions but those named.
-/
import Derived.Test.YtoblckocmakakaaOrdersSt
import Derived.Test.YtoblckocmakakaaRb
namespace Go.Proofs.Ytoblckocmakakaa
open Go.RowKit
theorem set_far {W : World} {g b : Nat} (h : b ≠ g) (j : Nat) (v : Value) : (W.setCell ⟨g, j, none⟩ v).heap[b]? = W.heap[b]? := heap_setCell_other _ _ _ _ h
theorem grown_label {owner : Nat → Option Nat} {W W' : World} {row : Option Nat} (hg : W.grownBy W' row) {a : Option Addr} {zs : List Int} {j : Nat} (hr : ∀ b, row = some b → owner b = some j) (h : SlIs W a zs) (hf : Free owner W a) {owner' : Nat → Option Nat} (ho : owner' = owner ∨ owner' = label owner W.heap.size j) : SlIs W' a zs ∧ Free owner' W' a := by
  refine ⟨grown_free h hf hg hr, ?_⟩
  rcases ho with rfl | rfl
  · exact hf.below hg.size
  · exact (hf.label (Nat.le_refl _) j).below hg.size
theorem info38 : ∃ i, Try.prog.info? 38 = some i ∧ i.zero = some (.agg #[.int .i64 0, .int .i64 0, .int .i64 0, .slice none 0 0, .int .i64 0]) ∧ i.size = 5 ∧ i.bytes = 56 := info_parts (by kernel_rfl)
theorem netCells_append (qs : List (Pk × Option Addr × Nat)) (x : Pk × Option Addr × Nat) : netCells (qs ++ [x]) = netCells qs ++ (pkA x.1 x.2.1 x.2.2).toList := by
  unfold netCells
  rw [List.flatMap_append]
  simp
/-- 'append' of a packet to a row of packets, as one operation. -/
theorem wp_app32 {o : Oper} {a : Act} {W : World} {K : Act → World → Prop} {Q : Exit → Act → World → Prop} (s x : Operand) (ho : o.op = .call { callee := .builtin .append, args := #[s, x], argTypes := #[32, 32] })
    (base : Nat) (v : Value) (qs : List (Pk × Option Addr × Nat)) (p : Pk × Option Addr × Nat) (hs : a.eval s = v) (hown : W.ownsRow base 38 5 v qs.length (netCells qs)) (b : Nat) (hx : a.eval x = .slice (some ⟨b, 0, none⟩) 1 1) (hb : W.heap[b]? = some (.cells (pkA p.1 p.2.1 p.2.2) 38)) (hl : qs.length ≤ 10000) (hbase : base ≤ W.heap.size)
    (h : ∀ v' w', w'.ownsRow base 38 5 v' (qs ++ [p]).length (netCells (qs ++ [p])) → W.grownBy w' v.ownBlock → (v'.ownBlock = v.ownBlock ∨ v'.ownBlock = some W.heap.size) → K (a.put o.dst v') w') : o.wp Try.prog a W K Q := by
  obtain ⟨i38, j1, j2, j3, j4⟩ := info38
  have hc : ∀ (j : Nat) (u : Value), (pkA p.1 p.2.1 p.2.2).toList[j]? = some u → W.cell? (Addr.add ⟨b, 0, none⟩ j) = some u := fun j u hj => by
    rw [Array.getElem?_toList] at hj
    have e : Addr.add ⟨b, 0, none⟩ j = ⟨b, j, none⟩ := by
      simp [Addr.add]
      exact fun h => h.symm
    rw [e]
    unfold World.cell?
    rw [hb]
    exact hj
  obtain ⟨v', w', hr, h2, h3, _, h5⟩ := run_append_own_at (P := Try.prog) W base 32 o.type 38 i38 _ 5 56 Try.underlying32 j1 j2 j3 j4 rfl (by omega) v qs.length (netCells qs) hown ⟨b, 0, none⟩ 1 1 (pkA p.1 p.2.1 p.2.2).toList rfl hc (by simp [pkA, Value.oneCell']) (by unfold maxLen; omega) (by omega) hbase
  have hk := h v' w' (by rw [netCells_append, List.length_append]; exact h2) h3 h5
  unfold Oper.wp execOp
  simp only [ho, resolve, invoke, builtin, Sem.run_bind, Sem.run_pure, Result.andThen_ok, List.map_toArray, List.map_cons, List.map_nil, hs, hx, hr]
  exact hk
/-- The row of what was sent grows by a packet. -/
theorem SideAt.post {base : Nat} {owner : Nat → Option Nat} {k : Nat} {s : Side} {r : Option Addr} {c : Nat} {g t n : Value} {W W' : World} (h : SideAt base owner k s r c g t n W) {qs : List (Pk × Option Addr × Nat)} (q1 : qs.map (·.1) = s.net) (q3 : ∀ x ∈ qs, SlIs W x.2.1 x.1.words ∧ x.1.words.length ≤ x.2.2 ∧ Free owner W x.2.1) {p : Pk × Option Addr × Nat} (p3 : SlIs W p.2.1 p.1.words ∧ p.1.words.length ≤ p.2.2 ∧ Free owner W p.2.1) {n' : Value} (ho : W'.ownsRow base 38 5 n' (qs ++ [p]).length (netCells (qs ++ [p]))) (hg : W.grownBy W' n.ownBlock) (hn : n'.ownBlock = n.ownBlock ∨ n'.ownBlock = some W.heap.size) :
    ∃ owner', (owner' = owner ∨ owner' = Ytoblckocmakakaa.label owner W.heap.size (3 * k + 2) ∧ n'.ownBlock = some W.heap.size) ∧ SideAt base owner' k { s with net := s.net ++ [p.1] } r c g t n' W' := by
  have ng : g.ownBlock = none ∨ g.ownBlock ≠ n.ownBlock := by
    by_cases e : g.ownBlock = n.ownBlock
    · cases hb : g.ownBlock with
      | none => exact Or.inl rfl
      | some b =>
        have e1 := h.og b hb
        rw [h.on b (e.symm.trans hb)] at e1
        injection e1 with e1
        omega
    · exact Or.inr e
  have nt : t.ownBlock = none ∨ t.ownBlock ≠ n.ownBlock := by
    by_cases e : t.ownBlock = n.ownBlock
    · cases hb : t.ownBlock with
      | none => exact Or.inl rfl
      | some b =>
        have e1 := h.ot b hb
        rw [h.on b (e.symm.trans hb)] at e1
        injection e1 with e1
        omega
    · exact Or.inr e
  have all : ∀ x ∈ qs ++ [p], SlIs W x.2.1 x.1.words ∧ x.1.words.length ≤ x.2.2 ∧ Free owner W x.2.1 := fun x hx => by
    rcases List.mem_append.1 hx with hx | hx
    · exact q3 x hx
    · have : x = p := by simpa using hx
      subst this
      exact p3
  have q1' : (qs ++ [p]).map (·.1) = s.net ++ [p.1] := by rw [List.map_append, q1]; rfl
  rcases hn with hn | hn
  · refine ⟨owner, Or.inl rfl, { h with
      sl := grown_free h.sl h.fr hg h.on
      fr := h.fr.below hg.size
      given := h.given.kept hg ng
      told := h.told.kept hg nt
      net := ⟨qs ++ [p], q1', ho, fun x hx => ⟨grown_free (all x hx).1 (all x hx).2.2 hg h.on, (all x hx).2.1, (all x hx).2.2.below hg.size⟩⟩
      on := fun b e => h.on b (hn.symm.trans e) }⟩
  · have L := h.label (Nat.le_refl W.heap.size) (3 * k + 2)
    refine ⟨_, Or.inr ⟨rfl, hn⟩, { L with
      sl := grown_free h.sl h.fr hg h.on
      fr := L.fr.below hg.size
      given := h.given.kept hg ng
      told := h.told.kept hg nt
      net := ⟨qs ++ [p], q1', ho, fun x hx => ⟨grown_free (all x hx).1 (all x hx).2.2 hg h.on, (all x hx).2.1, ((all x hx).2.2.label (Nat.le_refl _) _).below hg.size⟩⟩
      on := fun b e => by rw [hn] at e; cases e; exact label_new }⟩
/-- Both ends' ten cells. -/
def endsA (e0 : Lk) (r0 : Option Addr) (c0 : Nat) (e1 : Lk) (r1 : Option Addr) (c1 : Nat) : Array Value := #[.int .i64 e0.own, .int .i64 e0.other, .int .i64 e0.first, .slice r0 e0.sent.length c0, .int .i64 e0.next, .int .i64 e1.own, .int .i64 e1.other, .int .i64 e1.first, .slice r1 e1.sent.length c1, .int .i64 e1.next]
/-- Both sides in memory. -/
structure Ord (w0 : World) (bE bG bT bN : Nat) (o : Nat → Option Nat) (s0 : Side) (r0 : Option Addr) (c0 : Nat) (g0 t0 n0 : Value) (s1 : Side) (r1 : Option Addr) (c1 : Nat) (g1 t1 n1 : Value) (W : World) : Prop where
  bel : Below w0.heap.size w0 W
  lo : w0.heap.size ≤ bE ∧ bE < bG ∧ bG < bT ∧ bT < bN ∧ bN < W.heap.size
  e : W.heap[bE]? = some (.cells (endsA s0.e r0 c0 s1.e r1 c1) 30)
  g : W.heap[bG]? = some (.cells #[g0, g1] 31)
  t : W.heap[bT]? = some (.cells #[t0, t1] 31)
  n : W.heap[bN]? = some (.cells #[n0, n1] 33)
  x0 : SideAt w0.heap.size o 0 s0 r0 c0 g0 t0 n0 W
  x1 : SideAt w0.heap.size o 1 s1 r1 c1 g1 t1 n1 W
  lab : o bE = some 6 ∧ o bG = some 7 ∧ o bT = some 8 ∧ o bN = some 9
  new : ∀ b, W.heap.size ≤ b → o b = none
section
variable {w0 : World} {bE bG bT bN : Nat} {o : Nat → Option Nat} {s0 : Side} {r0 : Option Addr} {c0 : Nat} {g0 t0 n0 : Value} {s1 : Side} {r1 : Option Addr} {c1 : Nat} {g1 t1 n1 : Value} {W W' : World}
theorem Ord.below (h : Ord w0 bE bG bT bN o s0 r0 c0 g0 t0 n0 s1 r1 c1 g1 t1 n1 W) (hb : Below W.heap.size W W') : Ord w0 bE bG bT bN o s0 r0 c0 g0 t0 n0 s1 r1 c1 g1 t1 n1 W' :=
  { h with
    bel := h.bel.trans (hb.mono (by have := h.lo; omega))
    lo := by have := h.lo; have := hb.size; omega
    e := old_kept hb h.e
    g := old_kept hb h.g
    t := old_kept hb h.t
    n := old_kept hb h.n
    x0 := h.x0.below hb
    x1 := h.x1.below hb
    new := fun b hb' => h.new b (Nat.le_trans hb.size hb') }
theorem Ord.free (h : Ord w0 bE bG bT bN o s0 r0 c0 g0 t0 n0 s1 r1 c1 g1 t1 n1 W) (_hb : Below W.heap.size W W') {a : Option Addr} (hs : Since' W.heap.size a) (ho : Old W' a) : Free o W' a := fun b off e => ⟨ho b off e, h.new b (hs b off e)⟩
theorem Free.from {a a' : Option Addr} (h : Free o W a) (hf : From a a') : Free o W a' := fun b off e => by
  obtain ⟨off', e'⟩ := hf b off e
  exact h b off' e'
theorem Free.notAt (h : Ord w0 bE bG bT bN o s0 r0 c0 g0 t0 n0 s1 r1 c1 g1 t1 n1 W) {a : Option Addr} (hf : Free o W' a) : Apart bE a ∧ Apart bG a ∧ Apart bT a ∧ Apart bN a := by
  have l := h.lab
  refine ⟨fun b off e hb => ?_, fun b off e hb => ?_, fun b off e hb => ?_, fun b off e hb => ?_⟩ <;>
  · have := (hf b off e).2
    rw [hb] at this
    simp_all
/-- A side's row has grown, and its box has been written: what all growths share. -/
theorem Ord.grown_blocks (h : Ord w0 bE bG bT bN o s0 r0 c0 g0 t0 n0 s1 r1 c1 g1 t1 n1 W) {row : Option Nat} (hg : W.grownBy W' row) {j : Nat} (hj : j < 6) (hr : ∀ b, row = some b → o b = some j) :
    W'.heap[bE]? = some (.cells (endsA s0.e r0 c0 s1.e r1 c1) 30) ∧ W'.heap[bG]? = some (.cells #[g0, g1] 31) ∧ W'.heap[bT]? = some (.cells #[t0, t1] 31) ∧ W'.heap[bN]? = some (.cells #[n0, n1] 33) := by
  obtain ⟨l1, l2, l3, l4⟩ := h.lab
  have lo := h.lo
  refine ⟨(hg.block _ (by omega) fun e => ?_).trans h.e, (hg.block _ (by omega) fun e => ?_).trans h.g, (hg.block _ (by omega) fun e => ?_).trans h.t, (hg.block _ (by omega) fun e => ?_).trans h.n⟩
  · rw [hr _ e.symm] at l1; cases l1; omega
  · rw [hr _ e.symm] at l2; cases l2; omega
  · rw [hr _ e.symm] at l3; cases l3; omega
  · rw [hr _ e.symm] at l4; cases l4; omega
theorem label_kept {o o' : Nat → Option Nat} {z j b : Nat} (ho : o' = o ∨ o' = label o z j) (hb : b ≠ z) : o' b = o b := by
  rcases ho with rfl | rfl
  · rfl
  · exact label_old hb
end

/-- End 0's cells are written. -/
theorem Ord.setE0 {w0 : World} {bE bG bT bN : Nat} {o : Nat → Option Nat} {s0 : Side} {r0 : Option Addr} {c0 : Nat} {g0 t0 n0 : Value} {s1 : Side} {r1 : Option Addr} {c1 : Nat} {g1 t1 n1 : Value} {W : World} (h : Ord w0 bE bG bT bN o s0 r0 c0 g0 t0 n0 s1 r1 c1 g1 t1 n1 W) {M : Lk} {a : Option Addr} {c : Nat} (hs : SlIs W a M.sent) (hc : M.sent.length ≤ c) (hf : Free o W a) :
    Ord w0 bE bG bT bN o { s0 with e := M } a c g0 t0 n0 s1 r1 c1 g1 t1 n1 (((((W.setCell ⟨bE, 0, none⟩ (.int .i64 M.own)).setCell ⟨bE, 1, none⟩ (.int .i64 M.other)).setCell ⟨bE, 2, none⟩ (.int .i64 M.first)).setCell ⟨bE, 3, none⟩ (.slice a M.sent.length c)).setCell ⟨bE, 4, none⟩ (.int .i64 M.next)) := by
  have lo := h.lo
  have ob : o bE ≠ none := by rw [h.lab.1]; simp
  have b1 : w0.heap.size ≤ bE := lo.1
  have X : ∀ (W1 : World) (j : Nat) (v : Value) (cs : Array Value), W1.heap[bE]? = some (.cells cs 30) → SideAt w0.heap.size o 0 s0 r0 c0 g0 t0 n0 W1 ∧ SideAt w0.heap.size o 1 s1 r1 c1 g1 t1 n1 W1 → (W1.setCell ⟨bE, j, none⟩ v).heap[bE]? = some (.cells (cs.setIfInBounds j v) 30) ∧ SideAt w0.heap.size o 0 s0 r0 c0 g0 t0 n0 (W1.setCell ⟨bE, j, none⟩ v) ∧ SideAt w0.heap.size o 1 s1 r1 c1 g1 t1 n1 (W1.setCell ⟨bE, j, none⟩ v) := fun W1 j v cs hcs hx =>
    ⟨heap_set_at v hcs, hx.1.box hcs (by decide) (by decide) ob j v, hx.2.box hcs (by decide) (by decide) ob j v⟩
  have k1 := X _ 0 (.int .i64 M.own) _ h.e ⟨h.x0, h.x1⟩
  have k2 := X _ 1 (.int .i64 M.other) _ k1.1 k1.2
  have k3 := X _ 2 (.int .i64 M.first) _ k2.1 k2.2
  have k4 := X _ 3 (.slice a M.sent.length c) _ k3.1 k3.2
  have k5 := X _ 4 (.int .i64 M.next) _ k4.1 k4.2
  have ap : Apart bE a := (Free.notAt h hf).1
  exact { h with
    bel := ((((h.bel.setCell b1 _).setCell b1 _).setCell b1 _).setCell b1 _).setCell b1 _
    lo := by simpa using lo
    e := k5.1
    g := by
      have ne : bG ≠ bE := by omega
      rw [heap_setCell_other _ _ _ _ ne, heap_setCell_other _ _ _ _ ne, heap_setCell_other _ _ _ _ ne, heap_setCell_other _ _ _ _ ne, heap_setCell_other _ _ _ _ ne]; exact h.g
    t := by
      have ne : bT ≠ bE := by omega
      rw [heap_setCell_other _ _ _ _ ne, heap_setCell_other _ _ _ _ ne, heap_setCell_other _ _ _ _ ne, heap_setCell_other _ _ _ _ ne, heap_setCell_other _ _ _ _ ne]; exact h.t
    n := by
      have ne : bN ≠ bE := by omega
      rw [heap_setCell_other _ _ _ _ ne, heap_setCell_other _ _ _ _ ne, heap_setCell_other _ _ _ _ ne, heap_setCell_other _ _ _ _ ne, heap_setCell_other _ _ _ _ ne]; exact h.n
    x0 := k5.2.1.setE (((((hs.set1 ap _ _).set1 ap _ _).set1 ap _ _).set1 ap _ _).set1 ap _ _) hc (hf.below (by simp))
    x1 := k5.2.2
    new := fun b hb => h.new b (by simpa using hb) }
/-- What side 0 was given grows, and its box is written. -/
theorem Ord.give0 {w0 : World} {bE bG bT bN : Nat} {o : Nat → Option Nat} {s0 : Side} {r0 : Option Addr} {c0 : Nat} {g0 t0 n0 : Value} {s1 : Side} {r1 : Option Addr} {c1 : Nat} {g1 t1 n1 : Value} {W W' : World} (h : Ord w0 bE bG bT bN o s0 r0 c0 g0 t0 n0 s1 r1 c1 g1 t1 n1 W) {v' : Value} {ys : List Int} (ho : W'.ownsRow w0.heap.size 2 1 v' (s0.given ++ ys).length ((s0.given ++ ys).map (Value.int .i64))) (hg : W.grownBy W' g0.ownBlock) (hn : v'.ownBlock = g0.ownBlock ∨ v'.ownBlock = some W.heap.size) :
    ∃ o', Ord w0 bE bG bT bN o' { s0 with given := s0.given ++ ys } r0 c0 v' t0 n0 s1 r1 c1 g1 t1 n1 (W'.setCell ⟨bG, 0, none⟩ v') ∧ ∀ a zs, SlIs W a zs → Free o W a → SlIs (W'.setCell ⟨bG, 0, none⟩ v') a zs ∧ Free o' (W'.setCell ⟨bG, 0, none⟩ v') a := by
  have lo := h.lo
  have hr := h.x0.og
  obtain ⟨o', ho', hx⟩ := h.x0.give ho hg hn
  obtain ⟨e1, e2, e3, e4⟩ := h.grown_blocks hg (by decide : 0 < 6) hr
  have sz := hg.size
  have hoo : o' = o ∨ o' = label o W.heap.size (0) := ho'.imp id (·.1)
  have L1 := label_kept hoo (b := bE) (by omega)
  have L2 := label_kept hoo (b := bG) (by omega)
  have L3 := label_kept hoo (b := bT) (by omega)
  have L4 := label_kept hoo (b := bN) (by omega)
  rw [h.lab.1] at L1
  rw [h.lab.2.1] at L2
  rw [h.lab.2.2.1] at L3
  rw [h.lab.2.2.2] at L4
  have hy : SideAt w0.heap.size o' 1 s1 r1 c1 g1 t1 n1 W' := by
    rcases hoo with rfl | rfl
    · exact h.x1.grown hg hr (by decide) (by decide) (by decide)
    · exact (h.x1.label (Nat.le_refl _) _).grown hg (j := 0) (fun b e => (label_old (by have := (own_block h.x0.given e).2.1; omega)).trans (hr b e)) (by decide) (by decide) (by decide)
  have ob : o' bG ≠ none := by simp [L2]
  have hB := e2
  refine ⟨o', { h with
    bel := (h.bel.grown hg (by omega) (fun b e => (own_block h.x0.given e).1)).setCell (show w0.heap.size ≤ bG by omega) _
    lo := by simp; omega
    e := by rw [set_far (by omega)]; exact e1
    g := heap_set_at _ e2
    t := by rw [set_far (by omega)]; exact e3
    n := by rw [set_far (by omega)]; exact e4
    x0 := hx.box hB (by decide) (by decide) ob _ _
    x1 := hy.box hB (by decide) (by decide) ob _ _
    lab := ⟨L1, L2, L3, L4⟩
    new := fun b hb => ?_ }, fun a zs hs hf => ?_⟩
  · have hb : W'.heap.size ≤ b := by simpa using hb
    rw [← h.new b (by omega)]
    rcases ho' with rfl | ⟨rfl, hv⟩
    · rfl
    · exact label_old (by have := (own_block ho hv).2.1; omega)
  · obtain ⟨z1, z2⟩ := grown_label hg hr hs hf hoo
    refine ⟨z1.set1 (fun b off e hb => ob ?_) _ _, z2.below (by simp)⟩
    rw [← hb]
    exact (z2 b off e).2
/-- What side 0 was told grows, and its box is written. -/
theorem Ord.tell0 {w0 : World} {bE bG bT bN : Nat} {o : Nat → Option Nat} {s0 : Side} {r0 : Option Addr} {c0 : Nat} {g0 t0 n0 : Value} {s1 : Side} {r1 : Option Addr} {c1 : Nat} {g1 t1 n1 : Value} {W W' : World} (h : Ord w0 bE bG bT bN o s0 r0 c0 g0 t0 n0 s1 r1 c1 g1 t1 n1 W) {v' : Value} {ys : List Int} (ho : W'.ownsRow w0.heap.size 2 1 v' (s0.told ++ ys).length ((s0.told ++ ys).map (Value.int .i64))) (hg : W.grownBy W' t0.ownBlock) (hn : v'.ownBlock = t0.ownBlock ∨ v'.ownBlock = some W.heap.size) :
    ∃ o', Ord w0 bE bG bT bN o' { s0 with told := s0.told ++ ys } r0 c0 g0 v' n0 s1 r1 c1 g1 t1 n1 (W'.setCell ⟨bT, 0, none⟩ v') ∧ ∀ a zs, SlIs W a zs → Free o W a → SlIs (W'.setCell ⟨bT, 0, none⟩ v') a zs ∧ Free o' (W'.setCell ⟨bT, 0, none⟩ v') a := by
  have lo := h.lo
  have hr := h.x0.ot
  obtain ⟨o', ho', hx⟩ := h.x0.tell ho hg hn
  obtain ⟨e1, e2, e3, e4⟩ := h.grown_blocks hg (by decide : 1 < 6) hr
  have sz := hg.size
  have hoo : o' = o ∨ o' = label o W.heap.size (1) := ho'.imp id (·.1)
  have L1 := label_kept hoo (b := bE) (by omega)
  have L2 := label_kept hoo (b := bG) (by omega)
  have L3 := label_kept hoo (b := bT) (by omega)
  have L4 := label_kept hoo (b := bN) (by omega)
  rw [h.lab.1] at L1
  rw [h.lab.2.1] at L2
  rw [h.lab.2.2.1] at L3
  rw [h.lab.2.2.2] at L4
  have hy : SideAt w0.heap.size o' 1 s1 r1 c1 g1 t1 n1 W' := by
    rcases hoo with rfl | rfl
    · exact h.x1.grown hg hr (by decide) (by decide) (by decide)
    · exact (h.x1.label (Nat.le_refl _) _).grown hg (j := 1) (fun b e => (label_old (by have := (own_block h.x0.told e).2.1; omega)).trans (hr b e)) (by decide) (by decide) (by decide)
  have ob : o' bT ≠ none := by simp [L3]
  have hB := e3
  refine ⟨o', { h with
    bel := (h.bel.grown hg (by omega) (fun b e => (own_block h.x0.told e).1)).setCell (show w0.heap.size ≤ bT by omega) _
    lo := by simp; omega
    e := by rw [set_far (by omega)]; exact e1
    g := by rw [set_far (by omega)]; exact e2
    t := heap_set_at _ e3
    n := by rw [set_far (by omega)]; exact e4
    x0 := hx.box hB (by decide) (by decide) ob _ _
    x1 := hy.box hB (by decide) (by decide) ob _ _
    lab := ⟨L1, L2, L3, L4⟩
    new := fun b hb => ?_ }, fun a zs hs hf => ?_⟩
  · have hb : W'.heap.size ≤ b := by simpa using hb
    rw [← h.new b (by omega)]
    rcases ho' with rfl | ⟨rfl, hv⟩
    · rfl
    · exact label_old (by have := (own_block ho hv).2.1; omega)
  · obtain ⟨z1, z2⟩ := grown_label hg hr hs hf hoo
    refine ⟨z1.set1 (fun b off e hb => ob ?_) _ _, z2.below (by simp)⟩
    rw [← hb]
    exact (z2 b off e).2
/-- What side 0 sent grows, and its box is written. -/
theorem Ord.post0 {w0 : World} {bE bG bT bN : Nat} {o : Nat → Option Nat} {s0 : Side} {r0 : Option Addr} {c0 : Nat} {g0 t0 n0 : Value} {s1 : Side} {r1 : Option Addr} {c1 : Nat} {g1 t1 n1 : Value} {W W' : World} (h : Ord w0 bE bG bT bN o s0 r0 c0 g0 t0 n0 s1 r1 c1 g1 t1 n1 W) {qs : List (Pk × Option Addr × Nat)} (q1 : qs.map (·.1) = s0.net) (q2 : W.ownsRow w0.heap.size 38 5 n0 qs.length (netCells qs)) (q3 : ∀ x ∈ qs, SlIs W x.2.1 x.1.words ∧ x.1.words.length ≤ x.2.2 ∧ Free o W x.2.1) {p : Pk × Option Addr × Nat} (p3 : SlIs W p.2.1 p.1.words ∧ p.1.words.length ≤ p.2.2 ∧ Free o W p.2.1) {v' : Value} (ho : W'.ownsRow w0.heap.size 38 5 v' (qs ++ [p]).length (netCells (qs ++ [p]))) (hg : W.grownBy W' n0.ownBlock) (hn : v'.ownBlock = n0.ownBlock ∨ v'.ownBlock = some W.heap.size) :
    ∃ o', Ord w0 bE bG bT bN o' { s0 with net := s0.net ++ [p.1] } r0 c0 g0 t0 v' s1 r1 c1 g1 t1 n1 (W'.setCell ⟨bN, 0, none⟩ v') := by
  have lo := h.lo
  have hr := h.x0.on
  obtain ⟨o', ho', hx⟩ := h.x0.post q1 q3 p3 ho hg hn
  obtain ⟨e1, e2, e3, e4⟩ := h.grown_blocks hg (by decide : 2 < 6) hr
  have sz := hg.size
  have hoo : o' = o ∨ o' = label o W.heap.size (2) := ho'.imp id (·.1)
  have L1 := label_kept hoo (b := bE) (by omega)
  have L2 := label_kept hoo (b := bG) (by omega)
  have L3 := label_kept hoo (b := bT) (by omega)
  have L4 := label_kept hoo (b := bN) (by omega)
  rw [h.lab.1] at L1
  rw [h.lab.2.1] at L2
  rw [h.lab.2.2.1] at L3
  rw [h.lab.2.2.2] at L4
  have hy : SideAt w0.heap.size o' 1 s1 r1 c1 g1 t1 n1 W' := by
    rcases hoo with rfl | rfl
    · exact h.x1.grown hg hr (by decide) (by decide) (by decide)
    · exact (h.x1.label (Nat.le_refl _) _).grown hg (j := 2) (fun b e => (label_old (by have := (own_block q2 e).2.1; omega)).trans (hr b e)) (by decide) (by decide) (by decide)
  have ob : o' bN ≠ none := by simp [L4]
  refine ⟨o', { h with
    bel := (h.bel.grown hg (by omega) (fun b e => (own_block q2 e).1)).setCell (show w0.heap.size ≤ bN by omega) _
    lo := by simp; omega
    e := by rw [set_far (by omega)]; exact e1
    g := by rw [set_far (by omega)]; exact e2
    t := by rw [set_far (by omega)]; exact e3
    n := heap_set_at _ e4
    x0 := hx.box e4 (by decide) (by decide) ob _ _
    x1 := hy.box e4 (by decide) (by decide) ob _ _
    lab := ⟨L1, L2, L3, L4⟩
    new := fun b hb => ?_ }⟩
  have hb : W'.heap.size ≤ b := by simpa using hb
  rw [← h.new b (by omega)]
  rcases ho' with rfl | ⟨rfl, hv⟩
  · rfl
  · exact label_old (by have := (own_block ho hv).2.1; omega)
/-- End 1's cells are written. -/
theorem Ord.setE1 {w0 : World} {bE bG bT bN : Nat} {o : Nat → Option Nat} {s0 : Side} {r0 : Option Addr} {c0 : Nat} {g0 t0 n0 : Value} {s1 : Side} {r1 : Option Addr} {c1 : Nat} {g1 t1 n1 : Value} {W : World} (h : Ord w0 bE bG bT bN o s0 r0 c0 g0 t0 n0 s1 r1 c1 g1 t1 n1 W) {M : Lk} {a : Option Addr} {c : Nat} (hs : SlIs W a M.sent) (hc : M.sent.length ≤ c) (hf : Free o W a) :
    Ord w0 bE bG bT bN o s0 r0 c0 g0 t0 n0 { s1 with e := M } a c g1 t1 n1 (((((W.setCell ⟨bE, 5, none⟩ (.int .i64 M.own)).setCell ⟨bE, 6, none⟩ (.int .i64 M.other)).setCell ⟨bE, 7, none⟩ (.int .i64 M.first)).setCell ⟨bE, 8, none⟩ (.slice a M.sent.length c)).setCell ⟨bE, 9, none⟩ (.int .i64 M.next)) := by
  have lo := h.lo
  have ob : o bE ≠ none := by rw [h.lab.1]; simp
  have b1 : w0.heap.size ≤ bE := lo.1
  have X : ∀ (W1 : World) (j : Nat) (v : Value) (cs : Array Value), W1.heap[bE]? = some (.cells cs 30) → SideAt w0.heap.size o 1 s1 r1 c1 g1 t1 n1 W1 ∧ SideAt w0.heap.size o 0 s0 r0 c0 g0 t0 n0 W1 → (W1.setCell ⟨bE, j, none⟩ v).heap[bE]? = some (.cells (cs.setIfInBounds j v) 30) ∧ SideAt w0.heap.size o 1 s1 r1 c1 g1 t1 n1 (W1.setCell ⟨bE, j, none⟩ v) ∧ SideAt w0.heap.size o 0 s0 r0 c0 g0 t0 n0 (W1.setCell ⟨bE, j, none⟩ v) := fun W1 j v cs hcs hx =>
    ⟨heap_set_at v hcs, hx.1.box hcs (by decide) (by decide) ob j v, hx.2.box hcs (by decide) (by decide) ob j v⟩
  have k1 := X _ 5 (.int .i64 M.own) _ h.e ⟨h.x1, h.x0⟩
  have k2 := X _ 6 (.int .i64 M.other) _ k1.1 k1.2
  have k3 := X _ 7 (.int .i64 M.first) _ k2.1 k2.2
  have k4 := X _ 8 (.slice a M.sent.length c) _ k3.1 k3.2
  have k5 := X _ 9 (.int .i64 M.next) _ k4.1 k4.2
  have ap : Apart bE a := (Free.notAt h hf).1
  exact { h with
    bel := ((((h.bel.setCell b1 _).setCell b1 _).setCell b1 _).setCell b1 _).setCell b1 _
    lo := by simpa using lo
    e := k5.1
    g := by
      have ne : bG ≠ bE := by omega
      rw [heap_setCell_other _ _ _ _ ne, heap_setCell_other _ _ _ _ ne, heap_setCell_other _ _ _ _ ne, heap_setCell_other _ _ _ _ ne, heap_setCell_other _ _ _ _ ne]; exact h.g
    t := by
      have ne : bT ≠ bE := by omega
      rw [heap_setCell_other _ _ _ _ ne, heap_setCell_other _ _ _ _ ne, heap_setCell_other _ _ _ _ ne, heap_setCell_other _ _ _ _ ne, heap_setCell_other _ _ _ _ ne]; exact h.t
    n := by
      have ne : bN ≠ bE := by omega
      rw [heap_setCell_other _ _ _ _ ne, heap_setCell_other _ _ _ _ ne, heap_setCell_other _ _ _ _ ne, heap_setCell_other _ _ _ _ ne, heap_setCell_other _ _ _ _ ne]; exact h.n
    x1 := k5.2.1.setE (((((hs.set1 ap _ _).set1 ap _ _).set1 ap _ _).set1 ap _ _).set1 ap _ _) hc (hf.below (by simp))
    x0 := k5.2.2
    new := fun b hb => h.new b (by simpa using hb) }
/-- What side 1 was given grows, and its box is written. -/
theorem Ord.give1 {w0 : World} {bE bG bT bN : Nat} {o : Nat → Option Nat} {s0 : Side} {r0 : Option Addr} {c0 : Nat} {g0 t0 n0 : Value} {s1 : Side} {r1 : Option Addr} {c1 : Nat} {g1 t1 n1 : Value} {W W' : World} (h : Ord w0 bE bG bT bN o s0 r0 c0 g0 t0 n0 s1 r1 c1 g1 t1 n1 W) {v' : Value} {ys : List Int} (ho : W'.ownsRow w0.heap.size 2 1 v' (s1.given ++ ys).length ((s1.given ++ ys).map (Value.int .i64))) (hg : W.grownBy W' g1.ownBlock) (hn : v'.ownBlock = g1.ownBlock ∨ v'.ownBlock = some W.heap.size) :
    ∃ o', Ord w0 bE bG bT bN o' s0 r0 c0 g0 t0 n0 { s1 with given := s1.given ++ ys } r1 c1 v' t1 n1 (W'.setCell ⟨bG, 1, none⟩ v') ∧ ∀ a zs, SlIs W a zs → Free o W a → SlIs (W'.setCell ⟨bG, 1, none⟩ v') a zs ∧ Free o' (W'.setCell ⟨bG, 1, none⟩ v') a := by
  have lo := h.lo
  have hr := h.x1.og
  obtain ⟨o', ho', hx⟩ := h.x1.give ho hg hn
  obtain ⟨e1, e2, e3, e4⟩ := h.grown_blocks hg (by decide : 3 < 6) hr
  have sz := hg.size
  have hoo : o' = o ∨ o' = label o W.heap.size (3) := ho'.imp id (·.1)
  have L1 := label_kept hoo (b := bE) (by omega)
  have L2 := label_kept hoo (b := bG) (by omega)
  have L3 := label_kept hoo (b := bT) (by omega)
  have L4 := label_kept hoo (b := bN) (by omega)
  rw [h.lab.1] at L1
  rw [h.lab.2.1] at L2
  rw [h.lab.2.2.1] at L3
  rw [h.lab.2.2.2] at L4
  have hy : SideAt w0.heap.size o' 0 s0 r0 c0 g0 t0 n0 W' := by
    rcases hoo with rfl | rfl
    · exact h.x0.grown hg hr (by decide) (by decide) (by decide)
    · exact (h.x0.label (Nat.le_refl _) _).grown hg (j := 3) (fun b e => (label_old (by have := (own_block h.x1.given e).2.1; omega)).trans (hr b e)) (by decide) (by decide) (by decide)
  have ob : o' bG ≠ none := by simp [L2]
  have hB := e2
  refine ⟨o', { h with
    bel := (h.bel.grown hg (by omega) (fun b e => (own_block h.x1.given e).1)).setCell (show w0.heap.size ≤ bG by omega) _
    lo := by simp; omega
    e := by rw [set_far (by omega)]; exact e1
    g := heap_set_at _ e2
    t := by rw [set_far (by omega)]; exact e3
    n := by rw [set_far (by omega)]; exact e4
    x1 := hx.box hB (by decide) (by decide) ob _ _
    x0 := hy.box hB (by decide) (by decide) ob _ _
    lab := ⟨L1, L2, L3, L4⟩
    new := fun b hb => ?_ }, fun a zs hs hf => ?_⟩
  · have hb : W'.heap.size ≤ b := by simpa using hb
    rw [← h.new b (by omega)]
    rcases ho' with rfl | ⟨rfl, hv⟩
    · rfl
    · exact label_old (by have := (own_block ho hv).2.1; omega)
  · obtain ⟨z1, z2⟩ := grown_label hg hr hs hf hoo
    refine ⟨z1.set1 (fun b off e hb => ob ?_) _ _, z2.below (by simp)⟩
    rw [← hb]
    exact (z2 b off e).2
/-- What side 1 was told grows, and its box is written. -/
theorem Ord.tell1 {w0 : World} {bE bG bT bN : Nat} {o : Nat → Option Nat} {s0 : Side} {r0 : Option Addr} {c0 : Nat} {g0 t0 n0 : Value} {s1 : Side} {r1 : Option Addr} {c1 : Nat} {g1 t1 n1 : Value} {W W' : World} (h : Ord w0 bE bG bT bN o s0 r0 c0 g0 t0 n0 s1 r1 c1 g1 t1 n1 W) {v' : Value} {ys : List Int} (ho : W'.ownsRow w0.heap.size 2 1 v' (s1.told ++ ys).length ((s1.told ++ ys).map (Value.int .i64))) (hg : W.grownBy W' t1.ownBlock) (hn : v'.ownBlock = t1.ownBlock ∨ v'.ownBlock = some W.heap.size) :
    ∃ o', Ord w0 bE bG bT bN o' s0 r0 c0 g0 t0 n0 { s1 with told := s1.told ++ ys } r1 c1 g1 v' n1 (W'.setCell ⟨bT, 1, none⟩ v') ∧ ∀ a zs, SlIs W a zs → Free o W a → SlIs (W'.setCell ⟨bT, 1, none⟩ v') a zs ∧ Free o' (W'.setCell ⟨bT, 1, none⟩ v') a := by
  have lo := h.lo
  have hr := h.x1.ot
  obtain ⟨o', ho', hx⟩ := h.x1.tell ho hg hn
  obtain ⟨e1, e2, e3, e4⟩ := h.grown_blocks hg (by decide : 4 < 6) hr
  have sz := hg.size
  have hoo : o' = o ∨ o' = label o W.heap.size (4) := ho'.imp id (·.1)
  have L1 := label_kept hoo (b := bE) (by omega)
  have L2 := label_kept hoo (b := bG) (by omega)
  have L3 := label_kept hoo (b := bT) (by omega)
  have L4 := label_kept hoo (b := bN) (by omega)
  rw [h.lab.1] at L1
  rw [h.lab.2.1] at L2
  rw [h.lab.2.2.1] at L3
  rw [h.lab.2.2.2] at L4
  have hy : SideAt w0.heap.size o' 0 s0 r0 c0 g0 t0 n0 W' := by
    rcases hoo with rfl | rfl
    · exact h.x0.grown hg hr (by decide) (by decide) (by decide)
    · exact (h.x0.label (Nat.le_refl _) _).grown hg (j := 4) (fun b e => (label_old (by have := (own_block h.x1.told e).2.1; omega)).trans (hr b e)) (by decide) (by decide) (by decide)
  have ob : o' bT ≠ none := by simp [L3]
  have hB := e3
  refine ⟨o', { h with
    bel := (h.bel.grown hg (by omega) (fun b e => (own_block h.x1.told e).1)).setCell (show w0.heap.size ≤ bT by omega) _
    lo := by simp; omega
    e := by rw [set_far (by omega)]; exact e1
    g := by rw [set_far (by omega)]; exact e2
    t := heap_set_at _ e3
    n := by rw [set_far (by omega)]; exact e4
    x1 := hx.box hB (by decide) (by decide) ob _ _
    x0 := hy.box hB (by decide) (by decide) ob _ _
    lab := ⟨L1, L2, L3, L4⟩
    new := fun b hb => ?_ }, fun a zs hs hf => ?_⟩
  · have hb : W'.heap.size ≤ b := by simpa using hb
    rw [← h.new b (by omega)]
    rcases ho' with rfl | ⟨rfl, hv⟩
    · rfl
    · exact label_old (by have := (own_block ho hv).2.1; omega)
  · obtain ⟨z1, z2⟩ := grown_label hg hr hs hf hoo
    refine ⟨z1.set1 (fun b off e hb => ob ?_) _ _, z2.below (by simp)⟩
    rw [← hb]
    exact (z2 b off e).2
/-- What side 1 sent grows, and its box is written. -/
theorem Ord.post1 {w0 : World} {bE bG bT bN : Nat} {o : Nat → Option Nat} {s0 : Side} {r0 : Option Addr} {c0 : Nat} {g0 t0 n0 : Value} {s1 : Side} {r1 : Option Addr} {c1 : Nat} {g1 t1 n1 : Value} {W W' : World} (h : Ord w0 bE bG bT bN o s0 r0 c0 g0 t0 n0 s1 r1 c1 g1 t1 n1 W) {qs : List (Pk × Option Addr × Nat)} (q1 : qs.map (·.1) = s1.net) (q2 : W.ownsRow w0.heap.size 38 5 n1 qs.length (netCells qs)) (q3 : ∀ x ∈ qs, SlIs W x.2.1 x.1.words ∧ x.1.words.length ≤ x.2.2 ∧ Free o W x.2.1) {p : Pk × Option Addr × Nat} (p3 : SlIs W p.2.1 p.1.words ∧ p.1.words.length ≤ p.2.2 ∧ Free o W p.2.1) {v' : Value} (ho : W'.ownsRow w0.heap.size 38 5 v' (qs ++ [p]).length (netCells (qs ++ [p]))) (hg : W.grownBy W' n1.ownBlock) (hn : v'.ownBlock = n1.ownBlock ∨ v'.ownBlock = some W.heap.size) :
    ∃ o', Ord w0 bE bG bT bN o' s0 r0 c0 g0 t0 n0 { s1 with net := s1.net ++ [p.1] } r1 c1 g1 t1 v' (W'.setCell ⟨bN, 1, none⟩ v') := by
  have lo := h.lo
  have hr := h.x1.on
  obtain ⟨o', ho', hx⟩ := h.x1.post q1 q3 p3 ho hg hn
  obtain ⟨e1, e2, e3, e4⟩ := h.grown_blocks hg (by decide : 5 < 6) hr
  have sz := hg.size
  have hoo : o' = o ∨ o' = label o W.heap.size (5) := ho'.imp id (·.1)
  have L1 := label_kept hoo (b := bE) (by omega)
  have L2 := label_kept hoo (b := bG) (by omega)
  have L3 := label_kept hoo (b := bT) (by omega)
  have L4 := label_kept hoo (b := bN) (by omega)
  rw [h.lab.1] at L1
  rw [h.lab.2.1] at L2
  rw [h.lab.2.2.1] at L3
  rw [h.lab.2.2.2] at L4
  have hy : SideAt w0.heap.size o' 0 s0 r0 c0 g0 t0 n0 W' := by
    rcases hoo with rfl | rfl
    · exact h.x0.grown hg hr (by decide) (by decide) (by decide)
    · exact (h.x0.label (Nat.le_refl _) _).grown hg (j := 5) (fun b e => (label_old (by have := (own_block q2 e).2.1; omega)).trans (hr b e)) (by decide) (by decide) (by decide)
  have ob : o' bN ≠ none := by simp [L4]
  refine ⟨o', { h with
    bel := (h.bel.grown hg (by omega) (fun b e => (own_block q2 e).1)).setCell (show w0.heap.size ≤ bN by omega) _
    lo := by simp; omega
    e := by rw [set_far (by omega)]; exact e1
    g := by rw [set_far (by omega)]; exact e2
    t := by rw [set_far (by omega)]; exact e3
    n := heap_set_at _ e4
    x1 := hx.box e4 (by decide) (by decide) ob _ _
    x0 := hy.box e4 (by decide) (by decide) ob _ _
    lab := ⟨L1, L2, L3, L4⟩
    new := fun b hb => ?_ }⟩
  have hb : W'.heap.size ≤ b := by simpa using hb
  rw [← h.new b (by omega)]
  rcases ho' with rfl | ⟨rfl, hv⟩
  · rfl
  · exact label_old (by have := (own_block ho hv).2.1; omega)
end Go.Proofs.Ytoblckocmakakaa
