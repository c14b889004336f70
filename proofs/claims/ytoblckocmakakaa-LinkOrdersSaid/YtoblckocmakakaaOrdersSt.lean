/-
  What stands between two acts of LinkOrders' script: no conditions but those named.
-/
import Derived.Test.YtoblckocmakakaaOrdersLaw
import Derived.Test.YtoblckocmakakaaOpenA
import Derived.Test.YtoblckocmakakaaComesSt
namespace Go.Proofs.Ytoblckocmakakaa
open Go.RowKit
/-- Packets in a row: each one's five cells, its words behind an address and a capacity of its own. -/
def netCells (qs : List (Pk × Option Addr × Nat)) : List Value := qs.flatMap fun x => (pkA x.1 x.2.1 x.2.2).toList
theorem netCells_length (qs : List (Pk × Option Addr × Nat)) : (netCells qs).length = qs.length * 5 := by
  induction qs with
  | nil => rfl
  | cons x xs ih =>
    show ((pkA x.1 x.2.1 x.2.2).toList ++ netCells xs).length = _
    rw [List.length_append, ih, List.length_cons]
    show 5 + xs.length * 5 = _
    omega
/-- A slice that no row of the call's own lies in, of a block that is there. -/
def Free (owner : Nat → Option Nat) (W : World) (a : Option Addr) : Prop := ∀ b off, a = some ⟨b, off, none⟩ → b < W.heap.size ∧ owner b = none
/-- One side in memory: its end's row, the rows of what it was given, told and sent. -/
structure SideAt (base : Nat) (owner : Nat → Option Nat) (k : Nat) (s : Side) (r : Option Addr) (c : Nat) (g t n : Value) (W : World) : Prop where
  sl : SlIs W r s.e.sent
  cp : s.e.sent.length ≤ c
  fr : Free owner W r
  given : W.ownsRow base 2 1 g s.given.length (s.given.map (Value.int .i64))
  told : W.ownsRow base 2 1 t s.told.length (s.told.map (Value.int .i64))
  net : ∃ qs : List (Pk × Option Addr × Nat), qs.map (·.1) = s.net ∧ W.ownsRow base 38 5 n qs.length (netCells qs) ∧ ∀ x ∈ qs, SlIs W x.2.1 x.1.words ∧ x.1.words.length ≤ x.2.2 ∧ Free owner W x.2.1
  og : ∀ b, g.ownBlock = some b → owner b = some (3 * k)
  ot : ∀ b, t.ownBlock = some b → owner b = some (3 * k + 1)
  on : ∀ b, n.ownBlock = some b → owner b = some (3 * k + 2)
theorem Free.below {owner : Nat → Option Nat} {W W' : World} {a : Option Addr} (h : Free owner W a) (hb : W.heap.size ≤ W'.heap.size) : Free owner W' a := fun b off e => ⟨Nat.lt_of_lt_of_le (h b off e).1 hb, (h b off e).2⟩
theorem SideAt.below {base : Nat} {owner : Nat → Option Nat} {k : Nat} {s : Side} {r : Option Addr} {c : Nat} {g t n : Value} {W W' : World} (h : SideAt base owner k s r c g t n W) (hb : Below W.heap.size W W') : SideAt base owner k s r c g t n W' := by
  obtain ⟨qs, q1, q2, q3⟩ := h.net
  exact { h with
    sl := h.sl.below hb
    fr := h.fr.below hb.size
    given := own_below h.given hb
    told := own_below h.told hb
    net := ⟨qs, q1, own_below q2 hb, fun x hx => ⟨(q3 x hx).1.below hb, (q3 x hx).2.1, (q3 x hx).2.2.below hb.size⟩⟩ }
theorem grown_free {owner : Nat → Option Nat} {W W' : World} {a : Option Addr} {zs : List Int} (h : SlIs W a zs) (hf : Free owner W a) {row : Option Nat} (hg : W.grownBy W' row) {j : Nat} (hr : ∀ b, row = some b → owner b = some j) : SlIs W' a zs :=
  h.grown hg (fun g e b off ea hb => by
    have h1 := hr g e
    have h2 := (hf b off ea).2
    rw [hb, h1] at h2
    cases h2)
/-- A row that another label owns may grow: the side is as it was. -/
theorem SideAt.grown {base : Nat} {owner : Nat → Option Nat} {k : Nat} {s : Side} {r : Option Addr} {c : Nat} {g t n : Value} {W W' : World} (h : SideAt base owner k s r c g t n W) {row : Option Nat} (hg : W.grownBy W' row) {j : Nat} (hr : ∀ b, row = some b → owner b = some j) (h0 : j ≠ 3 * k) (h1 : j ≠ 3 * k + 1) (h2 : j ≠ 3 * k + 2) : SideAt base owner k s r c g t n W' := by
  have ne : ∀ (v : Value) (i : Nat), (∀ b, v.ownBlock = some b → owner b = some i) → j ≠ i → v.ownBlock = none ∨ v.ownBlock ≠ row := fun v i hv hi => by
    by_cases e : v.ownBlock = row
    · cases hb : v.ownBlock with
      | none => exact Or.inl rfl
      | some b =>
        have e1 := hv b hb
        have e2 := hr b (e.symm.trans hb)
        rw [e1] at e2
        cases e2
        exact absurd rfl hi
    · exact Or.inr e
  obtain ⟨qs, q1, q2, q3⟩ := h.net
  exact { h with
    sl := grown_free h.sl h.fr hg hr
    fr := h.fr.below hg.size
    given := h.given.kept hg (ne g _ h.og h0)
    told := h.told.kept hg (ne t _ h.ot h1)
    net := ⟨qs, q1, q2.kept hg (ne n _ h.on h2), fun x hx => ⟨grown_free (q3 x hx).1 (q3 x hx).2.2 hg hr, (q3 x hx).2.1, (q3 x hx).2.2.below hg.size⟩⟩ }
/-- A block that is not there yet gets a label. -/
def label (owner : Nat → Option Nat) (z j : Nat) : Nat → Option Nat := fun b => if b = z then some j else owner b
theorem label_old {owner : Nat → Option Nat} {z j b : Nat} (h : b ≠ z) : label owner z j b = owner b := if_neg h
theorem label_new {owner : Nat → Option Nat} {z j : Nat} : label owner z j z = some j := if_pos rfl
theorem Free.label {owner : Nat → Option Nat} {W : World} {a : Option Addr} (h : Free owner W a) {z : Nat} (hz : W.heap.size ≤ z) (j : Nat) : Free (label owner z j) W a := fun b off e => by
  obtain ⟨h1, h2⟩ := h b off e
  exact ⟨h1, (label_old (by omega)).trans h2⟩
theorem SideAt.label {base : Nat} {owner : Nat → Option Nat} {k : Nat} {s : Side} {r : Option Addr} {c : Nat} {g t n : Value} {W : World} (h : SideAt base owner k s r c g t n W) {z : Nat} (hz : W.heap.size ≤ z) (j : Nat) : SideAt base (label owner z j) k s r c g t n W := by
  obtain ⟨qs, q1, q2, q3⟩ := h.net
  exact { h with
    fr := h.fr.label hz j
    net := ⟨qs, q1, q2, fun x hx => ⟨(q3 x hx).1, (q3 x hx).2.1, (q3 x hx).2.2.label hz j⟩⟩
    og := fun b e => (label_old (by have := (own_block h.given e).2.1; omega)).trans (h.og b e)
    ot := fun b e => (label_old (by have := (own_block h.told e).2.1; omega)).trans (h.ot b e)
    on := fun b e => (label_old (by have := (own_block q2 e).2.1; omega)).trans (h.on b e) }
/-- A box of another type is written: the side is as it was. -/
theorem SideAt.box {base : Nat} {owner : Nat → Option Nat} {k : Nat} {s : Side} {r : Option Addr} {c : Nat} {g t n : Value} {W : World} (h : SideAt base owner k s r c g t n W) {b : Nat} {cs : Array Value} {ty : TypeId} (hb : W.heap[b]? = some (.cells cs ty)) (h2 : ty ≠ 2) (h38 : ty ≠ 38) (ob : owner b ≠ none) (o : Nat) (v : Value) : SideAt base owner k s r c g t n (W.setCell ⟨b, o, none⟩ v) := by
  have ap : ∀ a, Free owner W a → Apart b a := fun a hf b' off e hb' => ob (by rw [← hb']; exact (hf b' off e).2)
  obtain ⟨qs, q1, q2, q3⟩ := h.net
  exact { h with
    sl := h.sl.set1 (ap _ h.fr) _ _
    fr := h.fr.below (by simp)
    given := own_set h.given (own_ne h.given hb h2) _ _
    told := own_set h.told (own_ne h.told hb h2) _ _
    net := ⟨qs, q1, own_set q2 (own_ne q2 hb h38) _ _, fun x hx => ⟨(q3 x hx).1.set1 (ap _ (q3 x hx).2.2) _ _, (q3 x hx).2.1, (q3 x hx).2.2.below (by simp)⟩⟩ }
/-- The row of what was given grows by a word (or by more). -/
theorem SideAt.give {base : Nat} {owner : Nat → Option Nat} {k : Nat} {s : Side} {r : Option Addr} {c : Nat} {g t n : Value} {W W' : World} (h : SideAt base owner k s r c g t n W) {g' : Value} {ys : List Int} (ho : W'.ownsRow base 2 1 g' (s.given ++ ys).length ((s.given ++ ys).map (Value.int .i64))) (hg : W.grownBy W' g.ownBlock) (hn : g'.ownBlock = g.ownBlock ∨ g'.ownBlock = some W.heap.size) :
    ∃ owner', (owner' = owner ∨ owner' = Ytoblckocmakakaa.label owner W.heap.size (3 * k) ∧ g'.ownBlock = some W.heap.size) ∧ SideAt base owner' k { s with given := s.given ++ ys } r c g' t n W' := by
  obtain ⟨qs, q1, q2, q3⟩ := h.net
  have nt : t.ownBlock = none ∨ t.ownBlock ≠ g.ownBlock := by
    by_cases e : t.ownBlock = g.ownBlock
    · cases hb : t.ownBlock with
      | none => exact Or.inl rfl
      | some b =>
        have e1 := h.ot b hb
        rw [h.og b (e.symm.trans hb)] at e1
        injection e1 with e1
        omega
    · exact Or.inr e
  have nn : n.ownBlock = none ∨ n.ownBlock ≠ g.ownBlock := by
    by_cases e : n.ownBlock = g.ownBlock
    · cases hb : n.ownBlock with
      | none => exact Or.inl rfl
      | some b =>
        have e1 := h.on b hb
        rw [h.og b (e.symm.trans hb)] at e1
        injection e1 with e1
        omega
    · exact Or.inr e
  have K : SideAt base owner k s r c g t n W := h
  rcases hn with hn | hn
  · refine ⟨owner, Or.inl rfl, { h with
      sl := grown_free h.sl h.fr hg h.og
      fr := h.fr.below hg.size
      given := ho
      told := h.told.kept hg nt
      net := ⟨qs, q1, q2.kept hg nn, fun x hx => ⟨grown_free (q3 x hx).1 (q3 x hx).2.2 hg h.og, (q3 x hx).2.1, (q3 x hx).2.2.below hg.size⟩⟩
      og := fun b e => h.og b (hn.symm.trans e) }⟩
  · have L := h.label (Nat.le_refl W.heap.size) (3 * k)
    obtain ⟨qs, q1, q2, q3⟩ := L.net
    refine ⟨_, Or.inr ⟨rfl, hn⟩, { L with
      sl := grown_free h.sl h.fr hg h.og
      fr := L.fr.below hg.size
      given := ho
      told := h.told.kept hg nt
      net := ⟨qs, q1, q2.kept hg nn, fun x hx => ⟨grown_free (q3 x hx).1 (q3 x hx).2.2 hg (fun b e => L.og b e), (q3 x hx).2.1, (q3 x hx).2.2.below hg.size⟩⟩
      og := fun b e => by rw [hn] at e; cases e; exact label_new }⟩
/-- The row of what was told grows by a word (or by more). -/
theorem SideAt.tell {base : Nat} {owner : Nat → Option Nat} {k : Nat} {s : Side} {r : Option Addr} {c : Nat} {g t n : Value} {W W' : World} (h : SideAt base owner k s r c g t n W) {t' : Value} {ys : List Int} (ho : W'.ownsRow base 2 1 t' (s.told ++ ys).length ((s.told ++ ys).map (Value.int .i64))) (hg : W.grownBy W' t.ownBlock) (hn : t'.ownBlock = t.ownBlock ∨ t'.ownBlock = some W.heap.size) :
    ∃ owner', (owner' = owner ∨ owner' = Ytoblckocmakakaa.label owner W.heap.size (3 * k + 1) ∧ t'.ownBlock = some W.heap.size) ∧ SideAt base owner' k { s with told := s.told ++ ys } r c g t' n W' := by
  obtain ⟨qs, q1, q2, q3⟩ := h.net
  have nt : g.ownBlock = none ∨ g.ownBlock ≠ t.ownBlock := by
    by_cases e : g.ownBlock = t.ownBlock
    · cases hb : g.ownBlock with
      | none => exact Or.inl rfl
      | some b =>
        have e1 := h.og b hb
        rw [h.ot b (e.symm.trans hb)] at e1
        injection e1 with e1
        omega
    · exact Or.inr e
  have nn : n.ownBlock = none ∨ n.ownBlock ≠ t.ownBlock := by
    by_cases e : n.ownBlock = t.ownBlock
    · cases hb : n.ownBlock with
      | none => exact Or.inl rfl
      | some b =>
        have e1 := h.on b hb
        rw [h.ot b (e.symm.trans hb)] at e1
        injection e1 with e1
        omega
    · exact Or.inr e
  have K : SideAt base owner k s r c g t n W := h
  rcases hn with hn | hn
  · refine ⟨owner, Or.inl rfl, { h with
      sl := grown_free h.sl h.fr hg h.ot
      fr := h.fr.below hg.size
      given := h.given.kept hg nt
      told := ho
      net := ⟨qs, q1, q2.kept hg nn, fun x hx => ⟨grown_free (q3 x hx).1 (q3 x hx).2.2 hg h.ot, (q3 x hx).2.1, (q3 x hx).2.2.below hg.size⟩⟩
      ot := fun b e => h.ot b (hn.symm.trans e) }⟩
  · have L := h.label (Nat.le_refl W.heap.size) (3 * k + 1)
    obtain ⟨qs, q1, q2, q3⟩ := L.net
    refine ⟨_, Or.inr ⟨rfl, hn⟩, { L with
      sl := grown_free h.sl h.fr hg h.ot
      fr := L.fr.below hg.size
      given := h.given.kept hg nt
      told := ho
      net := ⟨qs, q1, q2.kept hg nn, fun x hx => ⟨grown_free (q3 x hx).1 (q3 x hx).2.2 hg (fun b e => L.ot b e), (q3 x hx).2.1, (q3 x hx).2.2.below hg.size⟩⟩
      ot := fun b e => by rw [hn] at e; cases e; exact label_new }⟩
/-- The end is another one. -/
theorem SideAt.setE {base : Nat} {owner : Nat → Option Nat} {k : Nat} {s : Side} {r : Option Addr} {c : Nat} {g t n : Value} {W : World} (h : SideAt base owner k s r c g t n W) {e' : Lk} {r' : Option Addr} {c' : Nat} (hs : SlIs W r' e'.sent) (hc : e'.sent.length ≤ c') (hf : Free owner W r') : SideAt base owner k { s with e := e' } r' c' g t n W :=
  { h with
    sl := hs
    cp := hc
    fr := hf }
end Go.Proofs.Ytoblckocmakakaa
