/-
  LinkComes, walked: no conditions but the input's kind.
-/
import Derived.Test.YtoblckocmakakaaWm
import Derived.Test.YtoblckocmakakaaComesLaw
namespace Go.Proofs.Ytoblckocmakakaa
open Go.RowKit
/-- What stands between two statements: the two ends in their boxes, and the row of what was told. -/
structure St (w0 : World) (b4 b6 : Nat) (A : Lk) (r : Option Addr) (c : Nat) (B : Lk) (s : Option Addr) (t : Nat) (tv : Value) (told : List Int) (W : World) : Prop where
  bel : Below w0.heap.size w0 W
  le : w0.heap.size ≤ b4
  lt : b4 < b6
  a : W.heap[b4]? = some (lkO A r c)
  b : W.heap[b6]? = some (lkO B s t)
  sa : SlIs W r A.sent
  ca : A.sent.length ≤ c
  sb : SlIs W s B.sent
  cb : B.sent.length ≤ t
  own : W.ownsRow w0.heap.size 2 1 tv told.length (told.map (Value.int .i64))
  p4 : Apart b4 r
  p6 : Apart b6 r
  q4 : Apart b4 s
  q6 : Apart b6 s
  pt : ∀ g, tv.ownBlock = some g → Apart g r
  qt : ∀ g, tv.ownBlock = some g → Apart g s
  rl : ∀ b off, r = some ⟨b, off, none⟩ → b < W.heap.size
  sl : ∀ b off, s = some ⟨b, off, none⟩ → b < W.heap.size
section
variable {w0 : World} {b4 b6 : Nat} {A : Lk} {r : Option Addr} {c : Nat} {B : Lk} {s : Option Addr} {t : Nat} {tv : Value} {told : List Int} {W W' : World}
theorem St.lt6 (h : St w0 b4 b6 A r c B s t tv told W) : b6 < W.heap.size := (Array.getElem?_eq_some_iff.1 h.b).1
theorem St.below (h : St w0 b4 b6 A r c B s t tv told W) (hb : Below W.heap.size W W') : St w0 b4 b6 A r c B s t tv told W' :=
  { h with
    bel := h.bel.trans (hb.mono (by have := h.lt6; have := h.le; have := h.lt; omega))
    a := old_kept hb h.a
    b := old_kept hb h.b
    sa := h.sa.below hb
    sb := h.sb.below hb
    own := own_below h.own hb
    rl := fun b off e => Nat.lt_of_lt_of_le (h.rl b off e) hb.size
    sl := fun b off e => Nat.lt_of_lt_of_le (h.sl b off e) hb.size }
theorem St.n4 (h : St w0 b4 b6 A r c B s t tv told W) : tv.ownBlock ≠ some b4 := own_ne h.own h.a (by decide)
theorem St.n6 (h : St w0 b4 b6 A r c B s t tv told W) : tv.ownBlock ≠ some b6 := own_ne h.own h.b (by decide)
/-- The first end's box takes another end. -/
theorem St.setA (h : St w0 b4 b6 A r c B s t tv told W) {M : Lk} {a' : Option Addr} {c' : Nat} (hs : SlIs W a' M.sent) (hc : M.sent.length ≤ c') (h4 : Apart b4 a') (h6 : Apart b6 a') (ht : ∀ g, tv.ownBlock = some g → Apart g a') (hl : ∀ b off, a' = some ⟨b, off, none⟩ → b < W.heap.size) :
    St w0 b4 b6 M a' c' B s t tv told (W.setRow b4 (lkA M a' c')) where
  bel := below_setRow h.bel h.le _
  le := h.le
  lt := h.lt
  a := setRow_heap _ _ _ _ _ _ h.a
  b := by rw [setRow_other _ _ _ _ (by have := h.lt; omega)]; exact h.b
  sa := hs.setRow _ h4
  ca := hc
  sb := h.sb.setRow _ h.q4
  cb := h.cb
  own := own_setRow h.own h.n4 _
  p4 := h4
  p6 := h6
  q4 := h.q4
  q6 := h.q6
  pt := ht
  qt := h.qt
  rl := fun b off e => by rw [setRow_size]; exact hl b off e
  sl := fun b off e => by rw [setRow_size]; exact h.sl b off e
theorem St.setB (h : St w0 b4 b6 A r c B s t tv told W) {M : Lk} {a' : Option Addr} {c' : Nat} (hs : SlIs W a' M.sent) (hc : M.sent.length ≤ c') (h4 : Apart b4 a') (h6 : Apart b6 a') (ht : ∀ g, tv.ownBlock = some g → Apart g a') (hl : ∀ b off, a' = some ⟨b, off, none⟩ → b < W.heap.size) :
    St w0 b4 b6 A r c M a' c' tv told (W.setRow b6 (lkA M a' c')) where
  bel := below_setRow h.bel (by have := h.le; have := h.lt; omega) _
  le := h.le
  lt := h.lt
  a := by rw [setRow_other _ _ _ _ (by have := h.lt; omega)]; exact h.a
  b := setRow_heap _ _ _ _ _ _ h.b
  sa := h.sa.setRow _ h.p6
  ca := h.ca
  sb := hs.setRow _ h6
  cb := hc
  own := own_setRow h.own h.n6 _
  p4 := h.p4
  p6 := h.p6
  q4 := h4
  q6 := h6
  pt := h.pt
  qt := ht
  rl := fun b off e => by rw [setRow_size]; exact h.rl b off e
  sl := fun b off e => by rw [setRow_size]; exact hl b off e
/-- What was told grows. -/
theorem St.tell (h : St w0 b4 b6 A r c B s t tv told W) {tv' : Value} {ys : List Int} (ho : W'.ownsRow w0.heap.size 2 1 tv' (told ++ ys).length ((told ++ ys).map (Value.int .i64))) (hg : W.grownBy W' tv.ownBlock) (hn : tv'.ownBlock = tv.ownBlock ∨ tv'.ownBlock = some W.heap.size) :
    St w0 b4 b6 A r c B s t tv' (told ++ ys) W' where
  bel := h.bel.grown hg (by have := h.lt6; have := h.le; have := h.lt; omega) (fun k e => (own_block h.own e).1)
  le := h.le
  lt := h.lt
  a := (hg.block b4 (by have := h.lt6; have := h.lt; omega) (fun e => h.n4 e.symm)).trans h.a
  b := (hg.block b6 h.lt6 (fun e => h.n6 e.symm)).trans h.b
  sa := h.sa.grown hg h.pt
  ca := h.ca
  sb := h.sb.grown hg h.qt
  cb := h.cb
  own := ho
  p4 := h.p4
  p6 := h.p6
  q4 := h.q4
  q6 := h.q6
  pt := fun g e b off er => by
    rcases hn with hn | hn
    · exact h.pt g (hn.symm.trans e) b off er
    · rw [hn] at e; cases e; exact Nat.ne_of_lt (h.rl b off er)
  qt := fun g e b off er => by
    rcases hn with hn | hn
    · exact h.qt g (hn.symm.trans e) b off er
    · rw [hn] at e; cases e; exact Nat.ne_of_lt (h.sl b off er)
  rl := fun b off e => Nat.lt_of_lt_of_le (h.rl b off e) hg.size
  sl := fun b off e => Nat.lt_of_lt_of_le (h.sl b off e) hg.size
end
/-- A slice's block is there. -/
def Old (W : World) (a : Option Addr) : Prop := ∀ b off, a = some ⟨b, off, none⟩ → b < W.heap.size
theorem Old.below {W W' : World} {a : Option Addr} (h : Old W a) (hb : Below W.heap.size W W') : Old W' a := fun b off e => Nat.lt_of_lt_of_le (h b off e) hb.size
theorem Old.le {W W' : World} {a : Option Addr} (h : Old W a) (hb : W.heap.size ≤ W'.heap.size) : Old W' a := fun b off e => Nat.lt_of_lt_of_le (h b off e) hb
theorem Old.apart {W : World} {a : Option Addr} {g : Nat} (h : Old W a) (hg : W.heap.size ≤ g) : Apart g a := fun b off e => by have := h b off e; omega
theorem SlIs.old {W : World} {a : Option Addr} {zs : List Int} (h : SlIs W a zs) (h0 : zs ≠ []) : Old W a := fun b off e => by
  rcases h with h | ⟨b', off', e', hl, _⟩
  · exact absurd h h0
  · rw [e] at e'; cases e'; exact hl
theorem From.old {W : World} {a a' : Option Addr} (h : From a a') (ho : Old W a) : Old W a' := fun b off e => by
  obtain ⟨off', e'⟩ := h b off e
  exact ho b off' e'
theorem Since'.mono {m n : Nat} {a : Option Addr} (h : Since' n a) (hm : m ≤ n) : Since' m a := fun b off e => Nat.le_trans hm (h b off e)
theorem new_kept_d {W W' : World} {o : Obj} (hb : Below (W.alloc o).drew.heap.size (W.alloc o).drew W') : W'.heap[W.heap.size]? = some o := (hb.block _ (by simp)).trans (heap_alloc_new W o)
theorem below_chain {s b : Nat} {w W : World} (h : Below s w W) (hb : s ≤ b) (v0 v1 v2 v3 v4 : Value) : Below s w (((((W.setCell ⟨b, 0, none⟩ v0).setCell ⟨b, 1, none⟩ v1).setCell ⟨b, 2, none⟩ v2).setCell ⟨b, 3, none⟩ v3).setCell ⟨b, 4, none⟩ v4) :=
  ((((h.setCell hb _).setCell hb _).setCell hb _).setCell hb _).setCell hb _
/-- A new box, and what else is as it was. -/
def NewBox (wr W : World) (b : Nat) (M : Lk) (a : Option Addr) (c : Nat) : Prop := Below wr.heap.size wr W ∧ wr.heap.size ≤ b ∧ W.heap[b]? = some (lkO M a c) ∧ SlIs W a M.sent ∧ M.sent.length ≤ c ∧ Old W a
theorem newbox_alloc {wr W : World} {M : Lk} {a : Option Addr} {c : Nat} (h : Below wr.heap.size wr W) (hs : SlIs W a M.sent) (hc : M.sent.length ≤ c) (ho : Old W a) : NewBox wr (W.alloc (lkO M a c)) W.heap.size M a c :=
  have e := (Below.refl W.heap.size W).alloc (Nat.le_refl _) (lkO M a c)
  ⟨h.alloc h.size _, h.size, heap_alloc_new _ _, hs.below e, hc, ho.below e⟩
theorem newbox_set {wr W : World} {b : Nat} {M : Lk} {a : Option Addr} {c : Nat} {c0 c1 c2 c3 c4 : Value} (h : Below wr.heap.size wr W) (hb : wr.heap.size ≤ b) (hz : W.heap[b]? = some (.cells #[c0, c1, c2, c3, c4] 26)) (hs : SlIs W a M.sent) (hc : M.sent.length ≤ c) (ho : Old W a) (hap : Apart b a) :
    NewBox wr (((((W.setCell ⟨b, 0, none⟩ (.int .i64 M.own)).setCell ⟨b, 1, none⟩ (.int .i64 M.other)).setCell ⟨b, 2, none⟩ (.int .i64 M.first)).setCell ⟨b, 3, none⟩ (.slice a M.sent.length c)).setCell ⟨b, 4, none⟩ (.int .i64 M.next)) b M a c :=
  have k := nb_set h hb hz M a c
  ⟨k.1, hb, k.2, hs.set5 hap _ _ _ _ _, hc, ho.le (by simp)⟩
end Go.Proofs.Ytoblckocmakakaa
