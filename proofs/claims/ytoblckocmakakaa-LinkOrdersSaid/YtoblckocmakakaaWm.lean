/-
  Rows of the call's own that grow, beside ends and slices that stay: no conditions but those named.
-/
import Derived.Test.YtoblckocmakakaaWaitsW
import Derived.Maps.AppendAt
import Derived.Laws.AppendOwnNone
import Derived.Deep.RegionHeld3
namespace Go.Proofs.Ytoblckocmakakaa
open Go.RowKit
theorem grown_of_below {W W' : World} (h : Below W.heap.size W W') (row : Option Nat) : W.grownBy W' row := ⟨h.os, h.tape, h.output, h.size, fun k hk _ => h.block k hk⟩
/-- A row of the call's own, kept where the old blocks are. -/
theorem own_below {W W' : World} {base : Nat} {e : TypeId} {size : Nat} {v : Value} {n : Nat} {xs : List Value} (h : W.ownsRow base e size v n xs) (hb : Below W.heap.size W W') : W'.ownsRow base e size v n xs :=
  h.kept (grown_of_below hb none) (by cases v.ownBlock <;> simp)
theorem own_block {W : World} {base : Nat} {e : TypeId} {size : Nat} {v : Value} {n : Nat} {xs : List Value} (h : W.ownsRow base e size v n xs) {g : Nat} (hg : v.ownBlock = some g) : base ≤ g ∧ g < W.heap.size ∧ ∃ cur, W.heap[g]? = some (.cells cur e (0, 0)) := by
  rcases h.2 with ⟨rfl, _⟩ | ⟨g', cap, cur, rfl, hb, hh, _⟩
  · cases hg
  · cases hg
    exact ⟨hb, (Array.getElem?_eq_some_iff.1 hh).1, cur, hh⟩
/-- Its block is no block of another type. -/
theorem own_ne {W : World} {base : Nat} {e : TypeId} {size : Nat} {v : Value} {n : Nat} {xs : List Value} (h : W.ownsRow base e size v n xs) {b : Nat} {cs : Array Value} {t : TypeId} (hb : W.heap[b]? = some (.cells cs t)) (ht : t ≠ e) : v.ownBlock ≠ some b := by
  intro hg
  obtain ⟨_, _, cur, hc⟩ := own_block h hg
  rw [hb] at hc
  cases hc
  exact ht rfl
theorem own_set {W : World} {base : Nat} {e : TypeId} {size : Nat} {v : Value} {n : Nat} {xs : List Value} (h : W.ownsRow base e size v n xs) {b : Nat} (hb : v.ownBlock ≠ some b) (o : Nat) (u : Value) : (W.setCell ⟨b, o, none⟩ u).ownsRow base e size v n xs := by
  refine ⟨h.1, ?_⟩
  rcases h.2 with hn | ⟨g, cap, cur, rfl, hbg, hh, r⟩
  · exact .inl hn
  · refine .inr ⟨g, cap, cur, rfl, hbg, ?_, r⟩
    rw [heap_setCell_other _ _ _ _ (fun e => hb (by rw [e]; rfl))]
    exact hh
theorem own_set5 {W : World} {base : Nat} {e : TypeId} {size : Nat} {v : Value} {n : Nat} {xs : List Value} (h : W.ownsRow base e size v n xs) {b : Nat} (hb : v.ownBlock ≠ some b) (v0 v1 v2 v3 v4 : Value) :
    (((((W.setCell ⟨b, 0, none⟩ v0).setCell ⟨b, 1, none⟩ v1).setCell ⟨b, 2, none⟩ v2).setCell ⟨b, 3, none⟩ v3).setCell ⟨b, 4, none⟩ v4).ownsRow base e size v n xs :=
  own_set (own_set (own_set (own_set (own_set h hb _ _) hb _ _) hb _ _) hb _ _) hb _ _
theorem own_setRow {W : World} {base : Nat} {e : TypeId} {size : Nat} {v : Value} {n : Nat} {xs : List Value} (h : W.ownsRow base e size v n xs) {b : Nat} (hb : v.ownBlock ≠ some b) (cs : Array Value) : (W.setRow b cs).ownsRow base e size v n xs := by
  refine ⟨h.1, ?_⟩
  rcases h.2 with hn | ⟨g, cap, cur, rfl, hbg, hh, r⟩
  · exact .inl hn
  · refine .inr ⟨g, cap, cur, rfl, hbg, ?_, r⟩
    rw [setRow_other _ _ _ _ (fun e => hb (by rw [e]; rfl))]
    exact hh
theorem own_slis {W : World} {base : Nat} {v : Value} {zs : List Int} (h : W.ownsRow base 2 1 v zs.length (zs.map (Value.int .i64))) : ∃ a cap, v = .slice a zs.length cap ∧ zs.length ≤ cap ∧ SlIs W a zs ∧ v.ownBlock = a.map (·.block) := by
  rcases h.2 with ⟨rfl, h0⟩ | ⟨g, cap, cur, rfl, hb, hh, hc, _, hs, ht⟩
  · have : zs = [] := List.length_eq_zero_iff.1 h0
    subst this
    exact ⟨none, 0, rfl, Nat.le_refl _, SlIs.nil _ _, rfl⟩
  · refine ⟨some ⟨g, 0, none⟩, cap, rfl, hc, Or.inr ⟨g, 0, rfl, (Array.getElem?_eq_some_iff.1 hh).1, fun j hj => ?_⟩, rfl⟩
    unfold World.cell?
    rw [hh]
    have e : (cur.toList.take (zs.length * 1))[j]? = some (.int .i64 zs[j]) := by rw [ht]; simp [hj]
    rw [List.getElem?_take, if_pos (by omega), Array.getElem?_toList] at e
    simpa using e
theorem SlIs.grown {W W' : World} {a : Option Addr} {zs : List Int} (h : SlIs W a zs) {row : Option Nat} (hg : W.grownBy W' row) (hr : ∀ g, row = Option.some g → Apart g a) : SlIs W' a zs := by
  rcases h with h | ⟨b, off, rfl, hlt, hc⟩
  · exact Or.inl h
  · have hne : Option.some b ≠ row := fun e => hr b e.symm b off rfl rfl
    exact Or.inr ⟨b, off, rfl, Nat.lt_of_lt_of_le hlt hg.size, fun j hj => hg.cell (hc j hj) hne⟩
/-- 'append' of a row of numbers to a row of the call's own. -/
theorem wl_app24 {ops : Array Oper} {rest : List Oper} {o : Oper} {a : Act} {W : World} {Q : Exit → Act → World → Prop} (hgd : o.guard = none) (s x : Operand) (ho : o.op = .call { callee := .builtin .append, args := #[s, x], argTypes := #[24, 24] })
    (base : Nat) (v : Value) (zs ys : List Int) (hs : a.eval s = v) (hown : W.ownsRow base 2 1 v zs.length (zs.map (Value.int .i64))) (ta : Option Addr) (hx : a.eval x = .slice ta ys.length ys.length) (hy : SlIs W ta ys) (hl : zs.length + ys.length ≤ 10000) (hbase : base ≤ W.heap.size)
    (h : ∀ v' w', w'.ownsRow base 2 1 v' (zs ++ ys).length ((zs ++ ys).map (Value.int .i64)) → W.grownBy w' v.ownBlock → (v'.ownBlock = v.ownBlock ∨ v'.ownBlock = some W.heap.size) → wpList Try.prog ops Q rest (a.put o.dst v') w') : wpList Try.prog ops Q (o :: rest) a W := by
  obtain ⟨i2, j1, j2, j3, j4⟩ := info2
  cases ta with
  | none =>
    have hn := hy.none_nil
    subst hn
    refine wpList_append_own_none hgd s x 24 ho base 2 i2 1 Try.underlying24 j1 v zs.length (zs.map (Value.int .i64)) hs hown (by rw [hx]; rfl) ?_
    have := h v W (by rw [List.append_nil]; exact hown) (World.grownBy.refl _ _) (Or.inl rfl)
    exact this
  | some ad =>
    refine wpList_append_own_at W hgd s x 24 ho base 2 i2 (.int .i64 0) 1 8 Try.underlying24 j1 j2 j3 j4 rfl (by omega) v zs.length (zs.map (Value.int .i64)) hs hown ad ys.length ys.length (ys.map (Value.int .i64)) hx (by simp) (fun j u hj => hy.at j u hj) (by simp [Value.oneCell']) (by unfold maxLen; omega) (by omega) hbase ?_
    intro v' w' h1 h2 _ h4
    exact h v' w' (by rw [List.length_append, List.map_append]; exact h1) h2 h4
/-- What a world keeps from another one, and a new box in it. -/
theorem nb_set {s b : Nat} {w W : World} {c0 c1 c2 c3 c4 : Value} (h : Below s w W) (hb : s ≤ b) (hz : W.heap[b]? = some (.cells #[c0, c1, c2, c3, c4] 26)) (l : Lk) (r : Option Addr) (c : Nat) :
    Below s w (((((W.setCell ⟨b, 0, none⟩ (.int .i64 l.own)).setCell ⟨b, 1, none⟩ (.int .i64 l.other)).setCell ⟨b, 2, none⟩ (.int .i64 l.first)).setCell ⟨b, 3, none⟩ (.slice r l.sent.length c)).setCell ⟨b, 4, none⟩ (.int .i64 l.next)) ∧
    (((((W.setCell ⟨b, 0, none⟩ (.int .i64 l.own)).setCell ⟨b, 1, none⟩ (.int .i64 l.other)).setCell ⟨b, 2, none⟩ (.int .i64 l.first)).setCell ⟨b, 3, none⟩ (.slice r l.sent.length c)).setCell ⟨b, 4, none⟩ (.int .i64 l.next)).heap[b]? = some (lkO l r c) :=
  ⟨((((h.setCell hb _).setCell hb _).setCell hb _).setCell hb _).setCell hb _, heap_set_at _ (heap_set_at _ (heap_set_at _ (heap_set_at _ (heap_set_at _ hz))))⟩
theorem new_kept {W W' : World} {o : Obj} (hb : Below (W.alloc o).heap.size (W.alloc o) W') : W'.heap[W.heap.size]? = some o := (hb.block _ (by simp)).trans (heap_alloc_new W o)
theorem old_kept {W W' : World} {o : Obj} {i : Nat} (hb : Below W.heap.size W W') (h : W.heap[i]? = some o) : W'.heap[i]? = some o := (hb.block _ (Array.getElem?_eq_some_iff.1 h).1).trans h
end Go.Proofs.Ytoblckocmakakaa
