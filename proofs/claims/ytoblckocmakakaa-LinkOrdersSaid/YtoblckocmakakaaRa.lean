/-
  The reference's new ends, and a word given to an end: no conditions but those named.
-/
import Derived.Test.YtoblckocmakakaaWm
namespace Go.Proofs.Ytoblckocmakakaa
open Go.RowKit
/-- The same, of whatever capacity: 'append' of a row of numbers to a row of the call's own. -/
theorem wl_app24c {ops : Array Oper} {rest : List Oper} {o : Oper} {a : Act} {W : World} {Q : Exit → Act → World → Prop} (hgd : o.guard = none) (s x : Operand) (ho : o.op = .call { callee := .builtin .append, args := #[s, x], argTypes := #[24, 24] })
    (base : Nat) (v : Value) (zs ys : List Int) (hs : a.eval s = v) (hown : W.ownsRow base 2 1 v zs.length (zs.map (Value.int .i64))) (ta : Option Addr) (cx : Nat) (hcx : ta = none → cx = 0) (hx : a.eval x = .slice ta ys.length cx) (hy : SlIs W ta ys) (hl : zs.length + ys.length ≤ 10000) (hbase : base ≤ W.heap.size)
    (h : ∀ v' w', w'.ownsRow base 2 1 v' (zs ++ ys).length ((zs ++ ys).map (Value.int .i64)) → W.grownBy w' v.ownBlock → (v'.ownBlock = v.ownBlock ∨ v'.ownBlock = some W.heap.size) → wpList Try.prog ops Q rest (a.put o.dst v') w') : wpList Try.prog ops Q (o :: rest) a W := by
  obtain ⟨i2, j1, j2, j3, j4⟩ := info2
  cases ta with
  | none =>
    have hn := hy.none_nil
    subst hn
    refine wpList_append_own_none hgd s x 24 ho base 2 i2 1 Try.underlying24 j1 v zs.length (zs.map (Value.int .i64)) hs hown (by rw [hx, hcx rfl]; rfl) ?_
    have := h v W (by rw [List.append_nil]; exact hown) (World.grownBy.refl _ _) (Or.inl rfl)
    exact this
  | some ad =>
    refine wpList_append_own_at W hgd s x 24 ho base 2 i2 (.int .i64 0) 1 8 Try.underlying24 j1 j2 j3 j4 rfl (by omega) v zs.length (zs.map (Value.int .i64)) hs hown ad ys.length cx (ys.map (Value.int .i64)) hx (by simp) (fun j u hj => hy.at j u hj) (by simp [Value.oneCell']) (by unfold maxLen; omega) (by omega) hbase ?_
    intro v' w' h1 h2 _ h4
    exact h v' w' (by rw [List.length_append, List.map_append]; exact h1) h2 h4
theorem rnew_yes (own : Int) (w : World) (h1 : 1 ≤ own) (h2 : own ≤ 4611686018427387904) : Calls Try.prog 19 #[.int .i64 own] w fun e w' => e = .returned (.tuple #[.agg (lkA (newL own) none 0), .int .i64 0]) ∧ Below w.heap.size w w' := by
  go_enter Try.func19, Try.ntmps19
  go_wp2
  exact bodyPost_ret (v := .tuple #[.agg (lkA (newL own) none 0), .int .i64 0]) (by simp [results, Try.results19, go_sem, lkA, newL]) rfl ⟨rfl, (Below.refl _ _).alloc (Nat.le_refl _) _⟩
def zeroL : Lk := ⟨0, 0, 0, [], 0⟩
theorem rnew_no (own : Int) (w : World) (h : own < 1 ∨ 4611686018427387904 < own) : Calls Try.prog 19 #[.int .i64 own] w fun e w' => e = .returned (.tuple #[.agg (lkA zeroL none 0), .int .i64 1]) ∧ Below w.heap.size w w' := by
  by_cases h1 : own < 1
  · have d : decide (own < 1) = true := decide_eq_true h1
    clear h
    go_enter Try.func19, Try.ntmps19
    go_wp2
    exact bodyPost_ret (v := .tuple #[.agg (lkA zeroL none 0), .int .i64 1]) (by simp [results, Try.results19, go_sem, lkA, zeroL]) rfl ⟨rfl, (Below.refl _ _).alloc (Nat.le_refl _) _⟩
  · have d : decide (own < 1) = false := decide_eq_false h1
    have d2 : decide (4611686018427387904 < own) = true := decide_eq_true (by omega)
    clear h
    go_enter Try.func19, Try.ntmps19
    go_wp2
    exact bodyPost_ret (v := .tuple #[.agg (lkA zeroL none 0), .int .i64 1]) (by simp [results, Try.results19, go_sem, lkA, zeroL]) rfl ⟨rfl, (Below.refl _ _).alloc (Nat.le_refl _) _⟩
set_option maxHeartbeats 2000000 in
theorem rsend_full (l : Lk) (a : Option Addr) (cap : Nat) (x : Int) (w : World) (hl : l.sent.length = 8) :
    Calls Try.prog 21 #[.agg (lkA l a cap), .int .i64 x] w fun e w' => e = .returned (.tuple #[.agg (lkA l a cap), .int .i64 7]) ∧ Below w.heap.size w w' := by
  obtain ⟨own, other, first, sent, next⟩ := l
  unfold lkA
  simp only at hl ⊢
  rw [hl]
  clear hl
  go_enter Try.func21, Try.ntmps21
  go_wp2
  exact bodyPost_ret (v := .tuple #[.agg #[.int .i64 own, .int .i64 other, .int .i64 first, .slice a 8 cap, .int .i64 next], .int .i64 7]) (by simp [results, Try.results21, go_sem]) rfl ⟨rfl, ((Below.refl _ _).alloc (Nat.le_refl _) _).alloc (by simp) _⟩
theorem own_new {W : World} {base g : Nat} (hb : base ≤ W.heap.size) (hg : g = W.heap.size) : (W.alloc (.cells #[] 2)).ownsRow base 2 1 (.slice (some ⟨g, 0, none⟩) 0 0) ([] : List Int).length (([] : List Int).map (Value.int .i64)) := by
  subst hg
  exact ⟨rfl, Or.inr ⟨_, 0, #[], rfl, hb, heap_alloc_new _ _, Nat.le_refl _, by unfold maxLen; omega, rfl, rfl⟩⟩
theorem one_new (W : World) (x : Int) : SlIs (W.alloc (.cells #[.int .i64 x] 2)) (some ⟨W.heap.size, 0, none⟩) [x] := by
  refine Or.inr ⟨_, 0, rfl, by simp, fun j hj => ?_⟩
  have : j = 0 := by simpa using hj
  subst this
  exact cell_of_one (heap_alloc_new W (.cells #[.int .i64 x] 2))
theorem grown_at {W W' : World} {row : Option Nat} (hg : W.grownBy W' row) {b : Nat} {o : Obj} (h : W.heap[b]? = some o) (hr : row ≠ some b) : W'.heap[b]? = some o :=
  (hg.block b (Array.getElem?_eq_some_iff.1 h).1 (fun e => hr e.symm)).trans h
theorem three_new (w : World) (o1 o2 o3 o4 : Obj) : ((((w.alloc o1).alloc o2).alloc o3).alloc o4).heap[w.heap.size + 1]? = some o2 ∧ ((((w.alloc o1).alloc o2).alloc o3).alloc o4).heap[w.heap.size + 1 + 1]? = some o3 := by
  constructor
  · rw [heap_alloc_old _ _ (by simp <;> omega), heap_alloc_old _ _ (by simp <;> omega)]
    exact heap_at _ _ _ (by simp)
  · rw [heap_alloc_old _ _ (by simp)]
    exact heap_at _ _ _ (by simp)
theorem four_below (w : World) (o1 o2 o3 o4 : Obj) : Below w.heap.size w ((((w.alloc o1).alloc o2).alloc o3).alloc o4) :=
  ((((Below.refl _ _).alloc (Nat.le_refl _) _).alloc (by simp) _).alloc (by simp; omega) _).alloc (by simp; omega) _
theorem apart_of_map {a : Option Addr} {g : Nat} (h : a.map (·.block) ≠ some g) : Apart g a := fun b off e hb => h (by rw [e, ← hb]; rfl)
set_option maxHeartbeats 4000000 in
theorem rsend_room (l : Lk) (a : Option Addr) (cap : Nat) (x : Int) (w : World) (h : SlIs w a l.sent) (hl : l.sent.length ≤ 7) (hnc : a = none → cap = 0) :
    Calls Try.prog 21 #[.agg (lkA l a cap), .int .i64 x] w fun e w' => ∃ a' cap', e = .returned (.tuple #[.agg (lkA (sendL l x) a' cap'), .int .i64 0]) ∧ SlIs w' a' (sendL l x).sent ∧ (sendL l x).sent.length ≤ cap' ∧ Below w.heap.size w w' := by
  obtain ⟨own, other, first, sent, next⟩ := l
  unfold lkA sendL
  simp only at h hl ⊢
  have HS := Lib.hid h
  have hd : ((sent.length : Int) == 8) = false := by rw [beq_eq_false_iff_ne]; omega
  clear h
  go_enter Try.func21, Try.ntmps21
  go_upto_region 4 with (fail)
  go_wp2_with (first
    | (at_builtin; refine wl_app24c rfl _ _ rfl w.heap.size (.slice (some ⟨w.heap.size + 1 + 1 + 1, 0, none⟩) 0 0) [] sent rfl (own_new (by simp; omega) (by simp)) a cap hnc rfl (HS.out.below (four_below _ _ _ _ _)) (by simp; omega) (by simp; omega) ?_; intro v1 w1 ho hg hn; have H1 := three_new w (.cells #[.int .i64 own, .int .i64 other, .int .i64 first, .slice a sent.length cap, .int .i64 next] 26) (.cells #[.int .i64 0, .int .i64 0, .int .i64 0, .slice none 0 0, .int .i64 0] 26) (.cells #[.int .i64 own, .int .i64 other, .int .i64 first, .slice a sent.length cap, .int .i64 next] 26) (.cells #[] 2); have G1 := Lib.hid (And.intro (grown_at hg H1.1 (by simp [Value.ownBlock] <;> omega)) (grown_at hg H1.2 (by simp [Value.ownBlock] <;> omega))); have B1 := Lib.hid ((four_below w _ _ _ _).grown hg (by simp; omega) (by simp [Value.ownBlock]; omega)); have O1 := Lib.hid ho; clear ho hg hn H1)
    | (at_builtin; refine wl_app24 rfl _ _ rfl w.heap.size v1 sent [x] rfl (own_below O1.out ((Below.refl _ _).alloc (Nat.le_refl _) _)) (some ⟨w1.heap.size, 0, none⟩) rfl (one_new _ _) (by simp; omega) (by have := B1.out.size; simp; omega) ?_; intro v2 w2 ho hg hn; have B2 := Lib.hid ((B1.out.alloc B1.out.size _).grown hg (by have := B1.out.size; simp; omega) (fun k e => (own_block O1.out e).1)); have z1 := grown_at hg ((heap_alloc_old w1 (.cells #[.int .i64 x] 2) (Array.getElem?_eq_some_iff.1 G1.out.1).1).trans G1.out.1) (own_ne O1.out G1.out.1 (by decide)); have z2 := grown_at hg ((heap_alloc_old w1 (.cells #[.int .i64 x] 2) (Array.getElem?_eq_some_iff.1 G1.out.2).1).trans G1.out.2) (own_ne O1.out G1.out.2 (by decide)); obtain ⟨c0, c1, c2, c3, c4, e0, e1, e2, e3, e4⟩ := five' z1; obtain ⟨d0, d1, d2, d3, d4, f0, f1, f2, f3, f4⟩ := five' z2; obtain ⟨a2, cp2, hv2, hc2, hs2, hob⟩ := own_slis ho; subst hv2; have n1 := own_ne ho z1 (by decide); have n2 := own_ne ho z2 (by decide); rw [hob] at n1 n2; have HF := Lib.hid (And.intro hs2 (And.intro hc2 (And.intro n1 n2))); clear ho hg hn z1 z2 hs2 hc2 hob n1 n2))
  have p1 := apart_of_map HF.out.2.2.1
  have p2 := apart_of_map HF.out.2.2.2
  refine bodyPost_ret (v := .tuple #[.agg #[.int .i64 own, .int .i64 other, .int .i64 first, .slice a2 (sent.length + 1) cp2, .int .i64 next], .int .i64 0]) (by simp [results, Try.results21, go_sem, c0, c1, c2, c3, c4]) rfl ⟨a2, cp2, by simp, ?_, HF.out.2.1, ?_⟩
  · exact (((((HF.out.1.set1 p2 _ _).set1 p1 _ _).set1 p1 _ _).set1 p1 _ _).set1 p1 _ _).set1 p1 _ _
  · exact (((((B2.out.setCell (by simp; omega) _).setCell (by simp) _).setCell (by simp) _).setCell (by simp) _).setCell (by simp) _).setCell (by simp) _
end Go.Proofs.Ytoblckocmakakaa
