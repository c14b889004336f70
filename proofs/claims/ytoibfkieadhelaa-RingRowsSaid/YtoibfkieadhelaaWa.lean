/-
  The ring's small callees: may, slot, of, Get, and Put where it changes nothing: no conditions but those named.
-/
import Derived.Test.YtoibfkieadhelaaBase
namespace Go.Proofs.Ytoibfkieadhelaa
open Go.RowKit

theorem may_yes (k : Int) (w : World) (h0 : 1 ≤ k) (h1 : k ≤ 4611686018427387904) :
    Calls Try.prog 24 #[.int .i64 k] w fun e w' => e = .returned (.bool true) ∧ w = w' := by
  go_enter Try.func24, Try.ntmps24
  go_wp2
  go_ret
  exact ⟨rfl, rfl⟩

theorem may_no (k : Int) (w : World) (h0 : k < 1 ∨ 4611686018427387904 < k) :
    Calls Try.prog 24 #[.int .i64 k] w fun e w' => e = .returned (.bool false) ∧ w = w' := by
  by_cases hk : 1 ≤ k
  · have h2 : 4611686018427387904 < k := by omega
    have h3 : decide (k ≤ 4611686018427387904) = false := by simp; omega
    clear h0
    go_enter Try.func24, Try.ntmps24
    go_wp2
    go_ret
    exact ⟨rfl, rfl⟩
  · have h2 : k < 1 := by omega
    clear h0
    go_enter Try.func24, Try.ntmps24
    go_wp2
    go_ret
    exact ⟨rfl, rfl⟩

def slotN (k : Int) : Nat := ((k - 1) % 16).toNat
theorem slotN_lt (k : Int) : slotN k < 16 := by unfold slotN; omega
theorem slotN_cast (k : Int) : ((slotN k : Nat) : Int) = (k - 1) % 16 := by unfold slotN; omega

theorem slot_any (k : Int) (w : World) (h0 : 1 ≤ k) (h1 : k ≤ 4611686018427387904) :
    Calls Try.prog 25 #[.int .i64 k] w fun e w' => e = .returned (.int .i64 (slotN k)) ∧ w = w' := by
  have H := Lib.hid (slotN_cast k)
  go_enter Try.func25, Try.ntmps25
  go_wp2
  go_ret
  exact ⟨by rw [H.out]; rfl, rfl⟩
theorem of_any (k : Int) (w : World) (h0 : 1 ≤ k) (h1 : k ≤ 4611686018427387904) :
    Calls Try.prog 23 #[.int .i64 k] w fun e w' => e = .returned (.int .i64 (slotN k)) ∧ w = w' := by
  have H := Lib.hid (slotN_cast k)
  go_enter Try.func23, Try.ntmps23
  go_wp2
  go_ret
  exact ⟨by rw [H.out]; simp; omega, rfl⟩

theorem mk13 (p : Nat → Int) (s : Nat → Smp) (i : Nat) (h : i < 16) : (mk p s)[16 + i * 13]? = some (.bool (s i).m) ∧ (mk p s)[16 + i * 13 + 1]? = some (.int .i64 (s i).g0) ∧ (mk p s)[16 + i * 13 + 2]? = some (.int .i64 (s i).g1) ∧ (mk p s)[16 + i * 13 + 3]? = some (.int .i64 (s i).g2) ∧ (mk p s)[16 + i * 13 + 4]? = some (.int .i64 (s i).a0) ∧ (mk p s)[16 + i * 13 + 5]? = some (.int .i64 (s i).a1) ∧ (mk p s)[16 + i * 13 + 6]? = some (.int .i64 (s i).a2) ∧ (mk p s)[16 + i * 13 + 7]? = some (.bool (s i).hb) ∧ (mk p s)[16 + i * 13 + 8]? = some (.int .i64 (s i).b) ∧ (mk p s)[16 + i * 13 + 9]? = some (.bool (s i).hg) ∧ (mk p s)[16 + i * 13 + 10]? = some (.int .i64 (s i).n0) ∧ (mk p s)[16 + i * 13 + 11]? = some (.int .i64 (s i).n1) ∧ (mk p s)[16 + i * 13 + 12]? = some (.int .i64 (s i).n2) :=
  ⟨mk_cell p s i 0 h (by omega), mk_cell p s i 1 h (by omega), mk_cell p s i 2 h (by omega), mk_cell p s i 3 h (by omega), mk_cell p s i 4 h (by omega), mk_cell p s i 5 h (by omega), mk_cell p s i 6 h (by omega), mk_cell p s i 7 h (by omega), mk_cell p s i 8 h (by omega), mk_cell p s i 9 h (by omega), mk_cell p s i 10 h (by omega), mk_cell p s i 11 h (by omega), mk_cell p s i 12 h (by omega)⟩

theorem get_yes (p : Nat → Int) (s : Nat → Smp) (k : Int) (w : World) (h0 : 1 ≤ k) (h1 : k ≤ 4611686018427387904) (hR : (mk p s)[slotN k]? = some (.int .i64 k)) :
    Calls Try.prog 13 #[.agg (mk p s), .int .i64 k] w fun e w' => e = .returned (.tuple #[.agg (s (slotN k)).cells, .bool true]) ∧ Below w.heap.size w w' := by
  have hl := slotN_lt k
  obtain ⟨c0, c1, c2, c3, c4, c5, c6, c7, c8, c9, c10, c11, c12⟩ := mk13 p s (slotN k) hl
  go_enter Try.func13, Try.ntmps13
  go_wp2_with (first
    | (go_at_call 24; refine (may_yes _ _ (by omega) (by omega)).mono ?_; rintro e w' ⟨rfl, rfl⟩)
    | (go_at_call 25; refine (slot_any _ _ (by omega) (by omega)).mono ?_; rintro e w' ⟨rfl, rfl⟩))
  exact bodyPost_ret (v := .tuple #[.agg (s (slotN k)).cells, .bool true]) (by simp [results, Try.results13, go_sem, Smp.cells]) rfl ⟨rfl, ((Below.refl _ _).alloc (Nat.le_refl _) _).alloc (by simp) _⟩

theorem get_no (p : Nat → Int) (s : Nat → Smp) (k : Int) (w : World) (h0 : ¬ (1 ≤ k ∧ k ≤ 4611686018427387904 ∧ p (slotN k) = k)) :
    Calls Try.prog 13 #[.agg (mk p s), .int .i64 k] w fun e w' => e = .returned (.tuple #[.agg Smp.zero.cells, .bool false]) ∧ Below w.heap.size w w' := by
  have hl := slotN_lt k
  by_cases h1 : 1 ≤ k ∧ k ≤ 4611686018427387904
  · obtain ⟨h1, h2⟩ := h1
    have hR := mk_place p s (slotN k) hl
    have hne : (p (slotN k) != k) = true := by
      rw [bne_iff_ne]; exact fun e => h0 ⟨h1, h2, e⟩
    clear h0
    go_enter Try.func13, Try.ntmps13
    go_wp2_with (first
      | (go_at_call 24; refine (may_yes _ _ (by omega) (by omega)).mono ?_; rintro e w' ⟨rfl, rfl⟩)
      | (go_at_call 25; refine (slot_any _ _ (by omega) (by omega)).mono ?_; rintro e w' ⟨rfl, rfl⟩))
    exact bodyPost_ret (v := .tuple #[.agg Smp.zero.cells, .bool false]) (by simp [results, Try.results13, go_sem, Smp.cells, Smp.zero]) rfl ⟨rfl, ((Below.refl _ _).alloc (Nat.le_refl _) _).alloc (by simp) _⟩
  · have h1 : k < 1 ∨ 4611686018427387904 < k := by omega
    clear h0
    have H := Lib.hid h1
    clear h1
    go_enter Try.func13, Try.ntmps13
    go_wp2_with (go_at_call 24; refine (may_no _ _ H.out).mono ?_; rintro e w' ⟨rfl, rfl⟩)
    exact bodyPost_ret (v := .tuple #[.agg Smp.zero.cells, .bool false]) (by simp [results, Try.results13, go_sem, Smp.cells, Smp.zero]) rfl ⟨rfl, ((Below.refl _ _).alloc (Nat.le_refl _) _).alloc (by simp) _⟩

def zp : Nat → Int := fun _ => 0
def zs : Nat → Smp := fun _ => Smp.zero
@[go_sem] theorem zero30 (w : World) : (zeroValue 30).run Try.prog w = .ok (.agg (mk zp zs)) w := by kernel_rfl

theorem heap_alloc_get (w : World) (o : Obj) (i : Nat) : (w.alloc o).heap[i]? = if i = w.heap.size then some o else w.heap[i]? := by
  show (w.heap.push o)[i]? = _
  rw [Array.getElem?_push]
theorem below_setRow {B : Nat} {a w : World} (h : Below B a w) {g : Nat} (hg : B ≤ g) (cs : Array Value) : Below B a (w.setRow g cs) :=
  ⟨h.os, h.tape, h.output, by rw [setRow_size]; exact h.size, fun k hk => by rw [setRow_other _ _ _ _ (by omega)]; exact h.block k hk⟩

theorem mk_one (p : Nat → Int) (s : Nat → Smp) : (mk p s).all (·.oneCell') = true := by
  rw [Array.all_eq_true]
  intro i hi
  have hi' : i < 224 := by rw [mk_size] at hi; exact hi
  have e : some ((mk p s)[i]) = (mk p s)[i]? := by simp [hi]
  by_cases h : i < 16
  · rw [mk_place p s i h] at e
    rw [Option.some.inj e]; rfl
  · have e2 : i = 16 + ((i - 16) / 13) * 13 + (i - 16) % 13 := by omega
    have hj : (i - 16) % 13 < 13 := by omega
    rw [show (mk p s)[i]? = (mk p s)[16 + ((i - 16) / 13) * 13 + (i - 16) % 13]? from by rw [← e2], mk_cell _ _ _ _ (by omega) hj] at e
    generalize (mk p s)[i] = v at e ⊢
    generalize s ((i - 16) / 13) = q at e
    generalize (i - 16) % 13 = j at e hj
    clear e2
    match j, hj with
    | 0, _ | 1, _ | 2, _ | 3, _ | 4, _ | 5, _ | 6, _ | 7, _ | 8, _ | 9, _ | 10, _ | 11, _ | 12, _ => rw [Option.some.inj e]; rfl

theorem wl_load30 {ops : Array Oper} {rest : List Oper} {o : Oper} {a : Act} {w : World} {Q : Exit → Act → World → Prop} (hgd : o.guard = none) (x : Operand) (ho : o.op = .load 30 x)
    (b : Nat) (hx : a.eval x = .pointer (some ⟨b, 0, none⟩)) (p : Nat → Int) (s : Nat → Smp) (hb : w.heap[b]? = some (.cells (mk p s) 30 (0, 0)))
    (h : wpList Try.prog ops Q rest (a.put o.dst (.agg (mk p s))) w) : wpList Try.prog ops Q (o :: rest) a w :=
  wpList_load_row hgd 30 x ho b hx 30 (mk p s) (0, 0) _ hb Try.underlying30 rfl (by rw [mk_size]; exact size30) h
theorem wl_store30 {ops : Array Oper} {rest : List Oper} {o : Oper} {a : Act} {w : World} {Q : Exit → Act → World → Prop} (hgd : o.guard = none) (x y : Operand) (ho : o.op = .store 30 x y)
    (b : Nat) (p : Nat → Int) (s : Nat → Smp) (hx : a.eval x = .pointer (some ⟨b, 0, none⟩)) (hy : a.eval y = .agg (mk p s)) (p' : Nat → Int) (s' : Nat → Smp) (hb : w.heap[b]? = some (.cells (mk p' s') 30 (0, 0)))
    (h : wpList Try.prog ops Q rest (a.put o.dst undef) (w.setRow b (mk p s))) : wpList Try.prog ops Q (o :: rest) a w :=
  wpList_store_row hgd 30 x y ho b (mk p s) hx hy 30 (mk p' s') hb (by rw [mk_size]; exact size30) (by rw [mk_size, mk_size]) (mk_one p s) h
theorem results30 {fn : Func} {q : Tmp} (h : fn.results = #[.cell q 30]) (tmps : Array Value) (w : World) (g : Nat) (p : Nat → Int) (s : Nat → Smp)
    (hp : tmps.getD q undef = .pointer (some ⟨g, 0, none⟩)) (hg : w.heap[g]? = some (.cells (mk p s) 30 (0, 0))) : (results fn tmps).run Try.prog w = .ok (.agg (mk p s)) w :=
  results_cell_row h tmps w g 30 (mk p s) (0, 0) _ hp hg Try.underlying30 rfl (by rw [mk_size]; exact size30)

theorem heap_at (w : World) (o : Obj) (i : Nat) (h : i = w.heap.size) : (w.alloc o).heap[i]? = some o := by subst h; exact heap_alloc_new w o
theorem w1_0 (w : World) (a : Obj) : (w.alloc a).heap[w.heap.size]? = some a := heap_alloc_new w a
theorem w2_0 (w : World) (a b : Obj) : ((w.alloc a).alloc b).heap[w.heap.size]? = some a := by rw [heap_alloc_old _ _ (by simp), w1_0]
theorem w2_1 (w : World) (a b : Obj) : ((w.alloc a).alloc b).heap[w.heap.size + 1]? = some b := heap_at _ _ _ (by simp)
theorem w3_0 (w : World) (a b c : Obj) : (((w.alloc a).alloc b).alloc c).heap[w.heap.size]? = some a := by rw [heap_alloc_old _ _ (by simp; omega), w2_0]
theorem w3_1 (w : World) (a b c : Obj) : (((w.alloc a).alloc b).alloc c).heap[w.heap.size + 1]? = some b := by rw [heap_alloc_old _ _ (by simp), w2_1]
theorem w3_2 (w : World) (a b c : Obj) : (((w.alloc a).alloc b).alloc c).heap[w.heap.size + 1 + 1]? = some c := heap_at _ _ _ (by simp)

theorem put_no (p : Nat → Int) (s : Nat → Smp) (k : Int) (t : Smp) (w : World) (h0 : ¬ (1 ≤ k ∧ k ≤ 4611686018427387904 ∧ p (slotN k) ≤ k)) :
    Calls Try.prog 12 #[.agg (mk p s), .int .i64 k, .agg t.cells] w fun e w' => e = .returned (.agg (mk p s)) ∧ Below w.heap.size w w' := by
  have hl := slotN_lt k
  by_cases h1 : 1 ≤ k ∧ k ≤ 4611686018427387904
  · obtain ⟨h1, h2⟩ := h1
    have hR := mk_place p s (slotN k) hl
    have hne : k < p (slotN k) := by omega
    clear h0
    go_enter Try.func12, Try.ntmps12
    go_wp2_with (first
      | (go_at_call 24; refine (may_yes _ _ (by omega) (by omega)).mono ?_; rintro e w' ⟨rfl, rfl⟩)
      | (go_at_call 25; refine (slot_any _ _ (by omega) (by omega)).mono ?_; rintro e w' ⟨rfl, rfl⟩)
      | (refine wl_load30 rfl _ rfl _ rfl p s (by exact w3_0 _ _ _ _) ?_)
      | (refine wl_store30 rfl _ _ rfl _ p s rfl rfl zp zs (by exact w3_2 _ _ _ _) ?_))
    refine bodyPost_ret (v := .agg (mk p s)) ?_ rfl ⟨rfl, ?_⟩
    · refine results30 Try.results12 _ _ (w.heap.size + 1 + 1) p s rfl ?_
      exact setRow_heap _ _ _ _ _ _ (w3_2 _ _ _ _)
    exact below_setRow ((((Below.refl _ _).alloc (Nat.le_refl _) _).alloc (by simp) _).alloc (by simp; omega) _) (by omega) _
  · have h1 : k < 1 ∨ 4611686018427387904 < k := by omega
    clear h0
    have H := Lib.hid h1
    clear h1
    go_enter Try.func12, Try.ntmps12
    go_wp2_with (first
      | (go_at_call 24; refine (may_no _ _ H.out).mono ?_; rintro e w' ⟨rfl, rfl⟩)
      | (refine wl_load30 rfl _ rfl _ rfl p s (by exact w3_0 _ _ _ _) ?_)
      | (refine wl_store30 rfl _ _ rfl _ p s rfl rfl zp zs (by exact w3_2 _ _ _ _) ?_))
    refine bodyPost_ret (v := .agg (mk p s)) ?_ rfl ⟨rfl, ?_⟩
    · refine results30 Try.results12 _ _ (w.heap.size + 1 + 1) p s rfl ?_
      exact setRow_heap _ _ _ _ _ _ (w3_2 _ _ _ _)
    exact below_setRow ((((Below.refl _ _).alloc (Nat.le_refl _) _).alloc (by simp) _).alloc (by simp; omega) _) (by omega) _

theorem put_fin (p : Nat → Int) (s : Nat → Smp) (n : Nat) (hn : n < 16) (k : Int) (t : Smp) :
    ((((((((((((((mk p s).setIfInBounds n (.int .i64 k)).setIfInBounds (16 + n * 13) (.bool t.m)).setIfInBounds (16 + n * 13 + 1) (.int .i64 t.g0)).setIfInBounds (16 + n * 13 + 2) (.int .i64 t.g1)).setIfInBounds (16 + n * 13 + 3) (.int .i64 t.g2)).setIfInBounds (16 + n * 13 + 4) (.int .i64 t.a0)).setIfInBounds (16 + n * 13 + 5) (.int .i64 t.a1)).setIfInBounds (16 + n * 13 + 6) (.int .i64 t.a2)).setIfInBounds (16 + n * 13 + 7) (.bool t.hb)).setIfInBounds (16 + n * 13 + 8) (.int .i64 t.b)).setIfInBounds (16 + n * 13 + 9) (.bool t.hg)).setIfInBounds (16 + n * 13 + 10) (.int .i64 t.n0)).setIfInBounds (16 + n * 13 + 11) (.int .i64 t.n1)).setIfInBounds (16 + n * 13 + 12) (.int .i64 t.n2)
      = mk (fun i => if i = n then k else p i) (fun i => if i = n then t else s i) := by
  have hz := mk_size p s
  apply mk_of
  · simp [hz]
  · intro i hi
    simp only [Array.getElem?_setIfInBounds, Array.size_setIfInBounds, hz]
    repeat rw [if_neg (by omega : ¬ (16 + n * 13 + _ = i))]
    rw [if_neg (by omega : ¬ (16 + n * 13 = i))]
    by_cases h : n = i
    · subst h; rw [if_pos rfl, if_pos (by omega), if_pos rfl]
    · rw [if_neg h, mk_place _ _ _ hi, if_neg (fun e => h e.symm)]
  · intro i hi j hj
    simp only [Array.getElem?_setIfInBounds, Array.size_setIfInBounds, hz]
    by_cases h : i = n
    · subst h
      rw [if_pos rfl]
      match j, hj with
      | 0, _ | 1, _ | 2, _ | 3, _ | 4, _ | 5, _ | 6, _ | 7, _ | 8, _ | 9, _ | 10, _ | 11, _ | 12, _ =>
        simp [Smp.cells]
        omega
    · rw [if_neg h]
      repeat rw [if_neg (by omega : ¬ (16 + n * 13 + _ = 16 + i * 13 + j))]
      rw [if_neg (by omega : ¬ (16 + n * 13 = 16 + i * 13 + j)), if_neg (by omega), mk_cell _ _ _ _ hi hj]
end Go.Proofs.Ytoibfkieadhelaa
