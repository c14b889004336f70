/-
  LinkOrders, walked: no conditions but the script's kind.
-/
import Derived.Test.YtoblckocmakakaaOrdersOr
import Derived.Test.YtoblckocmakakaaOrdersOut
import Derived.Deep.CutRange
import Derived.Deep.CutBlock
import Derived.Deep.RegionLaw
namespace Go.Proofs.Ytoblckocmakakaa
open Go.RowKit
theorem tenA {w : World} {b : Nat} {v0 v1 v2 v3 v4 u0 u1 u2 u3 u4 : Value} {t : TypeId} (h : w.heap[b]? = some (.cells #[v0, v1, v2, v3, v4, u0, u1, u2, u3, u4] t)) : w.cell? ⟨b, 0, none⟩ = some v0 ∧ w.cell? ⟨b, 1, none⟩ = some v1 ∧ w.cell? ⟨b, 2, none⟩ = some v2 ∧ w.cell? ⟨b, 3, none⟩ = some v3 ∧ w.cell? ⟨b, 4, none⟩ = some v4 ∧ w.frozen? ⟨b, 0, none⟩ = false ∧ w.frozen? ⟨b, 1, none⟩ = false ∧ w.frozen? ⟨b, 2, none⟩ = false ∧ w.frozen? ⟨b, 3, none⟩ = false ∧ w.frozen? ⟨b, 4, none⟩ = false := by
  simp [World.cell?, World.frozen?, h]
theorem tenB {w : World} {b : Nat} {v0 v1 v2 v3 v4 u0 u1 u2 u3 u4 : Value} {t : TypeId} (h : w.heap[b]? = some (.cells #[v0, v1, v2, v3, v4, u0, u1, u2, u3, u4] t)) : w.cell? ⟨b, 5, none⟩ = some u0 ∧ w.cell? ⟨b, 6, none⟩ = some u1 ∧ w.cell? ⟨b, 7, none⟩ = some u2 ∧ w.cell? ⟨b, 8, none⟩ = some u3 ∧ w.cell? ⟨b, 9, none⟩ = some u4 ∧ w.frozen? ⟨b, 5, none⟩ = false ∧ w.frozen? ⟨b, 6, none⟩ = false ∧ w.frozen? ⟨b, 7, none⟩ = false ∧ w.frozen? ⟨b, 8, none⟩ = false ∧ w.frozen? ⟨b, 9, none⟩ = false := by
  simp [World.cell?, World.frozen?, h]
theorem two2 {w : World} {b : Nat} {v0 v1 : Value} {t : TypeId} (h : w.heap[b]? = some (.cells #[v0, v1] t)) : w.cell? ⟨b, 0, none⟩ = some v0 ∧ w.cell? ⟨b, 1, none⟩ = some v1 ∧ w.frozen? ⟨b, 0, none⟩ = false ∧ w.frozen? ⟨b, 1, none⟩ = false := by
  simp [World.cell?, World.frozen?, h]
theorem three3 {w : World} {b : Nat} {v0 v1 v2 : Value} {t : TypeId} (h : w.heap[b]? = some (.cells #[v0, v1, v2] t)) : w.cell? ⟨b, 0, none⟩ = some v0 ∧ w.cell? ⟨b, 1, none⟩ = some v1 ∧ w.cell? ⟨b, 2, none⟩ = some v2 := by
  simp [World.cell?, h]
/-- Two ends that stand, behind i acts. -/
def OrdAt (w0 : World) (bE bG bT bN i : Nat) (W : World) : Prop :=
  ∃ o s0 r0 c0 g0 t0 n0 s1 r1 c1 g1 t1 n1, Ord w0 bE bG bT bN o s0 r0 c0 g0 t0 n0 s1 r1 c1 g1 t1 n1 W ∧ Fair i s0 s1 ∧ Fair i s1 s0
theorem OrdAt.start (w0 w : World) (h : Below w0.heap.size w0 w) :
    OrdAt w0 w.heap.size (w.heap.size + 1) (w.heap.size + 1 + 1) (w.heap.size + 1 + 1 + 1) 0 ((((w.alloc (.cells #[.int .i64 5, .int .i64 0, .int .i64 0, .slice none 0 0, .int .i64 0, .int .i64 7, .int .i64 0, .int .i64 0, .slice none 0 0, .int .i64 0] 30)).alloc (.cells #[.slice none 0 0, .slice none 0 0] 31)).alloc (.cells #[.slice none 0 0, .slice none 0 0] 31)).alloc (.cells #[.slice none 0 0, .slice none 0 0] 33)) := by
  have hs := h.size
  have z : ∀ (W : World) (e : TypeId) (size : Nat), W.ownsRow w0.heap.size e size (.slice none 0 0) 0 [] := fun W e size => ⟨by simp, Or.inl ⟨rfl, rfl⟩⟩
  have sd : ∀ (own : Int) (k : Nat) (o : Nat → Option Nat) (W : World), SideAt w0.heap.size o k ⟨newL own, [], [], []⟩ none 0 (.slice none 0 0) (.slice none 0 0) (.slice none 0 0) W := fun own k o W =>
    { sl := SlIs.nil _ _, cp := Nat.le_refl _, fr := fun b off e => (by cases e), given := z _ _ _, told := z _ _ _, net := ⟨[], rfl, z _ _ _, fun x hx => by cases hx⟩, og := fun b e => (by cases e), ot := fun b e => (by cases e), on := fun b e => (by cases e) }
  refine ⟨fun b => if b = w.heap.size then some 6 else if b = w.heap.size + 1 then some 7 else if b = w.heap.size + 1 + 1 then some 8 else if b = w.heap.size + 1 + 1 + 1 then some 9 else none, ⟨newL 5, [], [], []⟩, none, 0, .slice none 0 0, .slice none 0 0, .slice none 0 0, ⟨newL 7, [], [], []⟩, none, 0, .slice none 0 0, .slice none 0 0, .slice none 0 0, ?_, Fair.start 5 7 (by omega), Fair.start 7 5 (by omega)⟩
  exact {
    bel := (((h.alloc hs _).alloc (by simp; omega) _).alloc (by simp; omega) _).alloc (by simp; omega) _
    lo := by simp; omega
    e := by rw [heap_alloc_old _ _ (by simp <;> omega), heap_alloc_old _ _ (by simp <;> omega), heap_alloc_old _ _ (by simp)]; exact heap_alloc_new _ _
    g := by rw [heap_alloc_old _ _ (by simp <;> omega), heap_alloc_old _ _ (by simp)]; have := heap_alloc_new (w.alloc (.cells #[.int .i64 5, .int .i64 0, .int .i64 0, .slice none 0 0, .int .i64 0, .int .i64 7, .int .i64 0, .int .i64 0, .slice none 0 0, .int .i64 0] 30)) (.cells #[.slice none 0 0, .slice none 0 0] 31); simpa using this
    t := by rw [heap_alloc_old _ _ (by simp)]; have := heap_alloc_new ((w.alloc (.cells #[.int .i64 5, .int .i64 0, .int .i64 0, .slice none 0 0, .int .i64 0, .int .i64 7, .int .i64 0, .int .i64 0, .slice none 0 0, .int .i64 0] 30)).alloc (.cells #[.slice none 0 0, .slice none 0 0] 31)) (.cells #[.slice none 0 0, .slice none 0 0] 31); simpa using this
    n := by have := heap_alloc_new (((w.alloc (.cells #[.int .i64 5, .int .i64 0, .int .i64 0, .slice none 0 0, .int .i64 0, .int .i64 7, .int .i64 0, .int .i64 0, .slice none 0 0, .int .i64 0] 30)).alloc (.cells #[.slice none 0 0, .slice none 0 0] 31)).alloc (.cells #[.slice none 0 0, .slice none 0 0] 31)) (.cells #[.slice none 0 0, .slice none 0 0] 33); simpa using this
    x0 := sd 5 0 _ _
    x1 := sd 7 1 _ _
    lab := ⟨if_pos rfl, by show (if _ then _ else _) = _; rw [if_neg (by omega), if_pos rfl], by show (if _ then _ else _) = _; rw [if_neg (by omega), if_neg (by omega), if_pos rfl], by show (if _ then _ else _) = _; rw [if_neg (by omega), if_neg (by omega), if_neg (by omega), if_pos rfl]⟩
    new := fun b hb => by
      have hb : w.heap.size + 1 + 1 + 1 + 1 ≤ b := by simpa using hb
      rw [if_neg (by omega), if_neg (by omega), if_neg (by omega), if_neg (by omega)] }
theorem OrdAt.below {w0 : World} {bE bG bT bN i : Nat} {W W' : World} (h : OrdAt w0 bE bG bT bN i W) (hb : Below W.heap.size W W') : OrdAt w0 bE bG bT bN i W' := by
  obtain ⟨o, s0, r0, c0, g0, t0, n0, s1, r1, c1, g1, t1, n1, h, f⟩ := h
  exact ⟨o, s0, r0, c0, g0, t0, n0, s1, r1, c1, g1, t1, n1, h.below hb, f⟩
theorem sendM_ne (l : Lk) (x : Int) : (sendM l x).sent ≠ [] := by
  unfold sendM
  split
  · show l.sent ++ [x] ≠ []
    simp
  · rename_i h
    intro e
    rw [e] at h
    exact h (Nat.zero_le _)
theorem getB' {p q r s t u : Prop} {k : Nat} {w W : World} (h : p ∧ q ∧ r ∧ s ∧ t ∧ u ∧ Hid (Below k w W)) : Below k w W := h.2.2.2.2.2.2.out
theorem apart_or {r a : Option Addr} {n g : Nat} (h : Since' n a ∨ From r a) (hn : g < n) (hr : Apart g r) : Apart g a := by
  rcases h with h | h
  · exact h.apart hn
  · exact h.apart hr
theorem free_or {w0 : World} {bE bG bT bN : Nat} {o : Nat → Option Nat} {s0 : Side} {r0 : Option Addr} {c0 : Nat} {g0 t0 n0 : Value} {s1 : Side} {r1 : Option Addr} {c1 : Nat} {g1 t1 n1 : Value} {W W' : World} {r a : Option Addr} (h : Ord w0 bE bG bT bN o s0 r0 c0 g0 t0 n0 s1 r1 c1 g1 t1 n1 W) (hb : Below W.heap.size W W') (hr : Free o W r) (hs : Since' W.heap.size a ∨ From r a) (ho : Old W' a) : Free o W' a := by
  rcases hs with hs | hs
  · exact h.free hb hs ho
  · exact (hr.below hb.size).from hs

/-- Nothing but draws. -/
def Dr (w W : World) : Prop := ∃ m, W = w.drewN m
theorem Dr.refl (w : World) : Dr w w := ⟨0, rfl⟩
theorem Dr.drewN {w W : World} (h : Dr w W) (n : Nat) : Dr w (W.drewN n) := by
  obtain ⟨m, rfl⟩ := h
  exact ⟨m + n, by rw [World.drewN_drewN]⟩
theorem Dr.below {w W : World} (h : Dr w W) : Below w.heap.size w W := by
  obtain ⟨m, rfl⟩ := h
  exact below_drewN (Below.refl _ _) _
set_option maxHeartbeats 2000000 in
theorem ints15q (xs ys : List Int) (a b : Option Addr) (ca cb : Nat) (hx : xs.length ≤ 9223372036854775807) (w : World) (ha : SlIs w a xs) (hb : SlIs w b ys) :
    Calls Try.prog 15 #[.slice a xs.length ca, .slice b ys.length cb] w fun e w' => e = .returned (.bool (xs == ys)) ∧ Dr w w' := by
  by_cases hl : xs.length = ys.length
  · have HA := Lib.hid ha
    have HB := Lib.hid hb
    clear ha hb
    rw [← hl]
    have HL := Lib.hid hl
    clear hl
    go_enter Try.func15, Try.ntmps15
    go_wp2
    go_loopw [5] (fun i wr => ∃ n : Nat, n ≤ xs.length ∧ i = .int .i64 n ∧ Hid (Dr w wr ∧ xs.take n = ys.take n)) (fun i _ => xs.length - (intOf i).toNat)
    case atStart => exact ⟨0, by omega, rfl, Lib.hid ⟨Dr.refl _, rfl⟩⟩
    case round =>
      obtain ⟨n, hn, rfl, HW⟩ := hrel
      by_cases hlt : n < xs.length
      · obtain ⟨ba, oa, rfl, hca⟩ := (HA.out.below HW.out.1.below).some (by omega)
        obtain ⟨bb, ob, rfl, hcb⟩ := (HB.out.below HW.out.1.below).some (by have := HL.out; omega)
        have h1 := hca n hlt
        have h2 := hcb n (by have := HL.out; omega)
        clear hca hcb
        generalize hX : xs[n] = X at h1
        generalize hY : ys[n]'(by have := HL.out; omega) = Y at h2
        have HX := Lib.hid hX
        have HY := Lib.hid hY
        clear hX hY
        by_cases he : X = Y
        · have hd : (X != Y) = false := by rw [bne_eq_false_iff_eq]; exact he
          have HE := Lib.hid he
          clear he
          go_wp2
          go_quiet (fail)
          go_wp2
          go_roundw
          case rel => exact ⟨n + 1, by omega, by go_num, Lib.hid ⟨HW.out.1.drewN _, take_eq_step hlt (by have := HL.out; omega) HW.out.2 (by rw [HX.out, HY.out, HE.out])⟩⟩
          case measure => simp [intOf]; omega
        · have hd : (X != Y) = true := by rw [bne_iff_ne]; exact he
          have HE := Lib.hid he
          clear he
          go_wp2
          go_quiet (fail)
          go_wp2
          go_ret
          exact ⟨ret_bool (by
            symm
            rw [beq_eq_false_iff_ne]
            intro e
            apply HE.out
            rw [← HX.out, ← HY.out]
            simp only [e]), HW.out.1.drewN _⟩
      · have e : n = xs.length := by omega
        subst e
        go_wp2
        go_ret
        exact ⟨ret_bool (by
          symm
          rw [beq_iff_eq]
          have e := HW.out.2
          rwa [List.take_length, List.take_of_length_le (by have := HL.out; omega)] at e), HW.out.1⟩
  · have hd : (xs.length == ys.length) = false := by rw [beq_eq_false_iff_ne]; exact hl
    have hd2 : ((xs.length : Int) != (ys.length : Int)) = true := by rw [bne_iff_ne]; omega
    have HL := Lib.hid hl
    clear hl
    go_enter Try.func15, Try.ntmps15
    go_wp2
    go_ret
    exact ⟨ret_bool (by
      symm
      rw [beq_eq_false_iff_ne]
      intro e
      apply HL.out
      rw [e]), Dr.refl _⟩
theorem SlIs.take {W : World} {a : Option Addr} {zs : List Int} (h : SlIs W a zs) (n : Nat) : SlIs W a (zs.take n) := by
  rcases h with rfl | ⟨b, off, rfl, hlt, hc⟩
  · exact Or.inl (by simp)
  · refine Or.inr ⟨b, off, rfl, hlt, fun j hj => ?_⟩
    rw [hc j (by rw [List.length_take] at hj; omega), List.getElem_take]
theorem ints15t (xs ys : List Int) (a b : Option Addr) (ca cb : Nat) (hx : xs.length ≤ 9223372036854775807) (w : World) (ha : SlIs w a xs) (hb : SlIs w b ys) (hl : ys.take xs.length = xs) (n : Nat) (hn : n = xs.length) :
    Calls Try.prog 15 #[.slice a xs.length ca, .slice b n cb] w fun e w' => e = .returned (.bool true) ∧ ∃ m, w' = w.drewN m := by
  subst hn
  have h2 := hb.take xs.length
  have h3 := ints15q xs (ys.take xs.length) a b ca cb hx w ha h2
  rw [hl, beq_self_eq_true] at h3
  exact h3
theorem sendAnyX (l : Lk) (a : Option Addr) (cap : Nat) (x : Int) (w : World) (h : SlIs w a l.sent) (hm : l.sent.length ≤ 100) (hcap : l.sent.length ≤ cap) :
    Calls Try.prog 12 #[.agg (lkA l a cap), .int .i64 x] w fun e w' => ∃ a' cap', e = .returned (.tuple #[.agg #[.int .i64 (sendM l x).own, .int .i64 (sendM l x).other, .int .i64 (sendM l x).first, .slice a' (sendM l x).sent.length cap', .int .i64 (sendM l x).next], .int .i64 (sendE l)]) ∧ (Since' w.heap.size a' ∨ From a a') ∧ SlIs w' a' (sendM l x).sent ∧ (sendM l x).sent.length ≤ cap' ∧ Below w.heap.size w w' :=
  sendAny l a cap x w h hm hcap
theorem slis_one {W : World} {b : Nat} {x : Int} (h : W.heap[b]? = some (.cells #[.int .i64 x] 2)) : SlIs W (some ⟨b, 0, none⟩) [x] := by
  refine Or.inr ⟨b, 0, rfl, (Array.getElem?_eq_some_iff.1 h).1, fun j hj => ?_⟩
  have : j = 0 := by simpa using hj
  subst this
  simp [World.cell?, h]
theorem newbox_allocO {wr W : World} {M : Lk} {a : Option Addr} {c : Nat} (h : Below wr.heap.size wr W) (hs : SlIs W a M.sent) (hc : M.sent.length ≤ c) (ho : Old W a) : NewBox wr (W.alloc (.cells #[.int .i64 M.own, .int .i64 M.other, .int .i64 M.first, .slice a M.sent.length c, .int .i64 M.next] 26)) W.heap.size M a c := newbox_alloc h hs hc ho
theorem Ord.grown_S {w0 : World} {bE bG bT bN : Nat} {o : Nat → Option Nat} {s0 : Side} {r0 : Option Addr} {c0 : Nat} {g0 t0 n0 : Value} {s1 : Side} {r1 : Option Addr} {c1 : Nat} {g1 t1 n1 : Value} {W W' : World} (h : Ord w0 bE bG bT bN o s0 r0 c0 g0 t0 n0 s1 r1 c1 g1 t1 n1 W) {row : Option Nat} (hg : W.grownBy W' row) {j : Nat} (hj : j < 6) (hr : ∀ b, row = some b → o b = some j) {b13 : Nat} {v0 v1 v2 : Value} (hz : W.heap[b13]? = some (.cells #[v0, v1, v2] 35)) (hne : row ≠ some b13) :
    W'.cell? ⟨bG, 0, none⟩ = some g0 ∧ W'.cell? ⟨bG, 1, none⟩ = some g1 ∧ W'.frozen? ⟨bG, 0, none⟩ = false ∧ W'.frozen? ⟨bG, 1, none⟩ = false ∧ W'.cell? ⟨b13, 2, none⟩ = some v2 := by
  have f := two2 (h.grown_blocks hg hj hr).2.1
  exact ⟨f.1, f.2.1, f.2.2.1, f.2.2.2, (three3 (grown_at hg hz hne)).2.2⟩
theorem own_shape {W : World} {base : Nat} {e : TypeId} {size : Nat} {v : Value} {n : Nat} {xs : List Value} (h : W.ownsRow base e size v n xs) : ∃ a cap, v = .slice a n cap := by
  rcases h.2 with ⟨rfl, rfl⟩ | ⟨g, cap, cur, rfl, _⟩
  · exact ⟨_, _, rfl⟩
  · exact ⟨_, _, rfl⟩
theorem far_at {W : World} {g b i j : Nat} {u v : Value} (hne : b ≠ g) (h : W.cell? ⟨b, i, none⟩ = some u) : (W.setCell ⟨g, j, none⟩ v).cell? ⟨b, i, none⟩ = some u := by
  rw [← h]
  exact World.cell?_setCell_far _ _ _ _ (Ne.symm hne)
theorem far5A {W : World} {b g j : Nat} {u0 u1 u2 u3 u4 v : Value} (hne : b ≠ g) (h : W.cell? ⟨b, 0, none⟩ = some u0 ∧ W.cell? ⟨b, 1, none⟩ = some u1 ∧ W.cell? ⟨b, 2, none⟩ = some u2 ∧ W.cell? ⟨b, 3, none⟩ = some u3 ∧ W.cell? ⟨b, 4, none⟩ = some u4) : (W.setCell ⟨g, j, none⟩ v).cell? ⟨b, 0, none⟩ = some u0 ∧ (W.setCell ⟨g, j, none⟩ v).cell? ⟨b, 1, none⟩ = some u1 ∧ (W.setCell ⟨g, j, none⟩ v).cell? ⟨b, 2, none⟩ = some u2 ∧ (W.setCell ⟨g, j, none⟩ v).cell? ⟨b, 3, none⟩ = some u3 ∧ (W.setCell ⟨g, j, none⟩ v).cell? ⟨b, 4, none⟩ = some u4 :=
  ⟨far_at hne h.1, far_at hne h.2.1, far_at hne h.2.2.1, far_at hne h.2.2.2.1, far_at hne h.2.2.2.2⟩
theorem far5B {W : World} {b g j : Nat} {u0 u1 u2 u3 u4 v : Value} (hne : b ≠ g) (h : W.cell? ⟨b, 5, none⟩ = some u0 ∧ W.cell? ⟨b, 6, none⟩ = some u1 ∧ W.cell? ⟨b, 7, none⟩ = some u2 ∧ W.cell? ⟨b, 8, none⟩ = some u3 ∧ W.cell? ⟨b, 9, none⟩ = some u4) : (W.setCell ⟨g, j, none⟩ v).cell? ⟨b, 5, none⟩ = some u0 ∧ (W.setCell ⟨g, j, none⟩ v).cell? ⟨b, 6, none⟩ = some u1 ∧ (W.setCell ⟨g, j, none⟩ v).cell? ⟨b, 7, none⟩ = some u2 ∧ (W.setCell ⟨g, j, none⟩ v).cell? ⟨b, 8, none⟩ = some u3 ∧ (W.setCell ⟨g, j, none⟩ v).cell? ⟨b, 9, none⟩ = some u4 :=
  ⟨far_at hne h.1, far_at hne h.2.1, far_at hne h.2.2.1, far_at hne h.2.2.2.1, far_at hne h.2.2.2.2⟩
theorem Ord.grown_N {w0 : World} {bE bG bT bN : Nat} {o : Nat → Option Nat} {s0 : Side} {r0 : Option Addr} {c0 : Nat} {g0 t0 n0 : Value} {s1 : Side} {r1 : Option Addr} {c1 : Nat} {g1 t1 n1 : Value} {W W' : World} (h : Ord w0 bE bG bT bN o s0 r0 c0 g0 t0 n0 s1 r1 c1 g1 t1 n1 W) {row : Option Nat} (hg : W.grownBy W' row) {j : Nat} (hj : j < 6) (hr : ∀ b, row = some b → o b = some j) :
    W'.heap[bE]? = some (.cells (endsA s0.e r0 c0 s1.e r1 c1) 30) ∧ W'.heap[bN]? = some (.cells #[n0, n1] 33) :=
  have f := h.grown_blocks hg hj hr
  ⟨f.1, f.2.2.2⟩
theorem netFew {qs : List (Pk × Option Addr × Nat)} {ps : List Pk} {n : Nat} (h : qs.map (·.1) = ps) (hp : ps.length ≤ n) : qs.length ≤ n := by
  rw [← h, List.length_map] at hp
  exact hp
theorem pkt_cells {W : World} {base g cap : Nat} {qs : List (Pk × Option Addr × Nat)} (h : W.ownsRow base 38 5 (.slice (some ⟨g, 0, none⟩) qs.length cap) qs.length (netCells qs)) {m : Nat} (hm : m < qs.length) :
    W.cell? ⟨g, m * 5, none⟩ = some (.int .i64 qs[m].1.fr) ∧ W.cell? ⟨g, m * 5 + 1, none⟩ = some (.int .i64 qs[m].1.to) ∧ W.cell? ⟨g, m * 5 + 2, none⟩ = some (.int .i64 qs[m].1.place) ∧ W.cell? ⟨g, m * 5 + 3, none⟩ = some (.slice qs[m].2.1 qs[m].1.words.length qs[m].2.2) ∧ W.cell? ⟨g, m * 5 + 4, none⟩ = some (.int .i64 qs[m].1.wait) := by
  obtain ⟨_, h | ⟨g', cap', cur, e, _, hh, _, _, hs, ht⟩⟩ := h
  · exact absurd h.1 (by simp)
  cases e
  have hz : ∀ (l : List (Pk × Option Addr × Nat)) (m : Nat) (hm : m < l.length) (j : Nat), j < 5 → (netCells l)[m * 5 + j]? = (pkA l[m].1 l[m].2.1 l[m].2.2).toList[j]? := by
    intro l
    induction l with
    | nil => intro m hm; simp at hm
    | cons x xs ih =>
      intro m hm j hj
      have e5 : (pkA x.1 x.2.1 x.2.2).toList.length = 5 := rfl
      show ((pkA x.1 x.2.1 x.2.2).toList ++ netCells xs)[m * 5 + j]? = _
      cases m with
      | zero =>
        rw [List.getElem?_append_left (by omega)]
        simp
      | succ m =>
        rw [List.getElem?_append_right (by omega), e5]
        have := ih m (by simpa using hm) j hj
        rw [show (m + 1) * 5 + j - 5 = m * 5 + j by omega, this]
        simp
  have hc : ∀ j, j < 5 → W.cell? ⟨g, m * 5 + j, none⟩ = (pkA qs[m].1 qs[m].2.1 qs[m].2.2).toList[j]? := fun j hj => by
    rw [← hz qs m hm j hj, ← ht, List.getElem?_take, if_pos (by omega)]
    unfold World.cell?
    rw [hh]
    simp
  exact ⟨hc 0 (by omega), hc 1 (by omega), hc 2 (by omega), hc 3 (by omega), hc 4 (by omega)⟩
theorem own_some {W : World} {base : Nat} {e : TypeId} {size : Nat} {v : Value} {n : Nat} {xs : List Value} (h : W.ownsRow base e size v n xs) (hn : 0 < n) : ∃ g cap, v = .slice (some ⟨g, 0, none⟩) n cap ∧ g < W.heap.size := by
  rcases h.2 with ⟨_, rfl⟩ | ⟨g, cap, cur, rfl, _, hh, _⟩
  · omega
  · exact ⟨g, cap, rfl, (Array.getElem?_eq_some_iff.1 hh).1⟩
theorem getP {p1 p2 p3 p4 p5 p6 p7 p8 p9 p10 p11 p12 : Prop} {k : Nat} {w W : World} (h : p1 ∧ p2 ∧ p3 ∧ p4 ∧ p5 ∧ p6 ∧ p7 ∧ p8 ∧ p9 ∧ p10 ∧ p11 ∧ p12 ∧ Hid (Below k w W)) : Below k w W := h.2.2.2.2.2.2.2.2.2.2.2.2.out
theorem slis_allocO {W : World} {a : Option Addr} {zs : List Int} {cs : Array Value} {t : TypeId} (h : SlIs W a zs) : SlIs (W.alloc (.cells cs t)) a zs := h.below ((Below.refl _ _).alloc (Nat.le_refl _) _)
theorem wp_call13 {o : Oper} {a : Act} {W : World} {K : Act → World → Prop} {Q : Exit → Act → World → Prop} (s : Operand) (ho : o.op = .call { callee := .value (.func 13), args := #[s], argTypes := #[26] }) (v : Value) (hs : a.eval s = v)
    (hc : Calls Try.prog 13 #[v] W fun e w' => ∃ u, e = .returned u ∧ K (a.put o.dst u) w') : o.wp Try.prog a W K Q := by
  have hrun : (execOp a.eval o).run Try.prog W = .ok (.enter 13 #[v]) W := by
    have he : a.eval (.func 13) = .func (.func 13) #[] #[] := rfl
    have hn : (Try.f13.name == "runtime.NumGoroutine") = false := by kernel_rfl
    have hb : Try.f13.body.isNone = false := by kernel_rfl
    unfold execOp
    simp only [ho, resolve, he, hs, Deferred.ofValue, Sem.run_bind, Sem.run_pure, Result.andThen_ok, List.map_toArray, List.map_cons, List.map_nil, invoke, callFunc, program, Sem.run, Try.func13, hn, hb]
    rfl
  unfold Oper.wp
  rw [hrun, Oper.upon_enter]
  refine hc.mono fun e w'' hh => ?_
  obtain ⟨u, rfl, hk⟩ := hh
  exact hk
theorem since_mono {n m : Nat} {r a : Option Addr} (h : Since' n a ∨ From r a) (hm : m ≤ n) : Since' m a ∨ From r a := h.imp (·.mono hm) id
/-- The block of a number, in a code. -/
def blockOf (n : Nat) : Code → Option Code
  | .block m c => if m = n then some (.block m c) else blockOf n c
  | .loop c => blockOf n c
  | .scope c => blockOf n c
  | .seq a b => match blockOf n a with
    | some c => some c
    | none => blockOf n b
  | .cond _ a b => match blockOf n a with
    | some c => some c
    | none => blockOf n b
  | _ => none
noncomputable def sw : Code := (Try.f3.body.bind (blockOf 2)).getD .skip
set_option maxRecDepth 20000 in
set_option maxHeartbeats 40000000 in
theorem act0 (w0 wd : World) (bE bG bT bN n b13 : Nat) (en wh x : Int) (hn60 : n < 60) (HW0 : Hid (OrdAt w0 bE bG bT bN n wd)) (x2 : wd.cell? ⟨b13, 2, none⟩ = some (.int .i64 x)) (HZ : Hid (wd.heap[b13]? = some (.cells #[.int .i64 en, .int .i64 wh, .int .i64 x] 35)))
    (u0 u1 u2 u3 u4 u5 u6 u7 u15 u16 u17 u18 u19 u20 u21 u22 u23 u24 u25 u26 u27 u28 u29 u30 u31 u32 u33 u34 u35 u36 u37 u38 u39 u40 u41 u42 u43 u44 u45 u46 u47 u48 u49 u50 u51 u52 u54 u55 u56 u57 u58 u59 u60 u61 u62 u63 u64 u65 u66 u67 u68 u69 u70 u71 u72 u73 u74 u75 u76 u77 u78 u79 u80 u81 u82 u83 u84 u85 u86 u87 u88 u89 u90 u91 u92 u93 u94 u95 u96 u97 u98 u99 u100 u101 u102 u103 u104 u105 u106 u107 u108 u109 u110 u111 u112 u113 u114 u115 u116 u117 u118 u119 u120 u121 u122 u123 u124 u125 u126 u127 u128 u129 u130 u131 u132 u133 u134 u135 u136 u137 u138 u139 u140 u141 u142 u143 u144 u145 u146 u147 u148 u149 u150 u151 u152 u153 u154 u155 u156 u157 u158 u159 u160 u161 u162 : Value) (J0 K0 : Act → World → Prop) (Q' : Exit → Act → World → Prop)
    (hJ0 : ∀ a' w', (∃ v15 v16 v17 v18 v39 v40 v41 v42 v43 v44 v45 v46 v47 v48 v49 v50 v51 v52 v53 v54 v55 v56 v57 v58 v59 v60 v61 v62 v63 v64 v65 v66 v67 v68 v69 v70 v71 v72 v73 v74 v75 v76 v77 v78 v79 v80 v81 v82 v83 v84 v85 v86 v87 v88 v89 v90 v91 v92 v93 v94 v95 v96 v97 v98 v99 v100 v101 v102 v103 v104 v105 v106 v107 v108 v109 v110 v111 v112 v113 v114 v115 v116 v117 v118 v119 v120 v121 v122 v123 v124 v125 v126 v127 v128 v129 v130 v131 v132 v133 v134 v135 v136 v137 v138 v139 v140 v141 v142 v143 v144 v145 v146 v147 v148 v149 v150 v151 v152 v153 v154 v155 v156 v157 v158 v159 v160 v161 : Value, Hid (OrdAt w0 bE bG bT bN (n + 1) w') ∧ a' = ⟨#[u0, u1, u2, u3, u4, u5, u6, u7, .pointer (some ⟨bE, 0, none⟩), .pointer (some ⟨bG, 0, none⟩), .pointer (some ⟨bT, 0, none⟩), .pointer (some ⟨bN, 0, none⟩), .int .i64 n, .pointer (some ⟨b13, 0, none⟩), .int .i64 0, v15, v16, v17, v18, u19, u20, u21, u22, u23, u24, u25, u26, u27, u28, u29, u30, u31, u32, u33, u34, u35, u36, u37, u38, v39, v40, v41, v42, v43, v44, v45, v46, v47, v48, v49, v50, v51, v52, v53, v54, v55, v56, v57, v58, v59, v60, v61, v62, v63, v64, v65, v66, v67, v68, v69, v70, v71, v72, v73, v74, v75, v76, v77, v78, v79, v80, v81, v82, v83, v84, v85, v86, v87, v88, v89, v90, v91, v92, v93, v94, v95, v96, v97, v98, v99, v100, v101, v102, v103, v104, v105, v106, v107, v108, v109, v110, v111, v112, v113, v114, v115, v116, v117, v118, v119, v120, v121, v122, v123, v124, v125, v126, v127, v128, v129, v130, v131, v132, v133, v134, v135, v136, v137, v138, v139, v140, v141, v142, v143, v144, v145, v146, v147, v148, v149, v150, v151, v152, v153, v154, v155, v156, v157, v158, v159, v160, v161, u162], []⟩) → J0 a' w') (hMet0 : ∀ a' w', Met J0 a' w' → K0 a' w') :
    Code.wp Try.prog sw (Exit.then K0 Q') ⟨#[u0, u1, u2, u3, u4, u5, u6, u7, .pointer (some ⟨bE, 0, none⟩), .pointer (some ⟨bG, 0, none⟩), .pointer (some ⟨bT, 0, none⟩), .pointer (some ⟨bN, 0, none⟩), .int .i64 n, .pointer (some ⟨b13, 0, none⟩), .int .i64 0, u15, u16, u17, u18, u19, u20, u21, u22, u23, u24, u25, u26, u27, u28, u29, u30, u31, u32, u33, u34, u35, u36, u37, u38, u39, u40, u41, u42, u43, u44, u45, u46, u47, u48, u49, u50, u51, u52, .int .i64 wh, u54, u55, u56, u57, u58, u59, u60, u61, u62, u63, u64, u65, u66, u67, u68, u69, u70, u71, u72, u73, u74, u75, u76, u77, u78, u79, u80, u81, u82, u83, u84, u85, u86, u87, u88, u89, u90, u91, u92, u93, u94, u95, u96, u97, u98, u99, u100, u101, u102, u103, u104, u105, u106, u107, u108, u109, u110, u111, u112, u113, u114, u115, u116, u117, u118, u119, u120, u121, u122, u123, u124, u125, u126, u127, u128, u129, u130, u131, u132, u133, u134, u135, u136, u137, u138, u139, u140, u141, u142, u143, u144, u145, u146, u147, u148, u149, u150, u151, u152, u153, u154, u155, u156, u157, u158, u159, u160, u161, u162], []⟩ wd := by
  conv => arg 2; whnf
  obtain ⟨o, s0, r0, c0, g0, t0, n0, s1, r1, c1, g1, t1, n1, H, F0, F1⟩ := HW0.out
  have H := Lib.hid H
  have F0 := Lib.hid F0
  have F1 := Lib.hid F1
  clear HW0
  have l0 : s0.e.sent.length ≤ 8 := (right_facts F0.out.right).2.2
  have l1 : s1.e.sent.length ≤ 8 := (right_facts F1.out.right).2.2
  have ng0 : s0.given.length ≤ n := F0.out.few
  have ng1 : s1.given.length ≤ n := F1.out.few
  · by_cases h0 : wh = 0
    · have h0' : (wh == 0) = true := by rw [beq_iff_eq]; exact h0
      clear h0
      go_upto_region 19 with (fail)
      have KS : ∀ W, Below wd.heap.size wd W → (W.cell? ⟨bE, 0, none⟩ = some (.int .i64 s0.e.own) ∧ W.cell? ⟨bE, 1, none⟩ = some (.int .i64 s0.e.other) ∧ W.cell? ⟨bE, 2, none⟩ = some (.int .i64 s0.e.first) ∧ W.cell? ⟨bE, 3, none⟩ = some (.slice r0 s0.e.sent.length c0) ∧ W.cell? ⟨bE, 4, none⟩ = some (.int .i64 s0.e.next) ∧ W.cell? ⟨b13, 2, none⟩ = some (.int .i64 x) ∧ Hid (Below wd.heap.size wd W)) := fun W hb => by
        have f := tenA (old_kept hb H.out.e)
        exact ⟨f.1, f.2.1, f.2.2.1, f.2.2.2.1, f.2.2.2.2.1, (three3 (old_kept hb HZ.out)).2.2, Lib.hid hb⟩
      have HNE : Hid ((sendM s0.e x).sent ≠ []) := Lib.hid (sendM_ne _ _)
      have hro : Old wd r0 := fun b off e => (H.out.x0.fr b off e).1
      have HRO := Lib.hid hro
      clear hro
      go_cut [15, 16] from 56 to 161 (fun v15 v16 wc => ∃ b15 a' c', v15 = .pointer (some ⟨b15, 0, none⟩) ∧ v16 = .int .i64 (sendE s0.e) ∧ Hid (NewBox wd wc b15 (sendM s0.e x) a' c' ∧ Free o wc a'))
      case first =>
        rename_i J1 K2 hJ hMet
        go_region_held3 (fun W => W.cell? ⟨bE, 0, none⟩ = some (.int .i64 s0.e.own) ∧ W.cell? ⟨bE, 1, none⟩ = some (.int .i64 s0.e.other) ∧ W.cell? ⟨bE, 2, none⟩ = some (.int .i64 s0.e.first) ∧ W.cell? ⟨bE, 3, none⟩ = some (.slice r0 s0.e.sent.length c0) ∧ W.cell? ⟨bE, 4, none⟩ = some (.int .i64 s0.e.next) ∧ W.cell? ⟨b13, 2, none⟩ = some (.int .i64 x) ∧ Hid (Below wd.heap.size wd W))
          (first
            | with_reducible exact KS _ (below_chain B5 (Nat.le_refl _) _ _ _ _ _)
            | with_reducible exact KS _ B5
            | with_reducible exact KS _ (B5.alloc B5.size _)
            | with_reducible exact KS _ ((Below.refl _ _).alloc (Nat.le_refl _) _).drew
            | with_reducible exact KS _ (Below.refl _ _).drew)
          (first
            | (go_at_call 12; have PB := getB' (by assumption); refine (sendAnyX s0.e r0 c0 x _ (H.out.x0.sl.below PB) (by omega) H.out.x0.cp).mono ?_; rintro e w5 ⟨a', cap', rfl, hsi, hs, hc, hb⟩; have B5 := PB.trans (hb.mono PB.size); have HX := Lib.hid (And.intro (since_mono hsi PB.size) (And.intro hs hc)); have Y5 := five' (heap_alloc_new w5 (.cells #[.int .i64 0, .int .i64 0, .int .i64 0, .slice none 0 0, .int .i64 0] 26)); obtain ⟨y0, y1, y2, y3, y4, x0, x1, x2, x3, x4⟩ := Y5; (try (have z5' := new_kept_d hb; have z5 : w5.heap[wd.heap.size]? = some (.cells #[.int .i64 0, .int .i64 0, .int .i64 0, .slice none 0 0, .int .i64 0] 26) := z5'; clear z5'; obtain ⟨n0, n1, n2, n3, n4, o0, o1, o2, o3, o4⟩ := five' z5; have Z5 := Lib.hid z5; have ap : Apart wd.heap.size a' := apart_or hsi (by simp) (Old.apart HRO.out (Nat.le_refl _)); clear z5)); clear hsi hs hc hb PB))
        all_goals
          show K2 _ _
          refine hMet _ _ ?_
          try simp only [Act.put, List.getElem_toArray, List.getElem_cons_succ, List.getElem_cons_zero, List.setIfInBounds_toArray, List.set_cons_zero, List.set_cons_succ]
          go_meet
          case rel =>
            first
              | (have NB := newbox_set (M := sendM s0.e x) (a := a') (c := cap') B5 (Nat.le_refl _) Z5.out HX.out.2.1 HX.out.2.2 (HX.out.2.1.old HNE.out) ap
                 have FR := free_or H.out NB.1 H.out.x0.fr HX.out.1 NB.2.2.2.2.2
                 with_reducible exact ⟨_, a', cap', rfl, rfl, Lib.hid ⟨NB, FR⟩⟩)
              | (have NB := newbox_allocO (M := sendM s0.e x) (a := a') (c := cap') B5 HX.out.2.1 HX.out.2.2 (HX.out.2.1.old HNE.out)
                 have FR := free_or H.out NB.1 H.out.x0.fr HX.out.1 NB.2.2.2.2.2
                 exact ⟨_, a', cap', rfl, rfl, Lib.hid ⟨NB, FR⟩⟩)
      case rest =>
        obtain ⟨b15, a', c', rfl, rfl, HN⟩ := hcut
        rename_i K1 hK1
        refine hK1 _ _ ?_
        clear hK1 KS HRO
        have H1 := Lib.hid (H.out.below HN.out.1.1)
        have HZ1 := Lib.hid (old_kept HN.out.1.1 HZ.out)
        have NE15 : Hid (b15 ≠ bG) := Lib.hid (by
          intro e
          have q := HN.out.1.2.2.1
          rw [e, old_kept HN.out.1.1 H.out.g] at q
          cases q)
        have NE13 : Hid (b13 ≠ bG) := Lib.hid (by
          intro e
          have q := HZ.out
          rw [e, H.out.g] at q
          cases q)
        have HF1 := Lib.hid HN.out.2
        have HB1 := Lib.hid HN.out.1.2.2
        clear H HZ HN x2
        rename World => we
        go_upto_if 66 with (fail)
        go_cut [] from 65 to 161 (fun wx => ∃ o' g', Hid (Ord w0 bE bG bT bN o' { s0 with given := (giveS s0 x).given } r0 c0 g' t0 n0 s1 r1 c1 g1 t1 n1 wx ∧ wx.heap[b15]? = some (lkO (sendM s0.e x) a' c') ∧ SlIs wx a' (sendM s0.e x).sent ∧ Free o' wx a'))
        case first =>
          rename_i J1 K2 hJ hMet
          by_cases h7 : s0.e.sent.length ≤ 7
          · have e7 : (sendE s0.e == 0) = true := by rw [sendE, if_pos h7]; rfl
            have G7 : Hid ((giveS s0 x).given = s0.given ++ [x]) := Lib.hid (if_pos h7)
            clear h7
            go_upto_region 21 with (fail)
            have KS : ∀ W, Below we.heap.size we W → (W.cell? ⟨bG, 0, none⟩ = some g0 ∧ W.cell? ⟨bG, 1, none⟩ = some g1 ∧ W.frozen? ⟨bG, 0, none⟩ = false ∧ W.frozen? ⟨bG, 1, none⟩ = false ∧ W.cell? ⟨b13, 2, none⟩ = some (.int .i64 x)) := fun W hb => by
              have f := two2 (old_kept hb H1.out.g)
              exact ⟨f.1, f.2.1, f.2.2.1, f.2.2.2, (three3 (old_kept hb HZ1.out)).2.2⟩
            obtain ⟨a0, a1, a2, a3, a4⟩ := KS _ (Below.refl _ _)
            obtain ⟨d0, d1, d2, d3, d4⟩ := KS _ ((Below.refl _ _).alloc (Nat.le_refl _) (.cells #[.int .i64 x] 2))
            refine wp_region_noPanic ?_
            go_region_law (first
                | ((try rw [if_pos (by rfl)]); (refine wp_app24c _ _ rfl w0.heap.size g0 s0.given [x] (by simp [Act.eval]) (own_below H1.out.x0.given ((Below.refl _ _).alloc (Nat.le_refl _) _).drew) (some ⟨we.heap.size, 0, none⟩) 1 (by simp) (by simp [Act.eval]) (slis_one (heap_alloc_new _ _)) (by simp; omega) (by simp; have := H1.out.lo; omega) ?_); (intro v1 w1 h01 h02 h03; obtain ⟨a9, p9, e9⟩ := own_shape h01; subst e9; have GR := Lib.hid (And.intro h01 (And.intro h02 h03)); have S9 := Lib.hid ((H1.out.below (((Below.refl _ _).alloc (Nat.le_refl _) (.cells #[.int .i64 x] 2)).drew)).grown_S h02 (by decide : 0 < 6) H1.out.x0.og (old_kept (((Below.refl _ _).alloc (Nat.le_refl _) (.cells #[.int .i64 x] 2)).drew) HZ1.out) (own_ne H1.out.x0.given HZ1.out (by decide))); obtain ⟨b0, b1, b2, b3, _⟩ := S9.out; have HX := Lib.hid (H1.out.below (((Below.refl _ _).alloc (Nat.le_refl _) (.cells #[.int .i64 x] 2)).drew)); clear h01 h02 h03)))
            all_goals
              show K2 _ _
              refine hMet _ _ ?_
              try simp only [Act.put, List.getElem_toArray, List.getElem_cons_succ, List.getElem_cons_zero, List.setIfInBounds_toArray, List.set_cons_zero, List.set_cons_succ]
              go_meet
              case rel =>
                have B := ((Below.refl we.heap.size we).alloc (Nat.le_refl _) (.cells #[.int .i64 x] 2)).drew
                obtain ⟨o', q1, q2⟩ := HX.out.give0 GR.out.1 GR.out.2.1 GR.out.2.2
                have q3 := q2 a' _ (HB1.out.2.1.below B) (HF1.out.below B.size)
                have q4 := grown_at GR.out.2.1 (old_kept B HB1.out.1) (own_ne HX.out.x0.given (old_kept B HB1.out.1) (by decide))
                have q5 := (set_far NE15.out 0 (.slice a9 (s0.given ++ [x]).length p9)).trans q4
                have e : (s0.given ++ [x]).length = s0.given.length + 1 := by simp
                rw [e] at q1 q3 q5
                rw [← G7.out] at q1
                exact ⟨o', _, Lib.hid ⟨q1, q5, q3.1, q3.2⟩⟩
          · have e7 : (sendE s0.e == 0) = false := by rw [sendE, if_neg h7]; rfl
            have G7 : Hid ((giveS s0 x).given = s0.given) := Lib.hid (if_neg h7)
            clear h7
            go_wp2
            go_meet
            case rel =>
              refine ⟨o, g0, Lib.hid ⟨?_, HB1.out.1, HB1.out.2.1, HF1.out⟩⟩
              rw [G7.out]
              exact H1.out
        case rest =>
          obtain ⟨o', g', HG⟩ := hcut
          rename_i K1 hK1
          refine hK1 _ _ ?_
          clear hK1 H1 HZ1
          obtain ⟨e0, e1, e2, e3, e4, f0, f1, f2, f3, f4⟩ := tenA HG.out.1.e
          obtain ⟨q0, q1, q2, q3, q4, _⟩ := five HG.out.2.1
          go_wp2
          go_meet
          case rel =>
            have R := HG.out.1.setE0 (M := sendM s0.e x) (a := a') (c := c') HG.out.2.2.1 HB1.out.2.2.1 HG.out.2.2.2
            exact Lib.hid ⟨o', giveS s0 x, a', c', g', t0, n0, s1, r1, c1, g1, t1, n1, R, F0.out.give x, (F1.out.grows (giveS_grows s0 x).1 (giveS_grows s0 x).2).later (Nat.le_succ n)⟩
    · have h0' : (wh == 0) = false := by rw [beq_eq_false_iff_ne]; exact h0
      clear h0
      by_cases h1 : wh = 1
      · have h1' : (wh == 1) = true := by rw [beq_iff_eq]; exact h1
        clear h1
        go_upto_region 24 with (fail)
        obtain ⟨qs, y1, y2, y3⟩ := H.out.x0.net
        have hql := netFew y1 F0.out.posts
        have Y1 := Lib.hid y1
        have Y2 := Lib.hid y2
        have Y3 := Lib.hid y3
        have NEN : Hid (bE ≠ bN) := Lib.hid (by have := H.out.lo; omega)
        clear y1 y2 y3
        have KS : ∀ W, Below wd.heap.size wd W → ((W.cell? ⟨bE, 0, none⟩ = some (.int .i64 s0.e.own) ∧ W.cell? ⟨bE, 1, none⟩ = some (.int .i64 s0.e.other) ∧ W.cell? ⟨bE, 2, none⟩ = some (.int .i64 s0.e.first) ∧ W.cell? ⟨bE, 3, none⟩ = some (.slice r0 s0.e.sent.length c0) ∧ W.cell? ⟨bE, 4, none⟩ = some (.int .i64 s0.e.next)) ∧ (W.cell? ⟨bN, 0, none⟩ = some n0 ∧ W.cell? ⟨bN, 1, none⟩ = some n1 ∧ W.frozen? ⟨bN, 0, none⟩ = false ∧ W.frozen? ⟨bN, 1, none⟩ = false)) := fun W hb => by
          have f := tenA (old_kept hb H.out.e)
          exact ⟨⟨f.1, f.2.1, f.2.2.1, f.2.2.2.1, f.2.2.2.2.1⟩, two2 (old_kept hb H.out.n)⟩
        obtain ⟨_, a0, a1, a2, a3⟩ := KS _ (Below.refl _ _)
        obtain ⟨z0, _⟩ := KS _ (Below.refl _ _)
        obtain ⟨z0, z1, z2, z3, z4⟩ := z0
        refine wp_region_noPanic ?_
        go_region_law (first
            | ((try rw [if_pos (by rfl)]); refine wp_call13 _ rfl (.agg (lkA s0.e r0 c0)) (by simp [Act.eval, lkA]) ((outN s0.e r0 c0 _ (H.out.x0.sl.below ((Below.refl _ _).drew)) (by omega)).mono ?_); rintro e w5 ⟨a5, rfl, hsi, hs, hb⟩; refine ⟨_, rfl, ?_⟩; have B5 : Below wd.heap.size wd w5 := ((Below.refl wd.heap.size wd).drew).trans hb; have HX := Lib.hid (And.intro hsi hs); obtain ⟨y0, b0, b1, b2, b3⟩ := KS _ B5; obtain ⟨y0, y1, y2, y3, y4⟩ := y0; obtain ⟨_, d0, d1, d2, d3⟩ := KS _ (B5.alloc B5.size (.cells #[.int .i64 s0.e.own, .int .i64 s0.e.other, .int .i64 s0.e.first, .slice a5 s0.e.sent.length s0.e.sent.length, .int .i64 s0.e.next] 38)); clear hsi hs hb)
            | ((try rw [if_pos (by rfl)]); refine (wp_app32 _ _ rfl w0.heap.size n0 qs (outL s0.e, a5, s0.e.sent.length) (by simp [Act.eval]) (own_below Y2.out (B5.alloc B5.size (.cells #[.int .i64 s0.e.own, .int .i64 s0.e.other, .int .i64 s0.e.first, .slice a5 s0.e.sent.length s0.e.sent.length, .int .i64 s0.e.next] 38))) w5.heap.size (by simp [Act.eval]) (heap_alloc_new _ _) (by omega) (by have q1 := H.out.lo; have q2 := B5.size; simp; omega) ?_); intro v1 w1 h01 h02 h03; obtain ⟨a9, p9, e9⟩ := own_shape h01; subst e9; have GR := Lib.hid (And.intro h01 (And.intro h02 h03)); have BB := Lib.hid (B5.alloc B5.size (.cells #[.int .i64 s0.e.own, .int .i64 s0.e.other, .int .i64 s0.e.first, .slice a5 s0.e.sent.length s0.e.sent.length, .int .i64 s0.e.next] 38)); have S8 := (H.out.below (B5.alloc B5.size (.cells #[.int .i64 s0.e.own, .int .i64 s0.e.other, .int .i64 s0.e.first, .slice a5 s0.e.sent.length s0.e.sent.length, .int .i64 s0.e.next] 38))).grown_N h02 (by decide : 2 < 6) H.out.x0.on; obtain ⟨u0, u1, u2, u3, u4, _⟩ := tenA S8.1; have S9 := Lib.hid (And.intro (And.intro u0 (And.intro u1 (And.intro u2 (And.intro u3 u4)))) S8.2); obtain ⟨e0, e1, e2, e3⟩ := two2 S8.2; clear h01 h02 h03 S8)
            | ((try rw [if_pos (by rfl)]); refine (wp_app32 _ _ rfl w0.heap.size n0 qs (outL s0.e, a5, s0.e.sent.length) (by simp [Act.eval]) (own_below Y2.out ((B5.alloc B5.size (.cells #[.int .i64 s0.e.own, .int .i64 s0.e.other, .int .i64 s0.e.first, .slice a5 s0.e.sent.length s0.e.sent.length, .int .i64 s0.e.next] 38)).drew)) w5.heap.size (by simp [Act.eval]) (heap_alloc_new _ _) (by omega) (by have q1 := H.out.lo; have q2 := B5.size; simp; omega) ?_); intro v1 w1 h01 h02 h03; obtain ⟨a9, p9, e9⟩ := own_shape h01; subst e9; have GR := Lib.hid (And.intro h01 (And.intro h02 h03)); have BB := Lib.hid ((B5.alloc B5.size (.cells #[.int .i64 s0.e.own, .int .i64 s0.e.other, .int .i64 s0.e.first, .slice a5 s0.e.sent.length s0.e.sent.length, .int .i64 s0.e.next] 38)).drew); have S8 := (H.out.below ((B5.alloc B5.size (.cells #[.int .i64 s0.e.own, .int .i64 s0.e.other, .int .i64 s0.e.first, .slice a5 s0.e.sent.length s0.e.sent.length, .int .i64 s0.e.next] 38)).drew)).grown_N h02 (by decide : 2 < 6) H.out.x0.on; obtain ⟨u0, u1, u2, u3, u4, _⟩ := tenA S8.1; have S9 := Lib.hid (And.intro (And.intro u0 (And.intro u1 (And.intro u2 (And.intro u3 u4)))) S8.2); obtain ⟨e0, e1, e2, e3⟩ := two2 S8.2; clear h01 h02 h03 S8))
        all_goals
          show K0 _ _
          refine hMet0 _ _ ?_
          try simp only [Act.put, List.getElem_toArray, List.getElem_cons_succ, List.getElem_cons_zero, List.setIfInBounds_toArray, List.set_cons_zero, List.set_cons_succ]
          go_meet
          case rel =>
            have B := BB.out
            have HY := H.out.below B
            have p3 : SlIs _ a5 (outL s0.e).words ∧ (outL s0.e).words.length ≤ s0.e.sent.length ∧ Free o _ a5 := ⟨HX.out.2.below (by first | exact (Below.refl w5.heap.size w5).alloc (Nat.le_refl _) (.cells #[.int .i64 s0.e.own, .int .i64 s0.e.other, .int .i64 s0.e.first, .slice a5 s0.e.sent.length s0.e.sent.length, .int .i64 s0.e.next] 38) | exact ((Below.refl w5.heap.size w5).alloc (Nat.le_refl _) (.cells #[.int .i64 s0.e.own, .int .i64 s0.e.other, .int .i64 s0.e.first, .slice a5 s0.e.sent.length s0.e.sent.length, .int .i64 s0.e.next] 38)).drew), Nat.le_refl _, H.out.free B HX.out.1.1 (HX.out.1.2.le (by simp))⟩
            obtain ⟨o', q1⟩ := HY.post0 (p := (outL s0.e, a5, s0.e.sent.length)) Y1.out (own_below Y2.out B) (fun z hz => ⟨(Y3.out z hz).1.below B, (Y3.out z hz).2.1, (Y3.out z hz).2.2.below B.size⟩) p3 GR.out.1 GR.out.2.1 GR.out.2.2
            have e : (qs ++ [(outL s0.e, a5, s0.e.sent.length)]).length = qs.length + 1 := by simp
            rw [e] at q1
            exact Lib.hid ⟨o', outS s0, r0, c0, g0, t0, _, s1, r1, c1, g1, t1, n1, q1, F0.out.out, (F1.out.grows (outS_grows s0).1 (outS_grows s0).2).later (Nat.le_succ n)⟩
      · have h1' : (wh == 1) = false := by rw [beq_eq_false_iff_ne]; exact h1
        clear h1
        by_cases h2 : wh = 2
        · have h2' : (wh == 2) = true := by rw [beq_iff_eq]; exact h2
          clear h2
          obtain ⟨qs, y1, y2, y3⟩ := H.out.x1.net
          have hql := netFew y1 F1.out.posts
          have Y1 := Lib.hid y1
          have Y2 := Lib.hid y2
          have Y3 := Lib.hid y3
          clear y1 y2 y3
          obtain ⟨aq, pq, eq⟩ := own_shape Y2.out
          subst eq
          have f := two2 H.out.n
          obtain ⟨m0, m1, _, _⟩ := f
          by_cases hx0 : 0 ≤ x
          · obtain ⟨m, rfl⟩ := Int.eq_ofNat_of_zero_le hx0
            by_cases hm : m < qs.length
            · go_upto_region 26 with (fail)
              go_cut [106] from 94 to 161 (fun v wx => v = .bool true ∧ Hid (Below wd.heap.size wd wx))
              case first =>
                rename_i J1 K2 hJ hMet
                go_quiet (fail)
                show K2 _ _
                refine hMet _ _ ?_
                try simp only [Act.put, List.getElem_toArray, List.getElem_cons_succ, List.getElem_cons_zero, List.setIfInBounds_toArray, List.set_cons_zero, List.set_cons_succ]
                go_meet
                case rel =>
                  refine ⟨?_, Lib.hid (below_drewN (Below.refl _ _) _)⟩
                  first
                    | rfl
                    | (congr 1; simp; omega)
              case rest =>
                obtain ⟨rfl, HB⟩ := hcut
                rename_i K1 hK1
                refine hK1 _ _ ?_
                clear hK1
                rename World => we
                have H1 := Lib.hid (H.out.below HB.out)
                have HZ1 := Lib.hid (old_kept HB.out HZ.out)
                obtain ⟨g, cq, eq, hgl⟩ := own_some Y2.out (by omega)
                cases eq
                have pc5 := pkt_cells Y2.out hm
                have hpm : qs[m].1 ∈ s1.net := by rw [← Y1.out]; exact List.mem_map.2 ⟨_, List.getElem_mem hm, rfl⟩
                have hp3 := Y3.out _ (List.getElem_mem hm)
                generalize qs[m] = pk at *
                obtain ⟨p, pa, pc⟩ := pk
                dsimp only at pc5 hpm hp3
                have hp8 := (F1.out.net p hpm).2.2.2
                have FC := Lib.hid (F0.out.come F1.out hpm)
                obtain ⟨M, T, hMT⟩ : ∃ M T, inL s0.e p = (M, T) := ⟨_, _, rfl⟩
                have eI : inS s0 p = { s0 with e := M, told := s0.told ++ T } := by unfold inS; rw [hMT]
                have hTl : (s0.told ++ T).length ≤ n := by
                  have q1 := (FC.out.test).1
                  rw [eI] at q1
                  exact Nat.le_trans q1 F1.out.few
                have FO := Lib.hid (F1.out.grows (inS_grows s0 p).1 (inS_grows s0 p).2)
                rw [eI] at FC FO
                have HMT := Lib.hid hMT
                have HP := Lib.hid (And.intro (hp3.1.below HB.out) hp3.2.1)
                have PC := Lib.hid pc5
                have rf := right_facts F0.out.right
                have hf := rf.1
                have hn2 := rf.2.1
                have hro : Old we r0 := fun b off e => (H1.out.x0.fr b off e).1
                have HRO := Lib.hid hro
                have hq1 : p.words.length ≤ 9223372036854775807 := by omega
                have hq2 : s0.e.sent.length ≤ 100 := by omega
                clear pc5 hp3 hMT eI hro rf hpm
                have KS : ∀ W, Below we.heap.size we W → (W.cell? ⟨bE, 0, none⟩ = some (.int .i64 s0.e.own) ∧ W.cell? ⟨bE, 1, none⟩ = some (.int .i64 s0.e.other) ∧ W.cell? ⟨bE, 2, none⟩ = some (.int .i64 s0.e.first) ∧ W.cell? ⟨bE, 3, none⟩ = some (.slice r0 s0.e.sent.length c0) ∧ W.cell? ⟨bE, 4, none⟩ = some (.int .i64 s0.e.next) ∧ W.cell? ⟨bN, 1, none⟩ = some (.slice (some ⟨g, 0, none⟩) qs.length pq) ∧ W.cell? ⟨b13, 2, none⟩ = some (.int .i64 m) ∧ W.cell? ⟨g, m * 5, none⟩ = some (.int .i64 p.fr) ∧ W.cell? ⟨g, m * 5 + 1, none⟩ = some (.int .i64 p.to) ∧ W.cell? ⟨g, m * 5 + 2, none⟩ = some (.int .i64 p.place) ∧ W.cell? ⟨g, m * 5 + 3, none⟩ = some (.slice pa p.words.length pc) ∧ W.cell? ⟨g, m * 5 + 4, none⟩ = some (.int .i64 p.wait) ∧ Hid (Below we.heap.size we W)) := fun W hb => by
                  have f := tenA (old_kept hb H1.out.e)
                  have h := PC.out
                  have hg1 : ∀ j, W.cell? ⟨g, j, none⟩ = wd.cell? ⟨g, j, none⟩ := fun j => (hb.cell (show g < _ from Nat.lt_of_lt_of_le hgl HB.out.size)).trans (HB.out.cell (show g < _ from hgl))
                  exact ⟨f.1, f.2.1, f.2.2.1, f.2.2.2.1, f.2.2.2.2.1, (two2 (old_kept hb H1.out.n)).2.1, (three3 (old_kept hb HZ1.out)).2.2, (hg1 _).trans h.1, (hg1 _).trans h.2.1, (hg1 _).trans h.2.2.1, (hg1 _).trans h.2.2.2.1, (hg1 _).trans h.2.2.2.2, Lib.hid hb⟩
                have W1 : IntKind.i64.wrap 1 = 1 := by decide
                go_upto_region 27 with (fail)
                go_cut [17, 18] from 107 to 161 (fun v17 v18 wc => ∃ b17 a6 c6 ta, v17 = .pointer (some ⟨b17, 0, none⟩) ∧ v18 = .slice ta T.length T.length ∧ Hid (NewBox we wc b17 M a6 c6 ∧ From r0 a6 ∧ SlIs wc ta T ∧ Since' we.heap.size ta))
                case first =>
                  rename_i J1 K2 hJ hMet
                  go_region_held3 (fun W => W.cell? ⟨bE, 0, none⟩ = some (.int .i64 s0.e.own) ∧ W.cell? ⟨bE, 1, none⟩ = some (.int .i64 s0.e.other) ∧ W.cell? ⟨bE, 2, none⟩ = some (.int .i64 s0.e.first) ∧ W.cell? ⟨bE, 3, none⟩ = some (.slice r0 s0.e.sent.length c0) ∧ W.cell? ⟨bE, 4, none⟩ = some (.int .i64 s0.e.next) ∧ W.cell? ⟨bN, 1, none⟩ = some (.slice (some ⟨g, 0, none⟩) qs.length pq) ∧ W.cell? ⟨b13, 2, none⟩ = some (.int .i64 m) ∧ W.cell? ⟨g, m * 5, none⟩ = some (.int .i64 p.fr) ∧ W.cell? ⟨g, m * 5 + 1, none⟩ = some (.int .i64 p.to) ∧ W.cell? ⟨g, m * 5 + 2, none⟩ = some (.int .i64 p.place) ∧ W.cell? ⟨g, m * 5 + 3, none⟩ = some (.slice pa p.words.length pc) ∧ W.cell? ⟨g, m * 5 + 4, none⟩ = some (.int .i64 p.wait) ∧ Hid (Below we.heap.size we W))
                    (first
                      | with_reducible exact KS _ (below_chain B6 (Nat.le_refl _) _ _ _ _ _)
                      | with_reducible exact KS _ B6
                      | with_reducible exact KS _ (B6.alloc B6.size _)
                      | with_reducible exact KS _ ((Below.refl _ _).alloc (Nat.le_refl _) _).drew
                      | with_reducible exact KS _ (Below.refl _ _).drew)
                    (first
                      | (go_at_call 14; have PB := getP (by assumption); refine (inX s0.e p r0 pa c0 pc _ (H1.out.x0.sl.below PB) (HP.out.1.below PB) hq1 hq2 H1.out.x0.cp HP.out.2 hf hn2 M T HMT.out).mono ?_; rintro e w6 ⟨a6, c6, ta, rfl, hfr, hsi, hs, hc, ht, hb⟩; have B6 := PB.trans (hb.mono PB.size); have HX := Lib.hid (And.intro hfr (And.intro (hsi.mono PB.size) (And.intro hs (And.intro hc ht)))); have Y6 := five' (heap_alloc_new w6 (.cells #[.int .i64 0, .int .i64 0, .int .i64 0, .slice none 0 0, .int .i64 0] 26)); obtain ⟨y0, y1, y2, y3, y4, x0, x1, x2, x3, x4⟩ := Y6; (try (have z6' := new_kept_d hb; have z6 : w6.heap[we.heap.size]? = some (.cells #[.int .i64 0, .int .i64 0, .int .i64 0, .slice none 0 0, .int .i64 0] 26) := z6'; clear z6'; obtain ⟨n0, n1, n2, n3, n4, o0, o1, o2, o3, o4⟩ := five' z6; have Z6 := Lib.hid z6; have ap : Apart we.heap.size ta := hsi.apart (by simp); clear z6)); clear hfr hsi hs hc ht hb PB))
                  all_goals
                    show K2 _ _
                    refine hMet _ _ ?_
                    try simp only [Act.put, List.getElem_toArray, List.getElem_cons_succ, List.getElem_cons_zero, List.setIfInBounds_toArray, List.set_cons_zero, List.set_cons_succ]
                    go_meet
                    case rel =>
                      first
                        | (have NB := newbox_set (M := M) (a := a6) (c := c6) B6 (Nat.le_refl _) Z6.out HX.out.2.2.1 HX.out.2.2.2.1 (HX.out.1.old (Old.le HRO.out B6.size)) (HX.out.1.apart (Old.apart HRO.out (Nat.le_refl _)))
                           with_reducible exact ⟨_, a6, c6, ta, rfl, rfl, Lib.hid ⟨NB, HX.out.1, HX.out.2.2.2.2.set5 ap _ _ _ _ _, HX.out.2.1⟩⟩)
                        | (have NB := newbox_allocO (M := M) (a := a6) (c := c6) B6 HX.out.2.2.1 HX.out.2.2.2.1 (HX.out.1.old (Old.le HRO.out B6.size))
                           exact ⟨_, a6, c6, ta, rfl, rfl, Lib.hid ⟨NB, HX.out.1, slis_allocO HX.out.2.2.2.2, HX.out.2.1⟩⟩)
                case rest =>
                  obtain ⟨b17, a6, c6, ta, rfl, rfl, HN⟩ := hcut
                  rename_i K1 hK1
                  refine hK1 _ _ ?_
                  clear hK1 KS
                  rename World => wf
                  have H2 := Lib.hid (H1.out.below HN.out.1.1)
                  have FR : Free o wf a6 := (H1.out.x0.fr.below HN.out.1.1.size).from HN.out.2.1
                  have H3 := Lib.hid (H2.out.setE0 (M := M) (a := a6) (c := c6) HN.out.1.2.2.2.1 HN.out.1.2.2.2.2.1 FR)
                  have ap : Apart bE ta := HN.out.2.2.2.apart (by have := H1.out.lo; omega)
                  have TA : Hid (SlIs (((((wf.setCell ⟨bE, 0, none⟩ (.int .i64 M.own)).setCell ⟨bE, 1, none⟩ (.int .i64 M.other)).setCell ⟨bE, 2, none⟩ (.int .i64 M.first)).setCell ⟨bE, 3, none⟩ (.slice a6 M.sent.length c6)).setCell ⟨bE, 4, none⟩ (.int .i64 M.next)) ta T) := Lib.hid (((((HN.out.2.2.1.set1 ap _ _).set1 ap _ _).set1 ap _ _).set1 ap _ _).set1 ap _ _)
                  obtain ⟨e0, e1, e2, e3, e4, f0, f1, f2, f3, f4⟩ := tenA H2.out.e
                  obtain ⟨q0, q1, q2, q3, q4, _⟩ := five HN.out.1.2.2.1
                  go_upto_region 29 with (fail)
                  generalize (((((wf.setCell ⟨bE, 0, none⟩ (.int .i64 M.own)).setCell ⟨bE, 1, none⟩ (.int .i64 M.other)).setCell ⟨bE, 2, none⟩ (.int .i64 M.first)).setCell ⟨bE, 3, none⟩ (.slice a6 M.sent.length c6)).setCell ⟨bE, 4, none⟩ (.int .i64 M.next)) = wg at *
                  clear e0 e1 e2 e3 e4 f0 f1 f2 f3 f4 q0 q1 q2 q3 q4
                  obtain ⟨m4, m5, m6, m7⟩ := two2 H3.out.t
                  have hbase : w0.heap.size ≤ wg.heap.size := by have := H3.out.lo; omega
                  go_wp2_with (first
                    | (at_builtin; (refine wl_app24 rfl _ _ rfl w0.heap.size t0 s0.told T rfl H3.out.x0.told ta rfl TA.out (by rw [List.length_append] at hTl; omega) hbase ?_); intro v1 w1 h01 h02 h03; obtain ⟨a9, p9, e9⟩ := own_shape h01; subst e9; have GR := Lib.hid (And.intro h01 (And.intro h02 h03)); have S8 := (H3.out.grown_blocks h02 (by decide : 1 < 6) H3.out.x0.ot).2.2.1; obtain ⟨u0, u1, u2, u3⟩ := two2 S8; clear h01 h02 h03 S8))
                  go_meet
                  case rel =>
                    obtain ⟨o', q1, _⟩ := H3.out.tell0 GR.out.1 GR.out.2.1 GR.out.2.2
                    have e : (s0.told ++ T).length = s0.told.length + T.length := by simp
                    dsimp only at q1
                    rw [e] at q1
                    exact Lib.hid ⟨o', { s0 with e := M, told := s0.told ++ T }, a6, c6, g0, _, n0, s1, r1, c1, g1, t1, _, q1, (FC.out.later (Nat.le_succ n)), (FO.out.later (Nat.le_succ n))⟩
            · go_upto_region 26 with (fail)
              go_quiet (fail)
              go_wp2
              go_meet
              case rel => exact Lib.hid ⟨o, s0, r0, c0, g0, t0, n0, s1, r1, c1, g1, t1, _, (H.out.below (below_drewN (Below.refl _ _) _)), (F0.out.later (Nat.le_succ n)), (F1.out.later (Nat.le_succ n))⟩
          · go_upto_region 26 with (fail)
            go_quiet (fail)
            go_wp2
            go_meet
            case rel => exact Lib.hid ⟨o, s0, r0, c0, g0, t0, n0, s1, r1, c1, g1, t1, _, (H.out.below (below_drewN (Below.refl _ _) _)), (F0.out.later (Nat.le_succ n)), (F1.out.later (Nat.le_succ n))⟩
        · have h2' : (wh == 2) = false := by rw [beq_eq_false_iff_ne]; exact h2
          clear h2
          go_wp2
          go_meet
          case rel => exact Lib.hid ⟨o, s0, r0, c0, g0, t0, n0, s1, r1, c1, g1, t1, n1, H.out, (F0.out.later (Nat.le_succ n)), (F1.out.later (Nat.le_succ n))⟩
set_option maxRecDepth 20000 in
set_option maxHeartbeats 40000000 in
theorem act1 (w0 wd : World) (bE bG bT bN n b13 : Nat) (en wh x : Int) (hn60 : n < 60) (HW0 : Hid (OrdAt w0 bE bG bT bN n wd)) (x2 : wd.cell? ⟨b13, 2, none⟩ = some (.int .i64 x)) (HZ : Hid (wd.heap[b13]? = some (.cells #[.int .i64 en, .int .i64 wh, .int .i64 x] 35)))
    (u0 u1 u2 u3 u4 u5 u6 u7 u15 u16 u17 u18 u19 u20 u21 u22 u23 u24 u25 u26 u27 u28 u29 u30 u31 u32 u33 u34 u35 u36 u37 u38 u39 u40 u41 u42 u43 u44 u45 u46 u47 u48 u49 u50 u51 u52 u54 u55 u56 u57 u58 u59 u60 u61 u62 u63 u64 u65 u66 u67 u68 u69 u70 u71 u72 u73 u74 u75 u76 u77 u78 u79 u80 u81 u82 u83 u84 u85 u86 u87 u88 u89 u90 u91 u92 u93 u94 u95 u96 u97 u98 u99 u100 u101 u102 u103 u104 u105 u106 u107 u108 u109 u110 u111 u112 u113 u114 u115 u116 u117 u118 u119 u120 u121 u122 u123 u124 u125 u126 u127 u128 u129 u130 u131 u132 u133 u134 u135 u136 u137 u138 u139 u140 u141 u142 u143 u144 u145 u146 u147 u148 u149 u150 u151 u152 u153 u154 u155 u156 u157 u158 u159 u160 u161 u162 : Value) (J0 K0 : Act → World → Prop) (Q' : Exit → Act → World → Prop)
    (hJ0 : ∀ a' w', (∃ v15 v16 v17 v18 v39 v40 v41 v42 v43 v44 v45 v46 v47 v48 v49 v50 v51 v52 v53 v54 v55 v56 v57 v58 v59 v60 v61 v62 v63 v64 v65 v66 v67 v68 v69 v70 v71 v72 v73 v74 v75 v76 v77 v78 v79 v80 v81 v82 v83 v84 v85 v86 v87 v88 v89 v90 v91 v92 v93 v94 v95 v96 v97 v98 v99 v100 v101 v102 v103 v104 v105 v106 v107 v108 v109 v110 v111 v112 v113 v114 v115 v116 v117 v118 v119 v120 v121 v122 v123 v124 v125 v126 v127 v128 v129 v130 v131 v132 v133 v134 v135 v136 v137 v138 v139 v140 v141 v142 v143 v144 v145 v146 v147 v148 v149 v150 v151 v152 v153 v154 v155 v156 v157 v158 v159 v160 v161 : Value, Hid (OrdAt w0 bE bG bT bN (n + 1) w') ∧ a' = ⟨#[u0, u1, u2, u3, u4, u5, u6, u7, .pointer (some ⟨bE, 0, none⟩), .pointer (some ⟨bG, 0, none⟩), .pointer (some ⟨bT, 0, none⟩), .pointer (some ⟨bN, 0, none⟩), .int .i64 n, .pointer (some ⟨b13, 0, none⟩), .int .i64 1, v15, v16, v17, v18, u19, u20, u21, u22, u23, u24, u25, u26, u27, u28, u29, u30, u31, u32, u33, u34, u35, u36, u37, u38, v39, v40, v41, v42, v43, v44, v45, v46, v47, v48, v49, v50, v51, v52, v53, v54, v55, v56, v57, v58, v59, v60, v61, v62, v63, v64, v65, v66, v67, v68, v69, v70, v71, v72, v73, v74, v75, v76, v77, v78, v79, v80, v81, v82, v83, v84, v85, v86, v87, v88, v89, v90, v91, v92, v93, v94, v95, v96, v97, v98, v99, v100, v101, v102, v103, v104, v105, v106, v107, v108, v109, v110, v111, v112, v113, v114, v115, v116, v117, v118, v119, v120, v121, v122, v123, v124, v125, v126, v127, v128, v129, v130, v131, v132, v133, v134, v135, v136, v137, v138, v139, v140, v141, v142, v143, v144, v145, v146, v147, v148, v149, v150, v151, v152, v153, v154, v155, v156, v157, v158, v159, v160, v161, u162], []⟩) → J0 a' w') (hMet0 : ∀ a' w', Met J0 a' w' → K0 a' w') :
    Code.wp Try.prog sw (Exit.then K0 Q') ⟨#[u0, u1, u2, u3, u4, u5, u6, u7, .pointer (some ⟨bE, 0, none⟩), .pointer (some ⟨bG, 0, none⟩), .pointer (some ⟨bT, 0, none⟩), .pointer (some ⟨bN, 0, none⟩), .int .i64 n, .pointer (some ⟨b13, 0, none⟩), .int .i64 1, u15, u16, u17, u18, u19, u20, u21, u22, u23, u24, u25, u26, u27, u28, u29, u30, u31, u32, u33, u34, u35, u36, u37, u38, u39, u40, u41, u42, u43, u44, u45, u46, u47, u48, u49, u50, u51, u52, .int .i64 wh, u54, u55, u56, u57, u58, u59, u60, u61, u62, u63, u64, u65, u66, u67, u68, u69, u70, u71, u72, u73, u74, u75, u76, u77, u78, u79, u80, u81, u82, u83, u84, u85, u86, u87, u88, u89, u90, u91, u92, u93, u94, u95, u96, u97, u98, u99, u100, u101, u102, u103, u104, u105, u106, u107, u108, u109, u110, u111, u112, u113, u114, u115, u116, u117, u118, u119, u120, u121, u122, u123, u124, u125, u126, u127, u128, u129, u130, u131, u132, u133, u134, u135, u136, u137, u138, u139, u140, u141, u142, u143, u144, u145, u146, u147, u148, u149, u150, u151, u152, u153, u154, u155, u156, u157, u158, u159, u160, u161, u162], []⟩ wd := by
  conv => arg 2; whnf
  obtain ⟨o, s0, r0, c0, g0, t0, n0, s1, r1, c1, g1, t1, n1, H, F0, F1⟩ := HW0.out
  have H := Lib.hid H
  have F0 := Lib.hid F0
  have F1 := Lib.hid F1
  clear HW0
  have l0 : s0.e.sent.length ≤ 8 := (right_facts F0.out.right).2.2
  have l1 : s1.e.sent.length ≤ 8 := (right_facts F1.out.right).2.2
  have ng0 : s0.given.length ≤ n := F0.out.few
  have ng1 : s1.given.length ≤ n := F1.out.few
  · by_cases h0 : wh = 0
    · have h0' : (wh == 0) = true := by rw [beq_iff_eq]; exact h0
      clear h0
      go_upto_region 19 with (fail)
      have KS : ∀ W, Below wd.heap.size wd W → (W.cell? ⟨bE, 5, none⟩ = some (.int .i64 s1.e.own) ∧ W.cell? ⟨bE, 6, none⟩ = some (.int .i64 s1.e.other) ∧ W.cell? ⟨bE, 7, none⟩ = some (.int .i64 s1.e.first) ∧ W.cell? ⟨bE, 8, none⟩ = some (.slice r1 s1.e.sent.length c1) ∧ W.cell? ⟨bE, 9, none⟩ = some (.int .i64 s1.e.next) ∧ W.cell? ⟨b13, 2, none⟩ = some (.int .i64 x) ∧ Hid (Below wd.heap.size wd W)) := fun W hb => by
        have f := tenB (old_kept hb H.out.e)
        exact ⟨f.1, f.2.1, f.2.2.1, f.2.2.2.1, f.2.2.2.2.1, (three3 (old_kept hb HZ.out)).2.2, Lib.hid hb⟩
      have HNE : Hid ((sendM s1.e x).sent ≠ []) := Lib.hid (sendM_ne _ _)
      have hro : Old wd r1 := fun b off e => (H.out.x1.fr b off e).1
      have HRO := Lib.hid hro
      clear hro
      go_cut [15, 16] from 56 to 161 (fun v15 v16 wc => ∃ b15 a' c', v15 = .pointer (some ⟨b15, 0, none⟩) ∧ v16 = .int .i64 (sendE s1.e) ∧ Hid (NewBox wd wc b15 (sendM s1.e x) a' c' ∧ Free o wc a'))
      case first =>
        rename_i J1 K2 hJ hMet
        go_region_held3 (fun W => W.cell? ⟨bE, 5, none⟩ = some (.int .i64 s1.e.own) ∧ W.cell? ⟨bE, 6, none⟩ = some (.int .i64 s1.e.other) ∧ W.cell? ⟨bE, 7, none⟩ = some (.int .i64 s1.e.first) ∧ W.cell? ⟨bE, 8, none⟩ = some (.slice r1 s1.e.sent.length c1) ∧ W.cell? ⟨bE, 9, none⟩ = some (.int .i64 s1.e.next) ∧ W.cell? ⟨b13, 2, none⟩ = some (.int .i64 x) ∧ Hid (Below wd.heap.size wd W))
          (first
            | with_reducible exact KS _ (below_chain B5 (Nat.le_refl _) _ _ _ _ _)
            | with_reducible exact KS _ B5
            | with_reducible exact KS _ (B5.alloc B5.size _)
            | with_reducible exact KS _ ((Below.refl _ _).alloc (Nat.le_refl _) _).drew
            | with_reducible exact KS _ (Below.refl _ _).drew)
          (first
            | (go_at_call 12; have PB := getB' (by assumption); refine (sendAnyX s1.e r1 c1 x _ (H.out.x1.sl.below PB) (by omega) H.out.x1.cp).mono ?_; rintro e w5 ⟨a', cap', rfl, hsi, hs, hc, hb⟩; have B5 := PB.trans (hb.mono PB.size); have HX := Lib.hid (And.intro (since_mono hsi PB.size) (And.intro hs hc)); have Y5 := five' (heap_alloc_new w5 (.cells #[.int .i64 0, .int .i64 0, .int .i64 0, .slice none 0 0, .int .i64 0] 26)); obtain ⟨y0, y1, y2, y3, y4, x0, x1, x2, x3, x4⟩ := Y5; (try (have z5' := new_kept_d hb; have z5 : w5.heap[wd.heap.size]? = some (.cells #[.int .i64 0, .int .i64 0, .int .i64 0, .slice none 0 0, .int .i64 0] 26) := z5'; clear z5'; obtain ⟨n0, n1, n2, n3, n4, o0, o1, o2, o3, o4⟩ := five' z5; have Z5 := Lib.hid z5; have ap : Apart wd.heap.size a' := apart_or hsi (by simp) (Old.apart HRO.out (Nat.le_refl _)); clear z5)); clear hsi hs hc hb PB))
        all_goals
          show K2 _ _
          refine hMet _ _ ?_
          try simp only [Act.put, List.getElem_toArray, List.getElem_cons_succ, List.getElem_cons_zero, List.setIfInBounds_toArray, List.set_cons_zero, List.set_cons_succ]
          go_meet
          case rel =>
            first
              | (have NB := newbox_set (M := sendM s1.e x) (a := a') (c := cap') B5 (Nat.le_refl _) Z5.out HX.out.2.1 HX.out.2.2 (HX.out.2.1.old HNE.out) ap
                 have FR := free_or H.out NB.1 H.out.x1.fr HX.out.1 NB.2.2.2.2.2
                 with_reducible exact ⟨_, a', cap', rfl, rfl, Lib.hid ⟨NB, FR⟩⟩)
              | (have NB := newbox_allocO (M := sendM s1.e x) (a := a') (c := cap') B5 HX.out.2.1 HX.out.2.2 (HX.out.2.1.old HNE.out)
                 have FR := free_or H.out NB.1 H.out.x1.fr HX.out.1 NB.2.2.2.2.2
                 exact ⟨_, a', cap', rfl, rfl, Lib.hid ⟨NB, FR⟩⟩)
      case rest =>
        obtain ⟨b15, a', c', rfl, rfl, HN⟩ := hcut
        rename_i K1 hK1
        refine hK1 _ _ ?_
        clear hK1 KS HRO
        have H1 := Lib.hid (H.out.below HN.out.1.1)
        have HZ1 := Lib.hid (old_kept HN.out.1.1 HZ.out)
        have NE15 : Hid (b15 ≠ bG) := Lib.hid (by
          intro e
          have q := HN.out.1.2.2.1
          rw [e, old_kept HN.out.1.1 H.out.g] at q
          cases q)
        have NE13 : Hid (b13 ≠ bG) := Lib.hid (by
          intro e
          have q := HZ.out
          rw [e, H.out.g] at q
          cases q)
        have HF1 := Lib.hid HN.out.2
        have HB1 := Lib.hid HN.out.1.2.2
        clear H HZ HN x2
        rename World => we
        go_upto_if 66 with (fail)
        go_cut [] from 65 to 161 (fun wx => ∃ o' g', Hid (Ord w0 bE bG bT bN o' s0 r0 c0 g0 t0 n0 { s1 with given := (giveS s1 x).given } r1 c1 g' t1 n1 wx ∧ wx.heap[b15]? = some (lkO (sendM s1.e x) a' c') ∧ SlIs wx a' (sendM s1.e x).sent ∧ Free o' wx a'))
        case first =>
          rename_i J1 K2 hJ hMet
          by_cases h7 : s1.e.sent.length ≤ 7
          · have e7 : (sendE s1.e == 0) = true := by rw [sendE, if_pos h7]; rfl
            have G7 : Hid ((giveS s1 x).given = s1.given ++ [x]) := Lib.hid (if_pos h7)
            clear h7
            go_upto_region 21 with (fail)
            have KS : ∀ W, Below we.heap.size we W → (W.cell? ⟨bG, 0, none⟩ = some g0 ∧ W.cell? ⟨bG, 1, none⟩ = some g1 ∧ W.frozen? ⟨bG, 0, none⟩ = false ∧ W.frozen? ⟨bG, 1, none⟩ = false ∧ W.cell? ⟨b13, 2, none⟩ = some (.int .i64 x)) := fun W hb => by
              have f := two2 (old_kept hb H1.out.g)
              exact ⟨f.1, f.2.1, f.2.2.1, f.2.2.2, (three3 (old_kept hb HZ1.out)).2.2⟩
            obtain ⟨a0, a1, a2, a3, a4⟩ := KS _ (Below.refl _ _)
            obtain ⟨d0, d1, d2, d3, d4⟩ := KS _ ((Below.refl _ _).alloc (Nat.le_refl _) (.cells #[.int .i64 x] 2))
            refine wp_region_noPanic ?_
            go_region_law (first
                | ((try rw [if_pos (by rfl)]); (refine wp_app24c _ _ rfl w0.heap.size g1 s1.given [x] (by simp [Act.eval]) (own_below H1.out.x1.given ((Below.refl _ _).alloc (Nat.le_refl _) _).drew) (some ⟨we.heap.size, 0, none⟩) 1 (by simp) (by simp [Act.eval]) (slis_one (heap_alloc_new _ _)) (by simp; omega) (by simp; have := H1.out.lo; omega) ?_); (intro v1 w1 h01 h02 h03; obtain ⟨a9, p9, e9⟩ := own_shape h01; subst e9; have GR := Lib.hid (And.intro h01 (And.intro h02 h03)); have S9 := Lib.hid ((H1.out.below (((Below.refl _ _).alloc (Nat.le_refl _) (.cells #[.int .i64 x] 2)).drew)).grown_S h02 (by decide : 3 < 6) H1.out.x1.og (old_kept (((Below.refl _ _).alloc (Nat.le_refl _) (.cells #[.int .i64 x] 2)).drew) HZ1.out) (own_ne H1.out.x1.given HZ1.out (by decide))); obtain ⟨b0, b1, b2, b3, _⟩ := S9.out; have HX := Lib.hid (H1.out.below (((Below.refl _ _).alloc (Nat.le_refl _) (.cells #[.int .i64 x] 2)).drew)); clear h01 h02 h03)))
            all_goals
              show K2 _ _
              refine hMet _ _ ?_
              try simp only [Act.put, List.getElem_toArray, List.getElem_cons_succ, List.getElem_cons_zero, List.setIfInBounds_toArray, List.set_cons_zero, List.set_cons_succ]
              go_meet
              case rel =>
                have B := ((Below.refl we.heap.size we).alloc (Nat.le_refl _) (.cells #[.int .i64 x] 2)).drew
                obtain ⟨o', q1, q2⟩ := HX.out.give1 GR.out.1 GR.out.2.1 GR.out.2.2
                have q3 := q2 a' _ (HB1.out.2.1.below B) (HF1.out.below B.size)
                have q4 := grown_at GR.out.2.1 (old_kept B HB1.out.1) (own_ne HX.out.x1.given (old_kept B HB1.out.1) (by decide))
                have q5 := (set_far NE15.out 1 (.slice a9 (s1.given ++ [x]).length p9)).trans q4
                have e : (s1.given ++ [x]).length = s1.given.length + 1 := by simp
                rw [e] at q1 q3 q5
                rw [← G7.out] at q1
                exact ⟨o', _, Lib.hid ⟨q1, q5, q3.1, q3.2⟩⟩
          · have e7 : (sendE s1.e == 0) = false := by rw [sendE, if_neg h7]; rfl
            have G7 : Hid ((giveS s1 x).given = s1.given) := Lib.hid (if_neg h7)
            clear h7
            go_wp2
            go_meet
            case rel =>
              refine ⟨o, g1, Lib.hid ⟨?_, HB1.out.1, HB1.out.2.1, HF1.out⟩⟩
              rw [G7.out]
              exact H1.out
        case rest =>
          obtain ⟨o', g', HG⟩ := hcut
          rename_i K1 hK1
          refine hK1 _ _ ?_
          clear hK1 H1 HZ1
          obtain ⟨e0, e1, e2, e3, e4, f0, f1, f2, f3, f4⟩ := tenB HG.out.1.e
          obtain ⟨q0, q1, q2, q3, q4, _⟩ := five HG.out.2.1
          go_wp2
          go_meet
          case rel =>
            have R := HG.out.1.setE1 (M := sendM s1.e x) (a := a') (c := c') HG.out.2.2.1 HB1.out.2.2.1 HG.out.2.2.2
            exact Lib.hid ⟨o', s0, r0, c0, g0, t0, n0, giveS s1 x, a', c', g', t1, n1, R, (F0.out.grows (giveS_grows s1 x).1 (giveS_grows s1 x).2).later (Nat.le_succ n), F1.out.give x⟩
    · have h0' : (wh == 0) = false := by rw [beq_eq_false_iff_ne]; exact h0
      clear h0
      by_cases h1 : wh = 1
      · have h1' : (wh == 1) = true := by rw [beq_iff_eq]; exact h1
        clear h1
        go_upto_region 24 with (fail)
        obtain ⟨qs, y1, y2, y3⟩ := H.out.x1.net
        have hql := netFew y1 F1.out.posts
        have Y1 := Lib.hid y1
        have Y2 := Lib.hid y2
        have Y3 := Lib.hid y3
        have NEN : Hid (bE ≠ bN) := Lib.hid (by have := H.out.lo; omega)
        clear y1 y2 y3
        have KS : ∀ W, Below wd.heap.size wd W → ((W.cell? ⟨bE, 5, none⟩ = some (.int .i64 s1.e.own) ∧ W.cell? ⟨bE, 6, none⟩ = some (.int .i64 s1.e.other) ∧ W.cell? ⟨bE, 7, none⟩ = some (.int .i64 s1.e.first) ∧ W.cell? ⟨bE, 8, none⟩ = some (.slice r1 s1.e.sent.length c1) ∧ W.cell? ⟨bE, 9, none⟩ = some (.int .i64 s1.e.next)) ∧ (W.cell? ⟨bN, 0, none⟩ = some n0 ∧ W.cell? ⟨bN, 1, none⟩ = some n1 ∧ W.frozen? ⟨bN, 0, none⟩ = false ∧ W.frozen? ⟨bN, 1, none⟩ = false)) := fun W hb => by
          have f := tenB (old_kept hb H.out.e)
          exact ⟨⟨f.1, f.2.1, f.2.2.1, f.2.2.2.1, f.2.2.2.2.1⟩, two2 (old_kept hb H.out.n)⟩
        obtain ⟨_, a0, a1, a2, a3⟩ := KS _ (Below.refl _ _)
        obtain ⟨z0, _⟩ := KS _ (Below.refl _ _)
        obtain ⟨z0, z1, z2, z3, z4⟩ := z0
        refine wp_region_noPanic ?_
        go_region_law (first
            | ((try rw [if_pos (by rfl)]); refine wp_call13 _ rfl (.agg (lkA s1.e r1 c1)) (by simp [Act.eval, lkA]) ((outN s1.e r1 c1 _ (H.out.x1.sl.below ((Below.refl _ _).drew)) (by omega)).mono ?_); rintro e w5 ⟨a5, rfl, hsi, hs, hb⟩; refine ⟨_, rfl, ?_⟩; have B5 : Below wd.heap.size wd w5 := ((Below.refl wd.heap.size wd).drew).trans hb; have HX := Lib.hid (And.intro hsi hs); obtain ⟨y0, b0, b1, b2, b3⟩ := KS _ B5; obtain ⟨y0, y1, y2, y3, y4⟩ := y0; obtain ⟨_, d0, d1, d2, d3⟩ := KS _ (B5.alloc B5.size (.cells #[.int .i64 s1.e.own, .int .i64 s1.e.other, .int .i64 s1.e.first, .slice a5 s1.e.sent.length s1.e.sent.length, .int .i64 s1.e.next] 38)); clear hsi hs hb)
            | ((try rw [if_pos (by rfl)]); refine (wp_app32 _ _ rfl w0.heap.size n1 qs (outL s1.e, a5, s1.e.sent.length) (by simp [Act.eval]) (own_below Y2.out (B5.alloc B5.size (.cells #[.int .i64 s1.e.own, .int .i64 s1.e.other, .int .i64 s1.e.first, .slice a5 s1.e.sent.length s1.e.sent.length, .int .i64 s1.e.next] 38))) w5.heap.size (by simp [Act.eval]) (heap_alloc_new _ _) (by omega) (by have q1 := H.out.lo; have q2 := B5.size; simp; omega) ?_); intro v1 w1 h01 h02 h03; obtain ⟨a9, p9, e9⟩ := own_shape h01; subst e9; have GR := Lib.hid (And.intro h01 (And.intro h02 h03)); have BB := Lib.hid (B5.alloc B5.size (.cells #[.int .i64 s1.e.own, .int .i64 s1.e.other, .int .i64 s1.e.first, .slice a5 s1.e.sent.length s1.e.sent.length, .int .i64 s1.e.next] 38)); have S8 := (H.out.below (B5.alloc B5.size (.cells #[.int .i64 s1.e.own, .int .i64 s1.e.other, .int .i64 s1.e.first, .slice a5 s1.e.sent.length s1.e.sent.length, .int .i64 s1.e.next] 38))).grown_N h02 (by decide : 5 < 6) H.out.x1.on; obtain ⟨u0, u1, u2, u3, u4, _⟩ := tenB S8.1; have S9 := Lib.hid (And.intro (And.intro u0 (And.intro u1 (And.intro u2 (And.intro u3 u4)))) S8.2); obtain ⟨e0, e1, e2, e3⟩ := two2 S8.2; clear h01 h02 h03 S8)
            | ((try rw [if_pos (by rfl)]); refine (wp_app32 _ _ rfl w0.heap.size n1 qs (outL s1.e, a5, s1.e.sent.length) (by simp [Act.eval]) (own_below Y2.out ((B5.alloc B5.size (.cells #[.int .i64 s1.e.own, .int .i64 s1.e.other, .int .i64 s1.e.first, .slice a5 s1.e.sent.length s1.e.sent.length, .int .i64 s1.e.next] 38)).drew)) w5.heap.size (by simp [Act.eval]) (heap_alloc_new _ _) (by omega) (by have q1 := H.out.lo; have q2 := B5.size; simp; omega) ?_); intro v1 w1 h01 h02 h03; obtain ⟨a9, p9, e9⟩ := own_shape h01; subst e9; have GR := Lib.hid (And.intro h01 (And.intro h02 h03)); have BB := Lib.hid ((B5.alloc B5.size (.cells #[.int .i64 s1.e.own, .int .i64 s1.e.other, .int .i64 s1.e.first, .slice a5 s1.e.sent.length s1.e.sent.length, .int .i64 s1.e.next] 38)).drew); have S8 := (H.out.below ((B5.alloc B5.size (.cells #[.int .i64 s1.e.own, .int .i64 s1.e.other, .int .i64 s1.e.first, .slice a5 s1.e.sent.length s1.e.sent.length, .int .i64 s1.e.next] 38)).drew)).grown_N h02 (by decide : 5 < 6) H.out.x1.on; obtain ⟨u0, u1, u2, u3, u4, _⟩ := tenB S8.1; have S9 := Lib.hid (And.intro (And.intro u0 (And.intro u1 (And.intro u2 (And.intro u3 u4)))) S8.2); obtain ⟨e0, e1, e2, e3⟩ := two2 S8.2; clear h01 h02 h03 S8))
        all_goals
          show K0 _ _
          refine hMet0 _ _ ?_
          try simp only [Act.put, List.getElem_toArray, List.getElem_cons_succ, List.getElem_cons_zero, List.setIfInBounds_toArray, List.set_cons_zero, List.set_cons_succ]
          go_meet
          case rel =>
            have B := BB.out
            have HY := H.out.below B
            have p3 : SlIs _ a5 (outL s1.e).words ∧ (outL s1.e).words.length ≤ s1.e.sent.length ∧ Free o _ a5 := ⟨HX.out.2.below (by first | exact (Below.refl w5.heap.size w5).alloc (Nat.le_refl _) (.cells #[.int .i64 s1.e.own, .int .i64 s1.e.other, .int .i64 s1.e.first, .slice a5 s1.e.sent.length s1.e.sent.length, .int .i64 s1.e.next] 38) | exact ((Below.refl w5.heap.size w5).alloc (Nat.le_refl _) (.cells #[.int .i64 s1.e.own, .int .i64 s1.e.other, .int .i64 s1.e.first, .slice a5 s1.e.sent.length s1.e.sent.length, .int .i64 s1.e.next] 38)).drew), Nat.le_refl _, H.out.free B HX.out.1.1 (HX.out.1.2.le (by simp))⟩
            obtain ⟨o', q1⟩ := HY.post1 (p := (outL s1.e, a5, s1.e.sent.length)) Y1.out (own_below Y2.out B) (fun z hz => ⟨(Y3.out z hz).1.below B, (Y3.out z hz).2.1, (Y3.out z hz).2.2.below B.size⟩) p3 GR.out.1 GR.out.2.1 GR.out.2.2
            have e : (qs ++ [(outL s1.e, a5, s1.e.sent.length)]).length = qs.length + 1 := by simp
            rw [e] at q1
            exact Lib.hid ⟨o', s0, r0, c0, g0, t0, n0, outS s1, r1, c1, g1, t1, _, q1, (F0.out.grows (outS_grows s1).1 (outS_grows s1).2).later (Nat.le_succ n), F1.out.out⟩
      · have h1' : (wh == 1) = false := by rw [beq_eq_false_iff_ne]; exact h1
        clear h1
        by_cases h2 : wh = 2
        · have h2' : (wh == 2) = true := by rw [beq_iff_eq]; exact h2
          clear h2
          obtain ⟨qs, y1, y2, y3⟩ := H.out.x0.net
          have hql := netFew y1 F0.out.posts
          have Y1 := Lib.hid y1
          have Y2 := Lib.hid y2
          have Y3 := Lib.hid y3
          clear y1 y2 y3
          obtain ⟨aq, pq, eq⟩ := own_shape Y2.out
          subst eq
          have f := two2 H.out.n
          obtain ⟨m0, m1, _, _⟩ := f
          by_cases hx0 : 0 ≤ x
          · obtain ⟨m, rfl⟩ := Int.eq_ofNat_of_zero_le hx0
            by_cases hm : m < qs.length
            · go_upto_region 26 with (fail)
              go_cut [106] from 94 to 161 (fun v wx => v = .bool true ∧ Hid (Below wd.heap.size wd wx))
              case first =>
                rename_i J1 K2 hJ hMet
                go_quiet (fail)
                show K2 _ _
                refine hMet _ _ ?_
                try simp only [Act.put, List.getElem_toArray, List.getElem_cons_succ, List.getElem_cons_zero, List.setIfInBounds_toArray, List.set_cons_zero, List.set_cons_succ]
                go_meet
                case rel =>
                  refine ⟨?_, Lib.hid (below_drewN (Below.refl _ _) _)⟩
                  first
                    | rfl
                    | (congr 1; simp; omega)
              case rest =>
                obtain ⟨rfl, HB⟩ := hcut
                rename_i K1 hK1
                refine hK1 _ _ ?_
                clear hK1
                rename World => we
                have H1 := Lib.hid (H.out.below HB.out)
                have HZ1 := Lib.hid (old_kept HB.out HZ.out)
                obtain ⟨g, cq, eq, hgl⟩ := own_some Y2.out (by omega)
                cases eq
                have pc5 := pkt_cells Y2.out hm
                have hpm : qs[m].1 ∈ s0.net := by rw [← Y1.out]; exact List.mem_map.2 ⟨_, List.getElem_mem hm, rfl⟩
                have hp3 := Y3.out _ (List.getElem_mem hm)
                generalize qs[m] = pk at *
                obtain ⟨p, pa, pc⟩ := pk
                dsimp only at pc5 hpm hp3
                have hp8 := (F0.out.net p hpm).2.2.2
                have FC := Lib.hid (F1.out.come F0.out hpm)
                obtain ⟨M, T, hMT⟩ : ∃ M T, inL s1.e p = (M, T) := ⟨_, _, rfl⟩
                have eI : inS s1 p = { s1 with e := M, told := s1.told ++ T } := by unfold inS; rw [hMT]
                have hTl : (s1.told ++ T).length ≤ n := by
                  have q1 := (FC.out.test).1
                  rw [eI] at q1
                  exact Nat.le_trans q1 F0.out.few
                have FO := Lib.hid (F0.out.grows (inS_grows s1 p).1 (inS_grows s1 p).2)
                rw [eI] at FC FO
                have HMT := Lib.hid hMT
                have HP := Lib.hid (And.intro (hp3.1.below HB.out) hp3.2.1)
                have PC := Lib.hid pc5
                have rf := right_facts F1.out.right
                have hf := rf.1
                have hn2 := rf.2.1
                have hro : Old we r1 := fun b off e => (H1.out.x1.fr b off e).1
                have HRO := Lib.hid hro
                have hq1 : p.words.length ≤ 9223372036854775807 := by omega
                have hq2 : s1.e.sent.length ≤ 100 := by omega
                clear pc5 hp3 hMT eI hro rf hpm
                have KS : ∀ W, Below we.heap.size we W → (W.cell? ⟨bE, 5, none⟩ = some (.int .i64 s1.e.own) ∧ W.cell? ⟨bE, 6, none⟩ = some (.int .i64 s1.e.other) ∧ W.cell? ⟨bE, 7, none⟩ = some (.int .i64 s1.e.first) ∧ W.cell? ⟨bE, 8, none⟩ = some (.slice r1 s1.e.sent.length c1) ∧ W.cell? ⟨bE, 9, none⟩ = some (.int .i64 s1.e.next) ∧ W.cell? ⟨bN, 0, none⟩ = some (.slice (some ⟨g, 0, none⟩) qs.length pq) ∧ W.cell? ⟨b13, 2, none⟩ = some (.int .i64 m) ∧ W.cell? ⟨g, m * 5, none⟩ = some (.int .i64 p.fr) ∧ W.cell? ⟨g, m * 5 + 1, none⟩ = some (.int .i64 p.to) ∧ W.cell? ⟨g, m * 5 + 2, none⟩ = some (.int .i64 p.place) ∧ W.cell? ⟨g, m * 5 + 3, none⟩ = some (.slice pa p.words.length pc) ∧ W.cell? ⟨g, m * 5 + 4, none⟩ = some (.int .i64 p.wait) ∧ Hid (Below we.heap.size we W)) := fun W hb => by
                  have f := tenB (old_kept hb H1.out.e)
                  have h := PC.out
                  have hg1 : ∀ j, W.cell? ⟨g, j, none⟩ = wd.cell? ⟨g, j, none⟩ := fun j => (hb.cell (show g < _ from Nat.lt_of_lt_of_le hgl HB.out.size)).trans (HB.out.cell (show g < _ from hgl))
                  exact ⟨f.1, f.2.1, f.2.2.1, f.2.2.2.1, f.2.2.2.2.1, (two2 (old_kept hb H1.out.n)).1, (three3 (old_kept hb HZ1.out)).2.2, (hg1 _).trans h.1, (hg1 _).trans h.2.1, (hg1 _).trans h.2.2.1, (hg1 _).trans h.2.2.2.1, (hg1 _).trans h.2.2.2.2, Lib.hid hb⟩
                have W1 : IntKind.i64.wrap 0 = 0 := by decide
                go_upto_region 27 with (fail)
                go_cut [17, 18] from 107 to 161 (fun v17 v18 wc => ∃ b17 a6 c6 ta, v17 = .pointer (some ⟨b17, 0, none⟩) ∧ v18 = .slice ta T.length T.length ∧ Hid (NewBox we wc b17 M a6 c6 ∧ From r1 a6 ∧ SlIs wc ta T ∧ Since' we.heap.size ta))
                case first =>
                  rename_i J1 K2 hJ hMet
                  go_region_held3 (fun W => W.cell? ⟨bE, 5, none⟩ = some (.int .i64 s1.e.own) ∧ W.cell? ⟨bE, 6, none⟩ = some (.int .i64 s1.e.other) ∧ W.cell? ⟨bE, 7, none⟩ = some (.int .i64 s1.e.first) ∧ W.cell? ⟨bE, 8, none⟩ = some (.slice r1 s1.e.sent.length c1) ∧ W.cell? ⟨bE, 9, none⟩ = some (.int .i64 s1.e.next) ∧ W.cell? ⟨bN, 0, none⟩ = some (.slice (some ⟨g, 0, none⟩) qs.length pq) ∧ W.cell? ⟨b13, 2, none⟩ = some (.int .i64 m) ∧ W.cell? ⟨g, m * 5, none⟩ = some (.int .i64 p.fr) ∧ W.cell? ⟨g, m * 5 + 1, none⟩ = some (.int .i64 p.to) ∧ W.cell? ⟨g, m * 5 + 2, none⟩ = some (.int .i64 p.place) ∧ W.cell? ⟨g, m * 5 + 3, none⟩ = some (.slice pa p.words.length pc) ∧ W.cell? ⟨g, m * 5 + 4, none⟩ = some (.int .i64 p.wait) ∧ Hid (Below we.heap.size we W))
                    (first
                      | with_reducible exact KS _ (below_chain B6 (Nat.le_refl _) _ _ _ _ _)
                      | with_reducible exact KS _ B6
                      | with_reducible exact KS _ (B6.alloc B6.size _)
                      | with_reducible exact KS _ ((Below.refl _ _).alloc (Nat.le_refl _) _).drew
                      | with_reducible exact KS _ (Below.refl _ _).drew)
                    (first
                      | (go_at_call 14; have PB := getP (by assumption); refine (inX s1.e p r1 pa c1 pc _ (H1.out.x1.sl.below PB) (HP.out.1.below PB) hq1 hq2 H1.out.x1.cp HP.out.2 hf hn2 M T HMT.out).mono ?_; rintro e w6 ⟨a6, c6, ta, rfl, hfr, hsi, hs, hc, ht, hb⟩; have B6 := PB.trans (hb.mono PB.size); have HX := Lib.hid (And.intro hfr (And.intro (hsi.mono PB.size) (And.intro hs (And.intro hc ht)))); have Y6 := five' (heap_alloc_new w6 (.cells #[.int .i64 0, .int .i64 0, .int .i64 0, .slice none 0 0, .int .i64 0] 26)); obtain ⟨y0, y1, y2, y3, y4, x0, x1, x2, x3, x4⟩ := Y6; (try (have z6' := new_kept_d hb; have z6 : w6.heap[we.heap.size]? = some (.cells #[.int .i64 0, .int .i64 0, .int .i64 0, .slice none 0 0, .int .i64 0] 26) := z6'; clear z6'; obtain ⟨n0, n1, n2, n3, n4, o0, o1, o2, o3, o4⟩ := five' z6; have Z6 := Lib.hid z6; have ap : Apart we.heap.size ta := hsi.apart (by simp); clear z6)); clear hfr hsi hs hc ht hb PB))
                  all_goals
                    show K2 _ _
                    refine hMet _ _ ?_
                    try simp only [Act.put, List.getElem_toArray, List.getElem_cons_succ, List.getElem_cons_zero, List.setIfInBounds_toArray, List.set_cons_zero, List.set_cons_succ]
                    go_meet
                    case rel =>
                      first
                        | (have NB := newbox_set (M := M) (a := a6) (c := c6) B6 (Nat.le_refl _) Z6.out HX.out.2.2.1 HX.out.2.2.2.1 (HX.out.1.old (Old.le HRO.out B6.size)) (HX.out.1.apart (Old.apart HRO.out (Nat.le_refl _)))
                           with_reducible exact ⟨_, a6, c6, ta, rfl, rfl, Lib.hid ⟨NB, HX.out.1, HX.out.2.2.2.2.set5 ap _ _ _ _ _, HX.out.2.1⟩⟩)
                        | (have NB := newbox_allocO (M := M) (a := a6) (c := c6) B6 HX.out.2.2.1 HX.out.2.2.2.1 (HX.out.1.old (Old.le HRO.out B6.size))
                           exact ⟨_, a6, c6, ta, rfl, rfl, Lib.hid ⟨NB, HX.out.1, slis_allocO HX.out.2.2.2.2, HX.out.2.1⟩⟩)
                case rest =>
                  obtain ⟨b17, a6, c6, ta, rfl, rfl, HN⟩ := hcut
                  rename_i K1 hK1
                  refine hK1 _ _ ?_
                  clear hK1 KS
                  rename World => wf
                  have H2 := Lib.hid (H1.out.below HN.out.1.1)
                  have FR : Free o wf a6 := (H1.out.x1.fr.below HN.out.1.1.size).from HN.out.2.1
                  have H3 := Lib.hid (H2.out.setE1 (M := M) (a := a6) (c := c6) HN.out.1.2.2.2.1 HN.out.1.2.2.2.2.1 FR)
                  have ap : Apart bE ta := HN.out.2.2.2.apart (by have := H1.out.lo; omega)
                  have TA : Hid (SlIs (((((wf.setCell ⟨bE, 5, none⟩ (.int .i64 M.own)).setCell ⟨bE, 6, none⟩ (.int .i64 M.other)).setCell ⟨bE, 7, none⟩ (.int .i64 M.first)).setCell ⟨bE, 8, none⟩ (.slice a6 M.sent.length c6)).setCell ⟨bE, 9, none⟩ (.int .i64 M.next)) ta T) := Lib.hid (((((HN.out.2.2.1.set1 ap _ _).set1 ap _ _).set1 ap _ _).set1 ap _ _).set1 ap _ _)
                  obtain ⟨e0, e1, e2, e3, e4, f0, f1, f2, f3, f4⟩ := tenB H2.out.e
                  obtain ⟨q0, q1, q2, q3, q4, _⟩ := five HN.out.1.2.2.1
                  go_upto_region 29 with (fail)
                  generalize (((((wf.setCell ⟨bE, 5, none⟩ (.int .i64 M.own)).setCell ⟨bE, 6, none⟩ (.int .i64 M.other)).setCell ⟨bE, 7, none⟩ (.int .i64 M.first)).setCell ⟨bE, 8, none⟩ (.slice a6 M.sent.length c6)).setCell ⟨bE, 9, none⟩ (.int .i64 M.next)) = wg at *
                  clear e0 e1 e2 e3 e4 f0 f1 f2 f3 f4 q0 q1 q2 q3 q4
                  obtain ⟨m4, m5, m6, m7⟩ := two2 H3.out.t
                  have hbase : w0.heap.size ≤ wg.heap.size := by have := H3.out.lo; omega
                  go_wp2_with (first
                    | (at_builtin; (refine wl_app24 rfl _ _ rfl w0.heap.size t1 s1.told T rfl H3.out.x1.told ta rfl TA.out (by rw [List.length_append] at hTl; omega) hbase ?_); intro v1 w1 h01 h02 h03; obtain ⟨a9, p9, e9⟩ := own_shape h01; subst e9; have GR := Lib.hid (And.intro h01 (And.intro h02 h03)); have S8 := (H3.out.grown_blocks h02 (by decide : 4 < 6) H3.out.x1.ot).2.2.1; obtain ⟨u0, u1, u2, u3⟩ := two2 S8; clear h01 h02 h03 S8))
                  go_meet
                  case rel =>
                    obtain ⟨o', q1, _⟩ := H3.out.tell1 GR.out.1 GR.out.2.1 GR.out.2.2
                    have e : (s1.told ++ T).length = s1.told.length + T.length := by simp
                    dsimp only at q1
                    rw [e] at q1
                    exact Lib.hid ⟨o', s0, r0, c0, g0, t0, _, { s1 with e := M, told := s1.told ++ T }, a6, c6, g1, _, n1, q1, (FO.out.later (Nat.le_succ n)), (FC.out.later (Nat.le_succ n))⟩
            · go_upto_region 26 with (fail)
              go_quiet (fail)
              go_wp2
              go_meet
              case rel => exact Lib.hid ⟨o, s0, r0, c0, g0, t0, _, s1, r1, c1, g1, t1, n1, (H.out.below (below_drewN (Below.refl _ _) _)), (F0.out.later (Nat.le_succ n)), (F1.out.later (Nat.le_succ n))⟩
          · go_upto_region 26 with (fail)
            go_quiet (fail)
            go_wp2
            go_meet
            case rel => exact Lib.hid ⟨o, s0, r0, c0, g0, t0, _, s1, r1, c1, g1, t1, n1, (H.out.below (below_drewN (Below.refl _ _) _)), (F0.out.later (Nat.le_succ n)), (F1.out.later (Nat.le_succ n))⟩
        · have h2' : (wh == 2) = false := by rw [beq_eq_false_iff_ne]; exact h2
          clear h2
          go_wp2
          go_meet
          case rel => exact Lib.hid ⟨o, s0, r0, c0, g0, t0, n0, s1, r1, c1, g1, t1, n1, H.out, (F0.out.later (Nat.le_succ n)), (F1.out.later (Nat.le_succ n))⟩
set_option maxRecDepth 20000 in
set_option maxHeartbeats 40000000 in
theorem linkOrders_walk (w0 : World) (a : Option Addr) (len cap : Nat) (hlen : len ≤ 9223372036854775807) (hacts : len = 0 ∨ ∃ b off t, a = some ⟨b, off, none⟩ ∧ b < w0.heap.size ∧ ActsAt w0 b off len t) :
    Calls Try.prog 3 #[.slice a len cap] w0 fun e w' => e = .returned (.bool true) ∧ Below w0.heap.size w0 w' := by
  have I0 := Lib.hid (Inv.start w0)
  have HA := Lib.hid hacts
  clear hacts
  go_enter Try.func3, Try.ntmps3
  go_wp2_with fail
  refine (shown10 _).mono ?_
  rintro e w1 ⟨rfl, hb⟩
  have I1 := I0.out.call' hb
  clear hb I0
  by_cases h60 : len ≤ 60
  · go_wp2_with fail
    refine (new_yes 5 _ (by decide) (by decide)).mono ?_
    rintro e w2 ⟨rfl, hb⟩
    have I2 := I1.out.call' hb
    clear hb I1
    go_wp2_with fail
    refine (new_yes 7 _ (by decide) (by decide)).mono ?_
    rintro e w3 ⟨rfl, hb⟩
    have I3 := Lib.hid ((I2.out.alloc (lkO (newL 5) none 0)).call hb)
    have I4 := Lib.hid (I3.out.alloc (.cells #[.int .i64 7, .int .i64 0, .int .i64 0, .slice none 0 0, .int .i64 0] 26))
    have hz : (w3.alloc (.cells #[.int .i64 7, .int .i64 0, .int .i64 0, .slice none 0 0, .int .i64 0] 26)).heap[w2.heap.size]? = some (.cells #[.int .i64 5, .int .i64 0, .int .i64 0, .slice none 0 0, .int .i64 0] 26) := I4.out.get w2.heap.size (lkO (newL 5) none 0) (by simp)
    obtain ⟨c0, c1, c2, c3, c4, _⟩ := five hz
    have HO := Lib.hid (OrdAt.start w0 _ I4.out.1)
    clear hb I2 I3 hz
    go_wp2_with fail
    have ez : (w3.alloc (.cells #[.int .i64 7, .int .i64 0, .int .i64 0, .slice none 0 0, .int .i64 0] 26)).heap.size = w3.heap.size + 1 := by simp
    rw [ez] at HO
    clear ez c0 c1 c2 c3 c4 I4
    generalize hE : w3.heap.size + 1 = bE at *
    generalize hG : bE + 1 = bG at *
    generalize hT : bG + 1 = bT at *
    generalize hN : bT + 1 = bN at *
    clear hE hG hT hN
    go_loopw [12] (fun v wr => ∃ n : Nat, n ≤ len ∧ v = .int .i64 n ∧ Hid (OrdAt w0 bE bG bT bN n wr)) (fun v _ => len - (intOf v).toNat)
    case atStart => exact ⟨0, Nat.zero_le _, rfl, HO⟩
    case round =>
      clear HO
      obtain ⟨n, hn, rfl, HW⟩ := hrel
      by_cases hlt : n < len
      · have hA : ∃ b off t, a = some ⟨b, off, none⟩ ∧ b < w0.heap.size ∧ ActsAt w0 b off len t := by
          rcases HA.out with e | h
          · omega
          · exact h
        obtain ⟨b, off, t, rfl, hbl, hat⟩ := hA
        obtain ⟨hok, hcs⟩ := hat n hlt
        generalize t n = ac at hok hcs
        obtain ⟨en, wh, x⟩ := ac
        obtain ⟨he, hw, hx⟩ := hok
        dsimp only at he hw hx
        have HB : Below w0.heap.size w0 wr := by
          obtain ⟨o, s0, r0, c0, g0, t0, n0, s1, r1, c1, g1, t1, n1, h, f⟩ := HW.out
          exact h.bel
        have k0 : wr.cell? ⟨b, off + n * 3, none⟩ = some (.int .i64 en) := (HB.cell (show b < _ from hbl)).trans (hcs 0 (by omega))
        have k1 : wr.cell? ⟨b, off + n * 3 + 1, none⟩ = some (.int .i64 wh) := (HB.cell (show b < _ from hbl)).trans (hcs 1 (by omega))
        have k2 : wr.cell? ⟨b, off + n * 3 + 2, none⟩ = some (.int .i64 x) := (HB.cell (show b < _ from hbl)).trans (hcs 2 (by omega))
        clear hat hcs hbl HB HA
        go_upto_region 14 with (fail)
        have HW0 := Lib.hid (HW.out.below ((Below.refl _ _).alloc (Nat.le_refl _) (.cells #[.int .i64 en, .int .i64 wh, .int .i64 x] 35)))
        have hz := heap_alloc_new wr (.cells #[.int .i64 en, .int .i64 wh, .int .i64 x] 35)
        clear HW k0 k1 k2
        generalize (wr.alloc (.cells #[.int .i64 en, .int .i64 wh, .int .i64 x] 35)) = wa at *
        generalize wr.heap.size = b13 at *
        obtain ⟨x0, x1, x2⟩ := three3 hz
        have HZ := Lib.hid hz
        clear hz
        go_upto_if 51 with (fail)
        go_cut [14] from 39 to 161 (fun v w => (v = .int .i64 0 ∨ v = .int .i64 1) ∧ w = wa)
        case first =>
          by_cases h1 : en = 1
          · have h1' : (en == 1) = true := by rw [beq_iff_eq]; exact h1
            clear h1
            go_wp2
            go_meet
            case rel => exact ⟨Or.inr rfl, rfl⟩
          · have h1' : (en == 1) = false := by rw [beq_eq_false_iff_ne]; exact h1
            clear h1
            go_wp2
            go_meet
            case rel => exact ⟨Or.inl rfl, rfl⟩
        case rest =>
          obtain ⟨hk, rfl⟩ := hcut
          rename_i K1 hK1
          refine hK1 _ _ ?_
          clear hK1
          go_upto_block 2 with (fail)
          go_cut [] from 39 to 161 (fun w => Hid (OrdAt w0 bE bG bT bN (n + 1) w))

          case first =>
            rename_i J0 K0 hJ0 hMet0
            rcases hk with rfl | rfl
            · exact act0 w0 _ bE bG bT bN n b13 en wh x (by omega) HW0 x2 HZ _ _ _ _ _ _ _ _ _ _ _ _ _ _ _ _ _ _ _ _ _ _ _ _ _ _ _ _ _ _ _ _ _ _ _ _ _ _ _ _ _ _ _ _ _ _ _ _ _ _ _ _ _ _ _ _ _ _ _ _ _ _ _ _ _ _ _ _ _ _ _ _ _ _ _ _ _ _ _ _ _ _ _ _ _ _ _ _ _ _ _ _ _ _ _ _ _ _ _ _ _ _ _ _ _ _ _ _ _ _ _ _ _ _ _ _ _ _ _ _ _ _ _ _ _ _ _ _ _ _ _ _ _ _ _ _ _ _ _ _ _ _ _ _ _ _ _ _ _ _ _ _ _ _ _ J0 K0 _ hJ0 hMet0
            · exact act1 w0 _ bE bG bT bN n b13 en wh x (by omega) HW0 x2 HZ _ _ _ _ _ _ _ _ _ _ _ _ _ _ _ _ _ _ _ _ _ _ _ _ _ _ _ _ _ _ _ _ _ _ _ _ _ _ _ _ _ _ _ _ _ _ _ _ _ _ _ _ _ _ _ _ _ _ _ _ _ _ _ _ _ _ _ _ _ _ _ _ _ _ _ _ _ _ _ _ _ _ _ _ _ _ _ _ _ _ _ _ _ _ _ _ _ _ _ _ _ _ _ _ _ _ _ _ _ _ _ _ _ _ _ _ _ _ _ _ _ _ _ _ _ _ _ _ _ _ _ _ _ _ _ _ _ _ _ _ _ _ _ _ _ _ _ _ _ _ _ _ _ _ _ J0 K0 _ hJ0 hMet0
          case rest =>
            rename_i K1 hK1
            refine hK1 _ _ ?_
            clear hK1
            clear HW0 HZ x0 x1 x2
            rename World => wv
            obtain ⟨o, s0, r0, c0, g0, t0, n0, s1, r1, c1, g1, t1, n1, H, F0, F1⟩ := hcut.out
            have T0 := F0.test
            have T1 := F1.test
            have b0 : s0.given.length ≤ n + 1 := F0.few
            have b1 : s1.given.length ≤ n + 1 := F1.few
            have ht0 := own_slis H.x0.told
            have ht1 := own_slis H.x1.told
            have hg0 := own_slis H.x0.given
            have hg1 := own_slis H.x1.given
            obtain ⟨at0, ct0, et0, lt0, st0, _⟩ := ht0
            obtain ⟨at1, ct1, et1, lt1, st1, _⟩ := ht1
            obtain ⟨ag0, cg0, eg0, lg0, sg0, _⟩ := hg0
            obtain ⟨ag1, cg1, eg1, lg1, sg1, _⟩ := hg1
            subst et0 et1 eg0 eg1
            have HV := Lib.hid (And.intro H.t H.g)
            have S0 := Lib.hid (And.intro st0 (And.intro sg1 T0.2))
            have S1 := Lib.hid (And.intro st1 (And.intro sg0 T1.2))
            have l0 := T0.1
            have l1 := T1.1
            have c01 : s0.told.length ≤ cg1 := Nat.le_trans l0 lg1
            have c10 : s1.told.length ≤ cg0 := Nat.le_trans l1 lg0
            clear H F0 F1 T0 T1 st0 st1 sg0 sg1
            go_wp2_with fail
            go_loopw [19] (fun v W => ∃ j : Nat, j ≤ 2 ∧ v = .int .i64 j ∧ Hid (Dr wv W)) (fun v _ => 2 - (intOf v).toNat)
            case atStart => exact ⟨0, by omega, rfl, Lib.hid (Dr.refl _)⟩
            case round =>
              obtain ⟨j, hj, rfl, HD⟩ := hrel
              by_cases hj2 : j < 2
              · obtain ⟨x0, x1, _, _⟩ := two2 (old_kept HD.out.below HV.out.1)
                obtain ⟨y0, y1, _, _⟩ := two2 (old_kept HD.out.below HV.out.2)
                by_cases hj0 : j = 0
                · subst hj0
                  have W1 : IntKind.i64.wrap 1 = 1 := by decide
                  go_upto_region 33 with (fail)
                  go_quiet (first
                    | (go_at_call 15; refine Calls.quiet_of (ints15t s0.told s1.given at0 ag1 ct0 cg1 (by omega) _ (S0.out.1.below (HD.out.drewN _).below) (S0.out.2.1.below (HD.out.drewN _).below) S0.out.2.2 _ rfl)))
                  go_wp2
                  go_roundw
                  case rel => exact ⟨1, by omega, by go_num, Lib.hid (HD.out.drewN _)⟩
                  case measure => simp [intOf]
                · have hj1 : j = 1 := by omega
                  subst hj1
                  have W0 : IntKind.i64.wrap 0 = 0 := by decide
                  go_upto_region 33 with (fail)
                  go_quiet (first
                    | (go_at_call 15; refine Calls.quiet_of (ints15t s1.told s0.given at1 ag0 ct1 cg0 (by omega) _ (S1.out.1.below (HD.out.drewN _).below) (S1.out.2.1.below (HD.out.drewN _).below) S1.out.2.2 _ rfl)))
                  go_wp2
                  go_roundw
                  case rel => exact ⟨2, by omega, by go_num, Lib.hid (HD.out.drewN _)⟩
                  case measure => simp [intOf]
              · have hj3 : j = 2 := by omega
                subst hj3
                go_wp2
                go_roundw
                case rel => exact ⟨n + 1, by omega, by go_num, Lib.hid (hcut.out.below HD.out.below)⟩
                case measure => simp [intOf]; omega
      · have HB : Below w0.heap.size w0 wr := by
          obtain ⟨o, s0, r0, c0, g0, t0, n0, s1, r1, c1, g1, t1, n1, h, f⟩ := HW.out
          exact h.bel
        have HB := Lib.hid HB
        go_wp2
        go_ret
        exact ⟨rfl, HB.out⟩
  · go_wp2
    go_ret
    exact ⟨rfl, I1.out.1⟩
end Go.Proofs.Ytoblckocmakakaa
