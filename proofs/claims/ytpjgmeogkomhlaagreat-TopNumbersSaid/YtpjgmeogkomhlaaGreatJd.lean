/-
  Part of the proof of TopNumbers. No conditions but those named.
-/
import Derived.Test.YtpjgmeogkomhlaaGreatPo
import Derived.Shelf.RegionOpen
import Derived.RangeFuncCalls
namespace Go.Proofs.YtpjgmeogkomhlaaGreat
open Go.RowKit Go.Shelf
attribute [local go_sem] Oper.semAt_some
/-- The frame's part of Decode's claim. -/
def DecP (k : Nat) (vs : List Int) (w : World) (e : Ending) (w' : World) : Prop := (∃ g C, e = .returned (.tuple #[.agg #[.int .i64 k, .slice (some ⟨g, 0, none⟩) vs.length C], .int .i64 0]) ∧ w.heap.size ≤ g ∧ vs.length ≤ C ∧ (∃ cur e, w'.heap[g]? = some (.cells cur e (0, 0)) ∧ C ≤ cur.size) ∧ ∀ (i : Nat) (x : Int), vs[i]? = some x → w'.cell? ⟨g, i, none⟩ = some (.int .i64 x)) ∧ Below w.heap.size w w'
theorem drewN_grown (W : World) (k : Nat) : W.grownBy (W.drewN k) none := ⟨rfl, rfl, rfl, Nat.le_refl _, fun _ _ _ => rfl⟩
theorem chunk_stops (n Bs Bn b off cap N : Nat) (hn : 1 ≤ n) (hN : N ≤ 1000) (hcap : 8 * N ≤ cap) (W0 : World) (h1 : Bs < W0.heap.size) (h2 : Bn < W0.heap.size) (hBs : W0.cell? ⟨Bs, 0, none⟩ = some (.slice (some ⟨b, off, none⟩) (8 * N) cap)) (hBn : W0.cell? ⟨Bn, 0, none⟩ = some (.int .i64 8)) :
    SeqStopsK Fence.wide n Tryz.prog 211 #[.pointer (some ⟨Bs, 0, none⟩), .pointer (some ⟨Bn, 0, none⟩)] (fun x : Fin N => #[row8 b off x.val]) (KpB Bs Bn) (fun ys => ys = upF N N) (fun pre => ∃ k, k ≤ N ∧ pre = upF N k) N W0 := fun l J Jx W hW hJ _ hY h0 =>
  chunk211 n l Bs Bn b off cap N hn hN hcap J Jx hY (fun pre w k hj => hJ pre w _ none hj (drewN_grown w k) (fun r e => by cases e)) W ((hW.cell (p := ⟨Bs, 0, none⟩) h1).trans hBs) ((hW.cell (p := ⟨Bn, 0, none⟩) h2).trans hBn) h0
theorem KpB_t {Bs Bn : Nat} {A B C : World} (h : KpB Bs Bn A B) (k : KpB Bs Bn B C) : KpB Bs Bn A C := ⟨k.1.trans h.1, k.2.trans h.2⟩
theorem KpB_b {Bs Bn B : Nat} (h1 : Bs < B) (h2 : Bn < B) (W : World) (l : Nat) (o o' : Obj) (hl : B ≤ l) (_ : W.heap[l]? = some o) (_ : o.isCells = false) (_ : o.isWalk = false) : KpB Bs Bn W (W.putObj l o') :=
  ⟨World.putObj_heap_other (by omega), World.putObj_heap_other (by omega)⟩
theorem info2_eq : (Tryz.prog.info? 2).map (fun i => (i.zero, i.size, i.bytes)) = some (some (.int .i64 0), 1, 8) := by kernel_rfl
theorem info2_ex : ∃ i0, Tryz.prog.info? 2 = some i0 ∧ i0.zero = some (.int .i64 0) ∧ i0.size = 1 ∧ i0.bytes = 8 := by
  have := info2_eq
  cases h : Tryz.prog.info? 2 with
  | none => rw [h] at this; cases this
  | some i0 =>
    rw [h] at this
    simp only [Option.map_some, Option.some.injEq, Prod.mk.injEq] at this
    exact ⟨i0, rfl, this.1, this.2.1, this.2.2⟩
/-- What holds of an operation holds of it within a round, too. -/
theorem opIn_of_op {l n : Nat} {P : Program} {o : Oper} {a : Act} {w : World} {K K' : Act → World → Prop} {Q : Exit → Act → World → Prop} (hnd : ∀ c, o.op ≠ .defer c) (hK : ∀ a w, K a w → K' a w) (h : o.wp P a w K Q) : o.wpIn (Fence.wide.inRound l) n P a w K' Q := by
  unfold Oper.wp at h
  unfold Oper.wpIn
  refine ⟨fun _ _ => trivial, ?_⟩
  rw [Oper.semAt_plain _ _ _ hnd]
  generalize (execOp a.eval o).run P w = r at h
  cases r with
  | ok nx w' =>
    cases nx with
    | value v => exact hK _ _ h
    | skip => exact hK _ _ h
    | defer d => exact hK _ _ h
    | enter f args =>
      refine ⟨fun e => (by cases e), callsIn_wide.2 (Calls.mono h fun e w'' q => ?_)⟩
      cases e with
      | returned v => exact hK _ _ q
      | panicked c => exact q
      | outgrown => exact q
    | row r args => exact ⟨fun e => (by cases e), fun c cs _ => let ⟨v, w'', q, s⟩ := h c cs; ⟨v, w'', hK _ _ q, stepsIn_wide.2 s⟩⟩
    | _ => exact absurd h (fun e => e)
  | halt x w' =>
    cases x with
    | panic v => exact h
    | _ => exact absurd h (fun e => e)
theorem anyIn_of_any {l n : Nat} {P : Program} {md : Region.Mode} {ops : Array Oper} {Q : Exit → Act → World → Prop} (hnd : ∀ (i : Nat) (o : Oper), ops[i]? = some o → ∀ c, o.op ≠ .defer c) (hQ : ¬ LetsOut Q) : ∀ (fuel : Nat) (listed : Array Bool) (a : Act) (w : World), wpAny P md ops Q fuel listed a w → wpAnyIn (Fence.wide.inRound l) n P md ops Q fuel listed a w
  | 0, _, _, _, h => h
  | fuel + 1, listed, a, w, h => by
    refine ⟨h.1, fun i hi => ?_⟩
    have h2 := h.2 i hi
    unfold wpOp at h2
    unfold wpOpIn
    cases ho : ops[i]? with
    | none =>
      rw [ho] at h2
      exact anyIn_of_any hnd hQ fuel _ _ _ h2
    | some o =>
      rw [ho] at h2
      dsimp only at h2 ⊢
      by_cases hw : Region.wanted o (yielded ops a.tmps) = true
      · rw [if_pos hw] at h2 ⊢
        rcases h2 with h2 | ⟨_, h2⟩
        · exact opIn_of_op (hnd i o ho) (fun a w q => anyIn_of_any hnd hQ fuel _ a w q) h2
        · exact absurd h2 hQ
      · rw [if_neg hw] at h2 ⊢
        exact ⟨fun _ _ => trivial, anyIn_of_any hnd hQ fuel _ _ _ h2⟩
def noDefer : Op → Bool
  | .defer _ => false
  | _ => true
theorem noDefer_ok {ops : Array Oper} (h : ops.toList.all (fun o => noDefer o.op) = true) (i : Nat) (o : Oper) (ho : ops[i]? = some o) (c : Call) : o.op ≠ .defer c := fun e => by
  have := List.all_eq_true.1 h o (List.mem_of_getElem? (by rw [Array.getElem?_toList]; exact ho))
  rw [e] at this
  cases this
/-- Between two rounds. -/
structure DecI (W1 : World) (n k : Nat) (vs : List Int) (pre : List (Fin n)) (W : World) : Prop where
  box : ∃ v, W.heap[W1.heap.size]? = some (.cells #[.int .i64 k, v] 197 (0, 0)) ∧ W.ownsRow (W1.heap.size + 3) 2 1 v pre.length (numV (pre.map fun x => vs.getD x.val 0))
  bel : Below W1.heap.size W1 W
  siz : W1.heap.size + 3 ≤ W.heap.size
theorem cell_new1 (W : World) (u : Value) (t : TypeId) (j : Nat) (y : Value) (h : [u][j]? = some y) : (W.alloc (.cells #[u] t)).cell? ((⟨W.heap.size, 0, none⟩ : Addr).add j) = some y := by
  cases j with
  | zero =>
    simp at h
    subst h
    have := World.alloc_heap_new W (.cells #[u] t)
    show (match (W.alloc (.cells #[u] t)).heap[W.heap.size]? with | some (.cells c _ _) => c[0 + 0]? | _ => none) = some u
    rw [this]
    rfl
  | succ j => simp at h
theorem ownsRow_some {w : World} {base : Nat} {e : TypeId} {v : Value} {k : Nat} {xs : List Value} (h : w.ownsRow base e 1 v (k + 1) xs) : ∃ g cap cur, v = .slice (some ⟨g, 0, none⟩) (k + 1) cap ∧ base ≤ g ∧ w.heap[g]? = some (.cells cur e (0, 0)) ∧ k + 1 ≤ cap := by
  rcases h.2 with ⟨_, h0⟩ | ⟨g, cap, cur, h1, h2, h3, h4, _⟩
  · omega
  · exact ⟨g, cap, cur, h1, h2, h3, h4⟩
theorem ownsRow_some' {w : World} {base : Nat} {e : TypeId} {v : Value} {k : Nat} {xs : List Value} (hk : 0 < k) (h : w.ownsRow base e 1 v k xs) : ∃ g cap cur, v = .slice (some ⟨g, 0, none⟩) k cap ∧ base ≤ g ∧ w.heap[g]? = some (.cells cur e (0, 0)) ∧ k ≤ cap ∧ cap ≤ cur.size ∧ ∀ (i : Nat) (x : Value), xs[i]? = some x → w.cell? ⟨g, i, none⟩ = some x := by
  rcases h.2 with ⟨_, h0⟩ | ⟨g, cap, cur, h1, h2, h3, h4, h5⟩
  · omega
  · refine ⟨g, cap, cur, h1, h2, h3, h4, by have := h5.2.1; omega, fun i x hx => ?_⟩
    have h6 := h5.2.2
    rw [← h6, List.getElem?_take] at hx
    by_cases hi : i < k * 1
    · rw [if_pos hi] at hx
      simp only [World.cell?, h3]
      simpa using hx
    · rw [if_neg hi] at hx
      cases hx
theorem not_own {w : World} {base : Nat} {e : TypeId} {v : Value} {k j : Nat} {xs : List Value} (h : w.ownsRow base e 1 v k xs) (hj : j < base) : some j ≠ v.ownBlock := fun q => by
  have := (h.lt j q.symm).1
  omega
theorem box_grown {W w3 : World} {base F : Nat} {cs : Array Value} {t : TypeId} {v : Value} {k : Nat} {xs : List Value} {o : Obj} (hb : W.heap[F]? = some (.cells cs t (0, 0))) (hF : F < base) (hr : W.ownsRow base 2 1 v k xs) (hg : (W.drew.alloc o).grownBy w3 v.ownBlock) : w3.heap[F]? = some (.cells cs t (0, 0)) := by
  have hlt : F < W.drew.heap.size := (Array.getElem?_eq_some_iff.1 hb).1
  refine (hg.block F (by rw [World.size_alloc]; exact Nat.lt_succ_of_lt hlt) (not_own hr hF)).trans ((Below.heap_alloc W.drew o F hlt).trans hb)
theorem setCell_two {W : World} {F : Nat} {a b u : Value} {t : TypeId} (h : W.heap[F]? = some (.cells #[a, b] t (0, 0))) : (W.setCell ⟨F, 1, none⟩ u).heap[F]? = some (.cells #[a, u] t (0, 0)) := by
  obtain ⟨hlt, hk⟩ := Array.getElem?_eq_some_iff.1 h
  show (W.heap.modify F _)[F]? = _
  rw [Array.getElem?_eq_getElem (by rw [Array.size_modify]; exact hlt), Array.getElem_modify_self, hk]
  rfl
theorem grownBy_setC (W : World) (b i : Nat) (v : Value) : W.grownBy (W.setCell ⟨b, i, none⟩ v) (some b) :=
  ⟨rfl, rfl, rfl, (KeepsWalks.setCell W _ v).size, fun k _ hk => Below.heap_setCell _ _ _ k (fun e => hk (by rw [e]))⟩
theorem setCell_one {W : World} {F : Nat} {a b u : Value} {t : TypeId} (h : W.heap[F]? = some (.cells #[a, b] t (0, 0))) : (W.setCell ⟨F, 0, none⟩ u).heap[F]? = some (.cells #[u, b] t (0, 0)) := by
  obtain ⟨hlt, hk⟩ := Array.getElem?_eq_some_iff.1 h
  show (W.heap.modify F _)[F]? = _
  rw [Array.getElem?_eq_getElem (by rw [Array.size_modify]; exact hlt), Array.getElem_modify_self, hk]
  rfl
/-- A round's end. -/
theorem dec_round {W1 W w3 : World} {n k : Nat} {vs : List Int} {pre : List (Fin n)} {x : Fin n} {v : Value} {num : Int} {g cap : Nat} {a : Act} {Ix : Code → List (Fin n) → World → Prop} (hbel : Below W1.heap.size W1 W) (hsiz : W1.heap.size + 3 ≤ W.heap.size) (_hbox : W.heap[W1.heap.size]? = some (.cells #[.int .i64 k, v] 197 (0, 0))) (hrow : W.ownsRow (W1.heap.size + 3) 2 1 v pre.length (numV (pre.map fun x => vs.getD x.val 0)))
    (hg : (W.drew.alloc (.cells #[.int .i64 num] 2)).grownBy w3 v.ownBlock) (hb3 : w3.heap[W1.heap.size]? = some (.cells #[.int .i64 k, v] 197 (0, 0))) (hown : w3.ownsRow (W1.heap.size + 3) 2 1 (.slice (some ⟨g, 0, none⟩) (pre.length + 1) cap) (pre.length + 1) (numV (pre.map fun x => vs.getD x.val 0) ++ [.int .i64 num])) (hnum : vs.getD x.val 0 = num) :
    ownPostK (KpB (W1.heap.size + 1) (W1.heap.size + 1 + 1)) (DecI W1 n k vs) Ix (pre ++ [x]) W .normal a (w3.setCell ⟨W1.heap.size, 1, none⟩ (.slice (some ⟨g, 0, none⟩) (pre.length + 1) cap)) := by
  have s1 : W.drew.heap.size = W.heap.size := rfl
  have z1 := hg.size
  simp only [World.size_alloc, s1] at z1
  have kept : ∀ j, j < W1.heap.size + 3 → j ≠ W1.heap.size → (w3.setCell ⟨W1.heap.size, 1, none⟩ (.slice (some ⟨g, 0, none⟩) (pre.length + 1) cap)).heap[j]? = W.heap[j]? := fun j hj hne =>
    (Below.heap_setCell _ _ _ j hne).trans ((hg.block j (by simp only [World.size_alloc, s1]; omega) (not_own hrow hj)).trans (Below.heap_alloc W.drew _ j (by rw [s1]; omega)))
  refine ⟨?_, ⟨kept _ (by omega) (by omega), kept _ (by omega) (by omega)⟩, ⟨_, setCell_two hb3, ?_⟩, ?_, ?_⟩
  · refine ((KeepsOthers.drew W).trans (KeepsOthers.alloc _ _)).trans ((KeepsOthers.of_grownBy hg fun j o e ho => ?_).trans (KeepsOthers.setCell _ _ _))
    rcases hrow.2 with ⟨rfl, _⟩ | ⟨g', cap', cur, rfl, h1, h2, _⟩
    · cases e
    · have e : g' = j := by simpa [Value.ownBlock] using e
      subst e
      have hlt : g' < W.drew.heap.size := (Array.getElem?_eq_some_iff.1 h2).1
      rw [Below.heap_alloc W.drew _ g' hlt] at ho
      have ho : W.heap[g']? = some o := ho
      rw [h2] at ho
      cases ho
      rfl
  · have := hown.kept (grownBy_setC w3 W1.heap.size 1 (.slice (some ⟨g, 0, none⟩) (pre.length + 1) cap)) (.inr (fun q => not_own hown (by omega : W1.heap.size < W1.heap.size + 3) q.symm))
    rw [List.length_append]
    subst hnum
    simpa [numV] using this
  · have b1 := hbel.drew.alloc (by rw [s1]; omega) (.cells #[.int .i64 num] 2)
    have b2 := b1.grown hg (by simp only [World.size_alloc, s1]; omega) (fun j e => by have := (hrow.lt j e).1; omega)
    exact b2.setCell (p := ⟨W1.heap.size, 1, none⟩) (Nat.le_refl _) _
  · have := (KeepsWalks.setCell w3 ⟨W1.heap.size, 1, none⟩ (.slice (some ⟨g, 0, none⟩) (pre.length + 1) cap)).size
    omega
theorem DecI.own (W1 : World) (n k : Nat) (vs : List Int) {B : Nat} (hB : W1.heap.size + 3 ≤ B) : OwnFrom B (DecI W1 n k vs) := by
  rintro s X Y row ⟨⟨v, h2, h3⟩, h4, h5⟩ hg hr
  refine ⟨⟨v, ?_, h3.kept hg ?_⟩, h4.grown hg (by omega) (fun r e => by have := (hr r e).1; omega), Nat.le_trans h5 hg.size⟩
  · refine (hg.block _ (by omega) (fun e => ?_)).trans h2
    have := (hr _ e.symm).1
    omega
  · rcases h3.2 with ⟨rfl, _⟩ | ⟨g, cap, cur, rfl, _, hgb, _⟩
    · exact .inl rfl
    · refine .inr fun e' => ?_
      obtain ⟨_, o, ho, hc⟩ := hr g (by simpa [Value.ownBlock] using e'.symm)
      rw [hgb] at ho
      cases ho
      cases hc
set_option maxRecDepth 100000 in
set_option maxHeartbeats 4000000 in
theorem decode_in (k n : Nat) (bd : List Nat) (vs : List Int) (m C0 : Nat) (hk : k < 256) (hn : vs.length = n) (hlen : bd.length = 1 + 8 * n) (hvs : 0 < n ∧ n ≤ 18) (hbd : bd[0]? = some k) (B O : Nat) (w : World)
    (hopen : ∀ W, Below w.heap.size w W → Calls Tryz.prog 177 #[.slice (some ⟨B, O, none⟩) m C0] W (OpenP bd W))
    (hlong : ∀ W, Calls Tryz.prog 178 #[.int .i64 k] W fun e W' => e = .returned (.int .i64 n) ∧ W = W')
    (hrow : ∀ x, x < n → ∃ l : List Nat, l.length = 8 ∧ (∀ y ∈ l, y < 256) ∧ (∀ i y, l[i]? = some y → bd[1 + 8 * x + i]? = some y) ∧ wrap64 (accN l 0) = vs.getD x 0) :
    CallsIn Fence.wide 10 Tryz.prog 136 #[.slice (some ⟨B, O, none⟩) m C0] w (DecP k vs w) := by
  refine callsIn_of_wp_marks Tryz.func136 rfl trivial ?_ rfl
  simp only [Tryz.ntmps136, List.size_toArray, List.length_cons, List.length_nil, Nat.reduceAdd, Nat.reduceSub, Array.replicate_succ, Array.replicate_zero, List.push_toArray, List.append_toArray, List.nil_append, List.cons_append]
  have hv0 : ((n : Int) == 0) = false := by rw [beq_eq_false_iff_ne]; omega
  have HL := Lib.hid hlen
  have HBD := Lib.hid hbd
  have HN := Lib.hid hn
  have b0 : ((bd.length : Int) == 0) = false := by rw [beq_eq_false_iff_ne]; omega
  have b1 : ((bd.length : Int) != 1 + 8 * (n : Int)) = false := by
    rw [bne_eq_false_iff_eq]
    omega
  have b2 : 1 ≤ (bd.length : Int) := by omega
  clear hlen hbd hn
  have h177 : Fence.wide.fn 177 := trivial
  have h178 : Fence.wide.fn 178 := trivial
  have h179 : Fence.wide.fn 179 := trivial
  have HO := fun W h => Lib.hid (hopen W h)
  have HG := fun W => Lib.hid (hlong W)
  have HR := fun x h => Lib.hid (hrow x h)
  clear hopen hlong hrow
  gi_wp2_with (first
    | (gi_at_call 177; refine (callsIn_wide.2 (HO _ ((Below.refl _ _).alloc (Nat.le_refl _) _)).out).mono ?_; rintro e W1 ⟨⟨B1, O1, C1, rfl, hB1, hAt⟩, hb⟩; have c0 : W1.cell? ⟨B1, O1, none⟩ = some (.int .u8 (k : Int)) := (by simpa using hAt.cell 0 k HBD.out); have hC1 : bd.length ≤ C1 := hAt.len; have hC2 : 1 ≤ C1 := (by have := hAt.len; omega); have HA := Lib.hid hAt; have HW := Lib.hid hb; clear hAt hb)
    | (gi_at_call 178; refine (callsIn_wide.2 (HG _).out).mono ?_; rintro e W2 ⟨rfl, rfl⟩)
    | (gi_at_call 179; refine (callsIn_wide.2 (chunk179 _ _ _ _)).mono ?_; rintro e W3 ⟨rfl, rfl⟩))
  case inl => exfalso; have := HA.out.len; have := HL.out; omega
  case inr =>
    rename_i K gK
    clear h
    rw [show bd.length - 1 = 8 * n by have := HL.out; omega]
    refine wpIn_rangeFunc_ownF rfl (by omega) (gf := 211) (lb := #[.pointer (some ⟨W1.heap.size + 1, 0, none⟩), .pointer (some ⟨W1.heap.size + 1 + 1, 0, none⟩)]) rfl trivial (enters_of Tryz.func211 (by kernel_rfl) rfl)
      (chunk_stops 9 (W1.heap.size + 1) (W1.heap.size + 1 + 1) B1 (O1 + 1) (C1 - 1) n (by omega) (by omega) (by have := HA.out.len; have := HL.out; omega) _ (by simp) (by simp) ?bs ?bn) KpB_t (fun W l o o' hl => KpB_b (B := W1.heap.size + 3) (by omega) (by omega) W l o o' (by simp at hl; omega)) (Below.refl _ _) (fun _ => rfl)
      (DecI W1 n k vs) (fun _ _ _ => False) ?hI (fun _ _ _ _ _ hs _ _ => hs) ?h0 ?a1 ?assign ?body ?done ?stop
    case bs =>
      unfold World.cell?
      dsimp only
      rw [Below.heap_alloc _ _ _ (by simp)]
      have := World.alloc_heap_new (W1.alloc (.cells #[.int .i64 k, .slice none 0 0] 197)) (.cells #[.slice (some ⟨B1, O1 + 1, none⟩) (8 * n) (C1 - 1)] 193)
      simp only [World.size_alloc] at this
      rw [this]
      rfl
    case bn =>
      unfold World.cell?
      dsimp only
      have := World.alloc_heap_new ((W1.alloc (.cells #[.int .i64 k, .slice none 0 0] 197)).alloc (.cells #[.slice (some ⟨B1, O1 + 1, none⟩) (8 * n) (C1 - 1)] 193)) (.cells #[.int .i64 8] 3)
      simp only [World.size_alloc] at this
      rw [this]
      rfl
    case hI => exact DecI.own W1 n k vs (by simp)
    case h0 =>
      refine ⟨⟨.slice none 0 0, ?_, World.ownsRow_nil _ _ _ _⟩, (((Below.refl _ _).alloc (Nat.le_refl _) _).alloc (by simp) _).alloc (by simp; omega) _, by simp⟩
      rw [Below.heap_alloc _ _ _ (by simp; omega), Below.heap_alloc _ _ _ (by simp), World.alloc_heap_new]
    case assign =>
      intro l x W K hK
      gi_wp2
      exact hK
    case body =>
      intro l pre x W hD hN2
      obtain ⟨⟨v, hbox, hrow⟩, hbel, hsiz⟩ := hD
      obtain ⟨l8, hl8, hb8, hc8, hv8⟩ := (HR x.val x.isLt).out
      have NB := fun w' (hw : Below W1.heap.size W1 w') => Lib.hid (number180 l8 hl8 hb8 B1 (O1 + 1 + 8 * x.val) 8 w' (fun i y hy => by
        have := (hw.cell (p := ⟨B1, O1 + (1 + 8 * x.val + i), none⟩) HA.out.lt).trans (HA.out.cell _ _ (hc8 i y hy))
        rw [show O1 + 1 + 8 * x.val + i = O1 + (1 + 8 * x.val + i) by omega]
        exact this))
      rw [hv8] at NB
      clear hc8 hb8 hl8 hv8
      generalize hnum : vs.getD x.val 0 = num at NB
      have HNU := Lib.hid hnum
      clear hnum
      have h180 : Fence.wide.fn 180 := trivial
      have hmx : Tryz.prog.follows .mixedOrders = true := by kernel_rfl
      have cf : W.cell? ⟨W1.heap.size, 1, none⟩ = some v := by simp [World.cell?, hbox]
      have ff : W.frozen? ⟨W1.heap.size, 1, none⟩ = false := by simp [World.frozen?, hbox]
      have hbel' := Lib.hid hbel
      have hrow' := Lib.hid hrow
      have hbox' := Lib.hid hbox
      clear hbox hrow hbel HR HO HG
      have hne : ¬ W1.heap.size = W.heap.size := by omega
      unfold row8
      gi_wp2
      obtain ⟨i0, hi0, hz0, hz1, hz2⟩ := info2_ex
      have cfa : (W.alloc (.cells #[.int .i64 num] 2)).cell? ⟨W1.heap.size, 1, none⟩ = some v := (World.cell?_of_block (Below.heap_alloc W _ _ (by show W1.heap.size < W.heap.size; omega))).trans cf
      refine wpIn_region_any hmx ?_
      refine anyIn_of_any (noDefer_ok (by kernel_rfl)) (fun ⟨_, _, q⟩ => q) _ _ _ _ ?_
      change wpAny _ _ _ _ _ _ _ (World.drew _)
      refine wpAny_take (i := 0) (v := ?_) rfl (by kernel_rfl) (by kernel_rfl) (by kernel_rfl) (fun _ _ _ h => h) (Or.inl ⟨by rfl, ?_⟩) ?_
      rotate_left
      · intro w; go_simp; with_reducible rfl
      refine wpAny_take (i := 2) (v := ?_) rfl (by kernel_rfl) (by kernel_rfl) (by kernel_rfl) (fun _ _ _ h => h) (Or.inl ⟨by rfl, ?_⟩) ?_
      rotate_left
      · intro w; go_simp; with_reducible rfl
      refine wpAny_ready (rs := [1, 3]) (by kernel_rfl) (by simp) ?_
      refine AllReady.cons rfl (fun K hK => ?_) (AllReady.cons rfl (fun K hK => ?_) AllReady.nil)
      · go_simp
        refine hK _ _ ?_
        clear hK K
        refine wpAny_ready (rs := [3]) (by kernel_rfl) (by simp) ?_
        refine AllReady.cons rfl (fun K hK => ?_) AllReady.nil
        go_simp
        refine (NB _ (by exact ⟨hbel'.out.os, hbel'.out.tape, hbel'.out.output, hbel'.out.size, hbel'.out.block⟩)).out.mono ?_
        rintro e w' ⟨rfl, rfl⟩
        refine hK _ _ ?_
        clear hK K
        refine wpAny_ready (rs := [4]) (by kernel_rfl) (by simp) ?_
        refine AllReady.cons rfl (fun K hK => ?_) AllReady.nil
        go_simp
        refine hK _ _ ?_
        clear hK K
        refine wpAny_ready (rs := [5]) (by kernel_rfl) (by simp) ?_
        refine AllReady.cons rfl (fun K hK => ?_) AllReady.nil
        rw [if_pos (by rfl)]
        refine wp_append_own _ (.tmp 53) (.tmp 56) 69 rfl (W1.heap.size + 3) 2 i0 (.int .i64 0) 1 8 Tryz.underlying69 hi0 hz0 hz1 hz2 rfl (by decide) v pre.length _ rfl (World.ownsRow.alloc (w := W.drew) hrow'.out _) ⟨W.heap.size, 0, none⟩ 1 1 [.int .i64 num] rfl rfl (cell_new1 W.drew _ 2) (by simp [Value.oneCell']) (by unfold maxLen; omega) (by omega) (by have : W.heap.size ≤ (W.drew.alloc (.cells #[.int .i64 num] 2)).heap.size := (by rw [World.size_alloc]; exact Nat.le_succ W.heap.size); exact Nat.le_trans hsiz this) ?_
        intro v' w3 hown hg3 _
        have B3 := Lib.hid (box_grown (W := W) (base := W1.heap.size + 3) hbox'.out (by omega) hrow'.out hg3)
        obtain ⟨g', cap', cur', rfl, hg1, hg2, hg4⟩ := ownsRow_some hown
        have c3 : w3.cell? ⟨W1.heap.size, 1, none⟩ = some v := by simp [World.cell?, B3.out]
        have f3 : w3.frozen? ⟨W1.heap.size, 1, none⟩ = false := by simp [World.frozen?, B3.out]
        have HOW := Lib.hid hown
        have HG3 := Lib.hid hg3
        clear hown hg3 hg2
        refine hK _ _ ?_
        clear hK K
        refine wpAny_ready (rs := [6]) (by kernel_rfl) (by simp) ?_
        refine AllReady.cons rfl (fun K hK => ?_) AllReady.nil
        go_simp
        refine hK _ _ ?_
        clear hK K
        refine wpAny_ready (rs := [7]) (by kernel_rfl) (by simp) ?_
        refine AllReady.cons rfl (fun K hK => ?_) AllReady.nil
        go_simp
        refine hK _ _ ?_
        clear hK K
        refine wpAny_done (by kernel_rfl) ?_ _
        exact dec_round (a := ⟨#[], []⟩) (Ix := fun _ _ _ => False) hbel'.out hsiz hbox'.out hrow'.out HG3.out B3.out HOW.out HNU.out
      · go_simp
        refine (NB _ (by exact ⟨hbel'.out.os, hbel'.out.tape, hbel'.out.output, hbel'.out.size, hbel'.out.block⟩)).out.mono ?_
        rintro e w' ⟨rfl, rfl⟩
        refine hK _ _ ?_
        clear hK K
        refine wpAny_ready (rs := [1, 4]) (by kernel_rfl) (by simp) ?_
        refine AllReady.cons rfl (fun K hK => ?_) (AllReady.cons rfl (fun K hK => ?_) AllReady.nil)
        · go_simp
          refine hK _ _ ?_
          clear hK K
          refine wpAny_ready (rs := [4]) (by kernel_rfl) (by simp) ?_
          refine AllReady.cons rfl (fun K hK => ?_) AllReady.nil
          go_simp
          refine hK _ _ ?_
          clear hK K
          refine wpAny_ready (rs := [5]) (by kernel_rfl) (by simp) ?_
          refine AllReady.cons rfl (fun K hK => ?_) AllReady.nil
          rw [if_pos (by rfl)]
          refine wp_append_own _ (.tmp 53) (.tmp 56) 69 rfl (W1.heap.size + 3) 2 i0 (.int .i64 0) 1 8 Tryz.underlying69 hi0 hz0 hz1 hz2 rfl (by decide) v pre.length _ rfl (World.ownsRow.alloc (w := W.drew) hrow'.out _) ⟨W.heap.size, 0, none⟩ 1 1 [.int .i64 num] rfl rfl (cell_new1 W.drew _ 2) (by simp [Value.oneCell']) (by unfold maxLen; omega) (by omega) (by have : W.heap.size ≤ (W.drew.alloc (.cells #[.int .i64 num] 2)).heap.size := (by rw [World.size_alloc]; exact Nat.le_succ W.heap.size); exact Nat.le_trans hsiz this) ?_
          intro v' w3 hown hg3 _
          have B3 := Lib.hid (box_grown (W := W) (base := W1.heap.size + 3) hbox'.out (by omega) hrow'.out hg3)
          obtain ⟨g', cap', cur', rfl, hg1, hg2, hg4⟩ := ownsRow_some hown
          have c3 : w3.cell? ⟨W1.heap.size, 1, none⟩ = some v := by simp [World.cell?, B3.out]
          have f3 : w3.frozen? ⟨W1.heap.size, 1, none⟩ = false := by simp [World.frozen?, B3.out]
          have HOW := Lib.hid hown
          have HG3 := Lib.hid hg3
          clear hown hg3 hg2
          refine hK _ _ ?_
          clear hK K
          refine wpAny_ready (rs := [6]) (by kernel_rfl) (by simp) ?_
          refine AllReady.cons rfl (fun K hK => ?_) AllReady.nil
          go_simp
          refine hK _ _ ?_
          clear hK K
          refine wpAny_ready (rs := [7]) (by kernel_rfl) (by simp) ?_
          refine AllReady.cons rfl (fun K hK => ?_) AllReady.nil
          go_simp
          refine hK _ _ ?_
          clear hK K
          refine wpAny_done (by kernel_rfl) ?_ _
          exact dec_round (a := ⟨#[], []⟩) (Ix := fun _ _ _ => False) hbel'.out hsiz hbox'.out hrow'.out HG3.out B3.out HOW.out HNU.out
        · go_simp
          refine hK _ _ ?_
          clear hK K
          refine wpAny_ready (rs := [1]) (by kernel_rfl) (by simp) ?_
          refine AllReady.cons rfl (fun K hK => ?_) AllReady.nil
          go_simp
          refine hK _ _ ?_
          clear hK K
          refine wpAny_ready (rs := [5]) (by kernel_rfl) (by simp) ?_
          refine AllReady.cons rfl (fun K hK => ?_) AllReady.nil
          rw [if_pos (by rfl)]
          refine wp_append_own _ (.tmp 53) (.tmp 56) 69 rfl (W1.heap.size + 3) 2 i0 (.int .i64 0) 1 8 Tryz.underlying69 hi0 hz0 hz1 hz2 rfl (by decide) v pre.length _ rfl (World.ownsRow.alloc (w := W.drew) hrow'.out _) ⟨W.heap.size, 0, none⟩ 1 1 [.int .i64 num] rfl rfl (cell_new1 W.drew _ 2) (by simp [Value.oneCell']) (by unfold maxLen; omega) (by omega) (by have : W.heap.size ≤ (W.drew.alloc (.cells #[.int .i64 num] 2)).heap.size := (by rw [World.size_alloc]; exact Nat.le_succ W.heap.size); exact Nat.le_trans hsiz this) ?_
          intro v' w3 hown hg3 _
          have B3 := Lib.hid (box_grown (W := W) (base := W1.heap.size + 3) hbox'.out (by omega) hrow'.out hg3)
          obtain ⟨g', cap', cur', rfl, hg1, hg2, hg4⟩ := ownsRow_some hown
          have c3 : w3.cell? ⟨W1.heap.size, 1, none⟩ = some v := by simp [World.cell?, B3.out]
          have f3 : w3.frozen? ⟨W1.heap.size, 1, none⟩ = false := by simp [World.frozen?, B3.out]
          have HOW := Lib.hid hown
          have HG3 := Lib.hid hg3
          clear hown hg3 hg2
          refine hK _ _ ?_
          clear hK K
          refine wpAny_ready (rs := [6]) (by kernel_rfl) (by simp) ?_
          refine AllReady.cons rfl (fun K hK => ?_) AllReady.nil
          go_simp
          refine hK _ _ ?_
          clear hK K
          refine wpAny_ready (rs := [7]) (by kernel_rfl) (by simp) ?_
          refine AllReady.cons rfl (fun K hK => ?_) AllReady.nil
          go_simp
          refine hK _ _ ?_
          clear hK K
          refine wpAny_done (by kernel_rfl) ?_ _
          exact dec_round (a := ⟨#[], []⟩) (Ix := fun _ _ _ => False) hbel'.out hsiz hbox'.out hrow'.out HG3.out B3.out HOW.out HNU.out
    case done =>
      rintro D ys W hD rfl ⟨⟨v, hbox, hrow⟩, hbel, hsiz⟩ hK
      refine gK _ _ ?_
      rw [upF_length (Nat.le_refl n)] at hrow
      obtain ⟨g, C, cur, rfl, hg1, hg2, hg3, hg4, hg5⟩ := ownsRow_some' hvs.1 hrow
      have hg := Lib.hid hg2
      clear hg2
      have c1 : W.cell? ⟨W1.heap.size, 0, none⟩ = some (.int .i64 k) := by simp [World.cell?, hbox]
      have c2 : W.cell? ⟨W1.heap.size, 1, none⟩ = some (.slice (some ⟨g, 0, none⟩) n C) := by simp [World.cell?, hbox]
      have hbel' := Lib.hid hbel
      have hrow' := Lib.hid hrow
      have hbox' := Lib.hid hbox
      have h0 : W.heap[w.heap.size]? = some (.cells #[.int .i64 0, .slice none 0 0] 197 (0, 0)) :=
        (hbel.block _ (by have := HW.out.size; rw [World.size_alloc] at this; omega)).trans ((HW.out.block _ (by rw [World.size_alloc]; omega)).trans (World.alloc_heap_new _ _))
      have d1 : W.cell? ⟨w.heap.size, 0, none⟩ = some (.int .i64 0) := by simp [World.cell?, h0]
      have d2 : W.cell? ⟨w.heap.size, 1, none⟩ = some (.slice none 0 0) := by simp [World.cell?, h0]
      have f1 : W.frozen? ⟨w.heap.size, 0, none⟩ = false := by simp [World.frozen?, h0]
      have f2 : W.frozen? ⟨w.heap.size, 1, none⟩ = false := by simp [World.frozen?, h0]
      have h1 := setCell_one (u := .int .i64 k) h0
      have e2 : (W.setCell ⟨w.heap.size, 0, none⟩ (.int .i64 k)).cell? ⟨w.heap.size, 1, none⟩ = some (.slice none 0 0) := by simp [World.cell?, h1]
      have f3 : (W.setCell ⟨w.heap.size, 0, none⟩ (.int .i64 k)).frozen? ⟨w.heap.size, 1, none⟩ = false := by simp [World.frozen?, h1]
      have h0' := Lib.hid (setCell_two (u := .slice (some ⟨g, 0, none⟩) n C) h1)
      clear h1
      clear hbox hrow hbel HR HO HG h0
      gi_wp2
      have hK' := (((KeepsOthers.setCell W ⟨w.heap.size, 0, none⟩ (.int .i64 k)).trans (KeepsOthers.setCell _ ⟨w.heap.size, 1, none⟩ (.slice (some ⟨g, 0, none⟩) n C)))).same D _ hK rfl
      refine ⟨by simp, .inl ⟨_, _, rfl, run_takeDeferred hK', ?_⟩⟩
      have hW := HW.out.size
      rw [World.size_alloc] at hW
      simp only [World.size_alloc] at hD
      generalize hX : (W.setCell ⟨w.heap.size, 0, none⟩ (.int .i64 k)).setCell ⟨w.heap.size, 1, none⟩ (.slice (some ⟨g, 0, none⟩) n C) = X at *
      have hx : (X.putObj D (.deferred none)).heap[w.heap.size]? = some (.cells #[.int .i64 k, .slice (some ⟨g, 0, none⟩) n C] 197 (0, 0)) := by
        rw [World.putObj_heap_other (by omega)]
        exact h0'.out
      have hgD : g ≠ D := by
        rintro rfl
        have := hg.out
        rw [hK] at this
        cases this
      have hq : (X.putObj D (.deferred none)).heap[g]? = some (.cells cur 2 (0, 0)) := by
        rw [World.putObj_heap_other hgD, ← hX, Below.heap_setCell _ _ _ _ (by show g ≠ w.heap.size; omega), Below.heap_setCell _ _ _ _ (by show g ≠ w.heap.size; omega)]
        exact hg.out
      refine ⟨.tuple #[.agg #[.int .i64 k, .slice (some ⟨g, 0, none⟩) n C], .int .i64 0], ?_, ⟨⟨g, C, by rw [HN.out], by omega, by rw [HN.out]; exact hg3, ⟨cur, 2, hq, hg4⟩, fun i x hi => ?_⟩, ?_⟩⟩
      · have hy1 : (X.putObj D (.deferred none)).cell? ⟨w.heap.size, 0, none⟩ = some (.int .i64 k) := by simp [World.cell?, hx]
        have hy2 : (X.putObj D (.deferred none)).cell? ⟨w.heap.size, 1, none⟩ = some (.slice (some ⟨g, 0, none⟩) n C) := by simp [World.cell?, hx]
        clear hx hq hX h0' hK' f3 e2 f2 f1 d2 d1 hbox' hrow' hbel' c1 c2 hg hg5 hK HW HA
        simp [results, Tryz.f136, go_sem, hy1, hy2]
      · simp only [World.cell?, hq]
        have := hg5 i (.int .i64 x) (by rw [upF_map HN.out (Nat.le_refl n), List.take_of_length_le (by rw [HN.out]; exact Nat.le_refl n)]; simp [numV, hi])
        simpa [World.cell?, hg.out] using this
      · have Z1 := ((Below.refl w.heap.size w).alloc (Nat.le_refl _) (.cells #[.int .i64 0, .slice none 0 0] 197)).trans (HW.out.mono (by rw [World.size_alloc]; omega))
        have Z2 := Z1.trans (hbel'.out.mono (by omega))
        have Z3 := (Z2.setCell (p := ⟨w.heap.size, 0, none⟩) (Nat.le_refl _) (.int .i64 k)).setCell (p := ⟨w.heap.size, 1, none⟩) (Nat.le_refl _) (.slice (some ⟨g, 0, none⟩) n C)
        rw [hX] at Z3
        exact Z3.trans (belowK_b (w := w) (Nat.le_refl _) X D _ _ (by omega) hK' rfl rfl)
    case stop =>
      rintro D c pre W _ _ h _
      exact h.elim
end Go.Proofs.YtpjgmeogkomhlaaGreat
