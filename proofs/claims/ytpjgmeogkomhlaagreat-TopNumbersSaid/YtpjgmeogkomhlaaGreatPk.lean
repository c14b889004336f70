/-
  The filter's two steps as a run is told of them.
  What the reference asks of a turn: the program's; no conditions. No conditions but those named.
-/
import Derived.Test.YtpjgmeogkomhlaaGreatHp
import Derived.Test.YtpjgmeogkomhlaaGreatPh
import Derived.Outline
import Derived.Deep.RegionWith
import Derived.Deep.Cut
import Derived.WalkSmall
import Derived.WalkLawsBesides
namespace Go.Proofs.YtpjgmeogkomhlaaGreat
open Go.RowKit
/-- A row that a function has made. -/
structure OwnRow (w w' : World) (b o c : Nat) (l : List Int) : Prop where
  new : w.heap.size ≤ b
  blk : ∃ vs e, w'.heap[b]? = some (.cells vs e) ∧ o + c ≤ vs.size
  len : l.length ≤ c
  cell : ∀ (i : Nat) (x : Int), l[i]? = some x → w'.cell? ⟨b, o + i, none⟩ = some (.int .i64 x)
def Ev9 (ps : List Int) : Prop := ∃ a b c d e f : Int, ps = [a, b, c, b, d, e, c, e, f] ∧ 0 ≤ a ∧ 0 ≤ d ∧ 0 ≤ f ∧ Within lowQ topQ [a, b, c, d, e, f]
/-- A track that a function has made: right. -/
def NewTrk (w w' : World) (v : Value) : Prop := ∃ (xs ps : List Int) (bx ox cx bp op cp : Nat), xs.length = 3 ∧ Within lowQ topQ xs ∧ Ev9 ps ∧ bx ≠ bp ∧ OwnRow w w' bx ox cx xs ∧ OwnRow w w' bp op cp ps ∧ v = .agg #[.int .i64 3, .int .i64 1, .slice (some ⟨bx, ox, none⟩) 3 cx, .int .i64 3, .int .i64 3, .slice (some ⟨bp, op, none⟩) 9 cp]
theorem litOf_ok {n : Int} {c : CV} {V : Va} {v : Value} (e : litOf n c = true) (h : VR V c v) : v = .int .i64 n := by
  unfold litOf at e
  split at e
  · obtain ⟨m, h1, h2⟩ := h
    cases h1
    rw [h2, beq_iff_eq.1 e]
  · cases e
theorem rowC_ok {w0 : World} {h : CH} {V : Va} {W : World} {n b : Nat} {c : CV} {cs : List CV} {v : Value} (r : Rel w0 h V W) (e : rowC h n c = some (b, cs)) (hv : VR V c v) :
    ∃ (B O C : Nat) (l : List Int) (s : Spot), v = .slice (some ⟨B, O, none⟩) n C ∧ l.length = n ∧ Within lowQ topQ l ∧ VRs V cs (numV l) ∧ OwnRow w0 W B O C l ∧ V.blk b = some s ∧ s.blk = B ∧ h.t.get b = some (.cells cs false) := by
  unfold rowC at e
  split at e
  · rename_i b' es cap
    split at e
    · rename_i hm
      have hm := Nat.eq_of_beq_eq_true hm
      subst hm
      split at e
      · rename_i cs' hb
        split at e
        · rename_i hq
          cases e
          rw [Bool.and_eq_true] at hq
          obtain ⟨s, C, h1, h2, h3, h4, h5⟩ := hv
          have hB := r.blk _ _ s hb h1
          obtain ⟨g1, g2, g3⟩ := hB
          obtain ⟨g4, vs, el, g5, g6⟩ := g2 rfl
          have hl := Nat.eq_of_beq_eq_true hq.2
          have hcells : ∃ us : List Value, us.length = cs.length ∧ VRs V cs us ∧ ∀ (i : Nat) (u : Value), us[i]? = some u → W.cell? ⟨s.blk, s.off + i, none⟩ = some u := by
            clear hq hl h4 h3 hb g1 g2
            generalize s.off = O at g3
            induction cs generalizing O with
            | nil => exact ⟨[], rfl, rfl, fun i u hu => by cases hu⟩
            | cons c cs ih =>
              obtain ⟨u, k1, k2⟩ := g3 0 c rfl
              obtain ⟨us, k3, k4, k5⟩ := ih (O + 1) (fun i c' hc => by
                have := g3 (i + 1) c' (by simpa using hc)
                rw [show O + 1 + i = O + (i + 1) by omega]
                exact this)
              refine ⟨u :: us, by simp [k3], VRs.cons k2 k4, fun i u' hu => ?_⟩
              cases i with
              | zero => simp at hu; subst hu; exact k1
              | succ i =>
                have := k5 i u' (by simpa using hu)
                rw [show O + (i + 1) = O + 1 + i by omega]
                exact this
          obtain ⟨us, k1, k2, k3⟩ := hcells
          obtain ⟨l, l1, l2, l3⟩ := inBs_ok hq.1 k2
          subst l3
          refine ⟨s.blk, s.off, C, l, s, by simpa using h5, by rw [l1, hl], l2, k2, ⟨g4, ⟨vs, el, g5, by rw [g6]; simpa using h4⟩, by rw [l1, hl]; exact h3, fun i x hx => k3 i _ (by unfold numV; rw [List.getElem?_map, hx]; rfl)⟩, h1, rfl, hb⟩
        · cases e
      · cases e
    · cases e
  · cases e
theorem evenC_ok {cs : List CV} {V : Va} {l : List Int} (e : evenC cs = true) (h : VRs V cs (numV l)) (hw : Within lowQ topQ l) : Ev9 l := by
  unfold evenC at e
  split at e
  · rename_i k1 a k2 b k3 c k4 d k5 ee k6 f k7 g k8 h8 k9 i
    simp only [Bool.and_eq_true] at e
    have hlen := h.length
    simp only [numV, List.length_map, List.length_cons, List.length_nil] at hlen
    match l, hlen with
    | [xa, xb, xc, xd, xe, xf, xg, xh, xi], _ =>
      obtain ⟨_, _, q1, ⟨na, da, ea⟩, _, _, q2, ⟨nb, db, eb⟩, _, _, q3, ⟨nc, dc, ec⟩, _, _, q4, ⟨nd, dd, ed⟩, _, _, q5, ⟨ne, de, ee5⟩, _, _, q6, ⟨nf, df, ef⟩, _, _, q7, ⟨ng, dg, eg⟩, _, _, q8, ⟨nh, dh, eh⟩, _, _, q9, ⟨ni, di, ei⟩, q0⟩ := h
      subst ea eb ec ed ee5 ef eg eh ei
      rw [q2, q3, q4, q5, q6, q7, q8, q9, show _ = [] from q0] at q1
      simp only [numV, List.map_cons, List.map_nil, List.cons.injEq, Value.int.injEq, and_true] at q1
      obtain ⟨⟨_, rfl⟩, ⟨_, rfl⟩, ⟨_, rfl⟩, ⟨_, rfl⟩, ⟨_, rfl⟩, ⟨_, rfl⟩, ⟨_, rfl⟩, ⟨_, rfl⟩, ⟨_, rfl⟩⟩ := q1
      have e1 := eqv_ok e.1.1.1 db dd
      have e2 := eqv_ok e.1.1.2 dc dg
      have e3 := eqv_ok e.1.2 df dh
      subst e1 e2 e3
      obtain ⟨m, m1, m2, m3⟩ := inBs_ok (V := V) (vs := [.int .i64 xa, .int .i64 xe, .int .i64 xi]) e.2 (VRs.cons ⟨xa, da, rfl⟩ (VRs.cons ⟨xe, de, rfl⟩ (VRs.cons ⟨xi, di, rfl⟩ (VRs.nil V))))
      match m, m1, m2, m3 with
      | [ya, ye, yi], _, m2, m3 =>
        simp only [numV, List.map_cons, List.map_nil, List.cons.injEq, Value.int.injEq, and_true, true_and] at m3
        obtain ⟨rfl, rfl, rfl⟩ := m3
        refine ⟨_, _, _, _, _, _, rfl, (m2 _ (by simp)).1, (m2 _ (by simp)).1, (m2 _ (by simp)).1, fun y hy => hw y ?_⟩
        simp only [List.mem_cons, List.not_mem_nil, or_false] at hy ⊢
        rcases hy with rfl | rfl | rfl | rfl | rfl | rfl <;> simp
  · cases e
theorem trkC_ok {w0 : World} {h : CH} {V : Va} {W : World} {c : CV} {v : Value} (r : Rel w0 h V W) (e : trkC c h = true) (hv : VR V c v) : NewTrk w0 W v := by
  unfold trkC at e
  split at e
  · rename_i a b x d e5 p
    simp only [Bool.and_eq_true] at e
    obtain ⟨⟨⟨⟨ea, eb⟩, ed⟩, ee⟩, e⟩ := e
    split at e
    · rename_i bx cx hx
      split at e
      · rename_i bp ps hp
        simp only [Bool.and_eq_true, Bool.not_eq_true'] at e
        obtain ⟨xs, ⟨_, _, q1, v1, _, _, q2, v2, _, _, q3, v3, _, _, q4, v4, _, _, q5, v5, _, _, q6, v6, q7⟩, q8⟩ := hv
        have v1 := litOf_ok ea v1
        have v2 := litOf_ok eb v2
        have v4 := litOf_ok ed v4
        have v5 := litOf_ok ee v5
        obtain ⟨Bx, Ox, Cx, lx, s1, x1, x2, x3, _, x5, x6, x7, x8⟩ := rowC_ok r hx v3
        obtain ⟨Bp, Op, Cp, lp, s2, p1, p2, p3, p4, p5, p6, p7, p8⟩ := rowC_ok r hp v6
        have hne : bx ≠ bp := fun q => by rw [q] at e; simp at e
        refine ⟨lx, lp, Bx, Ox, Cx, Bp, Op, Cp, x2, x3, evenC_ok e.1 p4 p3, ?_, x5, p5, ?_⟩
        · rw [← x7, ← p7]
          exact r.sep _ _ _ _ x8 p8 rfl rfl hne _ _ x6 p6
        · rw [q8, q1, q2, q3, q4, q5, q6, show _ = [] from q7, v1, v2, x1, v4, v5, p1]
      · cases e
    · cases e
  · cases e
end Go.Proofs.YtpjgmeogkomhlaaGreat
namespace Go.Proofs.YtpjgmeogkomhlaaGreat
open Go.RowKit
theorem in9_at (n : Int) (b : Bool) (w : World) (h : inB n = b) : Calls Tryz.prog 9 #[.int .i64 n] w fun e w' => e = .returned (.bool b) ∧ w = w' := by
  rw [← h]
  exact in9 n w
/-- What a turn that is right is. -/
def Quat14P (w : World) (a b c d : Int) (e' : Ending) (w' : World) : Prop := Below w.heap.size w w' ∧ ∃ r, e' = .returned (.bool r) ∧ (r = true → inB a = true ∧ inB b = true ∧ inB c = true ∧ inB d = true)
theorem Quat14P.no (w w' : World) (a b c d : Int) (h : Below w.heap.size w w') : Quat14P w a b c d (.returned (.bool false)) w' := ⟨h, false, rfl, fun q => by cases q⟩
theorem Quat14P.yes (w w' : World) (a b c d : Int) (h : Below w.heap.size w w') (h1 : inB a = true) (h2 : inB b = true) (h3 : inB c = true) (h4 : inB d = true) : Quat14P w a b c d (.returned (.bool true)) w' := ⟨h, true, rfl, fun _ => ⟨h1, h2, h3, h4⟩⟩
set_option maxRecDepth 20000 in
set_option maxHeartbeats 2000000 in
theorem right14 (a b c d : Int) (w : World) : Calls Tryz.prog 14 #[.agg #[.int .i64 a, .int .i64 b, .int .i64 c, .int .i64 d]] w (Quat14P w a b c d) := by
  go_enter Tryz.func14, Tryz.ntmps14
  go_wp2
  refine wp_loop_rounds 5 ?_
  rw [rounds_succ]
  cases p0 : inB a with
  | false =>
    have C := fun W => Lib.hid (in9_at a false W p0)
    clear p0
    go_wp2_with (first | (go_at_call_of 9 a; refine (C _).out.mono ?_; rintro e w1 ⟨rfl, rfl⟩))
    go_ret
    exact Quat14P.no _ _ _ _ _ _ ((Below.refl _ _).alloc (Nat.le_refl _) _)
  | true =>
    have C := fun W => Lib.hid (in9_at a true W p0)
    have q0 := Lib.hid p0
    clear p0
    go_wp2_with (first | (go_at_call_of 9 a; refine (C _).out.mono ?_; rintro e w1 ⟨rfl, rfl⟩))
    clear C
    rw [rounds_succ]
    cases p1 : inB b with
    | false =>
      have C := fun W => Lib.hid (in9_at b false W p1)
      clear p1
      go_wp2_with (first | (go_at_call_of 9 b; refine (C _).out.mono ?_; rintro e w1 ⟨rfl, rfl⟩))
      go_ret
      exact Quat14P.no _ _ _ _ _ _ ((Below.refl _ _).alloc (Nat.le_refl _) _)
    | true =>
      have C := fun W => Lib.hid (in9_at b true W p1)
      have q1 := Lib.hid p1
      clear p1
      go_wp2_with (first | (go_at_call_of 9 b; refine (C _).out.mono ?_; rintro e w1 ⟨rfl, rfl⟩))
      clear C
      rw [rounds_succ]
      cases p2 : inB c with
      | false =>
        have C := fun W => Lib.hid (in9_at c false W p2)
        clear p2
        go_wp2_with (first | (go_at_call_of 9 c; refine (C _).out.mono ?_; rintro e w1 ⟨rfl, rfl⟩))
        go_ret
        exact Quat14P.no _ _ _ _ _ _ ((Below.refl _ _).alloc (Nat.le_refl _) _)
      | true =>
        have C := fun W => Lib.hid (in9_at c true W p2)
        have q2 := Lib.hid p2
        clear p2
        go_wp2_with (first | (go_at_call_of 9 c; refine (C _).out.mono ?_; rintro e w1 ⟨rfl, rfl⟩))
        clear C
        rw [rounds_succ]
        cases p3 : inB d with
        | false =>
          have C := fun W => Lib.hid (in9_at d false W p3)
          clear p3
          go_wp2_with (first | (go_at_call_of 9 d; refine (C _).out.mono ?_; rintro e w1 ⟨rfl, rfl⟩))
          go_ret
          exact Quat14P.no _ _ _ _ _ _ ((Below.refl _ _).alloc (Nat.le_refl _) _)
        | true =>
          have C := fun W => Lib.hid (in9_at d true W p3)
          have q3 := Lib.hid p3
          clear p3
          go_wp2_with (first | (go_at_call_of 9 d; refine (C _).out.mono ?_; rintro e w1 ⟨rfl, rfl⟩))
          clear C
          rw [rounds_succ]
          go_wp2
          go_ret
          exact Quat14P.yes _ _ _ _ _ _ ((Below.refl _ _).alloc (Nat.le_refl _) _) q0.out q1.out q2.out q3.out
end Go.Proofs.YtpjgmeogkomhlaaGreat
