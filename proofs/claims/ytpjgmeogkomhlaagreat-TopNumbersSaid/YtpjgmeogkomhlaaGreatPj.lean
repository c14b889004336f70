/-
  The fixed point's quotients: in bounds.
  States of the run that are written down: when one is what the run has come to. No conditions.
-/
import Derived.Test.YtpjgmeogkomhlaaGreatHj
import Derived.Test.YtpjgmeogkomhlaaGreatYb
namespace Go.Proofs.YtpjgmeogkomhlaaGreat
open Go.RowKit
def SizeP (a : Int) (w : World) (e : Ending) (w' : World) : Prop := (∃ n : Int, e = .returned (.int .u64 n) ∧ 0 ≤ n ∧ n ≤ 70368744177664 ∧ (a ≠ 0 → 0 < n)) ∧ w = w'
theorem SizeP.of {a n : Int} (w : World) (h : 0 ≤ n ∧ n ≤ 70368744177664 ∧ (a ≠ 0 → 0 < n)) : SizeP a w (.returned (.int .u64 n)) w := ⟨⟨n, rfl, h⟩, rfl⟩
theorem size70b (a : Int) (h0 : -70368744177664 ≤ a) (h1 : a ≤ 70368744177663) (w : World) : Calls Tryz.prog 70 #[.int .i64 a] w (SizeP a w) := by
  by_cases h : a < 0
  · have d : decide (a < 0) = true := decide_eq_true h
    go_enter Tryz.func70, Tryz.ntmps70
    go_wp2
    refine bodyPost_ret (by simp [results, Tryz.results70, go_sem]; rfl) rfl (SizeP.of _ ?_)
    omega
  · have d : decide (a < 0) = false := decide_eq_false h
    go_enter Tryz.func70, Tryz.ntmps70
    go_wp2
    refine bodyPost_ret (by simp [results, Tryz.results70, go_sem]; rfl) rfl (SizeP.of _ ?_)
    omega
theorem size70p (a : Int) (h0 : -70368744177664 ≤ a) (h1 : a ≤ 70368744177663) (h2 : a ≠ 0) (w : World) : Calls Tryz.prog 70 #[.int .i64 a] w (fun e w' => (∃ n : Int, e = .returned (.int .u64 n) ∧ 0 < n ∧ n ≤ 70368744177664) ∧ w = w') :=
  (size70b a h0 h1 w).mono fun _ _ ⟨⟨n, q1, _, q3, q4⟩, q5⟩ => ⟨⟨n, q1, q4 h2, q3⟩, q5⟩
set_option maxHeartbeats 4000000 in
set_option maxRecDepth 100000 in
theorem div63 (a b : Int) (w : World) : Calls Tryz.prog 63 #[.int .i64 a, .int .i64 b] w (Bnd w) := by
  have C := fun W => Lib.hid (both65 a b W)
  have HA := Lib.hid (clampN_rng a)
  have HB := Lib.hid (clampN_rng b)
  generalize ((clampN a != a) || (clampN b != b)) = o at *
  generalize clampN a = u at *
  generalize clampN b = v at *
  cases hv : (v == 0) with
  | true =>
    go_enter Tryz.func63, Tryz.ntmps63
    go_wp2_with (first
      | (go_at_call 65; refine (C _).out.mono ?_; rintro e w1 ⟨rfl, rfl⟩))
    all_goals exact bodyPost_ret (by simp [results, Tryz.results63, go_sem]; exact ⟨rfl, rfl⟩) rfl (Bnd.mk _ _ (by omega) (by omega) (Below.refl _ _))
  | false =>
    have HV := Lib.hid (show v ≠ 0 by simpa using hv)
    go_enter Tryz.func63, Tryz.ntmps63
    go_wp2_with (first
      | (go_at_call 65; refine (C _).out.mono ?_; rintro e w1 ⟨rfl, rfl⟩)
      | (go_at_call_of 70 u; refine (size70b u HA.out.1 HA.out.2 _).mono ?_; rintro e w1 ⟨⟨m, rfl, hm1, hm2, _⟩, rfl⟩)
      | (go_at_call_of 70 v; refine (size70p v HB.out.1 HB.out.2 HV.out _).mono ?_; rintro e w1 ⟨⟨n, rfl, hn1, hn2⟩, rfl⟩)
      | (go_at_call 71; refine (signed71 _ _ _ _).mono ?_; rintro e w1 ⟨⟨q, x, rfl, hq1, hq2⟩, hb⟩))
    all_goals first
      | exact bodyPost_ret (by simp [results, Tryz.results63, go_sem]; first | rfl | exact ⟨rfl, rfl⟩) rfl (Bnd.mk _ _ hq1 hq2 hb)
      | skip
    refine (div104all _ _ _ hn1 hn2 (by omega) (by omega) (by rw [IntKind.wrap_u64]; omega) _).mono ?_
    rintro e w1 ⟨⟨d1, d2, rfl⟩, hb0⟩
    have HB0 := Lib.hid hb0
    clear hb0 hv
    obtain ⟨bE, hE⟩ : ∃ b, (d2 == IntKind.u64.wrap (n - d2)) = b := ⟨_, rfl⟩
    go_wp2_with (first
      | (go_at_call 71; refine (signed71 _ _ _ _).mono ?_; rintro e w1 ⟨⟨q, x, rfl, hq1, hq2⟩, hb⟩))
    all_goals exact bodyPost_ret (by simp [results, Tryz.results63, go_sem]; first | rfl | exact ⟨rfl, rfl⟩) rfl (Bnd.mk _ _ hq1 hq2 (HB0.out.trans (hb.mono HB0.out.size)))
end Go.Proofs.YtpjgmeogkomhlaaGreat
namespace Go.Proofs.YtpjgmeogkomhlaaGreat
open Go.RowKit
/-- All that one tree tells, the other tells. -/
def Tr.sub {α : Type} (g : α → α → Bool) : Tr α → Tr α → Bool
  | .nil, _ => true
  | .node l v r, .nil => (match v with | none => true | some _ => false) && Tr.sub g l .nil && Tr.sub g r .nil
  | .node l v r, .node l' v' r' => (match v, v' with | none, _ => true | some x, some y => g x y | some _, none => false) && Tr.sub g l l' && Tr.sub g r r'
theorem Tr.sub_get {α : Type} {g : α → α → Bool} (hg : ∀ x y, g x y = true → x = y) : ∀ (t t' : Tr α), Tr.sub g t t' = true → ∀ i x, t.get i = some x → t'.get i = some x
  | .nil, _, _, i, x, e => by cases e
  | .node l v r, .nil, h, i, x, e => by
    simp only [Tr.sub, Bool.and_eq_true] at h
    unfold Tr.get at e
    split at e
    · rw [e] at h; cases h.1.1
    · split at e
      · cases Tr.sub_get hg l .nil h.1.2 _ _ e
      · cases Tr.sub_get hg r .nil h.2 _ _ e
  | .node l v r, .node l' v' r', h, i, x, e => by
    simp only [Tr.sub, Bool.and_eq_true] at h
    unfold Tr.get at e ⊢
    split at e
    · rename_i h0
      rw [if_pos h0]
      rw [e] at h
      cases v' with
      | none => cases h.1.1
      | some y => rw [hg _ _ h.1.1]
    · rename_i h0
      rw [if_neg h0]
      split at e
      · rename_i h1
        rw [if_pos h1]
        exact Tr.sub_get hg l l' h.1.2 _ _ e
      · rename_i h1
        rw [if_neg h1]
        exact Tr.sub_get hg r r' h.2 _ _ e
def entSame : List (Int × CV) → List (Int × CV) → Bool
  | [], [] => true
  | (a, x) :: xs, (b, y) :: ys => a == b && CV.same x y && entSame xs ys
  | _, _ => false
theorem entSame_eq : ∀ a b : List (Int × CV), entSame a b = true → a = b
  | [], b, h => by cases b <;> first | rfl | cases h
  | (a, x) :: xs, b, h => by
    cases b <;> first | (cases h; done) | skip
    simp only [entSame, Bool.and_eq_true, beq_iff_eq] at h
    rw [h.1.1, CV.same_eq _ _ h.1.2, entSame_eq _ _ h.2]
def CB.same : CB → CB → Bool
  | .cells a r, .cells b s => r == s && CV.sames a b
  | .map a, .map b => entSame a b
  | .dead, .dead => true
  | _, _ => false
theorem CB.same_eq : ∀ a b : CB, CB.same a b = true → a = b
  | .cells a r, b, h => by
    cases b <;> first | (cases h; done) | skip
    simp only [CB.same, Bool.and_eq_true, beq_iff_eq] at h
    rw [h.1, CV.sames_eq _ _ h.2]
  | .map a, b, h => by
    cases b <;> first | (cases h; done) | skip
    rw [entSame_eq _ _ h]
  | .dead, b, h => by
    cases b <;> first | rfl | cases h
/-- Memory as written down is what the run has come to (blocks may be left out). -/
def subH (h1 h : CH) : Bool := Tr.sub CB.same h1.t h.t && Nat.beq h1.n h.n && Nat.beq h1.nv h.nv && Nat.beq h1.nb h.nb && Nat.beq h1.nc h.nc && (match h1.fs with | [] => true | _ => false)
def chkSt (t1 : Tr CV) (h1 : CH) (t : Tr CV) (h : CH) : Bool := Tr.sub CV.same t1 t && subH h1 h
theorem Rel.sub {w0 : World} {h1 h : CH} {V : Va} {W : World} (r : Rel w0 h V W) (e : subH h1 h = true) : Rel w0 h1 V W := by
  unfold subH at e
  simp only [Bool.and_eq_true] at e
  obtain ⟨⟨⟨⟨⟨e1, e2⟩, e3⟩, e4⟩, e5⟩, e6⟩ := e
  have g := Tr.sub_get CB.same_eq _ _ e1
  have n := Nat.eq_of_beq_eq_true e2
  refine ⟨r.bel, r.siz, fun b o s hb => r.blk b o s (g b o hb), fun b b' o o' h1 h2 => r.sep b b' o o' (g b o h1) (g b' o' h2), fun b hb => ?_, fun i hi => r.fv i (by rw [← Nat.eq_of_beq_eq_true e3]; exact hi), fun i hi => r.fo i (by rw [← Nat.eq_of_beq_eq_true e4]; exact hi), fun i hi => r.fc i (by rw [← Nat.eq_of_beq_eq_true e5]; exact hi), ?_, r.there⟩
  · have h2 := r.fb b (by rw [← n]; exact hb)
    refine ⟨h2.1, ?_⟩
    cases q : h1.t.get b with
    | none => rfl
    | some o => rw [g b o q] at h2; cases h2.2
  · intro f hf
    split at e6
    · rename_i q; rw [q] at hf; cases hf
    · cases e6
theorem FR.sub {V : Va} {N : Nat} {t1 t : Tr CV} {a : Act} (h : FR V ⟨N, t⟩ a) (e : Tr.sub CV.same t1 t = true) : FR V ⟨N, t1⟩ a :=
  ⟨h.1, h.2.1, fun i c hc => h.2.2 i c (Tr.sub_get CV.same_eq _ _ e i c hc)⟩
/-- Runs of zeros. -/
def zr : Nat → List CV → List CV
  | 0, l => l
  | n + 1, l => CV.int .i64 (.lit 0) :: zr n l
def lc : List CV → List CV → List CV
  | [], l => l
  | x :: xs, l => x :: lc xs l
def ii (n : Int) : CV := .int .i64 (.lit n)
def bb (b : Bool) : CV := .bool (.lit b)
end Go.Proofs.YtpjgmeogkomhlaaGreat
