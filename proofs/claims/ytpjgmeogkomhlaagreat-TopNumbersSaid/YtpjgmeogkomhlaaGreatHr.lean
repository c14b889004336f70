/-
  Rows that are read; the filter's two steps on whatever rows. No conditions but those named.
-/
import Derived.Test.YtpjgmeogkomhlaaGreatPk
import Derived.Test.YtpjgmeogkomhlaaGreatPl
namespace Go.Proofs.YtpjgmeogkomhlaaGreat
open Go.RowKit
/-- A row of numbers in memory: where it lies, its room, its numbers. -/
structure RowAt (W : World) (B O C : Nat) (l : List Int) : Prop where
  lt : B < W.heap.size
  len : l.length ≤ C
  cell : ∀ (i : Nat) (x : Int), l[i]? = some x → W.cell? ⟨B, O + i, none⟩ = some (.int .i64 x)
structure Rw where
  (B O C : Nat)
  (l : List Int)
def setRo : Nat → List (List CV) → Tr CB → Tr CB
  | _, [], t => t
  | i, cs :: L, t => setRo (i + 1) L (t.set i (.cells cs true))
theorem setRo_get : ∀ (L : List (List CV)) (i : Nat) (t : Tr CB) (j : Nat), (setRo i L t).get j = if i ≤ j ∧ j < i + L.length then (L[j - i]?).map (fun cs => CB.cells cs true) else t.get j
  | [], i, t, j => by
    rw [if_neg (by simp)]
    rfl
  | cs :: L, i, t, j => by
    rw [setRo, setRo_get L (i + 1)]
    by_cases h : j = i
    · subst h
      rw [if_neg (by omega), if_pos (by simp), Tr.get_set]
      simp
    · rw [Tr.get_set_ne _ _ h]
      by_cases h1 : i + 1 ≤ j ∧ j < i + 1 + L.length
      · rw [if_pos h1, if_pos (by simp; omega)]
        rw [show j - i = (j - (i + 1)) + 1 by omega, List.getElem?_cons_succ]
      · rw [if_neg h1, if_neg (by simp; omega)]
def vaR (rows : List Rw) (nums : List Int) : Va := ⟨fun i => (rows[i]?).map fun r => ⟨r.B, r.O, r.O + r.C⟩, fun i => nums[i]?, fun _ => none, fun i => (rows[i]?).map fun r => r.C⟩
def hR (L : List (List CV)) (nv : Nat) : CH := ⟨setRo 0 L .nil, L.length, nv, 0, L.length, []⟩
theorem relR (W : World) (rows : List Rw) (nums : List Int) (L : List (List CV)) (hl : L.length = rows.length) (hr : ∀ (i : Nat) (r : Rw), rows[i]? = some r → RowAt W r.B r.O r.C r.l) (hL : ∀ (i : Nat) (cs : List CV) (r : Rw), L[i]? = some cs → rows[i]? = some r → VRs (vaR rows nums) cs (numV r.l)) : Rel W (hR L nums.length) (vaR rows nums) W := by
  have get : ∀ b o, (hR L nums.length).t.get b = some o → ∃ cs, o = .cells cs true ∧ L[b]? = some cs := fun b o h => by
    have h : (setRo 0 L .nil).get b = some o := h
    rw [setRo_get] at h
    split at h
    · rw [Nat.sub_zero] at h
      cases q : L[b]? with
      | none => rw [q] at h; cases h
      | some cs => rw [q] at h; cases h; exact ⟨cs, rfl, rfl⟩
    · cases h
  refine ⟨Below.refl _ _, Nat.le_refl _, fun b o s hb hs => ?_, fun b b' o o' hb _ ho => ?_, fun b hb => ⟨?_, ?_⟩, fun i hi => List.getElem?_eq_none hi, fun _ _ => rfl, fun i hi => ?_, fun f hf => (by cases hf), fun b s hs => ?_⟩
  · obtain ⟨cs, rfl, hcs⟩ := get b o hb
    have hs : (rows[b]?).map (fun r => (⟨r.B, r.O, r.O + r.C⟩ : Spot)) = some s := hs
    cases q : rows[b]? with
    | none => rw [q] at hs; cases hs
    | some r =>
      rw [q] at hs
      cases hs
      have h1 := hr b r q
      have h2 := hL b cs r hcs q
      have h3 := h2.length
      simp only [numV, List.length_map] at h3
      refine ⟨by show r.O + cs.length ≤ r.O + r.C; have := h1.len; omega, fun e => (by cases e), fun i c hc => ?_⟩
      obtain ⟨v, h4, h5⟩ := h2.get hc
      unfold numV at h4
      rw [List.getElem?_map] at h4
      cases q2 : r.l[i]? with
      | none => rw [q2] at h4; cases h4
      | some x =>
        rw [q2] at h4
        cases h4
        exact ⟨_, h1.cell i x q2, h5⟩
  · obtain ⟨cs, rfl, _⟩ := get b o hb
    cases ho
  · show (rows[b]?).map _ = none
    have hb : L.length ≤ b := hb
    rw [List.getElem?_eq_none (by omega)]
    rfl
  · show (setRo 0 L .nil).get b = none
    have hb : L.length ≤ b := hb
    rw [setRo_get, if_neg (by omega)]
    rfl
  · show (rows[i]?).map _ = none
    have hi : L.length ≤ i := hi
    rw [List.getElem?_eq_none (by omega)]
    rfl
  · have hs : (rows[b]?).map (fun r => (⟨r.B, r.O, r.O + r.C⟩ : Spot)) = some s := hs
    cases q : rows[b]? with
    | none => rw [q] at hs; cases hs
    | some r => rw [q] at hs; cases hs; exact (hr b r q).lt
theorem var_at {rows : List Rw} {nums pre l post : List Int} {k i : Nat} (hn : nums = pre ++ l ++ post) (hk : l.length = k) (hi : pre.length = i) : VRs (vaR rows nums) (varC k i) (numV l) := by
  subst hk hi hn
  refine varC_ok l pre.length fun j x hx => ?_
  have hj := (List.getElem?_eq_some_iff.1 hx).1
  show (pre ++ l ++ post)[pre.length + j]? = some x
  rw [List.append_assoc, List.getElem?_append_right (Nat.le_add_right _ _), Nat.add_sub_cancel_left, List.getElem?_append_left hj]
  exact hx
/-- A slice of such a row, as a run knows it. -/
theorem slice_at {rows : List Rw} {nums : List Int} {b n : Nat} {r : Rw} (h : rows[b]? = some r) (hn : n ≤ r.C) : VR (vaR rows nums) (.slice (some (b, 0)) 1 n (.var b 0)) (.slice (some ⟨r.B, r.O, none⟩) n r.C) := by
  refine ⟨⟨r.B, r.O, r.O + r.C⟩, r.C, ?_, ?_, hn, by simp, by simp⟩
  · show (rows[b]?).map _ = _
    rw [h]
    rfl
  · have : (vaR rows nums).cap b = some r.C := by
      show (rows[b]?).map _ = _
      rw [h]
      rfl
    simp only [CC.den, this, Nat.sub_zero]
def rowV (r : Rw) (n : Nat) : Value := .slice (some ⟨r.B, r.O, none⟩) n r.C
def trkV (x p : Rw) : Value := .agg #[.int .i64 3, .int .i64 1, rowV x 3, .int .i64 3, .int .i64 3, rowV p 9]
def matV (a b : Int) (n : Nat) (m : Rw) : Value := .agg #[.int .i64 a, .int .i64 b, rowV m n]
theorem ii_ok (V : Va) (n : Int) : VR V (ii n) (.int .i64 n) := ⟨n, rfl, rfl⟩
theorem trk_at {rows : List Rw} {nums : List Int} {b : Nat} {x p : Rw} (hx : rows[b]? = some x) (hp : rows[b + 1]? = some p) (h3 : 3 ≤ x.C) (h9 : 9 ≤ p.C) : VR (vaR rows nums) (trkA b) (trkV x p) :=
  ⟨_, VRs.cons (ii_ok _ 3) (VRs.cons (ii_ok _ 1) (VRs.cons (slice_at hx h3) (VRs.cons (ii_ok _ 3) (VRs.cons (ii_ok _ 3) (VRs.cons (slice_at hp h9) (VRs.nil _)))))), rfl⟩
theorem mat_at {rows : List Rw} {nums : List Int} {r c b : Nat} {m : Rw} (hm : rows[b]? = some m) (h : r * c ≤ m.C) : VR (vaR rows nums) (matA r c b) (matV r c (r * c) m) :=
  ⟨_, VRs.cons (ii_ok _ r) (VRs.cons (ii_ok _ c) (VRs.cons (slice_at hm h) (VRs.nil _))), rfl⟩
/-- What Predict yields. -/
def PredP (w : World) (e : Ending) (w' : World) : Prop := (∃ (v : Value) (x : Bool), NewTrk w w' v ∧ e = .returned (.tuple #[v, .bool x, .int .i64 0])) ∧ Below w.heap.size w w'
theorem chk34_ok {w0 : World} {h : CH} {V : Va} {W : World} {c : CV} {v : Value} (r : Rel w0 h V W) (e : chk34 c h = true) (hv : VR V c v) : ∃ (u : Value) (x : Bool), NewTrk w0 W u ∧ v = .tuple #[u, .bool x, .int .i64 0] := by
  unfold chk34 at e
  split at e
  · rw [Bool.and_eq_true] at e
    obtain ⟨xs, ⟨_, _, q1, v1, _, _, q2, ⟨x, _, v2⟩, _, _, q3, v3, q4⟩, q5⟩ := hv
    exact ⟨_, x, trkC_ok r e.1 v1, by rw [q5, q1, q2, q3, show _ = [] from q4, v2, litOf_ok e.2 v3]⟩
  · cases e
def rows4 (x p f q : Rw) : List Rw := [x, p, f, q]
theorem predict34 (x p f q : Rw) (W : World) (hx : RowAt W x.B x.O x.C x.l) (hp : RowAt W p.B p.O p.C p.l) (hf : RowAt W f.B f.O f.C f.l) (hq : RowAt W q.B q.O q.C q.l) (lx : x.l.length = 3) (lp : p.l.length = 9) (lf : f.l.length = 9) (lq : q.l.length = 9) : Calls Tryz.prog 34 #[trkV x p, matV 3 3 9 f, matV 3 3 9 q] W (PredP W) := by
  have r := relR W [x, p, f, q] (x.l ++ p.l ++ f.l ++ q.l) [varC 3 0, varC 9 3, varC 9 12, varC 9 21] rfl (fun i r hi => by
    match i, hi with
    | 0, hi => cases hi; exact hx
    | 1, hi => cases hi; exact hp
    | 2, hi => cases hi; exact hf
    | 3, hi => cases hi; exact hq
    | n + 4, hi => cases hi) (fun i cs r hc hi => by
    match i, hc, hi with
    | 0, hc, hi => cases hc; cases hi; exact var_at (pre := []) (post := p.l ++ f.l ++ q.l) (by simp) lx rfl
    | 1, hc, hi => cases hc; cases hi; exact var_at (pre := x.l) (post := f.l ++ q.l) (by simp) lp lx
    | 2, hc, hi => cases hc; cases hi; exact var_at (pre := x.l ++ p.l) (post := q.l) (by simp) lf (by simp [lx, lp])
    | 3, hc, hi => cases hc; cases hi; exact var_at (pre := x.l ++ p.l ++ f.l) (post := []) (by simp) lq (by simp [lx, lp, lf])
    | n + 4, hc, hi => cases hi)
  rw [show (x.l ++ p.l ++ f.l ++ q.l).length = 30 by simp [lx, lp, lf, lq]] at r
  have e : hR [varC 3 0, varC 9 3, varC 9 12, varC 9 21] 30 = h34 := rfl
  rw [e] at r
  refine (runC hookQ_ok run34 r (VRs.cons (trk_at (b := 0) rfl rfl (by have := hx.len; omega) (by have := hp.len; omega)) (VRs.cons (mat_at (r := 3) (c := 3) (b := 2) rfl (by have := hf.len; omega)) (VRs.cons (mat_at (r := 3) (c := 3) (b := 3) rfl (by have := hq.len; omega)) (VRs.nil _))))).mono ?_
  rintro e W' ⟨c, h', V', v, h1, rfl, _, h2, h3⟩
  obtain ⟨u, b, g1, rfl⟩ := chk34_ok h3 h1 h2
  exact ⟨⟨u, b, g1, rfl⟩, h3.bel⟩
/-- What Update yields: the track as it was, or a new one. -/
def UpdP (t : Value) (w : World) (e : Ending) (w' : World) : Prop := (∃ x : Bool, e = .returned (.tuple #[t, .bool false, .bool x, .int .i64 0]) ∨ ∃ v, NewTrk w w' v ∧ e = .returned (.tuple #[v, .bool true, .bool x, .int .i64 0])) ∧ Below w.heap.size w w'
theorem chk78_ok {w0 : World} {h : CH} {V : Va} {W : World} {c : CV} {v t : Value} (r : Rel w0 h V W) (e : chk78 c h = true) (hv : VR V c v) (ht : ∀ u, VR V (trkA 0) u → u = t) : ∃ x : Bool, v = .tuple #[t, .bool false, .bool x, .int .i64 0] ∨ ∃ u, NewTrk w0 W u ∧ v = .tuple #[u, .bool true, .bool x, .int .i64 0] := by
  unfold chk78 at e
  split at e
  · rw [Bool.and_eq_true] at e
    obtain ⟨xs, ⟨_, _, q1, v1, _, _, q2, ⟨y, v2, v2'⟩, _, _, q3, ⟨x, _, v3⟩, _, _, q4, v4, q5⟩, q6⟩ := hv
    cases v2
    exact ⟨x, .inr ⟨_, trkC_ok r e.1 v1, by rw [q6, q1, q2, q3, q4, show _ = [] from q5, v2', v3, litOf_ok e.2 v4]⟩⟩
  · rw [Bool.and_eq_true] at e
    obtain ⟨xs, ⟨_, _, q1, v1, _, _, q2, ⟨y, v2, v2'⟩, _, _, q3, ⟨x, _, v3⟩, _, _, q4, v4, q5⟩, q6⟩ := hv
    cases v2
    rw [CV.same_eq _ _ e.1] at v1
    exact ⟨x, .inl (by rw [q6, q1, q2, q3, q4, show _ = [] from q5, v2', v3, litOf_ok e.2 v4, ht _ v1])⟩
  · cases e
theorem trkA_fix {V : Va} {u : Value} {s1 s2 : Spot} {C1 C2 : Nat} (h : VR V (trkA 0) u) (b1 : V.blk 0 = some s1) (b2 : V.blk 1 = some s2) (c1 : V.cap 0 = some C1) (c2 : V.cap 1 = some C2) : u = .agg #[.int .i64 3, .int .i64 1, .slice (some ⟨s1.blk, s1.off, none⟩) 3 C1, .int .i64 3, .int .i64 3, .slice (some ⟨s2.blk, s2.off, none⟩) 9 C2] := by
  obtain ⟨xs, ⟨_, _, q1, ⟨n1, d1, v1⟩, _, _, q2, ⟨n2, d2, v2⟩, _, _, q3, ⟨t1, k1, a1, a2, _, _, v3⟩, _, _, q4, ⟨n4, d4, v4⟩, _, _, q5, ⟨n5, d5, v5⟩, _, _, q6, ⟨t2, k2, g1, g2, _, _, v6⟩, q7⟩, q8⟩ := h
  cases d1
  cases d2
  cases d4
  cases d5
  rw [b1] at a1
  rw [b2] at g1
  cases a1
  cases g1
  simp only [CC.den, c1, c2, Nat.sub_zero, Option.some.injEq] at a2 g2
  subst a2 g2
  rw [q8, q1, q2, q3, q4, q5, q6, show _ = [] from q7, v1, v2, v3, v4, v5, v6]
  simp
theorem update78 (x p m : Rw) (z r g : Int) (W : World) (hx : RowAt W x.B x.O x.C x.l) (hp : RowAt W p.B p.O p.C p.l) (hm : RowAt W m.B m.O m.C m.l) (lx : x.l.length = 3) (lp : p.l.length = 9) (lm : m.l.length = 3) (hr0 : 1 ≤ r) (hr1 : r ≤ topQ) : Calls Tryz.prog 78 #[trkV x p, matV 1 3 3 m, .int .i64 z, .int .i64 r, .int .i64 g] W (UpdP (trkV x p) W) := by
  have rl := relR W [x, p, m] (x.l ++ p.l ++ m.l ++ [z, r, g]) [varC 3 0, varC 9 3, varC 3 12] rfl (fun i r hi => by
    match i, hi with
    | 0, hi => cases hi; exact hx
    | 1, hi => cases hi; exact hp
    | 2, hi => cases hi; exact hm
    | n + 3, hi => cases hi) (fun i cs r' hc hi => by
    match i, hc, hi with
    | 0, hc, hi => cases hc; cases hi; exact var_at (pre := []) (post := p.l ++ m.l ++ [z, r, g]) (by simp) lx rfl
    | 1, hc, hi => cases hc; cases hi; exact var_at (pre := x.l) (post := m.l ++ [z, r, g]) (by simp) lp lx
    | 2, hc, hi => cases hc; cases hi; exact var_at (pre := x.l ++ p.l) (post := [z, r, g]) (by simp) lm (by simp [lx, lp])
    | n + 3, hc, hi => cases hi)
  have hl : (x.l ++ p.l ++ m.l).length = 15 := by simp [lx, lp, lm]
  rw [show (x.l ++ p.l ++ m.l ++ [z, r, g]).length = 18 by simp [lx, lp, lm]] at rl
  have e : hR [varC 3 0, varC 9 3, varC 3 12] 18 = h78 := rfl
  rw [e] at rl
  have num : ∀ i, (vaR [x, p, m] (x.l ++ p.l ++ m.l ++ [z, r, g])).num (15 + i) = [z, r, g][i]? := fun i => by
    show (x.l ++ p.l ++ m.l ++ [z, r, g])[15 + i]? = _
    rw [List.getElem?_append_right (by omega), hl, Nat.add_sub_cancel_left]
  refine (runC hookQ_ok run78 rl (VRs.cons (trk_at (b := 0) rfl rfl (by have := hx.len; omega) (by have := hp.len; omega)) (VRs.cons (mat_at (r := 1) (c := 3) (b := 2) rfl (by have := hm.len; omega)) (VRs.cons ⟨z, num 0, rfl⟩ (VRs.cons ⟨r, ?_, rfl⟩ (VRs.cons ⟨g, num 2, rfl⟩ (VRs.nil _))))))).mono ?_
  · have := num 1
    simp only [IE.den]
    rw [show (16 : Nat) = 15 + 1 from rfl, this]
    exact if_pos ⟨hr0, hr1⟩
  · rintro e W' ⟨c, h', V', v, h1, rfl, hE, h2, h3⟩
    obtain ⟨b, g1⟩ := chk78_ok (t := trkV x p) h3 h1 h2 (fun u hu => trkA_fix hu (hE.le.blk 0 _ rfl) (hE.le.blk 1 _ rfl) (hE.le.cap 0 _ rfl) (hE.le.cap 1 _ rfl))
    refine ⟨⟨b, ?_⟩, h3.bel⟩
    rcases g1 with rfl | ⟨u, g2, rfl⟩
    · exact .inl rfl
    · exact .inr ⟨u, g2, rfl⟩
end Go.Proofs.YtpjgmeogkomhlaaGreat
