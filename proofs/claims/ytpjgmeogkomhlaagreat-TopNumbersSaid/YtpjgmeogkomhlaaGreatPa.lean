/-
  Values that a run knows in part, and what they stand for: no conditions.
  What a run knows of memory, and what that stands for: no conditions. No conditions but those named.
-/
import Derived.Test.YtpjgmeogkomhlaaGreatRows
import Derived.WalkKit
import Derived.Below
namespace Go.Proofs.YtpjgmeogkomhlaaGreat
open Go.RowKit
/-- Numbers by their making. -/
inductive IE where
  | lit (n : Int)
  | var (i : Nat)
  | add (k : IntKind) (a b : IE)
  | sub (k : IntKind) (a b : IE)
  | mn (a b : IE)
  | mx (a b : IE)
  | conv (k : IntKind) (a : IE)
  | bnd (i : Nat) (lo hi : Int)
  | half (a : IE)
/-- Half of a number, to the nearest one, at a tie to the even one. -/
def halfN (n : Int) : Int := if n % 2 = 1 ∧ n / 2 % 2 = 1 then n / 2 + 1 else n / 2
/-- Truths by their making. -/
inductive BE where
  | lit (b : Bool)
  | var (i : Nat)
  | lt (a b : IE)
  | le (a b : IE)
  | eq (a b : IE)
  | not (a : BE)
  | beq (a b : BE)
  | ite (c a b : BE)
/-- A slice's room. -/
inductive CC where
  | lit (n : Nat)
  | var (i d : Nat)
inductive CV where
  | any
  | bool (e : BE)
  | int (k : IntKind) (e : IE)
  | nilp
  | ptr (b o : Nat)
  | slice (a : Option (Nat × Nat)) (es len : Nat) (cap : CC)
  | map (b : Nat)
  | func (f : FuncId) (first captured : List CV)
  | nilf
  | agg (cs : List CV)
  | tup (cs : List CV)
  | cond (s : BE) (want : Bool) (v : CV)
/-- Where a block lies: its block, its first cell, how many cells that block has. -/
structure Spot where
  (blk off size : Nat)
/-- What the letters stand for. -/
structure Va where
  (blk : Nat → Option Spot)
  (num : Nat → Option Int)
  (bol : Nat → Option Bool)
  (cap : Nat → Option Nat)
def IE.den (V : Va) : IE → Option Int
  | .lit n => some n
  | .var i => V.num i
  | .add k a b => match a.den V, b.den V with | some x, some y => some (k.wrap (x + y)) | _, _ => none
  | .sub k a b => match a.den V, b.den V with | some x, some y => some (k.wrap (x - y)) | _, _ => none
  | .mn a b => match a.den V, b.den V with | some x, some y => some (if y < x then y else x) | _, _ => none
  | .mx a b => match a.den V, b.den V with | some x, some y => some (if y > x then y else x) | _, _ => none
  | .conv k a => match a.den V with | some x => some (k.wrap x) | _ => none
  | .bnd i lo hi => match V.num i with | some n => if lo ≤ n ∧ n ≤ hi then some n else none | none => none
  | .half a => match a.den V with | some x => some (halfN x) | _ => none
def BE.den (V : Va) : BE → Option Bool
  | .lit b => some b
  | .var i => V.bol i
  | .lt a b => match a.den V, b.den V with | some x, some y => some (decide (x < y)) | _, _ => none
  | .le a b => match a.den V, b.den V with | some x, some y => some (decide (x ≤ y)) | _, _ => none
  | .eq a b => match a.den V, b.den V with | some x, some y => some (x == y) | _, _ => none
  | .not a => match a.den V with | some x => some (!x) | _ => none
  | .beq a b => match a.den V, b.den V with | some x, some y => some (x == y) | _, _ => none
  | .ite c a b => match c.den V with | some true => a.den V | some false => b.den V | _ => none
def CC.den (V : Va) : CC → Option Nat
  | .lit n => some n
  | .var i d => match V.cap i with | some c => some (c - d) | none => none
structure Va.le (V V' : Va) : Prop where
  blk : ∀ i x, V.blk i = some x → V'.blk i = some x
  num : ∀ i x, V.num i = some x → V'.num i = some x
  bol : ∀ i x, V.bol i = some x → V'.bol i = some x
  cap : ∀ i x, V.cap i = some x → V'.cap i = some x
theorem Va.le.refl (V : Va) : V.le V := ⟨fun _ _ h => h, fun _ _ h => h, fun _ _ h => h, fun _ _ h => h⟩
theorem Va.le.trans {V V' V'' : Va} (h : V.le V') (h' : V'.le V'') : V.le V'' := ⟨fun i x e => h'.blk i x (h.blk i x e), fun i x e => h'.num i x (h.num i x e), fun i x e => h'.bol i x (h.bol i x e), fun i x e => h'.cap i x (h.cap i x e)⟩
theorem IE.den_mono {V V' : Va} (h : V.le V') : ∀ (e : IE) (n : Int), e.den V = some n → e.den V' = some n
  | .lit _, _, e => e
  | .var i, n, e => h.num i n e
  | .add k a b, n, e => by
    simp only [IE.den] at e ⊢
    cases ha : a.den V <;> cases hb : b.den V <;> simp only [ha, hb] at e
    all_goals first | (cases e; done) | (rw [IE.den_mono h a _ ha, IE.den_mono h b _ hb]; exact e)
  | .sub k a b, n, e => by
    simp only [IE.den] at e ⊢
    cases ha : a.den V <;> cases hb : b.den V <;> simp only [ha, hb] at e
    all_goals first | (cases e; done) | (rw [IE.den_mono h a _ ha, IE.den_mono h b _ hb]; exact e)
  | .mn a b, n, e => by
    simp only [IE.den] at e ⊢
    cases ha : a.den V <;> cases hb : b.den V <;> simp only [ha, hb] at e
    all_goals first | (cases e; done) | (rw [IE.den_mono h a _ ha, IE.den_mono h b _ hb]; exact e)
  | .mx a b, n, e => by
    simp only [IE.den] at e ⊢
    cases ha : a.den V <;> cases hb : b.den V <;> simp only [ha, hb] at e
    all_goals first | (cases e; done) | (rw [IE.den_mono h a _ ha, IE.den_mono h b _ hb]; exact e)
  | .conv k a, n, e => by
    simp only [IE.den] at e ⊢
    cases ha : a.den V <;> simp only [ha] at e
    all_goals first | (cases e; done) | (rw [IE.den_mono h a _ ha]; exact e)
  | .half a, n, e => by
    simp only [IE.den] at e ⊢
    cases ha : a.den V <;> simp only [ha] at e
    all_goals first | (cases e; done) | (rw [IE.den_mono h a _ ha]; exact e)
  | .bnd i lo hi, n, e => by
    simp only [IE.den] at e ⊢
    cases hc : V.num i with
    | none => simp only [hc] at e; cases e
    | some c => rw [h.num i c hc]; simp only [hc] at e; exact e
theorem BE.den_mono {V V' : Va} (h : V.le V') : ∀ (e : BE) (n : Bool), e.den V = some n → e.den V' = some n
  | .lit _, _, e => e
  | .var i, n, e => h.bol i n e
  | .lt a b, n, e => by
    simp only [BE.den] at e ⊢
    cases ha : a.den V <;> cases hb : b.den V <;> simp only [ha, hb] at e
    all_goals first | (cases e; done) | (rw [IE.den_mono h a _ ha, IE.den_mono h b _ hb]; exact e)
  | .le a b, n, e => by
    simp only [BE.den] at e ⊢
    cases ha : a.den V <;> cases hb : b.den V <;> simp only [ha, hb] at e
    all_goals first | (cases e; done) | (rw [IE.den_mono h a _ ha, IE.den_mono h b _ hb]; exact e)
  | .eq a b, n, e => by
    simp only [BE.den] at e ⊢
    cases ha : a.den V <;> cases hb : b.den V <;> simp only [ha, hb] at e
    all_goals first | (cases e; done) | (rw [IE.den_mono h a _ ha, IE.den_mono h b _ hb]; exact e)
  | .not a, n, e => by
    simp only [BE.den] at e ⊢
    cases ha : a.den V <;> simp only [ha] at e
    all_goals first | (cases e; done) | (rw [BE.den_mono h a _ ha]; exact e)
  | .beq a b, n, e => by
    simp only [BE.den] at e ⊢
    cases ha : a.den V <;> cases hb : b.den V <;> simp only [ha, hb] at e
    all_goals first | (cases e; done) | (rw [BE.den_mono h a _ ha, BE.den_mono h b _ hb]; exact e)
  | .ite c a b, n, e => by
    simp only [BE.den] at e ⊢
    cases hc : c.den V with
    | none => simp only [hc] at e; cases e
    | some t =>
      rw [BE.den_mono h c _ hc]
      cases t <;> simp only [hc] at e ⊢
      · exact BE.den_mono h b _ e
      · exact BE.den_mono h a _ e
theorem CC.den_mono {V V' : Va} (h : V.le V') : ∀ (e : CC) (n : Nat), e.den V = some n → e.den V' = some n
  | .lit _, _, e => e
  | .var i d, n, e => by
    simp only [CC.den] at e ⊢
    cases hc : V.cap i with
    | none => simp only [hc] at e; cases e
    | some c => rw [h.cap i c hc]; simp only [hc] at e; exact e
mutual
/-- A value is what is known of it. -/
def VR (V : Va) : CV → Value → Prop
  | .any, _ => True
  | .bool e, v => ∃ b, e.den V = some b ∧ v = .bool b
  | .int k e, v => ∃ n, e.den V = some n ∧ v = .int k n
  | .nilp, v => v = .pointer none
  | .ptr b o, v => ∃ s, V.blk b = some s ∧ v = .pointer (some ⟨s.blk, s.off + o, none⟩)
  | .slice none _ len cap, v => len = 0 ∧ cap.den V = some 0 ∧ v = .slice none 0 0
  | .slice (some (b, o)) es len cap, v => ∃ s c, V.blk b = some s ∧ cap.den V = some c ∧ len ≤ c ∧ s.off + o + c * es ≤ s.size ∧ v = .slice (some ⟨s.blk, s.off + o, none⟩) len c
  | .map b, v => ∃ s, V.blk b = some s ∧ v = .map (some s.blk)
  | .func f first captured, v => ∃ xs ys : List Value, VRs V first xs ∧ VRs V captured ys ∧ v = .func (.func f) xs.toArray ys.toArray
  | .nilf, v => v = .nilFunc
  | .agg cs, v => ∃ xs : List Value, VRs V cs xs ∧ v = .agg xs.toArray
  | .tup cs, v => ∃ xs : List Value, VRs V cs xs ∧ v = .tuple xs.toArray
  | .cond s want c, v => ∃ b, s.den V = some b ∧ (b = want → VR V c v) ∧ (b ≠ want → v = .tuple #[])
def VRs (V : Va) : List CV → List Value → Prop
  | [], vs => vs = []
  | c :: cs, vs => ∃ v ws, vs = v :: ws ∧ VR V c v ∧ VRs V cs ws
end
mutual
theorem VR.mono {V V' : Va} (h : V.le V') : ∀ (c : CV) (v : Value), VR V c v → VR V' c v
  | .any, _, e => e
  | .bool e, _, ⟨b, h1, h2⟩ => ⟨b, BE.den_mono h e b h1, h2⟩
  | .int _ e, _, ⟨n, h1, h2⟩ => ⟨n, IE.den_mono h e n h1, h2⟩
  | .nilp, _, e => e
  | .ptr b _, _, ⟨s, h1, h2⟩ => ⟨s, h.blk b s h1, h2⟩
  | .slice none _ _ cap, _, ⟨h1, h2, h3⟩ => ⟨h1, CC.den_mono h cap 0 h2, h3⟩
  | .slice (some (b, _)) _ _ cap, _, ⟨s, c, h1, h2, h3, h4, h5⟩ => ⟨s, c, h.blk b s h1, CC.den_mono h cap c h2, h3, h4, h5⟩
  | .map b, _, ⟨s, h1, h2⟩ => ⟨s, h.blk b s h1, h2⟩
  | .func _ first captured, _, ⟨xs, ys, h1, h2, h3⟩ => ⟨xs, ys, VRs.mono h first xs h1, VRs.mono h captured ys h2, h3⟩
  | .nilf, _, e => e
  | .agg cs, _, ⟨xs, h1, h2⟩ => ⟨xs, VRs.mono h cs xs h1, h2⟩
  | .tup cs, _, ⟨xs, h1, h2⟩ => ⟨xs, VRs.mono h cs xs h1, h2⟩
  | .cond s _ c, v, ⟨b, h1, h2, h3⟩ => ⟨b, BE.den_mono h s b h1, fun e => VR.mono h c v (h2 e), h3⟩
theorem VRs.mono {V V' : Va} (h : V.le V') : ∀ (cs : List CV) (vs : List Value), VRs V cs vs → VRs V' cs vs
  | [], _, e => e
  | c :: cs, _, ⟨v, ws, h1, h2, h3⟩ => ⟨v, ws, h1, VR.mono h c v h2, VRs.mono h cs ws h3⟩
end
theorem VRs.nil (V : Va) : VRs V [] [] := rfl
theorem VRs.cons {V : Va} {c : CV} {cs : List CV} {v : Value} {vs : List Value} (h : VR V c v) (hs : VRs V cs vs) : VRs V (c :: cs) (v :: vs) := ⟨v, vs, rfl, h, hs⟩
theorem VRs.length {V : Va} : ∀ {cs : List CV} {vs : List Value}, VRs V cs vs → cs.length = vs.length
  | [], vs, h => by rw [show vs = [] from h]; rfl
  | _ :: _, _, ⟨_, _, e, _, h⟩ => by rw [e, List.length_cons, List.length_cons, VRs.length h]
theorem VRs.get {V : Va} : ∀ {cs : List CV} {vs : List Value} {i : Nat} {c : CV}, VRs V cs vs → cs[i]? = some c → ∃ v, vs[i]? = some v ∧ VR V c v
  | _ :: _, _, 0, c, ⟨v, _, e, h, _⟩, hc => by
    simp at hc
    subst hc
    exact ⟨v, by rw [e]; rfl, h⟩
  | _ :: _, _, i + 1, c, ⟨_, _, e, _, h⟩, hc => by
    obtain ⟨v, h1, h2⟩ := VRs.get (i := i) h (by simpa using hc)
    exact ⟨v, by rw [e]; simpa using h1, h2⟩
theorem VRs.append {V : Va} : ∀ {cs ds : List CV} {vs ws : List Value}, VRs V cs vs → VRs V ds ws → VRs V (cs ++ ds) (vs ++ ws)
  | [], _, _, _, h, h' => by rw [show _ = [] from h]; exact h'
  | _ :: _, _, _, _, ⟨v, _, e, h, hs⟩, h' => ⟨v, _, by rw [e]; rfl, h, VRs.append hs h'⟩
theorem VRs.take {V : Va} : ∀ {cs : List CV} {vs : List Value} (n : Nat), VRs V cs vs → VRs V (cs.take n) (vs.take n)
  | [], _, n, h => by rw [show _ = [] from h]; simp; exact rfl
  | _ :: _, _, 0, _ => by simp; exact rfl
  | _ :: _, _, n + 1, ⟨v, _, e, h, hs⟩ => ⟨v, _, by rw [e]; rfl, h, VRs.take n hs⟩
theorem VRs.drop {V : Va} : ∀ {cs : List CV} {vs : List Value} (n : Nat), VRs V cs vs → VRs V (cs.drop n) (vs.drop n)
  | [], _, n, h => by rw [show _ = [] from h]; simp; exact rfl
  | _ :: _, _, 0, h => h
  | _ :: _, _, n + 1, ⟨v, _, e, h, hs⟩ => by rw [e]; exact VRs.drop n hs
theorem VRs.of_get {V : Va} : ∀ {cs : List CV} {vs : List Value}, cs.length = vs.length → (∀ (i : Nat) (c : CV) (v : Value), cs[i]? = some c → vs[i]? = some v → VR V c v) → VRs V cs vs
  | [], vs, h, _ => List.length_eq_zero_iff.1 h.symm
  | c :: cs, [], h, _ => by simp at h
  | c :: cs, v :: vs, h, hg => ⟨v, vs, rfl, hg 0 c v rfl rfl, VRs.of_get (by simpa using h) (fun i c' v' h1 h2 => hg (i + 1) c' v' (by simpa using h1) (by simpa using h2))⟩
end Go.Proofs.YtpjgmeogkomhlaaGreat
namespace Go.Proofs.YtpjgmeogkomhlaaGreat
open Go.RowKit
/-- A row by its places, as a tree. -/
inductive Tr (α : Type) where
  | nil
  | node (l : Tr α) (v : Option α) (r : Tr α)
def Tr.get {α : Type} : Tr α → Nat → Option α
  | .nil, _ => none
  | .node l v r, i => if i = 0 then v else if i % 2 = 1 then l.get (i / 2) else r.get (i / 2 - 1)
def Tr.setF {α : Type} : Nat → Tr α → Nat → α → Tr α
  | 0, t, _, _ => t
  | n + 1, .nil, i, x => if i = 0 then .node .nil (some x) .nil else if i % 2 = 1 then .node (Tr.setF n .nil (i / 2) x) none .nil else .node .nil none (Tr.setF n .nil (i / 2 - 1) x)
  | n + 1, .node l v r, i, x => if i = 0 then .node l (some x) r else if i % 2 = 1 then .node (Tr.setF n l (i / 2) x) v r else .node l v (Tr.setF n r (i / 2 - 1) x)
def Tr.set {α : Type} (t : Tr α) (i : Nat) (x : α) : Tr α := Tr.setF (i + 1) t i x
theorem Tr.get_setF {α : Type} : ∀ (n : Nat) (t : Tr α) (i : Nat) (x : α), i < n → (Tr.setF n t i x).get i = some x
  | 0, _, i, _, h => absurd h (Nat.not_lt_zero i)
  | n + 1, .nil, i, x, h => by
    unfold Tr.setF
    split
    · rename_i h0; simp [Tr.get, h0]
    · split
      · rename_i h0 h1; simp [Tr.get, h0, h1]; exact Tr.get_setF n _ _ _ (by omega)
      · rename_i h0 h1; simp [Tr.get, h0, h1]; exact Tr.get_setF n _ _ _ (by omega)
  | n + 1, .node l v r, i, x, h => by
    unfold Tr.setF
    split
    · rename_i h0; simp [Tr.get, h0]
    · split
      · rename_i h0 h1; simp [Tr.get, h0, h1]; exact Tr.get_setF n _ _ _ (by omega)
      · rename_i h0 h1; simp [Tr.get, h0, h1]; exact Tr.get_setF n _ _ _ (by omega)
theorem Tr.get_setF_ne {α : Type} : ∀ (n : Nat) (t : Tr α) (i j : Nat) (x : α), i < n → j ≠ i → (Tr.setF n t i x).get j = t.get j
  | 0, _, i, _, _, h, _ => absurd h (Nat.not_lt_zero i)
  | n + 1, .nil, i, j, x, h, hj => by
    unfold Tr.setF
    split
    · rename_i h0
      subst h0
      simp only [Tr.get, if_neg hj]
      split <;> rfl
    · split
      · rename_i h0 h1
        simp only [Tr.get]
        split
        · rfl
        · split
          · rename_i h2 h3
            rw [Tr.get_setF_ne n .nil (i / 2) (j / 2) x (by omega) (by omega)]
            rfl
          · rfl
      · rename_i h0 h1
        simp only [Tr.get]
        split
        · rfl
        · split
          · rfl
          · rename_i h2 h3
            rw [Tr.get_setF_ne n .nil (i / 2 - 1) (j / 2 - 1) x (by omega) (by omega)]
            rfl
  | n + 1, .node l v r, i, j, x, h, hj => by
    unfold Tr.setF
    split
    · rename_i h0
      subst h0
      simp only [Tr.get, if_neg hj]
    · split
      · rename_i h0 h1
        simp only [Tr.get]
        split
        · rfl
        · split
          · rename_i h2 h3
            rw [Tr.get_setF_ne n l (i / 2) (j / 2) x (by omega) (by omega)]
          · rfl
      · rename_i h0 h1
        simp only [Tr.get]
        split
        · rfl
        · split
          · rfl
          · rename_i h2 h3
            rw [Tr.get_setF_ne n r (i / 2 - 1) (j / 2 - 1) x (by omega) (by omega)]
theorem Tr.get_set {α : Type} (t : Tr α) (i : Nat) (x : α) : (t.set i x).get i = some x := Tr.get_setF _ _ _ _ (Nat.lt_succ_self i)
theorem Tr.get_set_ne {α : Type} (t : Tr α) {i j : Nat} (x : α) (h : j ≠ i) : (t.set i x).get j = t.get j := Tr.get_setF_ne _ _ _ _ _ (Nat.lt_succ_self i) h
/-- A block: cells (read alone, or the run's own), a map from numbers, or nothing any more. -/
inductive CB where
  | cells (cs : List CV) (ro : Bool)
  | map (es : List (Int × CV))
  | dead
def CB.live : CB → Bool
  | .dead => false
  | _ => true
def CB.own : CB → Bool
  | .cells _ ro => !ro
  | .map _ => true
  | .dead => false
/-- What is known of a letter: bounds. -/
structure Fact where
  (i : Nat)
  (lo hi : Int)
def Fact.holds (V : Va) (f : Fact) : Prop := ∀ x, V.num f.i = some x → f.lo ≤ x ∧ x ≤ f.hi
structure CH where
  (t : Tr CB)
  (n nv nb nc : Nat)
  (fs : List Fact)
/-- Entries of a map. -/
def MR (V : Va) : List (Int × CV) → List MapEntry → Prop
  | [], es => es = []
  | (k, c) :: xs, es => ∃ e rest, es = e :: rest ∧ e.key = .int .i64 k ∧ VR V c e.val ∧ MR V xs rest
theorem MR.mono {V V' : Va} (h : V.le V') : ∀ {xs : List (Int × CV)} {es : List MapEntry}, MR V xs es → MR V' xs es
  | [], _, e => e
  | _ :: _, _, ⟨e, rest, h1, h2, h3, h4⟩ => ⟨e, rest, h1, h2, VR.mono h _ _ h3, MR.mono h h4⟩
def BR (base : Nat) (V : Va) (W : World) (s : Spot) : CB → Prop
  | .cells cs ro => s.off + cs.length ≤ s.size ∧ (ro = false → base ≤ s.blk ∧ ∃ vs e, W.heap[s.blk]? = some (.cells vs e) ∧ vs.size = s.size) ∧ ∀ (i : Nat) (c : CV), cs[i]? = some c → ∃ v, W.cell? ⟨s.blk, s.off + i, none⟩ = some v ∧ VR V c v
  | .map es => base ≤ s.blk ∧ ∃ ents clk, W.heap[s.blk]? = some (.map ents clk) ∧ MR V es ents.toList
  | .dead => True
structure Rel (w0 : World) (h : CH) (V : Va) (W : World) : Prop where
  bel : Below w0.heap.size w0 W
  siz : w0.heap.size ≤ W.heap.size
  blk : ∀ b o s, h.t.get b = some o → V.blk b = some s → BR w0.heap.size V W s o
  sep : ∀ b b' o o', h.t.get b = some o → h.t.get b' = some o' → o.own = true → o'.live = true → b ≠ b' → ∀ s s', V.blk b = some s → V.blk b' = some s' → s.blk ≠ s'.blk
  fb : ∀ b, h.n ≤ b → V.blk b = none ∧ h.t.get b = none
  fv : ∀ i, h.nv ≤ i → V.num i = none
  fo : ∀ i, h.nb ≤ i → V.bol i = none
  fc : ∀ i, h.nc ≤ i → V.cap i = none
  facts : ∀ f ∈ h.fs, f.holds V
  there : ∀ b s, V.blk b = some s → s.blk < W.heap.size
theorem BR.mono {base : Nat} {V V' : Va} {W : World} {s : Spot} {o : CB} (h : V.le V') (hb : BR base V W s o) : BR base V' W s o := by
  cases o with
  | cells cs ro => exact ⟨hb.1, hb.2.1, fun i c hc => let ⟨v, h1, h2⟩ := hb.2.2 i c hc; ⟨v, h1, VR.mono h c v h2⟩⟩
  | map es =>
    obtain ⟨h1, ents, clk, h2, h3⟩ := hb
    exact ⟨h1, ents, clk, h2, h3.mono h⟩
  | dead => trivial
/-- A block that stays as it is, whatever else happens. -/
theorem BR.same {base : Nat} {V : Va} {W W' : World} {s : Spot} {o : CB} (hb : BR base V W s o) (h : W'.heap[s.blk]? = W.heap[s.blk]?) : BR base V W' s o := by
  cases o with
  | cells cs ro =>
    refine ⟨hb.1, fun hr => ?_, fun i c hc => ?_⟩
    · obtain ⟨h1, vs, e, h2, h3⟩ := hb.2.1 hr
      exact ⟨h1, vs, e, h.trans h2, h3⟩
    · obtain ⟨v, h1, h2⟩ := hb.2.2 i c hc
      refine ⟨v, ?_, h2⟩
      rw [← h1]
      unfold World.cell?
      simp only [h]
  | map es =>
    obtain ⟨h1, ents, clk, h2, h3⟩ := hb
    exact ⟨h1, ents, clk, h.trans h2, h3⟩
  | dead => trivial
theorem Rel.drew {w0 : World} {h : CH} {V : Va} {W : World} (r : Rel w0 h V W) : Rel w0 h V W.drew :=
  { r with bel := r.bel.drew, blk := fun b o s hb hs => (r.blk b o s hb hs).same rfl }
theorem Rel.blkAt {w0 : World} {h : CH} {V : Va} {W : World} (r : Rel w0 h V W) {b : Nat} {o : CB} {s : Spot} (hb : h.t.get b = some o) (hs : V.blk b = some s) : ∃ s', V.blk b = some s' ∧ BR w0.heap.size V W s' o := ⟨s, hs, r.blk b o s hb hs⟩
/-- A call that keeps all that was there. -/
theorem Rel.call {w0 : World} {h : CH} {V : Va} {W W' : World} (r : Rel w0 h V W) (hb : Below W.heap.size W W') : Rel w0 h V W' :=
  { r with
    bel := r.bel.trans (hb.mono r.siz)
    siz := Nat.le_trans r.siz hb.size
    blk := fun b o s ho hs => (r.blk b o s ho hs).same (hb.block _ (r.there b s hs))
    there := fun b s hs => Nat.lt_of_lt_of_le (r.there b s hs) hb.size }
def Va.setBlk (V : Va) (b : Nat) (s : Spot) : Va := { V with blk := fun i => if i = b then some s else V.blk i }
theorem Va.le_setBlk {V : Va} {b : Nat} (s : Spot) (h : V.blk b = none) : V.le (V.setBlk b s) :=
  ⟨fun i x e => by
    show (if i = b then some s else V.blk i) = some x
    by_cases hi : i = b
    · subst hi; rw [h] at e; cases e
    · rw [if_neg hi]; exact e, fun _ _ e => e, fun _ _ e => e, fun _ _ e => e⟩
theorem Va.setBlk_same {V : Va} {b : Nat} {s : Spot} : (V.setBlk b s).blk b = some s := if_pos rfl
theorem Va.setBlk_ne {V : Va} {b i : Nat} {s : Spot} (h : i ≠ b) : (V.setBlk b s).blk i = V.blk i := if_neg h
/-- A new block of the run's own. -/
def CH.push (h : CH) (o : CB) : CH := { h with t := h.t.set h.n o, n := h.n + 1 }
theorem Rel.reserve {w0 : World} {h : CH} {V : Va} {W : World} (r : Rel w0 h V W) (o : CB) : Rel w0 (h.push o) V W := by
  have fr := r.fb h.n (Nat.le_refl _)
  refine { r with blk := ?_, sep := ?_, fb := ?_ }
  · intro b o' s hb hs
    have e : b ≠ h.n := fun e => by subst e; rw [fr.1] at hs; cases hs
    exact r.blk b o' s (by simpa [CH.push, Tr.get_set_ne _ _ e] using hb) hs
  · intro b b' ob ob' hb1 hb2 ho ho' hbb s1 s2 hs1 hs2
    have e1 : b ≠ h.n := fun e => by subst e; rw [fr.1] at hs1; cases hs1
    have e2 : b' ≠ h.n := fun e => by subst e; rw [fr.1] at hs2; cases hs2
    exact r.sep b b' ob ob' (by simpa [CH.push, Tr.get_set_ne _ _ e1] using hb1) (by simpa [CH.push, Tr.get_set_ne _ _ e2] using hb2) ho ho' hbb s1 s2 hs1 hs2
  · intro b hb'
    have hb' : h.n + 1 ≤ b := hb'
    have e : b ≠ h.n := by omega
    have := r.fb b (by omega)
    exact ⟨this.1, by simpa [CH.push, Tr.get_set_ne _ _ e] using this.2⟩
theorem Rel.skip {w0 : World} {h : CH} {V : Va} {W : World} (r : Rel w0 h V W) : Rel w0 { h with n := h.n + 1 } V W :=
  { r with fb := fun b hb => r.fb b (Nat.le_of_succ_le hb) }
/-- A name that was kept free is given to a block. -/
theorem Rel.name {w0 : World} {h : CH} {V : Va} {W W' : World} (r : Rel w0 h V W) (n : Nat) (s : Spot) (hn : n < h.n) (hf : V.blk n = none) (hb : Below W.heap.size W W') (hs : s.blk < W'.heap.size) (hB : ∀ o, h.t.get n = some o → BR w0.heap.size V W' s o) (hsep : ∀ o, h.t.get n = some o → o.live = true → ∀ b o' s', h.t.get b = some o' → o'.live = true → V.blk b = some s' → s'.blk ≠ s.blk) : Rel w0 h (V.setBlk n s) W' := by
  have r' := r.call hb
  have le : V.le (V.setBlk n s) := Va.le_setBlk s hf
  refine { r' with blk := ?_, sep := ?_, fb := ?_, there := ?_ }
  · intro b o' s' hb' hs'
    by_cases e : b = n
    · subst e
      rw [Va.setBlk_same] at hs'
      cases hs'
      exact (hB o' hb').mono le
    · rw [Va.setBlk_ne e] at hs'
      exact (r'.blk b o' s' hb' hs').mono le
  · intro b b' ob ob' hb1 hb2 ho ho' hbb s1 s2 hs1 hs2
    by_cases e : b = n
    · subst e
      have e' : b' ≠ b := fun e => hbb e.symm
      rw [Va.setBlk_same] at hs1
      rw [Va.setBlk_ne e'] at hs2
      cases hs1
      refine fun q => hsep ob hb1 ?_ b' ob' s2 hb2 ho' hs2 q.symm
      cases ob with
      | dead => cases ho
      | _ => rfl
    · rw [Va.setBlk_ne e] at hs1
      have lv : ob.live = true := by
        cases ob with
        | dead => cases ho
        | _ => rfl
      by_cases e' : b' = n
      · subst e'
        rw [Va.setBlk_same] at hs2
        cases hs2
        exact hsep ob' hb2 ho' b ob s1 hb1 lv hs1
      · rw [Va.setBlk_ne e'] at hs2
        exact r.sep b b' ob ob' hb1 hb2 ho ho' hbb s1 s2 hs1 hs2
  · intro b hb'
    have e : b ≠ n := by omega
    have := r.fb b hb'
    exact ⟨(Va.setBlk_ne e).trans this.1, this.2⟩
  · intro b s' hs'
    by_cases e : b = n
    · subst e; rw [Va.setBlk_same] at hs'; cases hs'; exact hs
    · rw [Va.setBlk_ne e] at hs'; exact r'.there b s' hs'
theorem CH.push_get {h : CH} {o : CB} : (h.push o).t.get h.n = some o := Tr.get_set _ _ _
theorem CH.push_ne {h : CH} {o : CB} {b : Nat} (e : b ≠ h.n) : (h.push o).t.get b = h.t.get b := Tr.get_set_ne _ _ e
theorem Rel.pushAt {w0 : World} {h : CH} {V : Va} {W W' : World} (r : Rel w0 h V W) (o : CB) (s : Spot) (hb : Below W.heap.size W W') (hs : s.blk < W'.heap.size) (hB : BR w0.heap.size V W' s o) (hn : ∀ b o' s', h.t.get b = some o' → o'.live = true → V.blk b = some s' → s'.blk ≠ s.blk) : Rel w0 (h.push o) (V.setBlk h.n s) W' := by
  have fr := (r.fb h.n (Nat.le_refl _)).1
  refine (r.reserve o).name h.n s (Nat.lt_succ_self _) fr hb hs (fun o' ho' => ?_) (fun _ _ _ b o' s' hb' hl hs' => ?_)
  · rw [CH.push_get] at ho'
    cases ho'
    exact hB
  · have e : b ≠ h.n := fun e => by subst e; rw [fr] at hs'; cases hs'
    rw [CH.push_ne e] at hb'
    exact hn b o' s' hb' hl hs'
/-- How what is known grows: names that were free stay free, and what lies ready for them stays. -/
structure Ext (h : CH) (V : Va) (h' : CH) (V' : Va) : Prop where
  le : V.le V'
  n : h.n ≤ h'.n
  old : ∀ b, b < h.n → V.blk b = none → V'.blk b = none ∧ h'.t.get b = h.t.get b
theorem Ext.refl (h : CH) (V : Va) : Ext h V h V := ⟨Va.le.refl V, Nat.le_refl _, fun _ _ h => ⟨h, rfl⟩⟩
theorem Ext.trans {h h' h'' : CH} {V V' V'' : Va} (a : Ext h V h' V') (b : Ext h' V' h'' V'') : Ext h V h'' V'' :=
  ⟨a.le.trans b.le, Nat.le_trans a.n b.n, fun i hi hv =>
    let ⟨h1, h2⟩ := a.old i hi hv
    let ⟨h3, h4⟩ := b.old i (Nat.lt_of_lt_of_le hi a.n) h1
    ⟨h3, h4.trans h2⟩⟩
theorem Ext.push {w0 : World} {h : CH} {V : Va} {W : World} (r : Rel w0 h V W) (o : CB) (s : Spot) : Ext h V (h.push o) (V.setBlk h.n s) :=
  ⟨Va.le_setBlk s (r.fb _ (Nat.le_refl _)).1, Nat.le_succ _, fun _ hb hv => ⟨(Va.setBlk_ne (Nat.ne_of_lt hb)).trans hv, CH.push_ne (Nat.ne_of_lt hb)⟩⟩
theorem Ext.set {h : CH} {V : Va} {b : Nat} {s : Spot} (hs : V.blk b = some s) (o : CB) : Ext h V { h with t := h.t.set b o } V :=
  ⟨Va.le.refl V, Nat.le_refl _, fun i _ hv => ⟨hv, Tr.get_set_ne _ _ (fun e => by subst e; rw [hs] at hv; cases hv)⟩⟩
theorem Rel.alloc {w0 : World} {h : CH} {V : Va} {W : World} (r : Rel w0 h V W) {cs : List CV} {vs : Array Value} (hv : VRs V cs vs.toList) (e : TypeId) :
    Rel w0 (h.push (.cells cs false)) (V.setBlk h.n ⟨W.heap.size, 0, vs.size⟩) (W.alloc (.cells vs e)) := by
  refine r.pushAt _ _ ((Below.refl _ _).alloc (Nat.le_refl _) _) (by simp) ⟨?_, fun _ => ⟨r.siz, vs, e, heap_alloc_new W _, rfl⟩, fun i c hc => ?_⟩ (fun b o' s' _ _ hs => ?_)
  · show 0 + cs.length ≤ vs.size
    rw [hv.length]; simp
  · obtain ⟨v, h1, h2⟩ := hv.get hc
    refine ⟨v, ?_, h2⟩
    unfold World.cell?
    simp only [heap_alloc_new, Nat.zero_add]
    simpa using h1
  · have := r.there b s' hs
    show s'.blk ≠ W.heap.size
    omega
theorem Rel.load {w0 : World} {h : CH} {V : Va} {W : World} (r : Rel w0 h V W) {b i : Nat} {cs : List CV} {ro : Bool} {c : CV} {s : Spot} (hb : h.t.get b = some (.cells cs ro)) (hs : V.blk b = some s) (hi : cs[i]? = some c) : ∃ v, W.cell? ⟨s.blk, s.off + i, none⟩ = some v ∧ VR V c v := by
  obtain ⟨v, h3, h4⟩ := (r.blk b _ s hb hs).2.2 i c hi
  exact ⟨v, h3, h4⟩
/-- A cell of the run's own is written. -/
theorem Rel.store {w0 : World} {h : CH} {V : Va} {W : World} (r : Rel w0 h V W) {b i : Nat} {cs : List CV} (hb : h.t.get b = some (.cells cs false)) (hi : i < cs.length) {c : CV} {v : Value} (hv : VR V c v) {s : Spot} (hs : V.blk b = some s) :
    (∃ u, W.cell? ⟨s.blk, s.off + i, none⟩ = some u) ∧ W.frozen? ⟨s.blk, s.off + i, none⟩ = false ∧ Rel w0 { h with t := h.t.set b (.cells (cs.set i c) false) } V (W.setCell ⟨s.blk, s.off + i, none⟩ v) := by
  have h2 := r.blk b _ s hb hs
  obtain ⟨h3, vs, e, h4, h5⟩ := h2.2.1 rfl
  have hlt : s.off + i < vs.size := by have := h2.1; omega
  refine ⟨?_, by simp [World.frozen?, h4], ?_⟩
  · obtain ⟨v', h6, _⟩ := h2.2.2 i _ (List.getElem?_eq_getElem hi)
    exact ⟨v', h6⟩
  have far : ∀ k, k ≠ s.blk → (W.setCell ⟨s.blk, s.off + i, none⟩ v).heap[k]? = W.heap[k]? := fun k hk => heap_setCell_other _ _ _ _ hk
  refine { r with bel := r.bel.setCell h3 _, siz := by simpa using r.siz, blk := ?_, sep := ?_, fb := ?_, there := ?_ }
  · intro b' o' s' hb' hs'
    by_cases e' : b' = b
    · subst e'
      have : o' = .cells (cs.set i c) false := by simpa [Tr.get_set] using hb'.symm
      subst this
      rw [hs] at hs'
      cases hs'
      refine ⟨by simpa using h2.1, fun _ => ⟨h3, vs.setIfInBounds (s.off + i) v, e, heap_setCell_same _ _ _ _ _ _ h4, by simpa using h5⟩, fun j c' hc' => ?_⟩
      unfold World.cell?
      rw [heap_setCell_same _ _ _ _ _ _ h4]
      by_cases hj : j = i
      · subst hj
        have : c' = c := by
          rw [List.getElem?_set_self hi] at hc'
          simpa using hc'.symm
        subst this
        exact ⟨v, by simp [hlt], hv⟩
      · rw [List.getElem?_set_ne (Ne.symm hj)] at hc'
        obtain ⟨v', h6, h7⟩ := h2.2.2 j c' hc'
        refine ⟨v', ?_, h7⟩
        unfold World.cell? at h6
        rw [h4] at h6
        simp only [Option.isSome_none, Bool.false_eq_true, if_false] at h6 ⊢
        rw [Array.getElem?_setIfInBounds_ne (by omega)]
        exact h6
    · have hb'' : h.t.get b' = some o' := by simpa [Tr.get_set_ne _ _ e'] using hb'
      by_cases hl : o'.live = true
      · exact (r.blk b' o' s' hb'' hs').same (far _ (fun q => r.sep b b' _ o' hb hb'' rfl hl (Ne.symm e') s s' hs hs' q.symm))
      · cases o' with
        | dead => trivial
        | _ => exact absurd rfl hl
  · intro b1 b2 o1 o2 hb1 hb2 ho1 ho2 hne s1 s2 hs1 hs2
    have g : ∀ b' o', (h.t.set b (.cells (cs.set i c) false)).get b' = some o' → ∃ o'', h.t.get b' = some o'' ∧ o''.own = o'.own ∧ o''.live = o'.live := fun b' o' hb' => by
      by_cases e' : b' = b
      · subst e'
        have : o' = .cells (cs.set i c) false := by simpa [Tr.get_set] using hb'.symm
        subst this
        exact ⟨_, hb, rfl, rfl⟩
      · exact ⟨o', by simpa [Tr.get_set_ne _ _ e'] using hb', rfl, rfl⟩
    obtain ⟨o1', q1, q2, _⟩ := g b1 o1 hb1
    obtain ⟨o2', q3, _, q4⟩ := g b2 o2 hb2
    exact r.sep b1 b2 o1' o2' q1 q3 (q2.trans ho1) (q4.trans ho2) hne s1 s2 hs1 hs2
  · intro b' hb'
    have := r.fb b' hb'
    refine ⟨this.1, ?_⟩
    have e' : b' ≠ b := fun e => by rw [e] at this; rw [this.2] at hb; cases hb
    simpa [Tr.get_set_ne _ _ e'] using this.2
  · intro b' s' hs'
    simpa using r.there b' s' hs'
/-- A block is let go. -/
theorem Rel.kill {w0 : World} {h : CH} {V : Va} {W : World} (r : Rel w0 h V W) {b : Nat} {o : CB} (hb : h.t.get b = some o) : Rel w0 { h with t := h.t.set b .dead } V W := by
  refine { r with blk := ?_, sep := ?_, fb := ?_ }
  · intro b' o' s' hb' hs'
    by_cases e' : b' = b
    · subst e'
      have : o' = .dead := by simpa [Tr.get_set] using hb'.symm
      subst this
      trivial
    · exact r.blk b' o' s' (by simpa [Tr.get_set_ne _ _ e'] using hb') hs'
  · intro b1 b2 o1 o2 hb1 hb2 ho1 ho2 hne s1 s2 hs1 hs2
    have e1 : b1 ≠ b := fun e => by subst e; rw [Tr.get_set] at hb1; cases hb1; cases ho1
    have e2 : b2 ≠ b := fun e => by subst e; rw [Tr.get_set] at hb2; cases hb2; cases ho2
    exact r.sep b1 b2 o1 o2 (by simpa [Tr.get_set_ne _ _ e1] using hb1) (by simpa [Tr.get_set_ne _ _ e2] using hb2) ho1 ho2 hne s1 s2 hs1 hs2
  · intro b' hb'
    have := r.fb b' hb'
    refine ⟨this.1, ?_⟩
    have e' : b' ≠ b := fun e => by rw [e] at this; rw [this.2] at hb; cases hb
    simpa [Tr.get_set_ne _ _ e'] using this.2
end Go.Proofs.YtpjgmeogkomhlaaGreat
