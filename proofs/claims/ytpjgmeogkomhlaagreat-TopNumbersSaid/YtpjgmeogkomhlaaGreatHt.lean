/-
  Tracks that are known to be right: what the reference answers of them. No conditions but those named.
-/
import Derived.Test.YtpjgmeogkomhlaaGreatHs
namespace Go.Proofs.YtpjgmeogkomhlaaGreat
open Go.RowKit
def isT (c : CV) (_ : CH) : Bool := match c with
  | .bool (.lit true) => true
  | _ => false
def h8t : CH := hR [bndC lowQ topQ 3 0, ev9C 3] 9
set_option maxRecDepth 1000000 in
theorem run8 : (runL Tryz.prog tsL fsS hookQ 5000).1 8 [trkA 0] h8t isT = true := by kernel_rfl
theorem bnd_at {rows : List Rw} {nums pre l post : List Int} {k i : Nat} {lo hi : Int} (hn : nums = pre ++ l ++ post) (hk : l.length = k) (hi' : pre.length = i) (hw : Within lo hi l) : VRs (vaR rows nums) (bndC lo hi k i) (numV l) := by
  subst hk hi' hn
  refine bndC_ok l pre.length hw fun j x hx => ?_
  have hj := (List.getElem?_eq_some_iff.1 hx).1
  show (pre ++ l ++ post)[pre.length + j]? = some x
  rw [List.append_assoc, List.getElem?_append_right (Nat.le_add_right _ _), Nat.add_sub_cancel_left, List.getElem?_append_left hj]
  exact hx
theorem right8t (x p : Rw) (W : World) (hx : RowAt W x.B x.O x.C x.l) (hp : RowAt W p.B p.O p.C p.l) (lx : x.l.length = 3) (wx : Within lowQ topQ x.l) (ep : Ev9 p.l) : Calls Tryz.prog 8 #[trkV x p] W (fun e W' => e = .returned (.bool true) ∧ Below W.heap.size W W') := by
  obtain ⟨a, b, c, d, e, f, hpl, ha, hd, hf, hw⟩ := ep
  have r := relR W [x, p] (x.l ++ [a, b, c, d, e, f]) [bndC lowQ topQ 3 0, ev9C 3] rfl (fun i r hi => by
    match i, hi with
    | 0, hi => cases hi; exact hx
    | 1, hi => cases hi; exact hp
    | n + 2, hi => cases hi) (fun i cs r hc hi => by
    match i, hc, hi with
    | 0, hc, hi => cases hc; cases hi; exact bnd_at (pre := []) (post := [a, b, c, d, e, f]) (by simp) lx rfl wx
    | 1, hc, hi =>
      cases hc
      cases hi
      rw [hpl]
      refine ev9C_ok (fun j y hy => ?_) ha hd hf hw
      show (x.l ++ [a, b, c, d, e, f])[3 + j]? = some y
      rw [List.getElem?_append_right (by omega), lx, Nat.add_sub_cancel_left]
      exact hy
    | n + 2, hc, hi => cases hc)
  rw [show (x.l ++ [a, b, c, d, e, f]).length = 9 by simp [lx]] at r
  have lp : p.l.length = 9 := by rw [hpl]; rfl
  refine (runC hookQ_ok run8 r (VRs.cons (trk_at (b := 0) rfl rfl (by have := hx.len; omega) (by have := hp.len; omega)) (VRs.nil _))).mono ?_
  rintro e' W' ⟨c', h', V', v, h1, rfl, _, h2, h3⟩
  unfold isT at h1
  split at h1
  · obtain ⟨y, y1, y2⟩ := h2
    cases y1
    exact ⟨by rw [y2], h3.bel⟩
  · cases h1
def rowB (h : CH) (n : Nat) : CV → Bool
  | .slice (some (b, o)) 1 m _ => Nat.beq m n && (match readC h b o n with | some cs => inBs lowQ topQ cs | none => false)
  | _ => false
def rowE (h : CH) : CV → Bool
  | .slice (some (b, o)) 1 m _ => Nat.beq m 9 && (match readC h b o 9 with | some cs => inBs lowQ topQ cs && evenC cs | none => false)
  | _ => false
theorem rowB_ok {w0 : World} {h : CH} {V : Va} {W : World} {n : Nat} {c : CV} {v : Value} (r : Rel w0 h V W) (e : rowB h n c = true) (hv : VR V c v) : ∃ x : Rw, v = rowV x n ∧ x.l.length = n ∧ Within lowQ topQ x.l ∧ RowAt W x.B x.O x.C x.l := by
  unfold rowB at e
  split at e
  · rename_i b o m cap
    rw [Bool.and_eq_true] at e
    have hm := Nat.eq_of_beq_eq_true e.1
    subst hm
    have e2 := e.2
    split at e2
    · rename_i cs hcs
      obtain ⟨s, C, h1, h2, h3, h4, h5⟩ := hv
      obtain ⟨l1, us, h6, h7⟩ := readC_ok r hcs h1
      obtain ⟨l, l2, lw, l3⟩ := inBs_ok e2 h6
      subst l3
      refine ⟨⟨s.blk, s.off + o, C, l⟩, h5, by rw [l2, l1], lw, r.there _ _ h1, by rw [l2, l1]; exact h3, fun i x hx => h7 i _ (by unfold numV; rw [List.getElem?_map, hx]; rfl)⟩
    · cases e2
  · cases e
theorem rowE_ok {w0 : World} {h : CH} {V : Va} {W : World} {c : CV} {v : Value} (r : Rel w0 h V W) (e : rowE h c = true) (hv : VR V c v) : ∃ x : Rw, v = rowV x 9 ∧ x.l.length = 9 ∧ Ev9 x.l ∧ RowAt W x.B x.O x.C x.l := by
  unfold rowE at e
  split at e
  · rename_i b o m cap
    rw [Bool.and_eq_true] at e
    have hm := Nat.eq_of_beq_eq_true e.1
    subst hm
    have e2 := e.2
    split at e2
    · rename_i cs hcs
      rw [Bool.and_eq_true] at e2
      obtain ⟨s, C, h1, h2, h3, h4, h5⟩ := hv
      obtain ⟨l1, us, h6, h7⟩ := readC_ok r hcs h1
      obtain ⟨l, l2, lw, l3⟩ := inBs_ok e2.1 h6
      subst l3
      refine ⟨⟨s.blk, s.off + o, C, l⟩, h5, by rw [l2, l1], evenC_ok e2.2 h6 lw, r.there _ _ h1, by rw [l2, l1]; exact h3, fun i x hx => h7 i _ (by unfold numV; rw [List.getElem?_map, hx]; rfl)⟩
    · cases e2
  · cases e
def trkB (h : CH) : CV → Bool
  | .agg [a, b, x, d, e, p] => litOf 3 a && litOf 1 b && litOf 3 d && litOf 3 e && rowB h 3 x && rowE h p
  | _ => false
def hk8 (args : List CV) (h : CH) : HookR := match args with
  | [t] => match trkB h t with
    | true => some (some [(bb true, h)])
    | false => some none
  | _ => some none
theorem hook8 : HookP 8 hk8 := fun args h l e => by
  refine ⟨⟨Tryz.f8, _, Tryz.func8, by kernel_rfl, rfl⟩, fun w0 V W vs r hv => ?_⟩
  unfold hk8 at e
  split at e
  · split at e
    · rename_i hq
      cases e
      obtain ⟨vt, _, q1, v1, q2⟩ := hv
      rw [q1, show _ = [] from q2]
      unfold trkB at hq
      split at hq
      · simp only [Bool.and_eq_true] at hq
        obtain ⟨⟨⟨⟨⟨e1, e2⟩, e3⟩, e4⟩, e5⟩, e6⟩ := hq
        obtain ⟨xs, ⟨_, _, q1, v1, _, _, q2, v2, _, _, q3, v3, _, _, q4, v4, _, _, q5, v5, _, _, q6, v6, q7⟩, q8⟩ := v1
        obtain ⟨x, x1, x2, xw, x3⟩ := rowB_ok r e5 v3
        obtain ⟨p, p1, p2, pe, p3⟩ := rowE_ok r e6 v6
        have hv : vt = trkV x p := by rw [q8, q1, q2, q3, q4, q5, q6, show _ = [] from q7, litOf_ok e1 v1, litOf_ok e2 v2, x1, litOf_ok e3 v4, litOf_ok e4 v5, p1]; rfl
        rw [hv]
        refine (right8t x p W x3 p3 x2 xw pe).mono ?_
        rintro e W' ⟨rfl, hb⟩
        exact ⟨_, List.mem_singleton.2 rfl, V, _, rfl, Ext.refl h V, ⟨true, rfl, rfl⟩, r.call hb⟩
      · cases hq
    · cases e
  · cases e
/-- What the step, and what is asked of it, calls. -/
def hookF : FuncId → List CV → CH → HookR := fun id args h =>
  match Nat.beq id 8 with
  | true => hk8 args h
  | false => hookE id args h
theorem hookF_ok : HookOK Tryz.prog hookF := by
  intro id args h l e
  unfold hookF at e
  dsimp only at e
  split at e
  · rename_i q
    have hi := Nat.eq_of_beq_eq_true q
    subst hi
    cases hg : hk8 args h with
    | none => rw [hg] at e; cases e
    | some y =>
      rw [hg] at e
      have e : y = some l := e
      subst e
      exact hook8 args h l hg
  · exact hookE_ok id args h l e
end Go.Proofs.YtpjgmeogkomhlaaGreat
