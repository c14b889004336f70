/-
  What a run of the estimator's step is told of the functions that it calls. No conditions but those named.
-/
import Derived.Test.YtpjgmeogkomhlaaGreatHr
namespace Go.Proofs.YtpjgmeogkomhlaaGreat
open Go.RowKit
def rowR (h : CH) (n : Nat) : CV → Bool
  | .slice (some (b, o)) 1 m _ => Nat.beq m n && (match readC h b o n with | some cs => allI cs | none => false)
  | _ => false
theorem rowR_ok {w0 : World} {h : CH} {V : Va} {W : World} {n : Nat} {c : CV} {v : Value} (r : Rel w0 h V W) (e : rowR h n c = true) (hv : VR V c v) : ∃ x : Rw, v = rowV x n ∧ x.l.length = n ∧ RowAt W x.B x.O x.C x.l := by
  unfold rowR at e
  split at e
  · rename_i b o m cap
    rw [Bool.and_eq_true] at e
    have hm := Nat.eq_of_beq_eq_true e.1
    subst hm
    have e2 := e.2
    split at e2
    · rename_i cs hcs
      obtain ⟨s, C, h1, h2, h3, h4, h5⟩ := hv
      obtain ⟨l1, us, h6, h7⟩ := readC_ok r hcs h1
      obtain ⟨l, l2, l3⟩ := allI_ok e2 h6
      subst l3
      refine ⟨⟨s.blk, s.off + o, C, l⟩, h5, by rw [l2, l1], r.there _ _ h1, by rw [l2, l1]; exact h3, fun i x hx => h7 i _ (by unfold numV; rw [List.getElem?_map, hx]; rfl)⟩
    · cases e2
  · cases e
def trkR (h : CH) : CV → Bool
  | .agg [a, b, x, d, e, p] => litOf 3 a && litOf 1 b && litOf 3 d && litOf 3 e && rowR h 3 x && rowR h 9 p
  | _ => false
theorem trkR_ok {w0 : World} {h : CH} {V : Va} {W : World} {c : CV} {v : Value} (r : Rel w0 h V W) (e : trkR h c = true) (hv : VR V c v) : ∃ x p : Rw, v = trkV x p ∧ x.l.length = 3 ∧ p.l.length = 9 ∧ RowAt W x.B x.O x.C x.l ∧ RowAt W p.B p.O p.C p.l := by
  unfold trkR at e
  split at e
  · simp only [Bool.and_eq_true] at e
    obtain ⟨⟨⟨⟨⟨e1, e2⟩, e3⟩, e4⟩, e5⟩, e6⟩ := e
    obtain ⟨xs, ⟨_, _, q1, v1, _, _, q2, v2, _, _, q3, v3, _, _, q4, v4, _, _, q5, v5, _, _, q6, v6, q7⟩, q8⟩ := hv
    obtain ⟨x, x1, x2, x3⟩ := rowR_ok r e5 v3
    obtain ⟨p, p1, p2, p3⟩ := rowR_ok r e6 v6
    exact ⟨x, p, by rw [q8, q1, q2, q3, q4, q5, q6, show _ = [] from q7, litOf_ok e1 v1, litOf_ok e2 v2, x1, litOf_ok e3 v4, litOf_ok e4 v5, p1]; rfl, x2, p2, x3, p3⟩
  · cases e
def matR (h : CH) (r c : Int) (n : Nat) : CV → Bool
  | .agg [a, b, m] => litOf r a && litOf c b && rowR h n m
  | _ => false
theorem matR_ok {w0 : World} {h : CH} {V : Va} {W : World} {a b : Int} {n : Nat} {c : CV} {v : Value} (r : Rel w0 h V W) (e : matR h a b n c = true) (hv : VR V c v) : ∃ x : Rw, v = matV a b n x ∧ x.l.length = n ∧ RowAt W x.B x.O x.C x.l := by
  unfold matR at e
  split at e
  · simp only [Bool.and_eq_true] at e
    obtain ⟨⟨e1, e2⟩, e5⟩ := e
    obtain ⟨xs, ⟨_, _, q1, v1, _, _, q2, v2, _, _, q3, v3, q7⟩, q8⟩ := hv
    obtain ⟨x, x1, x2, x3⟩ := rowR_ok r e5 v3
    exact ⟨x, by rw [q8, q1, q2, q3, show _ = [] from q7, litOf_ok e1 v1, litOf_ok e2 v2, x1]; rfl, x2, x3⟩
  · cases e
def ev9C (n : Nat) : List CV := [.int .i64 (.bnd n 0 topQ), .int .i64 (.bnd (n + 1) lowQ topQ), .int .i64 (.bnd (n + 2) lowQ topQ), .int .i64 (.bnd (n + 1) lowQ topQ), .int .i64 (.bnd (n + 3) 0 topQ), .int .i64 (.bnd (n + 4) lowQ topQ), .int .i64 (.bnd (n + 2) lowQ topQ), .int .i64 (.bnd (n + 4) lowQ topQ), .int .i64 (.bnd (n + 5) 0 topQ)]
def newTrkC (h : CH) : CV := .agg [ii 3, ii 1, .slice (some (h.n, 0)) 1 3 (.var h.nc 0), ii 3, ii 3, .slice (some (h.n + 1, 0)) 1 9 (.var (h.nc + 1) 0)]
def newTrkH (h : CH) : CH := { (h.push (.cells (bndC lowQ topQ 3 h.nv) false)).push (.cells (ev9C (h.nv + 3)) false) with nv := h.nv + 9, nc := h.nc + 2 }
theorem Ext.setCap {w0 : World} {h : CH} {V : Va} {W : World} (r : Rel w0 h V W) (c : Nat) : Ext h V { h with nc := h.nc + 1 } (V.setCap h.nc c) := ⟨Va.le_setCap c (r.fc _ (Nat.le_refl _)), Nat.le_refl _, fun _ _ hv => ⟨hv, rfl⟩⟩
theorem bnd_of {V : Va} {i : Nat} {lo hi x : Int} (h : V.num i = some x) (h1 : lo ≤ x) (h2 : x ≤ hi) : VR V (.int .i64 (.bnd i lo hi)) (.int .i64 x) := ⟨x, by simp only [IE.den, h, if_pos (And.intro h1 h2)], rfl⟩
theorem ev9C_ok {V : Va} {n : Nat} {a b c d e f : Int} (hV : ∀ i x, [a, b, c, d, e, f][i]? = some x → V.num (n + i) = some x) (ha : 0 ≤ a) (hd : 0 ≤ d) (hf : 0 ≤ f) (hw : Within lowQ topQ [a, b, c, d, e, f]) : VRs V (ev9C n) (numV [a, b, c, b, d, e, c, e, f]) := by
  have Ha := hw a (by simp)
  have Hb := hw b (by simp)
  have Hc := hw c (by simp)
  have Hd := hw d (by simp)
  have He := hw e (by simp)
  have Hf := hw f (by simp)
  have va : V.num n = some a := hV 0 a rfl
  have vb := hV 1 b rfl
  have vc := hV 2 c rfl
  have vd := hV 3 d rfl
  have ve := hV 4 e rfl
  have vf := hV 5 f rfl
  exact VRs.cons (bnd_of va ha Ha.2) (VRs.cons (bnd_of vb Hb.1 Hb.2) (VRs.cons (bnd_of vc Hc.1 Hc.2) (VRs.cons (bnd_of vb Hb.1 Hb.2) (VRs.cons (bnd_of vd hd Hd.2) (VRs.cons (bnd_of ve He.1 He.2) (VRs.cons (bnd_of vc Hc.1 Hc.2) (VRs.cons (bnd_of ve He.1 He.2) (VRs.cons (bnd_of vf hf Hf.2) (VRs.nil V)))))))))
/-- Cells of a row that a function has made. -/
theorem OwnRow.BR {w W' : World} {base : Nat} {V : Va} {b o c : Nat} {l : List Int} {cs : List CV} (h : OwnRow w W' b o c l) (hb : base ≤ w.heap.size) (hv : VRs V cs (numV l)) : ∃ z, o + c ≤ z ∧ b < W'.heap.size ∧ BR base V W' ⟨b, o, z⟩ (.cells cs false) := by
  obtain ⟨vs, e, h1, h2⟩ := h.blk
  have hl := hv.length
  simp only [numV, List.length_map] at hl
  refine ⟨vs.size, h2, (Array.getElem?_eq_some_iff.1 h1).1, by have := h.len; show o + cs.length ≤ vs.size; omega, fun _ => ⟨Nat.le_trans hb h.new, vs, e, h1, rfl⟩, fun i x hx => ?_⟩
  obtain ⟨v, h3, h4⟩ := hv.get hx
  unfold numV at h3
  rw [List.getElem?_map] at h3
  cases q : l[i]? with
  | none => rw [q] at h3; cases h3
  | some y =>
    rw [q] at h3
    cases h3
    exact ⟨_, h.cell i y q, h4⟩
theorem cap_of {V : Va} {i c : Nat} (h : V.cap i = some c) : (CC.var i 0).den V = some c := by simp only [CC.den, h, Nat.sub_zero]
theorem newTrk_ok {w0 : World} {h : CH} {V : Va} {W W' : World} {v : Value} (hfs : h.fs = []) (r : Rel w0 h V W) (hb : Below W.heap.size W W') (ht : NewTrk W W' v) : ∃ V', Ext h V (newTrkH h) V' ∧ VR V' (newTrkC h) v ∧ Rel w0 (newTrkH h) V' W' := by
  obtain ⟨xs, ps, bx, ox, cx, bp, op, cp, hx3, hxw, ⟨a, b, c, d, e, f, rfl, ha, hd, hf, hw⟩, hne, hX, hP, rfl⟩ := ht
  have rc := r.call hb
  have hlen : (xs ++ [a, b, c, d, e, f]).length = 9 := by simp [hx3]
  have r0 := rc.nums hfs (xs ++ [a, b, c, d, e, f])
  have x0 := Ext.nums rc (xs ++ [a, b, c, d, e, f])
  rw [hlen] at r0 x0
  have num : ∀ i, (V.nums h.nv (xs ++ [a, b, c, d, e, f])).num (h.nv + i) = (xs ++ [a, b, c, d, e, f])[i]? := fun i => Va.nums_get V h.nv _ i
  have vX : VRs (V.nums h.nv (xs ++ [a, b, c, d, e, f])) (bndC lowQ topQ 3 h.nv) (numV xs) := by
    rw [← hx3]
    exact bndC_ok xs h.nv hxw fun j x hj => by
      rw [num, List.getElem?_append_left (List.getElem?_eq_some_iff.1 hj).1]
      exact hj
  have vP : VRs (V.nums h.nv (xs ++ [a, b, c, d, e, f])) (ev9C (h.nv + 3)) (numV [a, b, c, b, d, e, c, e, f]) := by
    refine ev9C_ok (fun i x hi => ?_) ha hd hf hw
    rw [Nat.add_assoc, num, List.getElem?_append_right (by omega), hx3, Nat.add_sub_cancel_left]
    exact hi
  have hbase : w0.heap.size ≤ W.heap.size := r.siz
  obtain ⟨zx, hzx, hbx, BX⟩ := hX.BR hbase vX
  have old : ∀ b' o' s', h.t.get b' = some o' → V.blk b' = some s' → s'.blk < W.heap.size := fun b' o' s' _ hs => r.there b' s' hs
  have r1 := r0.pushAt (.cells (bndC lowQ topQ 3 h.nv) false) ⟨bx, ox, zx⟩ (Below.refl _ _) hbx BX (fun b' o' s' h1 _ h2 => by
    have := old b' o' s' h1 h2
    have := hX.new
    show s'.blk ≠ bx
    omega)
  have le1 : (V.nums h.nv (xs ++ [a, b, c, d, e, f])).le ((V.nums h.nv (xs ++ [a, b, c, d, e, f])).setBlk h.n ⟨bx, ox, zx⟩) := Va.le_setBlk _ (r0.fb h.n (Nat.le_refl _)).1
  obtain ⟨zp, hzp, hbp, BP⟩ := hP.BR hbase (VRs.mono le1 _ _ vP)
  have r2 := r1.pushAt (.cells (ev9C (h.nv + 3)) false) ⟨bp, op, zp⟩ (Below.refl _ _) hbp BP (fun b' o' s' h1 _ h2 => by
    show s'.blk ≠ bp
    by_cases hb' : b' = h.n
    · subst hb'
      have h2 : ((V.nums h.nv (xs ++ [a, b, c, d, e, f])).setBlk h.n ⟨bx, ox, zx⟩).blk h.n = some s' := h2
      rw [Va.setBlk_same] at h2
      cases h2
      exact hne
    · have h2 : ((V.nums h.nv (xs ++ [a, b, c, d, e, f])).setBlk h.n ⟨bx, ox, zx⟩).blk b' = some s' := h2
      rw [Va.setBlk_ne hb'] at h2
      have := r.there b' s' h2
      have := hP.new
      omega)
  have r3 := r2.setCap cx
  have r4 := r3.setCap cp
  refine ⟨_, (((x0.trans (Ext.push r0 _ _)).trans (Ext.push r1 _ _)).trans (Ext.setCap r2 cx)).trans (Ext.setCap r3 cp), ?_, ?_⟩
  · refine ⟨_, VRs.cons (ii_ok _ 3) (VRs.cons (ii_ok _ 1) (VRs.cons ?_ (VRs.cons (ii_ok _ 3) (VRs.cons (ii_ok _ 3) (VRs.cons ?_ (VRs.nil _)))))), rfl⟩
    · refine ⟨⟨bx, ox, zx⟩, cx, ?_, ?_, by have := hX.len; omega, by simpa using hzx, by simp⟩
      · exact (Va.setBlk_ne (Nat.ne_of_lt (Nat.lt_succ_self h.n))).trans Va.setBlk_same
      · have : ((((((V.nums h.nv (xs ++ [a, b, c, d, e, f])).setBlk h.n ⟨bx, ox, zx⟩).setBlk (h.n + 1) ⟨bp, op, zp⟩).setCap h.nc cx).setCap (h.nc + 1) cp).cap h.nc) = some cx := by
          show (if h.nc = h.nc + 1 then some cp else if h.nc = h.nc then some cx else _) = some cx
          rw [if_neg (by omega), if_pos rfl]
        exact cap_of this
    · refine ⟨⟨bp, op, zp⟩, cp, Va.setBlk_same, ?_, hP.len, by simpa using hzp, by simp⟩
      have : ((((((V.nums h.nv (xs ++ [a, b, c, d, e, f])).setBlk h.n ⟨bx, ox, zx⟩).setBlk (h.n + 1) ⟨bp, op, zp⟩).setCap h.nc cx).setCap (h.nc + 1) cp).cap (h.nc + 1)) = some cp := if_pos rfl
      exact cap_of this
  · exact r4
def hk34 (args : List CV) (h : CH) : HookR := match args with
  | [t, f, q] => match trkR h t && matR h 3 3 9 f && matR h 3 3 9 q && bare h with
    | true => some (some [(.tup [newTrkC h, .bool (.var h.nb), ii 0], { newTrkH h with nb := h.nb + 1 })])
    | false => some none
  | _ => some none
theorem hook34 : HookP 34 hk34 := fun args h l e => by
  refine ⟨⟨Tryz.f34, _, Tryz.func34, by kernel_rfl, rfl⟩, fun w0 V W vs r hv => ?_⟩
  unfold hk34 at e
  split at e
  · split at e
    · rename_i hq
      cases e
      simp only [Bool.and_eq_true] at hq
      obtain ⟨⟨⟨e1, e2⟩, e3⟩, e4⟩ := hq
      obtain ⟨_, _, q1, v1, _, _, q2, v2, _, _, q3, v3, q4⟩ := hv
      obtain ⟨x, p, rfl, lx, lp, hx, hp⟩ := trkR_ok r e1 v1
      obtain ⟨f, rfl, lf, hf⟩ := matR_ok r e2 v2
      obtain ⟨q, rfl, lq, hq⟩ := matR_ok r e3 v3
      rw [q1, q2, q3, show _ = [] from q4]
      refine (predict34 x p f q W hx hp hf hq lx lp lf lq).mono ?_
      rintro e W' ⟨⟨v, b, hN, rfl⟩, hb⟩
      obtain ⟨V', h1, h2, h3⟩ := newTrk_ok (bare_ok e4) r hb hN
      have r1 := h3.bols [b]
      have le := Va.le_bols [b] h3.fo
      refine ⟨_, List.mem_singleton.2 rfl, _, _, rfl, h1.trans (Ext.bols h3 [b]), ⟨_, VRs.cons (VR.mono le _ _ h2) (VRs.cons ⟨b, Va.bols_get V' h.nb [b] 0, rfl⟩ (VRs.cons (ii_ok _ 0) (VRs.nil _))), rfl⟩, r1⟩
    · cases e
  · cases e
def hk78 (args : List CV) (h : CH) : HookR := match args with
  | [t, m, .int .i64 _, .int .i64 r, .int .i64 _] => match trkR h t && matR h 1 3 3 m && inBs 1 topQ [.int .i64 r] && bare h with
    | true => some (some [(.tup [t, .bool (.lit false), .bool (.var h.nb), ii 0], { h with nb := h.nb + 1 }), (.tup [newTrkC h, .bool (.lit true), .bool (.var h.nb), ii 0], { newTrkH h with nb := h.nb + 1 })])
    | false => some none
  | _ => some none
theorem hook78 : HookP 78 hk78 := fun args h l e => by
  refine ⟨⟨Tryz.f78, _, Tryz.func78, by kernel_rfl, rfl⟩, fun w0 V W vs r hv => ?_⟩
  unfold hk78 at e
  split at e
  · split at e
    · rename_i hq
      cases e
      simp only [Bool.and_eq_true] at hq
      obtain ⟨⟨⟨e1, e2⟩, e3⟩, e4⟩ := hq
      obtain ⟨_, _, q1, v1, _, _, q2, v2, _, _, q3, ⟨z, _, v3⟩, _, _, q4, v4, _, _, q5, ⟨g, _, v5⟩, q6⟩ := hv
      obtain ⟨x, p, ht, lx, lp, hx, hp⟩ := trkR_ok r e1 v1
      obtain ⟨m, rfl, lm, hm⟩ := matR_ok r e2 v2
      obtain ⟨rl, rl1, rl2, rl3⟩ := inBs_ok e3 (VRs.cons v4 (VRs.nil V))
      match rl, rl1, rl2, rl3 with
      | [rr], _, rl2, rl3 =>
        have hrr := rl2 rr (by simp)
        simp only [numV, List.map_cons, List.map_nil, List.cons.injEq, and_true] at rl3
        rw [q1, q2, q3, q4, q5, show _ = [] from q6, v3, v5, rl3]
        rw [ht] at v1 ⊢
        refine (update78 x p m z rr g W hx hp hm lx lp lm hrr.1 hrr.2).mono ?_
        rintro e W' ⟨⟨b, hB⟩, hb⟩
        rcases hB with rfl | ⟨v, hN, rfl⟩
        · have rc := r.call hb
          have r1 := rc.bols [b]
          have le := Va.le_bols [b] rc.fo
          exact ⟨_, List.mem_cons_self, _, _, rfl, Ext.bols rc [b], ⟨_, VRs.cons (VR.mono le _ _ v1) (VRs.cons ⟨false, rfl, rfl⟩ (VRs.cons ⟨b, Va.bols_get V h.nb [b] 0, rfl⟩ (VRs.cons (ii_ok _ 0) (VRs.nil _)))), rfl⟩, r1⟩
        · obtain ⟨V', h1, h2, h3⟩ := newTrk_ok (bare_ok e4) r hb hN
          have r1 := h3.bols [b]
          have le := Va.le_bols [b] h3.fo
          exact ⟨_, List.mem_cons_of_mem _ List.mem_cons_self, _, _, rfl, h1.trans (Ext.bols h3 [b]), ⟨_, VRs.cons (VR.mono le _ _ h2) (VRs.cons ⟨true, rfl, rfl⟩ (VRs.cons ⟨b, Va.bols_get V' h.nb [b] 0, rfl⟩ (VRs.cons (ii_ok _ 0) (VRs.nil _)))), rfl⟩, r1⟩
    · cases e
  · cases e
/-- What the estimator's step calls. -/
def hookE : FuncId → List CV → CH → HookR := fun id args h =>
  match Nat.beq id 24 with
  | true => rowHook (okQI 3) 4 args h
  | false => match Nat.beq id 26 with
    | true => rowHook (okQQ 4 4) 4 args h
    | false => match Nat.beq id 27 with
      | true => rowHook (okQ 4) 4 args h
      | false => match Nat.beq id 28 with
        | true => rowHook (okQQ 4 3) 3 args h
        | false => match Nat.beq id 34 with
          | true => hk34 args h
          | false => match Nat.beq id 78 with
            | true => hk78 args h
            | false => hookQ id args h
theorem hookE_ok : HookOK Tryz.prog hookE := by
  intro id args h l e
  have step : ∀ {k : Nat} {g : List CV → CH → HookR}, HookP k g → id = k → ((g args h).bind fun x => x) = some l → Ent Tryz.prog id ∧ ∀ (w0 : World) (V : Va) (W : World) (vs : List Value), Rel w0 h V W → VRs V args vs → Calls Tryz.prog id vs.toArray W (fun e W' => ∃ x ∈ l, ∃ V' v, e = .returned v ∧ Ext h V x.2 V' ∧ VR V' x.1 v ∧ Rel w0 x.2 V' W') := fun {k g} hp hi q => by
    subst hi
    cases hg : g args h with
    | none => rw [hg] at q; cases q
    | some y =>
      rw [hg] at q
      have q : y = some l := q
      subst q
      exact hp args h l hg
  unfold hookE at e
  dsimp only at e
  split at e
  · rename_i q; exact step hook24 (Nat.eq_of_beq_eq_true q) e
  split at e
  · rename_i q; exact step hook26 (Nat.eq_of_beq_eq_true q) e
  split at e
  · rename_i q; exact step hook27 (Nat.eq_of_beq_eq_true q) e
  split at e
  · rename_i q; exact step hook28 (Nat.eq_of_beq_eq_true q) e
  split at e
  · rename_i q; exact step hook34 (Nat.eq_of_beq_eq_true q) e
  split at e
  · rename_i q; exact step hook78 (Nat.eq_of_beq_eq_true q) e
  · exact hookQ_ok id args h l e
end Go.Proofs.YtpjgmeogkomhlaaGreat
