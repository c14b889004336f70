/-
  Slices of slices and of arrays, run on what is known, are run as the code runs them.
  Operation 'slice', run on what is known, is run as the code runs it.
  Values built of parts, run on what is known, are built as the code builds them.
  New maps, run on what is known, are made as the code makes them. No conditions but those named.
-/
import Derived.Test.YtpjgmeogkomhlaaGreatPc
namespace Go.Proofs.YtpjgmeogkomhlaaGreat
open Go.RowKit
section
variable {P : Program} {ts : Tr TI} {w0 : World} {h : CH} {V : Va} {f : Fr} {a : Act} {W : World} {o : Oper} {r : CV × CH}
theorem boundC_ok {V : Va} {x : CV} {y n : Nat} {v : Value} (e : boundC x y = some n) (hv : VR V x v) (z : Nat) (hz : y ≤ z) (code : BoundsCode) : (Instr.sliceBound v z code).run P W = .ok n W ∧ n ≤ y := by
  unfold boundC at e
  split at e
  · rename_i m hm
    split at e
    · rename_i hle
      cases e
      obtain ⟨k, rfl⟩ := litN_ok hm hv
      refine ⟨?_, hle⟩
      unfold Instr.sliceBound
      have hlt : (0 : Int) ≤ (n : Int) ∧ (n : Int) ≤ (z : Int) := by omega
      simp only [Sem.run_bind, asInt_run, Result.andThen_ok, if_pos hlt, Int.toNat_natCast, Sem.run_pure]
    · cases e
  · cases e
/-- An operand that may be absent. -/
def OR (V : Va) (x : Option CV) (v : Option Value) : Prop := match x with | none => v = none | some c => ∃ u, v = some u ∧ VR V c u
/-- Bounds, as known and as they are. -/
theorem bounds_ok {V : Va} {len cv : Nat} {cap : CC} {lo hi mx : Option CV} {vlo vhi vmx : Option Value} (isS : Bool) (hcap : cap.den V = some cv) (hlen : len ≤ cv) (hlo : OR V lo vlo) (hhi : OR V hi vhi) (hmx : OR V mx vmx)
    {m : CC} (em : topC len cap mx = some m) {hh : Nat} (eh : highC len m mx hi = some hh) {l : Nat} (el : lowC hh lo = some l) :
    ∃ mv, m.den V = some mv ∧ mv ≤ cv ∧ hh ≤ mv ∧ l ≤ hh ∧ (mx = none → m = cap) ∧ (Instr.sliceBounds isS len cv vlo vhi vmx).run P W = .ok (l, hh, mv) W := by
  -- the last bound
  have M : ∃ mv, m.den V = some mv ∧ mv ≤ cv ∧ capLo len m ≤ (if mx.isSome then mv else cv) ∧ (mx = none → m = cap) ∧ (mx.isSome = true → m = .lit mv) ∧ (match vmx with | some v => Instr.sliceBound v cv (if isS then .slice3Acap else .slice3Alen) | none => pure cv).run P W = .ok mv W := by
    cases mx with
    | none =>
      cases em
      rw [show vmx = none from hmx]
      refine ⟨cv, hcap, Nat.le_refl _, ?_, fun _ => rfl, fun h => (by cases h), rfl⟩
      cases cap with
      | lit n => cases hcap; exact Nat.le_refl _
      | var i d => exact hlen
    | some c =>
      obtain ⟨u, hu, hv⟩ := hmx
      subst hu
      cases cap with
      | lit n =>
        cases hcap
        simp only [topC] at em
        split at em
        · rename_i k hk
          cases em
          obtain ⟨h1, h2⟩ := boundC_ok (P := P) (W := W) hk hv cv (Nat.le_refl _) (if isS then .slice3Acap else .slice3Alen)
          exact ⟨k, rfl, h2, Nat.le_refl _, fun h => (by cases h), fun _ => rfl, h1⟩
        · cases em
      | var i d =>
        simp only [topC] at em
        split at em
        · rename_i k hk
          cases em
          obtain ⟨h1, h2⟩ := boundC_ok (P := P) (W := W) hk hv cv hlen (if isS then .slice3Acap else .slice3Alen)
          exact ⟨k, rfl, Nat.le_trans h2 hlen, Nat.le_refl _, fun h => (by cases h), fun _ => rfl, h1⟩
        · cases em
  obtain ⟨mv, m1, m2, m3, m4, m5, m6⟩ := M
  refine ⟨mv, m1, m2, ?_⟩
  have H : hh ≤ mv ∧ (match vhi, vmx with | some v, some _ => Instr.sliceBound v mv .slice3B | some v, none => Instr.sliceBound v mv (if isS then .sliceAcap else .sliceAlen) | none, none => pure len | none, some _ => stuck "Slice: max without high").run P W = .ok hh W := by
    cases hi with
    | none =>
      rw [show vhi = none from hhi]
      cases mx with
      | none =>
        rw [show vmx = none from hmx]
        cases eh
        refine ⟨?_, rfl⟩
        have e := m4 rfl
        subst e
        rw [hcap] at m1
        cases m1
        exact hlen
      | some c => cases eh
    | some c =>
      obtain ⟨u, hu, hv⟩ := hhi
      subst hu
      simp only [highC] at eh
      cases mx with
      | none =>
        rw [show vmx = none from hmx]
        have e := m4 rfl
        subst e
        rw [hcap] at m1
        cases m1
        obtain ⟨h1, h2⟩ := boundC_ok (P := P) (W := W) eh hv cv m3 (if isS then .sliceAcap else .sliceAlen)
        exact ⟨Nat.le_trans h2 m3, h1⟩
      | some c' =>
        obtain ⟨u', hu', hv'⟩ := hmx
        subst hu'
        obtain ⟨h1, h2⟩ := boundC_ok (P := P) (W := W) eh hv mv m3 .slice3B
        exact ⟨Nat.le_trans h2 m3, h1⟩
  have L : l ≤ hh ∧ (match vlo with | some v => Instr.sliceBound v hh (if vmx.isSome then .slice3C else .sliceB) | none => pure 0).run P W = .ok l W := by
    cases lo with
    | none =>
      rw [show vlo = none from hlo]
      cases el
      exact ⟨Nat.zero_le _, rfl⟩
    | some c =>
      obtain ⟨u, hu, hv⟩ := hlo
      subst hu
      obtain ⟨h1, h2⟩ := boundC_ok (P := P) (W := W) el hv hh (Nat.le_refl _) (if vmx.isSome then .slice3C else .sliceB)
      exact ⟨h2, h1⟩
  refine ⟨H.1, L.1, m4, ?_⟩
  have H2 := H.2
  have L2 := L.2
  clear em eh el hlo hhi hmx m4 m5 H L
  unfold Instr.sliceBounds
  cases vmx <;> cases vhi <;> cases vlo <;> simp_all [Sem.run_bind, Sem.run_pure, Result.andThen_ok, stuck]
theorem OR_map {V : Va} {f : Fr} {a : Act} (hf : FR V f a) (x : Option Operand) : OR V (x.map (evC f)) (x.map a.eval) := by
  cases x with
  | none => rfl
  | some y => exact ⟨_, rfl, evC_ok hf y⟩
/-- A slice of a slice: what comes of it. -/
theorem sliceC_ok {V : Va} {es len cv : Nat} {q : Option (Nat × Nat)} {cap : CC} {lo hi mx : Option CV} {vlo vhi vmx : Option Value} {c : CV} {p : Option Addr} (isS : Bool) (hv : VR V (.slice q es len cap) (.slice p len cv)) (hcap : cap.den V = some cv) (hlen : len ≤ cv) (hlo : OR V lo vlo) (hhi : OR V hi vhi) (hmx : OR V mx vmx)
    (e : sliceC es q len cap lo hi mx = some c) :
    ∃ l hh mv, (Instr.sliceBounds isS len cv vlo vhi vmx).run P W = .ok (l, hh, mv) W ∧ VR V c (.slice (if mv = l then p else p.map (·.add (l * es))) (hh - l) (mv - l)) := by
  unfold sliceC at e
  split at e
  · cases e
  · rename_i m em
    split at e
    · cases e
    · rename_i hh eh
      split at e
      · cases e
      · rename_i l el
        obtain ⟨mv, m1, m2, m3, m4, m5, m6⟩ := bounds_ok (P := P) (W := W) isS hcap hlen hlo hhi hmx em eh el
        refine ⟨l, hh, mv, m6, ?_⟩
        split at e
        · rename_i k
          cases m1
          split at e
          · cases e
            obtain ⟨h1, h2, h3⟩ := hv
            rw [hcap] at h2
            cases h2
            cases h3
            have z1 : mv = 0 := by omega
            subst z1
            have z2 : hh = 0 := by omega
            have z3 : l = 0 := by omega
            subst z2 z3
            exact ⟨rfl, rfl, rfl⟩
          · rename_i b o
            cases e
            obtain ⟨s, cc, h1, h2, h3, h4, h5⟩ := hv
            rw [hcap] at h2
            cases h2
            cases h5
            have hm : mv * es ≤ cv * es := Nat.mul_le_mul_right _ m2
            have hd : (mv - l) * es + l * es = mv * es := by rw [← Nat.add_mul]; congr 1; omega
            refine ⟨s, mv - l, h1, rfl, by omega, ?_, ?_⟩
            · by_cases z : mv = l
              · rw [if_pos z]; omega
              · rw [if_neg z]; omega
            · by_cases z : mv = l
              · rw [if_pos z, if_pos z]
              · rw [if_neg z, if_neg z]
                simp only [Option.map_some, add_at, Nat.add_assoc]
        · rename_i i d
          split at e
          · cases e
          · rename_i b o
            obtain ⟨s, cc, h1, h2, h3, h4, h5⟩ := hv
            rw [hcap] at h2
            cases h2
            cases h5
            have hm : mv * es ≤ cv * es := Nat.mul_le_mul_right _ m2
            split at e
            · rename_i z
              cases e
              subst z
              refine ⟨s, mv, h1, m1, m3, by omega, ?_⟩
              by_cases z : mv = 0
              · rw [if_pos z]; simp
              · rw [if_neg z]; simp [add_at]
            · rename_i z
              split at e
              · rename_i z2
                cases e
                have z3 : mv ≠ l := by omega
                have hd : (mv - l) * es + l * es = mv * es := by rw [← Nat.add_mul]; congr 1; omega
                refine ⟨s, mv - l, h1, ?_, by omega, by omega, ?_⟩
                · simp only [CC.den] at m1 ⊢
                  cases hc : V.cap i with
                  | none => rw [hc] at m1; cases m1
                  | some c0 =>
                    rw [hc] at m1
                    simp only [Option.some.injEq] at m1 ⊢
                    omega
                · rw [if_neg z3]
                  simp only [Option.map_some, add_at, Nat.add_assoc]
              · cases e
end
end Go.Proofs.YtpjgmeogkomhlaaGreat
namespace Go.Proofs.YtpjgmeogkomhlaaGreat
open Go.RowKit
section
variable {P : Program} {ts : Tr TI} {w0 : World} {h : CH} {V : Va} {f : Fr} {a : Act} {W : World} {o : Oper} {r : CV × CH}
/-- A slice as known: what it is. -/
theorem slice_of {V : Va} {q : Option (Nat × Nat)} {es len : Nat} {cap : CC} {v : Value} (h : VR V (.slice q es len cap) v) : ∃ p cv, v = .slice p len cv ∧ cap.den V = some cv ∧ len ≤ cv := by
  cases q with
  | none =>
    obtain ⟨h1, h2, h3⟩ := h
    subst h1
    exact ⟨none, 0, h3, h2, Nat.le_refl _⟩
  | some bo =>
    obtain ⟨b, o⟩ := bo
    obtain ⟨s, c, h1, h2, h3, h4, h5⟩ := h
    exact ⟨_, c, h5, h2, h3⟩
theorem slice_es {V : Va} {q : Option (Nat × Nat)} {es es' len : Nat} {cap : CC} {v : Value} (h : VR V (.slice q es' len cap) v) (hc : q.isNone = true ∨ es' = es) : VR V (.slice q es len cap) v := by
  rcases hc with hc | rfl
  · cases q with
    | none => exact h
    | some _ => cases hc
  · exact h
theorem op_slice (hts : TS P ts) (hr : Rel w0 h V W) (hf : FR V f a) {t : TypeId} {x : Operand} {lo hi mx : Option Operand} (ho : o.op = .slice t x lo hi mx) (e : opX P ts h f (.slice t x lo hi mx) = some r) : Goes P w0 h V o a W r := by
  simp only [opX] at e
  split at e
  · rename_i el es s1 g1 z1 q es' len cap ht hq
    split at e
    · rename_i hc
      split at e
      · rename_i v hv
        cases e
        obtain ⟨k1, k2⟩ := kind_slice ((tiOf_ok (hts _ _ ht)).choose_spec.choose_spec.2.2.1).symm
        have hx := evC_ok hf x
        rw [hq] at hx
        simp only [Bool.and_eq_true, Bool.or_eq_true, beq_iff_eq, bne_iff_ne] at hc
        have hx' := slice_es (es := es) hx hc.1
        obtain ⟨p, cv, e1, e2, e3⟩ := slice_of hx'
        rw [e1] at hx'
        obtain ⟨l, hh, mv, m1, m2⟩ := sliceC_ok (P := P) (W := W) true hx' e2 e3 (OR_map hf lo) (OR_map hf hi) (OR_map hf mx) hv
        refine Goes.value (W' := W) ?_ (Ext.refl h V) m2 hr
        simp only [execOp, ho, e1]
        rw [Sem.run_bind]
        unfold Instr.sliceAt
        simp only [Sem.run_bind, run_underlying k1, Result.andThen_ok]
        unfold Instr.slice
        simp only [Sem.run_bind, run_underlying k1, Result.andThen_ok, m1, szB_run k2.symm hc.2, Sem.run_pure]
      · unfold restC at e
        split at e
        · rename_i bo i d xc hlo hhi hmx hz
          split at e
          · rename_i l hl
            split at e
            · rename_i hll
              cases e
              subst hll
              obtain ⟨k1, k2⟩ := kind_slice ((tiOf_ok (hts _ _ ht)).choose_spec.choose_spec.2.2.1).symm
              have hx := evC_ok hf x
              rw [hq] at hx
              simp only [Bool.and_eq_true, Bool.or_eq_true, beq_iff_eq, bne_iff_ne] at hc
              have hx' := slice_es (es := es) hx hc.1
              obtain ⟨b, p⟩ := bo
              obtain ⟨s, cv, h1, h2, h3, h4, h5⟩ := hx'
              obtain ⟨lo', q1, q2⟩ := Option.map_eq_some_iff.1 hlo
              have q3 : hi = none := Option.map_eq_none_iff.1 hhi
              have q4 : mx = none := Option.map_eq_none_iff.1 hmx
              subst q1; subst q3; subst q4
              have B := boundC_ok (P := P) (W := W) (y := l) (show boundC xc l = some l by unfold boundC; rw [hl]; simp) (by rw [← q2]; exact evC_ok hf lo') l (Nat.le_refl _) .sliceB
              have M : (Instr.sliceBounds true l cv (some (a.eval lo')) none none).run P W = .ok (l, l, cv) W := by
                unfold Instr.sliceBounds
                simp [B.1]
              have hm : l * es ≤ cv * es := Nat.mul_le_mul_right _ h3
              have hd : (cv - l) * es + l * es = cv * es := by rw [← Nat.add_mul]; congr 1; omega
              have nb := (hr.fb h.n (Nat.le_refl _))
              let s' : Spot := ⟨s.blk, if cv = l then s.off + p else s.off + p + l * es, s.size⟩
              have R : Rel w0 { h with n := h.n + 1 } (V.setBlk h.n s') W := hr.skip.name h.n s' (Nat.lt_succ_self _) nb.1 (Below.refl _ _) (hr.there b s h1) (fun o' ho' => by rw [show ({ h with n := h.n + 1 } : CH).t = h.t from rfl, nb.2] at ho'; cases ho') (fun o' ho' => by rw [show ({ h with n := h.n + 1 } : CH).t = h.t from rfl, nb.2] at ho'; cases ho')
              refine Goes.value (v := .slice (some ⟨s.blk, s'.off, none⟩) 0 (cv - l)) (W' := W) ?_ ⟨Va.le_setBlk _ nb.1, Nat.le_succ _, fun i hi hv => ⟨(Va.setBlk_ne (Nat.ne_of_lt hi)).trans hv, rfl⟩⟩ ⟨s', cv - l, Va.setBlk_same, ?_, Nat.zero_le _, ?_, rfl⟩ R
              · simp only [execOp, ho, h5]
                rw [Sem.run_bind]
                unfold Instr.sliceAt
                simp only [Sem.run_bind, run_underlying k1, Result.andThen_ok]
                unfold Instr.slice
                simp only [Sem.run_bind, run_underlying k1, Result.andThen_ok, Option.map_some, Option.map_none, M, szB_run k2.symm hc.2, Sem.run_pure, Nat.sub_self]
                by_cases z : cv = l
                · simp [s', z]
                · simp [s', z, add_at]
              · have h2' : CC.den V (.var i d) = some cv := h2
                show CC.den (V.setBlk h.n s') (.var i (d + l)) = some (cv - l)
                simp only [CC.den] at h2' ⊢
                show (match V.cap i with | some c => some (c - (d + l)) | none => none) = some (cv - l)
                cases hcp : V.cap i with
                | none => rw [hcp] at h2'; cases h2'
                | some c0 =>
                  rw [hcp] at h2'
                  simp only [Option.some.injEq] at h2' ⊢
                  omega
              · show s'.off + 0 + (cv - l) * es ≤ s.size
                by_cases z : cv = l
                · simp only [s', if_pos z]; omega
                · simp only [s', if_neg z]; omega
            · cases e
          · cases e
        · cases e
    · cases e
  · rename_i n es ea s1 g1 z1 b p ht hq
    split at e
    · rename_i cs ro hb
      split at e
      · rename_i hc
        split at e
        · rename_i v hv
          cases e
          obtain ⟨el, k1, k2, _, _⟩ := kind_array ((tiOf_ok (hts _ _ ht)).choose_spec.choose_spec.2.2.1).symm
          have hx := evC_ok hf x
          rw [hq] at hx
          obtain ⟨sp, h1, h2⟩ := hx
          have h4 := hr.blk _ _ _ hb h1
          have h5 := h4.1
          have hx' : VR V (.slice (some (b, p)) es n (.lit n)) (.slice (some ⟨sp.blk, sp.off + p, none⟩) n n) := ⟨sp, n, h1, rfl, Nat.le_refl _, by omega, rfl⟩
          obtain ⟨l, hh, mv, m1, m2⟩ := sliceC_ok (P := P) (W := W) false hx' rfl (Nat.le_refl _) (OR_map hf lo) (OR_map hf hi) (OR_map hf mx) hv
          refine Goes.value (W' := W) ?_ (Ext.refl h V) m2 hr
          simp only [execOp, ho, h2]
          rw [Sem.run_bind]
          unfold Instr.sliceAt
          simp only [Sem.run_bind, run_underlying k1, Result.andThen_ok, Instr.sureAddr, m1, szB_run k2.symm hc.2, Sem.run_pure]
          by_cases z : mv = l
          · simp [z]
          · simp [z]
        · cases e
      · cases e
    · cases e
  · cases e
end
end Go.Proofs.YtpjgmeogkomhlaaGreat
namespace Go.Proofs.YtpjgmeogkomhlaaGreat
open Go.RowKit
section
variable {P : Program} {ts : Tr TI} {w0 : World} {h : CH} {V : Va} {f : Fr} {a : Act} {W : World} {o : Oper} {r : CV × CH}
theorem VRs.set {V : Va} {c : CV} {v : Value} (hv : VR V c v) : ∀ {cs : List CV} {vs : List Value} (i : Nat), VRs V cs vs → VRs V (cs.set i c) (vs.set i v)
  | [], vs, i, h => by rw [show vs = [] from h]; exact VRs.nil V
  | _ :: _, _, 0, ⟨_, ws, e, _, hs⟩ => by rw [e]; exact ⟨v, ws, rfl, hv, hs⟩
  | _ :: _, _, i + 1, ⟨u, ws, e, hu, hs⟩ => by rw [e]; exact ⟨u, ws.set i v, rfl, hu, VRs.set hv i hs⟩
theorem splice_ok {V : Va} (off : Nat) : ∀ (xs : List CV) (us : List Value) (k : Nat) (cs : List CV) (vs : Array Value), VRs V xs us → VRs V cs vs.toList → VRs V (setFrom cs (off + k) xs) ((us.zipIdx k).foldl (fun cs (p : Value × Nat) => cs.setIfInBounds (off + p.2) p.1) vs).toList
  | [], us, k, cs, vs, hx, hc => by rw [show us = [] from hx]; exact hc
  | x :: xs, us, k, cs, vs, ⟨u, ws, e, hu, hs⟩, hc => by
    rw [e]
    have hn : VRs V (cs.set (off + k) x) (vs.setIfInBounds (off + k) u).toList := by
      rw [Array.toList_setIfInBounds]
      exact VRs.set hu _ hc
    have := splice_ok off xs ws (k + 1) _ _ hs hn
    rw [List.zipIdx_cons, List.foldl_cons, setFrom]
    exact this
/-- Parts put into their places. -/
theorem fill_ok {V : Va} {place : Nat → Option (Nat × Nat)} : ∀ (ps : List (Nat × CV)) (qs : List (Nat × Value)) (cs : List CV) (vs : Array Value) {cs' : List CV}, ps.map (·.1) = qs.map (·.1) → VRs V (ps.map (·.2)) (qs.map (·.2)) → VRs V cs vs.toList → fillC place cs ps = some cs' → ∃ vs', Instr.fill place vs qs = some vs' ∧ VRs V cs' vs'.toList
  | [], qs, cs, vs, cs', h1, _, h3, e => by
    have : qs = [] := by simpa using h1.symm
    subst this
    cases e
    exact ⟨vs, rfl, h3⟩
  | (i, c) :: ps, [], cs, vs, cs', h1, _, _, _ => by simp at h1
  | (i, c) :: ps, (j, v) :: qs, cs, vs, cs', h1, h2, h3, e => by
    simp only [List.map_cons, List.cons.injEq] at h1
    obtain ⟨rfl, h1⟩ := h1
    obtain ⟨u, ws, e1, hv, hs⟩ := h2
    simp only [List.map_cons, List.cons.injEq] at e1
    obtain ⟨rfl, rfl⟩ := e1
    simp only [fillC] at e
    split at e
    · rename_i off size xs hp hc
      split at e
      · rename_i hl
        have hx := cellsC_ok hc hv
        have l1 := hx.length
        have l2 := h3.length
        simp only [Array.length_toList] at l1 l2
        have hn := splice_ok off xs v.cells.toList 0 cs vs hx h3
        rw [Nat.add_zero, setFrom_splice xs cs off (by omega)] at hn
        obtain ⟨vs', g1, g2⟩ := fill_ok ps qs _ _ h1 hs hn e
        refine ⟨vs', ?_, g2⟩
        simp only [Instr.fill, hp]
        rw [if_neg (by simp; omega)]
        rw [← g1]
        congr 1
        rw [← Array.foldl_toList, Array.toList_zipIdx]
      · cases e
    · cases e
theorem parts_ok (hf : FR V f a) (parts : Array (Nat × Operand)) : (parts.toList.map fun p => (p.1, evC f p.2)).map (·.1) = (parts.map fun (i, x) => (i, a.eval x)).toList.map (·.1) ∧ VRs V ((parts.toList.map fun p => (p.1, evC f p.2)).map (·.2)) ((parts.map fun (i, x) => (i, a.eval x)).toList.map (·.2)) := by
  rw [Array.toList_map]
  generalize parts.toList = l
  induction l with
  | nil => exact ⟨rfl, VRs.nil V⟩
  | cons x xs ih => exact ⟨congrArg (x.1 :: ·) ih.1, VRs.cons (evC_ok hf x.2) ih.2⟩
theorem op_build_array (hts : TS P ts) (hr : Rel w0 h V W) (hf : FR V f a) {t : TypeId} {parts : Array (Nat × Operand)} {ti : TI} {n es : Nat} {ea : Bool} {z cs : List CV} (ho : o.op = .build t parts) (ht : ts.get t = some ti) (hz : cellsC ti.zero = some z) (hk : ti.kind = .array n es ea) (h0 : es ≠ 0) (e : fillC (fun i => some (i * es, es)) z (parts.toList.map fun p => (p.1, evC f p.2)) = some cs) : Goes P w0 h V o a W (.agg cs, h) := by
  obtain ⟨i, zv, g1, g2, g3, g4, g5, g6, d, hu⟩ := tiOf_ok (hts _ _ ht)
  rw [g6] at hz
  have hv := cellsC_ok hz (cvOf_ok V zv)
  rw [hk] at g3
  obtain ⟨el, k1, k2, _, _⟩ := kind_array g3.symm
  obtain ⟨p1, p2⟩ := parts_ok hf parts
  obtain ⟨vs, m1, m2⟩ := fill_ok _ _ _ _ p1 p2 hv e
  refine Goes.value (v := .agg vs) (W' := W) ?_ (Ext.refl h V) ⟨vs.toList, m2, rfl⟩ hr
  simp only [execOp, ho]
  rw [Sem.run_bind]
  unfold Instr.build
  simp only [Sem.run_bind, zero_run g1 g2, run_underlying k1, Result.andThen_ok, szB_run k2.symm h0]
  rw [m1]
  rfl
theorem places_run (fs : List Field) (hs : ∀ fd ∈ fs, ∃ d, P.underlying fd.type = some d) (W : World) : (fs.mapM (m := Sem) fun fd => do pure (fd.offset, ← sizeOf fd.type)).run P W = .ok (fs.map fun fd => (fd.offset, szB P fd.type)) W := by
  induction fs with
  | nil => rfl
  | cons x xs ih =>
    obtain ⟨d, hd⟩ := hs x List.mem_cons_self
    obtain ⟨i, hi⟩ := info_of_und hd
    rw [List.mapM_cons]
    simp only [Sem.run_bind, szB_run' hi, Result.andThen_ok, Sem.run_pure, ih (fun fd hm => hs fd (List.mem_cons_of_mem _ hm)), List.map_cons]
theorem op_build (hts : TS P ts) (hr : Rel w0 h V W) (hf : FR V f a) {t : TypeId} {parts : Array (Nat × Operand)} (ho : o.op = .build t parts) (e : opX P ts h f (.build t parts) = some r) : Goes P w0 h V o a W r := by
  simp only [opX] at e
  split at e
  · rename_i ti ht
    split at e
    · rename_i z hz
      split at e
      · rename_i fs hk
        split at e
        · rename_i cs hc
          cases e
          obtain ⟨i, zv, g1, g2, g3, g4, g5, g6, d, hu⟩ := tiOf_ok (hts _ _ ht)
          rw [g6] at hz
          have hv := cellsC_ok hz (cvOf_ok V zv)
          rw [hk] at g3
          obtain ⟨fields, k1, k2, k3⟩ := kind_struct g3.symm
          obtain ⟨p1, p2⟩ := parts_ok hf parts
          have hc2 : fillC (fun i => (fields.toList.map fun fd => (fd.offset, szB P fd.type)).toArray[i]?) z (parts.toList.map fun p => (p.1, evC f p.2)) = some cs := by
            rw [← hc]
            congr 1
            funext i
            subst k2
            simp only [List.getElem?_map, List.getElem?_toArray]
            cases fields.toList[i]? <;> rfl
          obtain ⟨vs, m1, m2⟩ := fill_ok _ _ _ _ p1 p2 hv hc2
          refine Goes.value (v := .agg vs) (W' := W) ?_ (Ext.refl h V) ⟨vs.toList, m2, rfl⟩ hr
          simp only [execOp, ho]
          rw [Sem.run_bind]
          unfold Instr.build
          simp only [Sem.run_bind, zero_run g1 g2, run_underlying k1, Result.andThen_ok, Array.mapM_eq_mapM_toList, map_eq_pure_bind, places_run _ k3, Sem.run_pure]
          rw [m1]
          rfl
        · cases e
      · rename_i n es ea hk
        split at e
        · cases e
        · rename_i h0
          split at e
          · rename_i cs hc
            cases e
            exact op_build_array hts hr hf ho ht hz hk h0 hc
          · cases e
      · cases e
    · cases e
  · cases e
end
end Go.Proofs.YtpjgmeogkomhlaaGreat
namespace Go.Proofs.YtpjgmeogkomhlaaGreat
open Go.RowKit
section
variable {P : Program} {ts : Tr TI} {w0 : World} {h : CH} {V : Va} {f : Fr} {a : Act} {W : World} {o : Oper} {r : CV × CH}
theorem Rel.newMap (r : Rel w0 h V W) : Rel w0 (h.push (.map [])) (V.setBlk h.n ⟨W.heap.size, 0, 0⟩) (W.alloc (.map #[] 0)) := by
  refine r.pushAt _ _ ((Below.refl _ _).alloc (Nat.le_refl _) _) (by simp) ⟨r.siz, #[], 0, heap_alloc_new W _, rfl⟩ (fun b o' s' _ _ hs => ?_)
  have := r.there b s' hs
  show s'.blk ≠ W.heap.size
  omega
theorem op_makeMap (hr : Rel w0 h V W) {t : TypeId} (ho : o.op = .makeMap t none) (e : opX P ts h f (.makeMap t none) = some r) : Goes P w0 h V o a W r := by
  simp only [opX] at e
  cases e
  refine Goes.value (v := .map (some W.heap.size)) (W' := W.alloc (.map #[] 0)) ?_ (Ext.push hr _ _) ⟨_, Va.setBlk_same, rfl⟩ hr.newMap
  simp only [execOp, ho]
  rw [Sem.run_bind]
  rfl
theorem fillC_length {place : Nat → Option (Nat × Nat)} : ∀ (ps : List (Nat × CV)) (cs : List CV) {cs' : List CV}, fillC place cs ps = some cs' → cs'.length = cs.length
  | [], cs, cs', e => by cases e; rfl
  | (i, c) :: ps, cs, cs', e => by
    simp only [fillC] at e
    split at e
    · rename_i off size xs hp hc
      split at e
      · rename_i hl
        rw [fillC_length ps _ e, ← setFrom_splice xs cs off (by omega), setFrom_length]
      · cases e
    · cases e
theorem op_buildSlice (hts : TS P ts) (hr : Rel w0 h V W) (hf : FR V f a) {t : TypeId} {len : Nat} {parts : Array (Nat × Operand)} (ho : o.op = .buildSlice t len parts) (e : opX P ts h f (.buildSlice t len parts) = some r) : Goes P w0 h V o a W r := by
  simp only [opX] at e
  split at e
  · rename_i el es s1 g1 z1 ht
    split at e
    · cases e
    · rename_i hn
      split at e
      · rename_i cs hc
        cases e
        obtain ⟨k1, k2⟩ := kind_slice ((tiOf_ok (hts _ _ ht)).choose_spec.choose_spec.2.2.1).symm
        obtain ⟨te, he⟩ : ∃ te, ts.get el = some te := by
          cases q : ts.get el with
          | none => simp [q] at hn
          | some te => exact ⟨te, rfl⟩
        obtain ⟨i, zv, q1, q2, _⟩ := tiOf_ok (hts _ _ he)
        obtain ⟨p1, p2⟩ := parts_ok hf parts
        have n1 : ¬ len * es > 2 ^ 24 := by omega
        have n2 : es ≠ 0 := by omega
        have hv : ∀ z : Array Value, VRs V (List.replicate (len * es) CV.any) ((Array.range (len * es)).map (z[· % z.size]!)).toList := fun z => by
          refine VRs.of_get (by simp) (fun i c v hc' _ => ?_)
          rw [List.getElem?_replicate] at hc'
          split at hc'
          · cases hc'; trivial
          · cases hc'
        have go : ∀ z : Array Value, (Instr.buildSlice t len (parts.map fun (i, x) => (i, a.eval x))).run P W = ((match Instr.fill (fun i => some (i * es, es)) ((Array.range (len * es)).map (z[· % z.size]!)) (parts.map fun (i, x) => (i, a.eval x)).toList with | some cells => (do pure (.slice (some (← newRow el cells)) len len)) | _ => stuck "buildSlice: a part of the wrong size" : Sem Value)).run P W → Goes P w0 h V o a W (.slice (some (h.n, 0)) es len (.lit len), h.push (.cells cs false)) := fun z hz => by
          obtain ⟨vs, m1, m2⟩ := fill_ok _ _ _ _ p1 p2 (hv z) hc
          have l1 := m2.length
          refine Goes.value (v := .slice (some ⟨W.heap.size, 0, none⟩) len len) (W' := W.alloc (.cells vs el)) ?_ (Ext.push hr _ _) ⟨_, len, Va.setBlk_same, rfl, Nat.le_refl _, ?_, by simp⟩ (hr.alloc m2 el)
          · simp only [execOp, ho]
            rw [Sem.run_bind, hz, m1]
            rfl
          · have l2 := fillC_length _ _ hc
            simp only [List.length_replicate, Array.length_toList] at l1 l2
            show 0 + 0 + len * es ≤ vs.size
            omega
        by_cases c : len * es = 0
        · refine go #[] ?_
          unfold Instr.buildSlice
          simp only [Sem.run_bind, run_underlying k1, Result.andThen_ok, szB_run k2.symm n2, if_neg n1, if_pos c, pure_bind]; rfl
        · refine go zv.cells ?_
          unfold Instr.buildSlice
          simp only [Sem.run_bind, run_underlying k1, Result.andThen_ok, szB_run k2.symm n2, if_neg n1, if_neg c, pure_bind, zero_run q1 q2]; rfl
      · cases e
  · cases e
end
end Go.Proofs.YtpjgmeogkomhlaaGreat
