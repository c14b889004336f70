/-
  Regions that don't draw, with calls of which less is told; pieces of the run put one behind the other. No conditions but those named.
-/
import Derived.Test.YtpjgmeogkomhlaaGreatYe
import Derived.Test.YtpjgmeogkomhlaaGreatYd
namespace Go.Proofs.YtpjgmeogkomhlaaGreat
open Go.RowKit
/-- How functions run is right (of names kept free nothing is said). -/
def CallW (P : Program) (cl : Caller) : Prop := ∀ id args h l, cl id args h = some l → Ent P id ∧ ∀ (w0 : World) (V : Va) (W : World) (vs : List Value), Rel w0 h V W → VRs V args vs →
  Calls P id vs.toArray W (fun e W' => ∃ x ∈ l, ∃ V' v, e = .returned v ∧ V.le V' ∧ VR V' x.1 v ∧ Rel w0 x.2 V' W')
def OutsW (w0 : World) (V : Va) (l : List (Fr × CH)) (a : Act) (W : World) : Prop := ∃ x ∈ l, ∃ V', V.le V' ∧ FR V' x.1 a ∧ Rel w0 x.2 V' W
theorem OutsW.mono {w0 : World} {V V' : Va} {l l' : List (Fr × CH)} {a : Act} {W : World} (hE : V.le V') (hl : ∀ x ∈ l, x ∈ l') (ho : OutsW w0 V' l a W) : OutsW w0 V l' a W :=
  let ⟨x, h1, V'', h2, h3, h4⟩ := ho
  ⟨x, hl x h1, V'', hE.trans h2, h3, h4⟩
section
variable {P : Program} {ts : Tr TI} {w0 : World} {h : CH} {V : Va} {f : Fr} {a : Act} {W : World} {o : Oper} {cl : Caller} {ops : Array Oper}
theorem callXW_ok (hts : TS P ts) (hcl : CallW P cl) (hr : Rel w0 h V W) (hf : FR V f a) {l : List (CV × CH)} (e : callX P ts cl h f o.op = some l) (K : Act → World → Prop) (Q : Exit → Act → World → Prop)
    (hK : ∀ x ∈ l, ∀ V' v W', V.le V' → VR V' x.1 v → Rel w0 x.2 V' W' → K (a.put o.dst v) W') : o.wp P a W K Q := by
  have plain : ∀ x, opX P ts h f o.op = some x → l = [x] → o.wp P a W K Q := fun x hx hl => by
    obtain ⟨V', v, W', h1, h2, h3, h4⟩ := opX_ok hts hr hf o.op rfl hx
    exact h4 K Q (hK x (by rw [hl]; exact List.mem_singleton.2 rfl) V' v W' h1.le h2 h3)
  unfold callX at e
  split at e
  · rename_i c hc
    split at e
    · rename_i g hg
      split at e
      · rename_i id first captured hv
        obtain ⟨hE, hC⟩ := hcl _ _ _ _ e
        have hx := evC_ok hf g
        rw [hv] at hx
        obtain ⟨xs, ys, h1, h2, h3⟩ := hx
        have hargs := (h1.append (evCs_ok hf c.args.toList)).append h2
        have C := hC w0 V W _ hr hargs
        unfold Oper.wp
        have hrun : (execOp a.eval o).run P W = .ok (.enter id (xs ++ c.args.toList.map a.eval ++ ys).toArray) W := by
          simp only [execOp, hc]
          rw [Sem.run_bind]
          unfold resolve
          simp only [hg, h3, Deferred.ofValue, Sem.run_pure, Result.andThen_ok]
          have ha : xs.toArray ++ c.args.map a.eval ++ ys.toArray = (xs ++ c.args.toList.map a.eval ++ ys).toArray := by
            apply Array.ext'
            simp
          rw [← ha]
          exact enter_run hE _ _
        rw [hrun, Oper.upon_enter]
        refine C.mono ?_
        rintro e W' ⟨x, hx, V', v, rfl, hE', hv', hr'⟩
        exact hK x hx V' v W' hE' hv' hr'
      · cases e
    · split at e
      · rename_i x hx
        cases e
        exact plain x hx rfl
      · cases e
  · split at e
    · rename_i x hx
      cases e
      exact plain x hx rfl
    · cases e
theorem oneVW_ok (hts : TS P ts) (hcl : CallW P cl) (hr : Rel w0 h V W) (hf : FR V f a) {l : List (CV × CH)} (e : oneV P ts cl ops o f h = some l) (K : Act → World → Prop) (Q : Exit → Act → World → Prop)
    (hK : ∀ x ∈ l, ∀ V' v W', V.le V' → VR V' x.1 v → Rel w0 x.2 V' W' → K (a.put o.dst v) W') : if Region.wanted o (yielded ops a.tmps) then o.wp P a W K Q else K (a.put o.dst undef) W := by
  unfold oneV at e
  have hw := want_ok (ops := ops) (V := V) (f := f) (a := a) (o := o) (fun j w d c _ _ hc => by
    obtain ⟨h1, h2⟩ := hf.2.2 d c hc
    exact ⟨by rw [hf.1]; exact h1, h2⟩)
  split at e
  · cases e
  · rename_i hq
    cases e
    rw [hq] at hw
    rw [if_neg (by rw [hw]; simp)]
    exact hK _ (List.mem_singleton.2 rfl) V undef W (Va.le.refl V) ⟨[], rfl, rfl⟩ hr
  · rename_i hq
    rw [hq] at hw
    rw [if_pos hw]
    exact callXW_ok hts hcl hr hf e K Q hK
  · rename_i s w hq
    rw [hq] at hw
    obtain ⟨b, h1, h2⟩ := hw
    split at e
    · rename_i hk
      split at e
      · rename_i c h' hx
        split at e
        · rename_i hn
          cases e
          by_cases hb : b = w
          · rw [if_pos (by rw [h2]; simpa using hb)]
            obtain ⟨V', v, W', g1, g2, g3, g4⟩ := opX_ok hts hr (strip_FR (by rw [← hb]; exact h1) hf _) o.op rfl hx
            have := still_same hk hx hn
            subst this
            exact g4 K Q (hK _ (List.mem_singleton.2 rfl) V' v W' g1.le ⟨b, BE.den_mono g1.le s b h1, fun _ => g2, fun q => absurd hb q⟩ g3)
          · rw [if_neg (by rw [h2]; simpa using hb)]
            exact hK _ (List.mem_singleton.2 rfl) V undef W (Va.le.refl V) ⟨b, h1, fun q => absurd q hb, fun _ => rfl⟩ hr
        · cases e
      · cases e
    · cases e
theorem oneXW_ok (hts : TS P ts) (hcl : CallW P cl) (hr : Rel w0 h V W) (hf : FR V f a) {l : List (Fr × CH)} (e : oneX P ts cl ops o f h = some l) (K : Act → World → Prop) (Q : Exit → Act → World → Prop)
    (hK : ∀ a' W', OutsW w0 V l a' W' → K a' W') : if Region.wanted o (yielded ops a.tmps) then o.wp P a W K Q else K (a.put o.dst undef) W := by
  unfold oneX at e
  split at e
  · rename_i hd
    have hd := okDst_ok hd
    split at e
    · cases e
    · rename_i l' hl
      cases e
      exact oneVW_ok hts hcl hr hf hl K Q fun x hx V' v W' h1 h2 h3 => hK _ _ ⟨(f.put o.dst x.1, x.2), List.mem_map.2 ⟨x, hx, rfl⟩, V', h1, (hf.mono h1).put hd h2, h3⟩
  · cases e
theorem opsXW_ok (hts : TS P ts) (hcl : CallW P cl) (Q : Exit → Act → World → Prop) : ∀ (m i : Nat) (f : Fr) (h : CH) (V : Va) (a : Act) (W : World) (outs : List (Fr × CH)), ops.size = i + m → opsX P ts cl ops (ops.toList.drop i) f h = some outs → Rel w0 h V W → FR V f a → (∀ a' W', OutsW w0 V outs a' W' → Q .normal a' W') → wpOps P ops Q (List.range' i m) a W
  | 0, i, f, h, V, a, W, outs, hs, e, hr, hf, hQ => by
    have hd : ops.toList.drop i = [] := List.drop_eq_nil_of_le (by simp; omega)
    rw [hd] at e
    cases e
    exact hQ a W ⟨_, List.mem_singleton.2 rfl, V, Va.le.refl V, hf, hr⟩
  | m + 1, i, f, h, V, a, W, outs, hs, e, hr, hf, hQ => by
    have hi : i < ops.toList.length := by simp; omega
    rw [List.drop_eq_getElem_cons hi] at e
    have ho : ops[i]? = some ops.toList[i] := by
      rw [← Array.getElem?_toList, List.getElem?_eq_getElem hi]
    simp only [opsX] at e
    split at e
    · cases e
    · rename_i l hl
      rw [List.range'_succ]
      simp only [wpOps, ho]
      have H := oneXW_ok hts hcl hr hf hl (wpOps P ops Q (List.range' (i + 1) m)) Q (fun a' W' ⟨x, hx, V', h1, h2, h3⟩ => by
        obtain ⟨l', h4, h5⟩ := eachX_ok e x hx
        exact opsXW_ok hts hcl Q m (i + 1) x.1 x.2 V' a' W' l' (by omega) h4 h3 h2 (fun a'' W'' ho => hQ a'' W'' (ho.mono h1 h5)))
      by_cases hw : Region.wanted ops.toList[i] (yielded ops a.tmps) = true
      · rw [if_pos hw] at H
        rw [if_pos hw]
        exact .inl H
      · rw [if_neg hw] at H
        rw [if_neg hw]
        exact H

end
/-- A piece of code that goes on. -/
theorem piece (hhk : HookOK Tryz.prog hookC) {n : Nat} {sc : List (Nat × List Stp)} {N : Nat} {c : Code} {t1 t2 : Tr CV} {h1 h2 : CH} (hsc : codeOK sc c = true) (e : (runK Tryz.prog tsL fsS hookC n).2 sc N c t1 h1 (fun t h => chkSt t2 h2 t h) (fun _ _ _ => false) (fun _ _ => false) = true)
    {w0 : World} {V : Va} {W : World} {a : Act} {Q : Exit → Act → World → Prop} (hr : Rel w0 h1 V W) (hf : FR V ⟨N, t1⟩ a) (hQ : ∀ a' V' W', V.le V' → Rel w0 h2 V' W' → FR V' ⟨N, t2⟩ a' → Q .normal a' W') : c.wp Tryz.prog Q a W := by
  obtain ⟨ex, t', h', q1, q2⟩ := (runK_ok n).2 _ _ _ _ _ _ _ _ e
  refine ((code_ok tsL_ok fsS_ok hhk mixed_ok n).2 sc c _ h1 V a W w0 _ Q q1 hsc hr hf ?_).1
  rintro e' a' W' ⟨x, hx, he, V', g1, g2, g3⟩
  rw [List.mem_singleton] at hx
  subst hx
  cases ex with
  | normal =>
    subst he
    have q2 : chkSt t2 h2 t' h' = true := q2
    unfold chkSt at q2
    simp only [Bool.and_eq_true] at q2
    exact hQ a' V' W' g1.le (g3.sub q2.2) (g2.sub q2.1)
  | exit i => cases q2
  | ret => cases q2
/-- A piece of code that leaves. -/
theorem pieceX (hhk : HookOK Tryz.prog hookC) {n : Nat} {sc : List (Nat × List Stp)} {N i : Nat} {c : Code} {t1 t2 : Tr CV} {h1 h2 : CH} (hsc : codeOK sc c = true) (e : (runK Tryz.prog tsL fsS hookC n).2 sc N c t1 h1 (fun _ _ => false) (fun j t h => Nat.beq i j && chkSt t2 h2 t h) (fun _ _ => false) = true)
    {w0 : World} {V : Va} {W : World} {a : Act} {Q : Exit → Act → World → Prop} (hr : Rel w0 h1 V W) (hf : FR V ⟨N, t1⟩ a) (hQ : ∀ a' V' W', V.le V' → Rel w0 h2 V' W' → FR V' ⟨N, t2⟩ a' → Q (.exit i) a' W') : c.wp Tryz.prog Q a W := by
  obtain ⟨ex, t', h', q1, q2⟩ := (runK_ok n).2 _ _ _ _ _ _ _ _ e
  refine ((code_ok tsL_ok fsS_ok hhk mixed_ok n).2 sc c _ h1 V a W w0 _ Q q1 hsc hr hf ?_).1
  rintro e' a' W' ⟨x, hx, he, V', g1, g2, g3⟩
  rw [List.mem_singleton] at hx
  subst hx
  cases ex with
  | normal => cases q2
  | exit j =>
    subst he
    have q2 : (Nat.beq i j && chkSt t2 h2 t' h') = true := q2
    unfold chkSt at q2
    simp only [Bool.and_eq_true] at q2
    have hij := Nat.eq_of_beq_eq_true q2.1
    subst hij
    exact hQ a' V' W' g1.le (g3.sub q2.2.2) (g2.sub q2.2.1)
  | ret => cases q2
/-- A region that doesn't draw, with such calls. -/
theorem pieceW {cl : Caller} {fk : FunT} (hcl : CallW Tryz.prog cl) (hfk : FunOK cl fk) {N id : Nat} {ops : Array Oper} {t1 t2 : Tr CV} {h1 h2 : CH} (e : opsK Tryz.prog tsL fk ops N ops.toList t1 h1 (fun t h => chkSt t2 h2 t h) = true)
    {w0 : World} {V : Va} {W : World} {a : Act} {Q : Exit → Act → World → Prop} (hr : Rel w0 h1 V W) (hf : FR V ⟨N, t1⟩ a) (hQ : ∀ a' V' W', V.le V' → Rel w0 h2 V' W' → FR V' ⟨N, t2⟩ a' → Q .normal a' W') : (Code.region id ops false).wp Tryz.prog Q a W := by
  obtain ⟨t', h', q1, q2⟩ := opsK_ok hfk e
  refine wp_region ?_
  rw [List.range_eq_range']
  refine opsXW_ok tsL_ok hcl Q ops.size 0 _ h1 V a W _ (by simp) (by simpa using q1) hr hf ?_
  rintro a' W' ⟨x, hx, V', g1, g2, g3⟩
  rw [List.mem_singleton] at hx
  subst hx
  unfold chkSt at q2
  simp only [Bool.and_eq_true] at q2
  exact hQ a' V' W' g1 (g3.sub q2.2) (g2.sub q2.1)
end Go.Proofs.YtpjgmeogkomhlaaGreat
