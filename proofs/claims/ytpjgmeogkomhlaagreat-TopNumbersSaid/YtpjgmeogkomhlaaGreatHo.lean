/-
  What a run is told of the fixed point; quaternions, run on whatever numbers. No conditions but those named.
-/
import Derived.Test.YtpjgmeogkomhlaaGreatPj
import Derived.Test.YtpjgmeogkomhlaaGreatYe
namespace Go.Proofs.YtpjgmeogkomhlaaGreat
open Go.RowKit
/-- What a run finds of a function, whatever its outcome: what was asked. -/
theorem runC {hk : Hook} (hhk : HookOK Tryz.prog hk) {n id : Nat} {args : List CV} {h : CH} {chk : CV → CH → Bool} (e : (runL Tryz.prog tsL fsS hk n).1 id args h chk = true) {w0 : World} {V : Va} {W : World} {vs : List Value} (r : Rel w0 h V W) (hv : VRs V args vs) :
    Calls Tryz.prog id vs.toArray W (fun e W' => ∃ c h' V' v, chk c h' = true ∧ e = .returned v ∧ Ext h V h' V' ∧ VR V' c v ∧ Rel w0 h' V' W') := by
  obtain ⟨l, q1, q2⟩ := (runL_ok n).1 _ _ _ _ e
  refine (((code_ok tsL_ok fsS_ok hhk mixed_ok n).1 _ _ _ _ q1).2 w0 V W vs r hv).mono ?_
  rintro e W' ⟨x, hx, V', v, h1, h2, h3, h4⟩
  exact ⟨x.1, x.2, V', v, q2 x hx, h1, h2, h3, h4⟩
theorem Bnd.ofBelow {w w' : World} {q : Int} {x : Bool} {e : Ending} (he : e = .returned (.tuple #[.int .i64 (clampN q), .bool x])) (hw : w = w') : Bnd w e w' := by
  subst hw
  rw [he]
  exact Bnd.of _ _ (Below.refl _ _)
theorem hookP_of {id : FuncId} {fn : Func} {c : Code} (h1 : Tryz.prog.funcs[id]? = some fn) (h2 : (fn.name == "runtime.NumGoroutine") = false) (h3 : fn.body = some c) : Ent Tryz.prog id := ⟨fn, c, h1, h2, h3⟩
theorem hook33 : HookP 33 arg2Q := arg2Q_ok ⟨Tryz.f33, _, Tryz.func33, by kernel_rfl, rfl⟩ mul33
theorem hook63 : HookP 63 arg2Q := arg2Q_ok ⟨Tryz.f63, _, Tryz.func63, by kernel_rfl, rfl⟩ div63
theorem hook35 : HookP 35 arg2Q := arg2Q_ok ⟨Tryz.f35, _, Tryz.func35, by kernel_rfl, rfl⟩ fun a b W => (add35 a b W).mono fun _ _ ⟨h1, h2⟩ => Bnd.ofBelow h1 h2
theorem hook31 : HookP 31 arg2Q := arg2Q_ok ⟨Tryz.f31, _, Tryz.func31, by kernel_rfl, rfl⟩ fun a b W => (sub31 a b W).mono fun _ _ ⟨h1, h2⟩ => Bnd.ofBelow h1 h2
theorem hook56 : HookP 56 arg1Q := arg1Q_ok ⟨Tryz.f56, _, Tryz.func56, by kernel_rfl, rfl⟩ fun a W => (clamp56 a W).mono fun _ _ ⟨h1, h2⟩ => Bnd.ofBelow h1 h2
theorem hook62 : HookP 62 arg1A := arg1A_ok ⟨Tryz.f62, _, Tryz.func62, by kernel_rfl, rfl⟩ sqrt62
theorem hook54 : HookP 54 halfQ := halfQ_ok ⟨Tryz.f54, _, Tryz.func54, by kernel_rfl, rfl⟩ fun a W h => half54 a W h
def hookQ : FuncId → List CV → CH → HookR := fun id args h =>
  match Nat.beq id 33 with
  | true => arg2Q args h
  | false => match Nat.beq id 35 with
    | true => arg2Q args h
    | false => match Nat.beq id 31 with
      | true => arg2Q args h
      | false => match Nat.beq id 56 with
        | true => arg1Q args h
        | false => match Nat.beq id 63 with
          | true => arg2Q args h
          | false => match Nat.beq id 62 with
            | true => arg1A args h
            | false => match Nat.beq id 54 with
              | true => halfQ args h
              | false => none
theorem hookQ_ok : HookOK Tryz.prog hookQ := by
  intro id args h l e
  have step : ∀ {k : Nat} {g : List CV → CH → HookR}, HookP k g → id = k → ((g args h).bind fun x => x) = some l → Ent Tryz.prog id ∧ ∀ (w0 : World) (V : Va) (W : World) (vs : List Value), Rel w0 h V W → VRs V args vs → Calls Tryz.prog id vs.toArray W (fun e W' => ∃ x ∈ l, ∃ V' v, e = .returned v ∧ Ext h V x.2 V' ∧ VR V' x.1 v ∧ Rel w0 x.2 V' W') := fun {k g} hp hi q => by
    subst hi
    cases hg : g args h with
    | none => rw [hg] at q; cases q
    | some y =>
      rw [hg] at q
      have q : y = some l := q
      subst q
      exact hp args h l hg
  unfold hookQ at e
  dsimp only at e
  split at e
  · rename_i q; exact step hook33 (Nat.eq_of_beq_eq_true q) e
  split at e
  · rename_i q; exact step hook35 (Nat.eq_of_beq_eq_true q) e
  split at e
  · rename_i q; exact step hook31 (Nat.eq_of_beq_eq_true q) e
  split at e
  · rename_i q; exact step hook56 (Nat.eq_of_beq_eq_true q) e
  split at e
  · rename_i q; exact step hook63 (Nat.eq_of_beq_eq_true q) e
  split at e
  · rename_i q; exact step hook62 (Nat.eq_of_beq_eq_true q) e
  split at e
  · rename_i q; exact step hook54 (Nat.eq_of_beq_eq_true q) e
  · cases e
/-- Numbers in bounds, and a truth. -/
def RowP (k : Nat) (w : World) (e : Ending) (w' : World) : Prop := (∃ (l : List Int) (x : Bool), l.length = k ∧ Within lowQ topQ l ∧ e = .returned (.tuple #[.agg (numV l).toArray, .bool x])) ∧ Below w.heap.size w w'
def chkRow (k : Nat) (c : CV) (_ : CH) : Bool := match c with
  | .tup [.agg cs, .bool _] => inBs lowQ topQ cs && Nat.beq cs.length k
  | _ => false
theorem chkRow_ok {k : Nat} {c : CV} {h : CH} {V : Va} {v : Value} (e : chkRow k c h = true) (hv : VR V c v) : ∃ (l : List Int) (x : Bool), l.length = k ∧ Within lowQ topQ l ∧ v = .tuple #[.agg (numV l).toArray, .bool x] := by
  unfold chkRow at e
  split at e
  · rename_i cs b _
    rw [Bool.and_eq_true] at e
    obtain ⟨xs, ⟨v1, ws, e1, h1, v2, ws2, e2, h2, h3⟩, e3⟩ := hv
    obtain ⟨ys, h4, h5⟩ := h1
    obtain ⟨b', _, h6⟩ := h2
    obtain ⟨l, g1, g2, g3⟩ := inBs_ok e.1 h4
    refine ⟨l, b', by rw [g1]; exact Nat.eq_of_beq_eq_true e.2, g2, ?_⟩
    rw [e3, e1, e2, show ws2 = [] from h3, h5, h6, g3]
  · cases e
/-- Nothing known but letters. -/
def hN (n : Nat) : CH := ⟨.nil, 0, n, 0, 0, []⟩
def vaN (l : List Int) : Va := ⟨fun _ => none, fun i => l[i]?, fun _ => none, fun _ => none⟩
theorem relN (W : World) (l : List Int) : Rel W (hN l.length) (vaN l) W := ⟨Below.refl _ _, Nat.le_refl _, fun b o s hb => (by cases hb), fun b b' o o' hb => (by cases hb), fun _ _ => ⟨rfl, rfl⟩, fun i hi => List.getElem?_eq_none hi, fun _ _ => rfl, fun _ _ => rfl, fun f hf => (by cases hf), fun b s hb => (by cases hb)⟩
set_option maxRecDepth 1000000 in
theorem run26 : (runL Tryz.prog tsL fsS hookQ 5000).1 26 [.agg (varC 4 0), .agg (varC 4 4)] (hN 8) (chkRow 4) = true := by kernel_rfl
set_option maxRecDepth 1000000 in
theorem run27 : (runL Tryz.prog tsL fsS hookQ 5000).1 27 [.agg (varC 4 0)] (hN 4) (chkRow 4) = true := by kernel_rfl
set_option maxRecDepth 1000000 in
theorem run28 : (runL Tryz.prog tsL fsS hookQ 5000).1 28 [.agg (varC 4 0), .agg (varC 3 4)] (hN 7) (chkRow 3) = true := by kernel_rfl
set_option maxRecDepth 1000000 in
theorem run24 : (runL Tryz.prog tsL fsS hookQ 5000).1 24 [.agg (varC 3 0), .int .i64 (.bnd 3 lowQ topQ)] (hN 4) (chkRow 4) = true := by kernel_rfl
theorem rowP_of {k : Nat} {W : World} {e : Ending} {W' : World} {h : CH} {V : Va} (x : ∃ c h' V' v, chkRow k c h' = true ∧ e = .returned v ∧ Ext h V h' V' ∧ VR V' c v ∧ Rel W h' V' W') : RowP k W e W' := by
  obtain ⟨c, h', V', v, h1, rfl, _, h2, h3⟩ := x
  obtain ⟨l, b, g1, g2, rfl⟩ := chkRow_ok h1 h2
  exact ⟨⟨l, b, g1, g2, rfl⟩, h3.bel⟩
theorem agg_var {l : List Int} {pre post : List Int} {k i : Nat} (hk : l.length = k) (hi : pre.length = i) : VR (vaN (pre ++ l ++ post)) (.agg (varC k i)) (.agg (numV l).toArray) := by
  subst hk hi
  refine ⟨numV l, varC_ok l pre.length fun j x hx => ?_, rfl⟩
  have hj := (List.getElem?_eq_some_iff.1 hx).1
  show (pre ++ l ++ post)[pre.length + j]? = some x
  rw [List.append_assoc, List.getElem?_append_right (Nat.le_add_right _ _), Nat.add_sub_cancel_left, List.getElem?_append_left hj]
  exact hx
theorem mul26 (p q : List Int) (hp : p.length = 4) (hq : q.length = 4) (W : World) : Calls Tryz.prog 26 #[.agg (numV p).toArray, .agg (numV q).toArray] W (RowP 4 W) := by
  have r := relN W ([] ++ p ++ q)
  rw [show ([] ++ p ++ q : List Int).length = 8 by simp [hp, hq]] at r
  have h1 : VR (vaN ([] ++ p ++ q)) (.agg (varC 4 0)) (.agg (numV p).toArray) := agg_var hp rfl
  have h2 : VR (vaN (p ++ q ++ [])) (.agg (varC 4 4)) (.agg (numV q).toArray) := agg_var hq hp
  rw [List.append_nil] at h2
  exact (runC hookQ_ok run26 r (VRs.cons h1 (VRs.cons h2 (VRs.nil _)))).mono fun _ _ x => rowP_of x
theorem unit27 (p : List Int) (hp : p.length = 4) (W : World) : Calls Tryz.prog 27 #[.agg (numV p).toArray] W (RowP 4 W) := by
  have r := relN W ([] ++ p ++ [])
  rw [show ([] ++ p ++ [] : List Int).length = 4 by simp [hp]] at r
  have h1 : VR (vaN ([] ++ p ++ [])) (.agg (varC 4 0)) (.agg (numV p).toArray) := agg_var hp rfl
  exact (runC hookQ_ok run27 r (VRs.cons h1 (VRs.nil _))).mono fun _ _ x => rowP_of x
theorem turn28 (p q : List Int) (hp : p.length = 4) (hq : q.length = 3) (W : World) : Calls Tryz.prog 28 #[.agg (numV p).toArray, .agg (numV q).toArray] W (RowP 3 W) := by
  have r := relN W ([] ++ p ++ q)
  rw [show ([] ++ p ++ q : List Int).length = 7 by simp [hp, hq]] at r
  have h1 : VR (vaN ([] ++ p ++ q)) (.agg (varC 4 0)) (.agg (numV p).toArray) := agg_var hp rfl
  have h2 : VR (vaN (p ++ q ++ [])) (.agg (varC 3 4)) (.agg (numV q).toArray) := agg_var hq hp
  rw [List.append_nil] at h2
  exact (runC hookQ_ok run28 r (VRs.cons h1 (VRs.cons h2 (VRs.nil _)))).mono fun _ _ x => rowP_of x
theorem small24 (p : List Int) (n : Int) (hp : p.length = 3) (h0 : lowQ ≤ n) (h1 : n ≤ topQ) (W : World) : Calls Tryz.prog 24 #[.agg (numV p).toArray, .int .i64 n] W (RowP 4 W) := by
  have r := relN W ([] ++ p ++ [n])
  rw [show ([] ++ p ++ [n] : List Int).length = 4 by simp [hp]] at r
  have h2 : VR (vaN ([] ++ p ++ [n])) (.agg (varC 3 0)) (.agg (numV p).toArray) := agg_var hp rfl
  have h3 : VR (vaN ([] ++ p ++ [n])) (.int .i64 (.bnd 3 lowQ topQ)) (.int .i64 n) := by
    refine ⟨n, ?_, rfl⟩
    have : (vaN ([] ++ p ++ [n])).num 3 = some n := by
      show ([] ++ p ++ [n])[3]? = some n
      rw [List.nil_append, List.getElem?_append_right (by omega), hp]
      rfl
    simp only [IE.den, this, if_pos (And.intro h0 h1)]
  exact (runC hookQ_ok run24 r (VRs.cons h2 (VRs.cons h3 (VRs.nil _)))).mono fun _ _ x => rowP_of x
/-- .. as a run is told of it. -/
def newRow (k : Nat) (h : CH) : HookR := some (some [(.tup [.agg (bndC lowQ topQ k h.nv), .bool (.var h.nb)], { h with nv := h.nv + k, nb := h.nb + 1 })])
theorem newRow_ok {k : Nat} {w0 : World} {h : CH} {V : Va} {W W' : World} {e : Ending} (hfs : h.fs = []) (r : Rel w0 h V W) (hb : RowP k W e W') {l : List (CV × CH)} (hl : newRow k h = some (some l)) :
    ∃ x ∈ l, ∃ V' v, e = .returned v ∧ Ext h V x.2 V' ∧ VR V' x.1 v ∧ Rel w0 x.2 V' W' := by
  obtain ⟨⟨q, x, hk, hw, h1⟩, h4⟩ := hb
  subst hk
  cases hl
  have r1 := (r.call h4).nums hfs q
  have r2 := r1.bols [x]
  refine ⟨_, List.mem_singleton.2 rfl, _, _, h1, (Ext.nums (r.call h4) q).trans (Ext.bols r1 [x]), ?_, r2⟩
  refine ⟨_, ⟨_, _, rfl, ⟨_, bndC_ok q h.nv hw fun j y hy => ?_, rfl⟩, _, _, rfl, ⟨x, Va.bols_get (V.nums h.nv q) h.nb [x] 0, rfl⟩, rfl⟩, rfl⟩
  exact (Va.nums_get V h.nv q j).trans hy
def rowHook (ok : List CV → Bool) (k : Nat) (args : List CV) (h : CH) : HookR := match ok args with
  | true => match bare h with
    | true => newRow k h
    | false => some none
  | false => some none
theorem rowHook_ok {id k : Nat} {ok : List CV → Bool} (hE : Ent Tryz.prog id) (hC : ∀ (args : List CV) (V : Va) (vs : List Value) (W : World), ok args = true → VRs V args vs → Calls Tryz.prog id vs.toArray W (RowP k W)) : HookP id (rowHook ok k) := fun args h l e => by
  refine ⟨hE, fun w0 V W vs r hv => ?_⟩
  unfold rowHook at e
  split at e
  · rename_i q
    split at e
    · rename_i hb
      exact (hC args V vs W q hv).mono fun e' W' hB => newRow_ok (bare_ok hb) r hB e
    · cases e
  · cases e
def okQQ (m n : Nat) (args : List CV) : Bool := match args with
  | [.agg cs, .agg ds] => allI cs && Nat.beq cs.length m && allI ds && Nat.beq ds.length n
  | _ => false
def okQ (m : Nat) (args : List CV) : Bool := match args with
  | [.agg cs] => allI cs && Nat.beq cs.length m
  | _ => false
def okQI (m : Nat) (args : List CV) : Bool := match args with
  | [.agg cs, .int .i64 e] => allI cs && Nat.beq cs.length m && inBs lowQ topQ [.int .i64 e]
  | _ => false
theorem agg_nums {V : Va} {cs : List CV} {v : Value} {m : Nat} (h : VR V (.agg cs) v) (h1 : allI cs = true) (h2 : Nat.beq cs.length m = true) : ∃ l : List Int, l.length = m ∧ v = .agg (numV l).toArray := by
  obtain ⟨xs, h3, h4⟩ := h
  obtain ⟨l, h5, h6⟩ := allI_ok h1 h3
  exact ⟨l, by rw [h5]; exact Nat.eq_of_beq_eq_true h2, by rw [h4, h6]⟩
theorem okQQ_ok {m n : Nat} {args : List CV} {V : Va} {vs : List Value} (e : okQQ m n args = true) (hv : VRs V args vs) : ∃ p q : List Int, p.length = m ∧ q.length = n ∧ vs = [.agg (numV p).toArray, .agg (numV q).toArray] := by
  unfold okQQ at e
  split at e
  · simp only [Bool.and_eq_true] at e
    obtain ⟨v1, ws, e1, h1, v2, ws2, e2, h2, h3⟩ := hv
    obtain ⟨p, p1, p2⟩ := agg_nums h1 e.1.1.1 e.1.1.2
    obtain ⟨q, q1, q2⟩ := agg_nums h2 e.1.2 e.2
    exact ⟨p, q, p1, q1, by rw [e1, e2, show ws2 = [] from h3, p2, q2]⟩
  · cases e
theorem okQ_ok {m : Nat} {args : List CV} {V : Va} {vs : List Value} (e : okQ m args = true) (hv : VRs V args vs) : ∃ p : List Int, p.length = m ∧ vs = [.agg (numV p).toArray] := by
  unfold okQ at e
  split at e
  · simp only [Bool.and_eq_true] at e
    obtain ⟨v1, ws, e1, h1, h3⟩ := hv
    obtain ⟨p, p1, p2⟩ := agg_nums h1 e.1 e.2
    exact ⟨p, p1, by rw [e1, show ws = [] from h3, p2]⟩
  · cases e
theorem okQI_ok {m : Nat} {args : List CV} {V : Va} {vs : List Value} (e : okQI m args = true) (hv : VRs V args vs) : ∃ (p : List Int) (n : Int), p.length = m ∧ lowQ ≤ n ∧ n ≤ topQ ∧ vs = [.agg (numV p).toArray, .int .i64 n] := by
  unfold okQI at e
  split at e
  · simp only [Bool.and_eq_true] at e
    obtain ⟨v1, ws, e1, h1, h2⟩ := hv
    obtain ⟨p, p1, p2⟩ := agg_nums h1 e.1.1 e.1.2
    obtain ⟨l, l1, l2, l3⟩ := inBs_ok e.2 h2
    match l, l1, l2, l3 with
    | [n], _, l2, l3 =>
      have := l2 n (List.mem_singleton.2 rfl)
      exact ⟨p, n, p1, this.1, this.2, by rw [e1, p2, l3]; rfl⟩
  · cases e
theorem hook26 : HookP 26 (rowHook (okQQ 4 4) 4) := rowHook_ok ⟨Tryz.f26, _, Tryz.func26, by kernel_rfl, rfl⟩ fun args V vs W e hv => by
  obtain ⟨p, q, h1, h2, rfl⟩ := okQQ_ok e hv
  exact mul26 p q h1 h2 W
theorem hook27 : HookP 27 (rowHook (okQ 4) 4) := rowHook_ok ⟨Tryz.f27, _, Tryz.func27, by kernel_rfl, rfl⟩ fun args V vs W e hv => by
  obtain ⟨p, h1, rfl⟩ := okQ_ok e hv
  exact unit27 p h1 W
theorem hook28 : HookP 28 (rowHook (okQQ 4 3) 3) := rowHook_ok ⟨Tryz.f28, _, Tryz.func28, by kernel_rfl, rfl⟩ fun args V vs W e hv => by
  obtain ⟨p, q, h1, h2, rfl⟩ := okQQ_ok e hv
  exact turn28 p q h1 h2 W
theorem hook24 : HookP 24 (rowHook (okQI 3) 4) := rowHook_ok ⟨Tryz.f24, _, Tryz.func24, by kernel_rfl, rfl⟩ fun args V vs W e hv => by
  obtain ⟨p, n, h1, h2, h3, rfl⟩ := okQI_ok e hv
  exact small24 p n h1 h2 h3 W
end Go.Proofs.YtpjgmeogkomhlaaGreat
