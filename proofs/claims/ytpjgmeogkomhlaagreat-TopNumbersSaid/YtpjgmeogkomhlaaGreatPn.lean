/-
  The numbers of all bytes, as the code makes them; products and sums of numbers that are known.
  bytes.Equal on equal bytes.
  The frames that come: what is laid in them. No conditions.
-/
import Derived.Test.YtpjgmeogkomhlaaGreatYf
import Derived.Laws.BytesArg
import Derived.WalkKit
import Derived.Test.YtpjgmeogkomhlaaGreatIf
namespace Go.Proofs.YtpjgmeogkomhlaaGreat
open Go.RowKit
theorem noHook_ok : HookOK Tryz.prog (fun _ _ _ => none) := fun _ _ _ _ e => by cases e
theorem tab_run : (runK Tryz.prog tsL fsS (fun _ _ _ => none) 20000).1 235 [] h0 (fun c _ => CV.same c tabCV) = true := by kernel_rfl
/-- From nothing known. -/
theorem rel0 (W : World) : Rel W h0 ⟨fun _ => none, fun _ => none, fun _ => none, fun _ => none⟩ W := ⟨Below.refl _ _, Nat.le_refl _, fun b o s hb => (by cases hb), fun b b' o o' hb => (by cases hb), fun _ _ => ⟨rfl, rfl⟩, fun _ _ => rfl, fun _ _ => rfl, fun _ _ => rfl, fun f hf => (by cases hf), fun b s hb => (by cases hb)⟩
theorem tabC_vals {V V' : Va} : ∀ {l : List Nat} {vs : List Value}, VRs V (tabC l) vs → VRs V' (tabC l) vs
  | [], _, h => h
  | _ :: _, _, ⟨v, ws, e, ⟨n, h1, h2⟩, h3⟩ => ⟨v, ws, e, ⟨n, by cases h1; rfl, h2⟩, tabC_vals h3⟩
theorem tab_calls (W : World) : Calls Tryz.prog 235 #[] W (fun e W' => ∃ v, e = .returned v ∧ (∀ V, VR V tabCV v) ∧ Below W.heap.size W W') := by
  obtain ⟨c, h', q1, q2⟩ := (runK_ok 20000).1 _ _ _ _ tab_run
  have := CV.same_eq _ _ q2
  subst this
  refine (((code_ok tsL_ok fsS_ok noHook_ok mixed_ok 20000).1 _ _ _ _ q1).2 W _ W [] (rel0 W) (VRs.nil _)).mono ?_
  rintro e W' ⟨x, hx, V', v, h1, h2, h3, h4⟩
  rw [List.mem_singleton] at hx
  subst hx
  obtain ⟨xs, h5, h6⟩ := h3
  exact ⟨v, h1, fun V => ⟨xs, tabC_vals h5, h6⟩, h4.bel⟩
theorem hook235 : ∀ args h l, h235 args h = some (some l) → Ent Tryz.prog 235 ∧ ∀ (w0 : World) (V : Va) (W : World) (vs : List Value), Rel w0 h V W → VRs V args vs →
    Calls Tryz.prog 235 vs.toArray W (fun e W' => ∃ x ∈ l, ∃ V' v, e = .returned v ∧ Ext h V x.2 V' ∧ VR V' x.1 v ∧ Rel w0 x.2 V' W') := fun args h l e => by
  unfold h235 at e
  split at e
  · cases e
    refine ⟨⟨Tryz.f235, _, Tryz.func235, by kernel_rfl, rfl⟩, fun w0 V W vs hr hv => ?_⟩
    rw [show vs = [] from hv]
    refine (tab_calls W).mono ?_
    rintro e W' ⟨v, h1, h2, h3⟩
    exact ⟨_, List.mem_singleton.2 rfl, V, v, h1, Ext.refl h V, h2 V, hr.call h3⟩
  · cases e
/-- Products and sums of two numbers that are known: what is found stands in the table. -/
theorem look2_mem : ∀ (t : List (Int × Int × Int)) {a b q : Int}, look2 a b t = some q → (a, b, q) ∈ t
  | [], _, _, _, e => by cases e
  | (x, y, z) :: t, a, b, q, e => by
    have e : bI3 (eqK a x) (bI3 (eqK b y) (some z) (look2 a b t)) (look2 a b t) = some q := e
    cases h1 : eqK a x with
    | false => rw [h1] at e; exact List.mem_cons_of_mem _ (look2_mem t e)
    | true =>
      rw [h1] at e
      cases h2 : eqK b y with
      | false => rw [h2] at e; exact List.mem_cons_of_mem _ (look2_mem t e)
      | true =>
        rw [h2] at e
        have e : some z = some q := e
        rw [eqK_eq, beq_iff_eq] at h1 h2
        cases e
        rw [h1, h2]
        exact List.mem_cons_self
noncomputable def okTab (id : FuncId) (t : List (Int × Int × Int)) : Bool := List.rec true (fun e _ ih => bI ((runK Tryz.prog tsL fsS (fun _ _ _ => none) 500).1 id [.int .i64 (.lit e.1), .int .i64 (.lit e.2.1)] h0 (fun c _ => CV.same c (.tup [.int .i64 (.lit e.2.2), .bool (.lit false)]))) ih false) t
theorem okTab_mem {id : FuncId} : ∀ {t : List (Int × Int × Int)}, okTab id t = true → ∀ {a b q : Int}, (a, b, q) ∈ t → (runK Tryz.prog tsL fsS (fun _ _ _ => none) 500).1 id [.int .i64 (.lit a), .int .i64 (.lit b)] h0 (fun c _ => CV.same c (.tup [.int .i64 (.lit q), .bool (.lit false)])) = true
  | [], _, _, _, _, h => by cases h
  | e :: t, hc, a, b, q, h => by
    obtain ⟨h1, h2⟩ := bI_and (show bI _ (okTab id t) false = true from hc)
    rcases List.mem_cons.1 h with q | q
    · subst q; exact h1
    · exact okTab_mem h2 q
theorem tab33_run : okTab 33 tab33 = true := by kernel_rfl
theorem tab35_run : okTab 35 tab35 = true := by kernel_rfl
theorem lits_any {V V' : Va} {a b : Int} {vs : List Value} : VRs V [.int .i64 (.lit a), .int .i64 (.lit b)] vs → VRs V' [.int .i64 (.lit a), .int .i64 (.lit b)] vs
  | ⟨v, ws, e, ⟨n, h1, h2⟩, ⟨v', ws', e', ⟨n', h1', h2'⟩, h3⟩⟩ => ⟨v, ws, e, ⟨n, by cases h1; rfl, h2⟩, ⟨v', ws', e', ⟨n', by cases h1'; rfl, h2'⟩, h3⟩⟩
theorem lit_tup {V V' : Va} {q : Int} {v : Value} : VR V (.tup [.int .i64 (.lit q), .bool (.lit false)]) v → VR V' (.tup [.int .i64 (.lit q), .bool (.lit false)]) v
  | ⟨xs, ⟨v1, ws, e, ⟨n, h1, h2⟩, ⟨v2, ws', e', ⟨b, h1', h2'⟩, h3⟩⟩, h6⟩ => ⟨xs, ⟨v1, ws, e, ⟨n, by cases h1; rfl, h2⟩, ⟨v2, ws', e', ⟨b, by cases h1'; rfl, h2'⟩, h3⟩⟩, h6⟩
theorem hookTab {id : FuncId} {t : List (Int × Int × Int)} (hE : Ent Tryz.prog id) (hc : okTab id t = true) : ∀ args h l, hTab t args h = some (some l) → Ent Tryz.prog id ∧ ∀ (w0 : World) (V : Va) (W : World) (vs : List Value), Rel w0 h V W → VRs V args vs →
    Calls Tryz.prog id vs.toArray W (fun e W' => ∃ x ∈ l, ∃ V' v, e = .returned v ∧ Ext h V x.2 V' ∧ VR V' x.1 v ∧ Rel w0 x.2 V' W') := fun args h l e => by
  refine ⟨hE, fun w0 V W vs hr hv => ?_⟩
  unfold hTab at e
  split at e
  · rename_i a b
    split at e
    · rename_i q hq
      cases e
      obtain ⟨c, h', q1, q2⟩ := (runK_ok 500).1 _ _ _ _ (okTab_mem hc (look2_mem _ hq))
      have := CV.same_eq _ _ q2
      subst this
      refine (((code_ok tsL_ok fsS_ok noHook_ok mixed_ok 500).1 _ _ _ _ q1).2 W _ W vs (rel0 W) (lits_any hv)).mono ?_
      rintro e W' ⟨x, hx, V', v, h1, h2, h3, h4⟩
      rw [List.mem_singleton] at hx
      subst hx
      exact ⟨_, List.mem_singleton.2 rfl, V, v, h1, Ext.refl h V, lit_tup h3, hr.call h4.bel⟩
    · cases e
  · cases e
theorem hookT33 : ∀ args h l, hTab tab33 args h = some (some l) → Ent Tryz.prog 33 ∧ ∀ (w0 : World) (V : Va) (W : World) (vs : List Value), Rel w0 h V W → VRs V args vs →
    Calls Tryz.prog 33 vs.toArray W (fun e W' => ∃ x ∈ l, ∃ V' v, e = .returned v ∧ Ext h V x.2 V' ∧ VR V' x.1 v ∧ Rel w0 x.2 V' W') := hookTab ⟨Tryz.f33, _, Tryz.func33, by kernel_rfl, rfl⟩ tab33_run
theorem hookT35 : ∀ args h l, hTab tab35 args h = some (some l) → Ent Tryz.prog 35 ∧ ∀ (w0 : World) (V : Va) (W : World) (vs : List Value), Rel w0 h V W → VRs V args vs →
    Calls Tryz.prog 35 vs.toArray W (fun e W' => ∃ x ∈ l, ∃ V' v, e = .returned v ∧ Ext h V x.2 V' ∧ VR V' x.1 v ∧ Rel w0 x.2 V' W') := hookTab ⟨Tryz.f35, _, Tryz.func35, by kernel_rfl, rfl⟩ tab35_run
end Go.Proofs.YtpjgmeogkomhlaaGreat
namespace Go.Proofs.YtpjgmeogkomhlaaGreat
open Go.RowKit
theorem eq_calls {W : World} {x y : Value} {s : ByteArray} (h1 : (convert 193 9 x).run Tryz.prog W = .ok (.string s) W) (h2 : (convert 193 9 y).run Tryz.prog W = .ok (.string s) W) : Calls Tryz.prog 208 #[x, y] W (fun e W' => e = .returned (.bool true) ∧ W' = W) := by
  go_enter Tryz.func208, Tryz.ntmps208
  go_wp2
  go_ret
  simp
theorem und193 : Tryz.prog.underlying 193 = some (.slice 5) := by kernel_rfl
theorem und5 : Tryz.prog.underlying 5 = some (.int .u8) := by kernel_rfl
theorem und9 : Tryz.prog.underlying 9 = some .string := by kernel_rfl
theorem lit8_some {c : CV} {n : Nat} (h : lit8 c = some n) : c = .int .u8 (.lit (n : Int)) ∧ n < 256 := by
  unfold lit8 at h
  split at h
  · split at h
    · rename_i hn
      cases h
      exact ⟨rfl, hn⟩
    · cases h
  · cases h
theorem litNs_vals {V : Va} : ∀ {cs : List CV} {ns : List Nat} {us : List Value}, litNs cs = some ns → VRs V cs us → us = ns.map (fun n : Nat => Value.int .u8 (n : Int))
  | [], ns, us, e, h => by
    simp only [litNs, Option.some.injEq] at e
    subst e
    exact h
  | c :: cs, ns, us, e, ⟨v, ws, e1, h1, h2⟩ => by
    simp only [litNs] at e
    split at e
    · rename_i n ns' hn hns
      cases e
      subst e1
      obtain ⟨q, _⟩ := lit8_some hn
      subst q
      obtain ⟨m, h3, h4⟩ := h1
      cases h3
      rw [h4, litNs_vals hns h2]
      rfl
    · cases e
/-- What is told of bytes that are known. -/
theorem known_bytes {V : Va} {W w0 : World} {h : CH} {b o len : Nat} {cap : CC} {cs : List CV} {ns : List Nat} {v : Value} (hr : Rel w0 h V W) (hv : VR V (.slice (some (b, o)) 1 len cap) v) (e1 : readC h b o len = some cs) (e2 : litNs cs = some ns) :
    ∃ blk off c, v = .slice (some ⟨blk, off, none⟩) len c ∧ len ≤ c ∧ ns.length = len ∧ ∀ i, i < len → W.cell? ⟨blk, off + i, none⟩ = some (.int .u8 ((ns.map Int.ofNat).getD i 0)) := by
  obtain ⟨s, c, h1, h2, h3, h4, h5⟩ := hv
  obtain ⟨l1, us, h6, h7⟩ := readC_ok hr e1 h1
  have h8 := litNs_vals e2 h6
  have hl : ns.length = len := by rw [← l1, h6.length, h8]; simp
  refine ⟨s.blk, s.off + o, c, h5, h3, hl, fun i hi => ?_⟩
  refine h7 i _ ?_
  rw [h8]
  have : i < ns.length := by omega
  simp [List.getD, List.getElem?_eq_getElem this]
theorem hook208 : ∀ args h l, h208 args h = some (some l) → Ent Tryz.prog 208 ∧ ∀ (w0 : World) (V : Va) (W : World) (vs : List Value), Rel w0 h V W → VRs V args vs →
    Calls Tryz.prog 208 vs.toArray W (fun e W' => ∃ x ∈ l, ∃ V' v, e = .returned v ∧ Ext h V x.2 V' ∧ VR V' x.1 v ∧ Rel w0 x.2 V' W') := fun args h l e => by
  unfold h208 at e
  split at e
  · split at e
    · rename_i cs ds e1 e2
      split at e
      · rename_i ns ms e3 e4
        split at e
        · rename_i hq
          cases e
          have hq : ns = ms := by simpa using hq
          subst hq
          refine ⟨⟨Tryz.f208, _, Tryz.func208, by kernel_rfl, rfl⟩, fun w0 V W vs hr hv => ?_⟩
          obtain ⟨v1, ws, q1, hv1, v2, ws2, q2, hv2, q3⟩ := hv
          subst q2
          rw [show ws2 = [] from q3] at q1
          subst q1
          obtain ⟨b1, o1, c1, z1, _, l1, k1⟩ := known_bytes hr hv1 e1 e3
          obtain ⟨b2, o2, c2, z2, _, l2, k2⟩ := known_bytes hr hv2 e2 e4
          have r1 := run_convert_bytes_arg (P := Tryz.prog) W 193 5 und193 und5 b1 o1 _ c1 (ns.map Int.ofNat) (by simpa using l1) k1 9 und9
          have r2 := run_convert_bytes_arg (P := Tryz.prog) W 193 5 und193 und5 b2 o2 _ c2 (ns.map Int.ofNat) (by simpa using l2) k2 9 und9
          rw [← z1] at r1
          rw [← z2] at r2
          refine (eq_calls r1 r2).mono ?_
          rintro e W' ⟨h1, rfl⟩
          exact ⟨_, List.mem_singleton.2 rfl, V, _, h1, Ext.refl h V, ⟨true, rfl, rfl⟩, hr⟩
        · cases e
      · cases e
    · cases e
  · cases e
end Go.Proofs.YtpjgmeogkomhlaaGreat
namespace Go.Proofs.YtpjgmeogkomhlaaGreat
open Go.RowKit
def hook2 : FuncId → List CV → CH → HookR := fun id args h =>
  match Nat.beq id 235 with
  | true => h235 args h
  | false => match Nat.beq id 208 with
    | true => h208 args h
    | false => none
theorem hook2_ok : HookOK Tryz.prog hook2 := by
  intro id args h l e
  have step : ∀ {k : Nat} {g : List CV → CH → HookR}, HookP k g → id = k → ((g args h).bind fun x => x) = some l → Ent Tryz.prog id ∧ ∀ (w0 : World) (V : Va) (W : World) (vs : List Value), Rel w0 h V W → VRs V args vs → Calls Tryz.prog id vs.toArray W (fun e W' => ∃ x ∈ l, ∃ V' v, e = .returned v ∧ Ext h V x.2 V' ∧ VR V' x.1 v ∧ Rel w0 x.2 V' W') := fun {k g} hp hi q => by
    subst hi
    cases hg : g args h with
    | none => rw [hg] at q; cases q
    | some y =>
      rw [hg] at q
      have q : y = some l := q
      subst q
      exact hp args h l hg
  unfold hook2 at e
  dsimp only at e
  split at e
  · rename_i q; exact step hook235 (Nat.eq_of_beq_eq_true q) e
  split at e
  · rename_i q; exact step hook208 (Nat.eq_of_beq_eq_true q) e
  · cases e
/-- Bytes that are known. -/
def byteC : List Nat → List CV
  | [] => []
  | n :: l => .int .u8 (.lit (n : Int)) :: byteC l
def byteV (l : List Nat) : List Value := l.map fun n : Nat => Value.int .u8 (n : Int)
theorem byteC_ok {V : Va} : ∀ (l : List Nat), VRs V (byteC l) (byteV l)
  | [] => rfl
  | _ :: l => ⟨_, _, rfl, ⟨_, rfl, rfl⟩, byteC_ok l⟩
theorem byteC_vals {V : Va} : ∀ {l : List Nat} {vs : List Value}, VRs V (byteC l) vs → vs = byteV l
  | [], _, h => h
  | n :: l, _, ⟨v, ws, e, ⟨m, h1, h2⟩, h3⟩ => by
    cases h1
    rw [e, h2, byteC_vals h3]
    rfl
def hB (l : List Nat) : CH := ⟨Tr.nil.set 0 (.cells (byteC l) true), 1, 0, 0, 1, []⟩
/-- What is opened: the bytes but for the sum. -/
def chkO (l : List Nat) (c : CV) (h : CH) : Bool := match c with
  | .tup [.slice (some (b, 0)) 1 n _, z] => litOf 0 z && Nat.beq n l.length && (match h.t.get b with
    | some (.cells cs false) => CV.sames cs (byteC l)
    | _ => false)
  | _ => false
set_option maxRecDepth 1000000 in
theorem open1 : (runL Tryz.prog tsL fsS hook2 20000).1 177 [.slice (some (0, 0)) 1 29 (.var 0 0)] (hB frB1) (chkO (frB1.take 25)) = true := by kernel_rfl
set_option maxRecDepth 1000000 in
theorem open2 : (runL Tryz.prog tsL fsS hook2 20000).1 177 [.slice (some (0, 0)) 1 69 (.var 0 0)] (hB frB2) (chkO (frB2.take 65)) = true := by kernel_rfl
set_option maxRecDepth 1000000 in
theorem open3 : (runL Tryz.prog tsL fsS hook2 20000).1 177 [.slice (some (0, 0)) 1 69 (.var 0 0)] (hB frB3) (chkO (frB3.take 65)) = true := by kernel_rfl
def isI (n : Int) (c : CV) (_ : CH) : Bool := litOf n c
set_option maxRecDepth 1000000 in
theorem long1 : (runL Tryz.prog tsL fsS hook2 20000).1 178 [ii 1] h0 (isI 3) = true := by kernel_rfl
set_option maxRecDepth 1000000 in
theorem long2 : (runL Tryz.prog tsL fsS hook2 20000).1 178 [ii 2] h0 (isI 8) = true := by kernel_rfl
set_option maxRecDepth 1000000 in
theorem long3 : (runL Tryz.prog tsL fsS hook2 20000).1 178 [ii 3] h0 (isI 8) = true := by kernel_rfl
/-- Bytes in memory. -/
structure ByteAt (W : World) (B O C : Nat) (l : List Nat) : Prop where
  lt : B < W.heap.size
  len : l.length ≤ C
  cell : ∀ (i : Nat) (x : Nat), l[i]? = some x → W.cell? ⟨B, O + i, none⟩ = some (.int .u8 (x : Int))
theorem ByteAt.below {W W' : World} {B O C : Nat} {l : List Nat} (h : ByteAt W B O C l) (hb : Below W.heap.size W W') : ByteAt W' B O C l := ⟨Nat.lt_of_lt_of_le h.lt hb.size, h.len, fun i x hx => (hb.cell (p := ⟨B, O + i, none⟩) h.lt).trans (h.cell i x hx)⟩
theorem relB {W : World} {B O C : Nat} {l : List Nat} (h : ByteAt W B O C l) : Rel W (hB l) (vaT [⟨B, O, O + C⟩] [] [] [C]) W := by
  refine relG W W [⟨B, O, O + C⟩] [] [] [C] [byteC l] (Below.refl _ _) rfl (fun i cs s hc hs => ?_)
  match i, hc, hs with
  | 0, hc, hs =>
    cases hc
    cases hs
    have hv : VRs (vaT [⟨B, O, O + C⟩] [] [] [C]) (byteC l) (byteV l) := byteC_ok l
    have hl := hv.length
    simp only [byteV, List.length_map] at hl
    refine ⟨by have := h.len; show O + (byteC l).length ≤ O + C; omega, h.lt, fun j c hj => ?_⟩
    obtain ⟨v, h3, h4⟩ := hv.get hj
    unfold byteV at h3
    rw [List.getElem?_map] at h3
    cases q : l[j]? with
    | none => rw [q] at h3; cases h3
    | some y =>
      rw [q] at h3
      cases h3
      exact ⟨_, h.cell j y q, h4⟩
  | n + 1, hc, hs => cases hc
/-- What Open yields. -/
def OpenP (body : List Nat) (w : World) (e : Ending) (w' : World) : Prop := (∃ B O C, e = .returned (.tuple #[.slice (some ⟨B, O, none⟩) body.length C, .int .i64 0]) ∧ w.heap.size ≤ B ∧ ByteAt w' B O C body) ∧ Below w.heap.size w w'
theorem open_calls {ns body : List Nat} {n : Nat} (run : (runL Tryz.prog tsL fsS hook2 20000).1 177 [.slice (some (0, 0)) 1 n (.var 0 0)] (hB ns) (chkO body) = true) (hn : ns.length = n) {W : World} {B O C : Nat} (h : ByteAt W B O C ns) : Calls Tryz.prog 177 #[.slice (some ⟨B, O, none⟩) n C] W (OpenP body W) := by
  have hs : VR (vaT [⟨B, O, O + C⟩] [] [] [C]) (.slice (some (0, 0)) 1 n (.var 0 0)) (.slice (some ⟨B, O, none⟩) n C) := slice_v rfl rfl (by have := h.len; omega)
  refine (runC hook2_ok run (relB h) (VRs.cons hs (VRs.nil _))).mono ?_
  rintro e W' ⟨c, h', V', v, h1, rfl, _, h2, h3⟩
  unfold chkO at h1
  split at h1
  · rename_i b m cap z
    simp only [Bool.and_eq_true] at h1
    obtain ⟨⟨hz, hm⟩, hc⟩ := h1
    have hm := Nat.eq_of_beq_eq_true hm
    subst hm
    split at hc
    · rename_i cs hb
      have hc := CV.sames_eq _ _ hc
      subst hc
      obtain ⟨xs, ⟨_, _, q1, v1, _, _, q2, v2, q3⟩, q4⟩ := h2
      obtain ⟨s, C', g1, g2, g3, g4, g5⟩ := v1
      obtain ⟨k1, k2, k3⟩ := h3.blk _ _ s hb g1
      obtain ⟨k4, _⟩ := k2 rfl
      refine ⟨⟨s.blk, s.off, C', by rw [q4, q1, q2, show _ = [] from q3, litOf_ok hz v2, g5]; simp, k4, h3.there _ _ g1, g3, fun i x hx => ?_⟩, h3.bel⟩
      have hi := (List.getElem?_eq_some_iff.1 hx).1
      have hlen : ∀ l : List Nat, (byteC l).length = l.length := fun l => by induction l with | nil => rfl | cons a l ih => simp [byteC, ih]
      obtain ⟨v, j1, j2⟩ := k3 i ((byteC body)[i]'(by rw [hlen]; exact hi)) (List.getElem?_eq_getElem _)
      have hget : ∀ (l : List Nat) (i : Nat) (x : Nat), l[i]? = some x → (byteC l)[i]? = some (.int .u8 (.lit (x : Int))) := fun l => by
        induction l with
        | nil => intro i x h; cases h
        | cons a l ih =>
          intro i x h
          cases i with
          | zero => simp at h; subst h; rfl
          | succ i => exact ih i x (by simpa using h)
      have hg := hget body i x hx
      rw [List.getElem?_eq_getElem (by rw [hlen]; exact hi)] at hg
      rw [Option.some.inj hg] at j2
      obtain ⟨y, y1, y2⟩ := j2
      cases y1
      rw [j1, y2]
    · cases hc
  · cases h1
theorem long_calls {k n : Int} (run : (runL Tryz.prog tsL fsS hook2 20000).1 178 [ii k] h0 (isI n) = true) (W : World) : Calls Tryz.prog 178 #[.int .i64 k] W (fun e W' => e = .returned (.int .i64 n) ∧ Below W.heap.size W W') := by
  refine (runC hook2_ok run (rel0 W) (VRs.cons (ii_ok _ k) (VRs.nil _))).mono ?_
  rintro e W' ⟨c, h', V', v, h1, rfl, _, h2, h3⟩
  exact ⟨by rw [litOf_ok h1 h2], h3.bel⟩
end Go.Proofs.YtpjgmeogkomhlaaGreat
