/-
  The run at the head of all statements yields true, if what is told of three functions beforehand is right.
  What frame.Decode yields at the frames that come, to a run; the run at the head. No conditions but those named.
-/
import Derived.Test.YtpjgmeogkomhlaaGreatYf
import Derived.Test.YtpjgmeogkomhlaaGreatU0
import Derived.Test.YtpjgmeogkomhlaaGreatU1
import Derived.Test.YtpjgmeogkomhlaaGreatU2
import Derived.Test.YtpjgmeogkomhlaaGreatU3
import Derived.Test.YtpjgmeogkomhlaaGreatU4
import Derived.Test.YtpjgmeogkomhlaaGreatU5
import Derived.Test.YtpjgmeogkomhlaaGreatU6
import Derived.Test.YtpjgmeogkomhlaaGreatJd
namespace Go.Proofs.YtpjgmeogkomhlaaGreat
open Go.RowKit
theorem c13_eq : Tryz.f13.body = some (.seq (sA c13) (.seq (.seq (sA (sA (sB c13))) (.block 0 (.loop body13))) (.seq (sA (sB (sB c13))) .ret))) := by kernel_rfl
theorem res13 : resX tsL ⟨18, v6t⟩ v6h Tryz.f13.results.toList = some [wEnd] := by kernel_rfl
theorem sub13 : subH e13h v6h = true := by kernel_rfl
/-- The run of the acts. -/
theorem run13 (hhk : HookOK Tryz.prog hookC) {w0 : World} {V : Va} {W : World} {vs : List Value} (hr : Rel w0 s1h V W) (hv : VRs V callArgs vs) :
    Calls Tryz.prog 13 vs.toArray W (fun e W' => ∃ V' v, e = .returned v ∧ V.le V' ∧ VR V' wEnd v ∧ Rel w0 e13h V' W') := by
  refine calls_of_wp Tryz.func13 c13_eq ?_
  refine wp_seq (piece hhk (by kernel_rfl) t13a_run hr (start_FR hv Tryz.f13.ntmps) fun a1 V1 W1 le1 r1 f1 => ?_)
  refine wp_seq (wp_seq (piece hhk (by kernel_rfl) t13b_run r1 f1 fun a2 V2 W2 le2 r2 f2 => ?_))
  refine wp_block (wp_loop_rounds 7 ?_)
  rw [rounds_succ]
  refine piece hhk (by kernel_rfl) u0_run r2 f2 fun a3 V3 W3 le3 r3 f3 => ?_
  show Code.rounds _ _ _ 6 a3 W3
  rw [rounds_succ]
  refine piece hhk (by kernel_rfl) u1_run r3 f3 fun a4 V4 W4 le4 r4 f4 => ?_
  show Code.rounds _ _ _ 5 a4 W4
  rw [rounds_succ]
  refine piece hhk (by kernel_rfl) u2_run r4 f4 fun a5 V5 W5 le5 r5 f5 => ?_
  show Code.rounds _ _ _ 4 a5 W5
  rw [rounds_succ]
  refine piece hhk (by kernel_rfl) u3_run r5 f5 fun a6 V6 W6 le6 r6 f6 => ?_
  show Code.rounds _ _ _ 3 a6 W6
  rw [rounds_succ]
  refine piece hhk (by kernel_rfl) u4_run r6 f6 fun a7 V7 W7 le7 r7 f7 => ?_
  show Code.rounds _ _ _ 2 a7 W7
  rw [rounds_succ]
  refine piece hhk (by kernel_rfl) u5_run r7 f7 fun a8 V8 W8 le8 r8 f8 => ?_
  show Code.rounds _ _ _ 1 a8 W8
  rw [rounds_succ]
  refine pieceX (i := 0) hhk (by kernel_rfl) u6_run r8 f8 fun a9 V9 W9 le9 r9 f9 => ?_
  refine wp_seq (piece hhk (by kernel_rfl) t13c_run r9 f9 fun a10 V10 W10 le10 r10 f10 => ?_)
  refine wp_ret ⟨f10.2.1, ?_⟩
  obtain ⟨v, h1, h2⟩ := run_results (P := Tryz.prog) (fn := Tryz.f13) tsL_ok r10 f10 res13
  exact ⟨v, h2, V10, v, rfl, le1.trans (le2.trans (le3.trans (le4.trans (le5.trans (le6.trans (le7.trans (le8.trans (le9.trans le10)))))))), h1, r10.sub sub13⟩
def cl13 : Caller := fun id args h => if Nat.beq id 13 && (CV.sames args callArgs && subH s1h h) then some [(wEnd, e13h)] else none
theorem cl13_ok (hhk : HookOK Tryz.prog hookC) : CallW Tryz.prog cl13 := fun id args h l e => by
  unfold cl13 at e
  split at e
  · rename_i hc
    cases e
    simp only [Bool.and_eq_true] at hc
    obtain ⟨h1, h2, h3⟩ := hc
    have h1 := Nat.eq_of_beq_eq_true h1
    have h2 := CV.sames_eq _ _ h2
    subst h1
    subst h2
    refine ⟨⟨Tryz.f13, _, Tryz.func13, by kernel_rfl, c13_eq⟩, fun w0 V W vs hr hv => ?_⟩
    refine (run13 hhk (hr.sub h3) hv).mono ?_
    rintro e W' ⟨V', v, h4, h5, h6, h7⟩
    exact ⟨_, List.mem_singleton.2 rfl, V', v, h4, h5, h6, h7⟩
  · cases e
theorem fk13_ok : FunOK cl13 fk13 := fun id args h k e => by
  obtain ⟨h1, e⟩ := bI_and e
  obtain ⟨h2, e⟩ := bI_and e
  obtain ⟨h3, e⟩ := bI_and e
  refine ⟨wEnd, e13h, ?_, e⟩
  unfold cl13
  rw [h1, h2, h3]
  rfl
theorem c4_eq : Tryz.f4.body = some (.seq (sA c4) (.seq (sA (sB c4)) (.seq (sA (sB (sB c4))) (.seq (.region 4 (opsIn (sA (sB (sB (sB c4))))) false) (.seq (sA (sB (sB (sB (sB c4))))) .ret))))) := by kernel_rfl
theorem res4 : resX tsL ⟨33, x5t⟩ x5h Tryz.f4.results.toList = some [bb true] := by kernel_rfl
/-- The run at the head of all statements. -/
theorem shown_calls (hhk : HookOK Tryz.prog hookC) (W : World) : Calls Tryz.prog 4 #[] W (fun e W' => e = .returned (.bool true) ∧ Below W.heap.size W W') := by
  refine calls_of_wp Tryz.func4 c4_eq ?_
  have r0 : Rel W h0 ⟨fun _ => none, fun _ => none, fun _ => none, fun _ => none⟩ W := ⟨Below.refl _ _, Nat.le_refl _, fun b o s hb => (by cases hb), fun b b' o o' hb => (by cases hb), fun _ _ => ⟨rfl, rfl⟩, fun _ _ => rfl, fun _ _ => rfl, fun _ _ => rfl, fun f hf => (by cases hf), fun b s hb => (by cases hb)⟩
  refine wp_seq (piece hhk (by kernel_rfl) t4a_run r0 (start_FR (VRs.nil _) Tryz.f4.ntmps) fun a1 V1 W1 le1 r1 f1 => ?_)
  refine wp_seq (piece hhk (by kernel_rfl) t4b_run r1 f1 fun a2 V2 W2 le2 r2 f2 => ?_)
  refine wp_seq (piece hhk (by kernel_rfl) t4c_run r2 f2 fun a3 V3 W3 le3 r3 f3 => ?_)
  refine wp_seq (pieceW (cl13_ok hhk) fk13_ok t4d_run r3 f3 fun a4 V4 W4 le4 r4 f4 => ?_)
  refine wp_seq (piece hhk (by kernel_rfl) t4e_run r4 f4 fun a5 V5 W5 le5 r5 f5 => ?_)
  refine wp_ret ⟨f5.2.1, ?_⟩
  obtain ⟨v, h1, h2⟩ := run_results (P := Tryz.prog) (fn := Tryz.f4) tsL_ok r5 f5 res4
  obtain ⟨b, h3, h4⟩ := h1
  cases h3
  exact ⟨v, h2, by rw [h4], r5.bel⟩
end Go.Proofs.YtpjgmeogkomhlaaGreat
namespace Go.Proofs.YtpjgmeogkomhlaaGreat
open Go.RowKit
/-- A number of a frame is what its eight bytes say. -/
def rowOk (bd : List Nat) (vs : List Int) (x : Nat) : Bool := ((bd.drop (1 + 8 * x)).take 8).length == 8 && ((bd.drop (1 + 8 * x)).take 8).all (fun y => decide (y < 256)) && wrap64 (accN ((bd.drop (1 + 8 * x)).take 8) 0) == vs.getD x 0
theorem row_of {bd : List Nat} {vs : List Int} {n : Nat} (h : (List.range n).all (rowOk bd vs) = true) (x : Nat) (hx : x < n) : ∃ l : List Nat, l.length = 8 ∧ (∀ y ∈ l, y < 256) ∧ (∀ i y, l[i]? = some y → bd[1 + 8 * x + i]? = some y) ∧ wrap64 (accN l 0) = vs.getD x 0 := by
  have h1 := List.all_eq_true.1 h x (List.mem_range.2 hx)
  unfold rowOk at h1
  simp only [Bool.and_eq_true] at h1
  obtain ⟨⟨h2, h3⟩, h4⟩ := h1
  refine ⟨(bd.drop (1 + 8 * x)).take 8, eq_of_beq h2, fun y hy => of_decide_eq_true (List.all_eq_true.1 h3 y hy), fun i y hi => ?_, eq_of_beq h4⟩
  rw [List.getElem?_take] at hi
  split at hi
  · rw [List.getElem?_drop] at hi
    exact hi
  · cases hi
theorem rows1 : (List.range 3).all (rowOk (frB1.take 25) [0, 1, 1]) = true := by kernel_rfl
theorem rows2 : (List.range 8).all (rowOk (frB2.take 65) [0, 1, 1, 1, 10, 0, -1, 1]) = true := by kernel_rfl
theorem rows3 : (List.range 8).all (rowOk (frB3.take 65) [0, 1, 1, 1, 1, 0, 0, 0]) = true := by kernel_rfl
theorem decode_calls {ns : List Nat} {k : Nat} {vs : List Int} (hf : frOf ns = some (k, vs)) {W : World} {B O C : Nat} (h : ByteAt W B O C ns) : Calls Tryz.prog 136 #[.slice (some ⟨B, O, none⟩) ns.length C] W (DecP k vs W) := by
  unfold frOf at hf
  split at hf
  · rename_i q
    obtain rfl : ns = frB1 := by simpa using q
    cases hf
    exact callsIn_wide.1 (decode_in 1 3 (frB1.take 25) [0, 1, 1] 29 C (by omega) rfl rfl ⟨by omega, by omega⟩ rfl B O W (fun W' hb => open_calls open1 rfl (h.below hb)) (fun W' => long178_1 W') (row_of rows1))
  split at hf
  · rename_i q
    obtain rfl : ns = frB2 := by simpa using q
    cases hf
    exact callsIn_wide.1 (decode_in 2 8 (frB2.take 65) [0, 1, 1, 1, 10, 0, -1, 1] 69 C (by omega) rfl rfl ⟨by omega, by omega⟩ rfl B O W (fun W' hb => open_calls open2 rfl (h.below hb)) (fun W' => long178_2 W') (row_of rows2))
  split at hf
  · rename_i q
    obtain rfl : ns = frB3 := by simpa using q
    cases hf
    exact callsIn_wide.1 (decode_in 3 8 (frB3.take 65) [0, 1, 1, 1, 1, 0, 0, 0] 69 C (by omega) rfl rfl ⟨by omega, by omega⟩ rfl B O W (fun W' hb => open_calls open3 rfl (h.below hb)) (fun W' => long178_3 W') (row_of rows3))
  · cases hf
theorem litC_ok {V : Va} : ∀ (l : List Int), VRs V (litC l) (numV l)
  | [] => rfl
  | _ :: l => ⟨_, _, rfl, ⟨_, rfl, rfl⟩, litC_ok l⟩
theorem getD_byte {ns : List Nat} {i x : Nat} (h : ns[i]? = some x) : (ns.map Int.ofNat).getD i 0 = (x : Int) := by
  simp [List.getD, h]
theorem hook136 : HookP 136 h136 := fun args h l e => by
  refine ⟨⟨Tryz.f136, _, Tryz.func136, by kernel_rfl, rfl⟩, fun w0 V W vs r hv => ?_⟩
  unfold h136 at e
  split at e
  · split at e
    · rename_i cs e1
      split at e
      · rename_i ns e2
        split at e
        · rename_i k l' e3
          cases e
          obtain ⟨v1, ws, q1, hv1, q2⟩ := hv
          rw [show ws = [] from q2] at q1
          subst q1
          have hs := hv1
          obtain ⟨s, c', s1, _⟩ := hs
          obtain ⟨blk, off, c, rfl, hc, hl, hcell⟩ := known_bytes r hv1 e1 e2
          have hlt : blk < W.heap.size := by
            obtain ⟨s', c'', s1', _, _, _, s5⟩ := hv1
            have := r.there _ _ s1'
            simp only [Value.slice.injEq, Option.some.injEq, Addr.mk.injEq] at s5
            rw [s5.1.1]
            exact this
          have hat : ByteAt W blk off c ns := ⟨hlt, by omega, fun i x hx => by
            rw [hcell i (by have := (List.getElem?_eq_some_iff.1 hx).1; omega), getD_byte hx]⟩
          subst hl
          refine (decode_calls e3 hat).mono ?_
          rintro e W' ⟨⟨g, C, rfl, hg, hC, ⟨cur, ty, hcur, hCc⟩, hcl⟩, hb⟩
          have hO : OwnRow W W' g 0 C l' := ⟨hg, ⟨cur, ty, hcur, by omega⟩, hC, fun i x hx => by rw [Nat.zero_add]; exact hcl i x hx⟩
          obtain ⟨z, hz, hzl, BX⟩ := hO.BR r.siz (litC_ok (V := V) l')
          have rc := r.call hb
          have r1 := rc.pushAt (.cells (litC l') false) ⟨g, 0, z⟩ (Below.refl _ _) hzl BX (fun b' o' s' h1 _ h2 => by
            have := r.there b' s' h2
            show s'.blk ≠ g
            omega)
          have r2 := r1.setCap C
          refine ⟨_, List.mem_singleton.2 rfl, _, _, rfl, (Ext.push rc _ _).trans (Ext.setCap r1 C), ?_, r2⟩
          refine ⟨_, VRs.cons ⟨_, VRs.cons (ii_ok _ k) (VRs.cons ?_ (VRs.nil _)), rfl⟩ (VRs.cons (ii_ok _ 0) (VRs.nil _)), rfl⟩
          refine ⟨⟨g, 0, z⟩, C, Va.setBlk_same, cap_of (if_pos rfl), hC, by simpa using hz, by simp⟩
        · cases e
      · cases e
    · cases e
  · cases e
theorem hookC_ok : HookOK Tryz.prog hookC := by
  intro id args h l e
  have step : ∀ {k : Nat} {g : List CV → CH → HookR}, HookP k g → id = k → ((g args h).bind fun x => x) = some l → Ent Tryz.prog id ∧ ∀ (w0 : World) (V : Va) (W : World) (vs : List Value), Rel w0 h V W → VRs V args vs → Calls Tryz.prog id vs.toArray W (fun e W' => ∃ x ∈ l, ∃ V' v, e = .returned v ∧ Ext h V x.2 V' ∧ VR V' x.1 v ∧ Rel w0 x.2 V' W') := fun {k g} hp hi q => by
    subst hi
    cases hg : g args h with
    | none => rw [hg] at q; cases q
    | some y =>
      rw [hg] at q
      have q : y = some l := q
      subst q
      exact hp args h l hg
  unfold hookC at e
  dsimp only at e
  split at e
  · rename_i q; exact step hook235 (Nat.eq_of_beq_eq_true q) e
  split at e
  · rename_i q; exact step hook208 (Nat.eq_of_beq_eq_true q) e
  split at e
  · rename_i q; exact step hook136 (Nat.eq_of_beq_eq_true q) e
  split at e
  · rename_i q; exact step hookT33 (Nat.eq_of_beq_eq_true q) e
  split at e
  · rename_i q; exact step hookT35 (Nat.eq_of_beq_eq_true q) e
  · cases e
theorem up_ok (W : World) : Calls Tryz.prog 4 #[] W (fun e W' => e = .returned (.bool true) ∧ Below W.heap.size W W') := shown_calls hookC_ok W
end Go.Proofs.YtpjgmeogkomhlaaGreat
