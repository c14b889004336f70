/-
  From the estimator's step on: what comes out is what the law asks. No conditions but those named.
-/
import Derived.Test.YtpjgmeogkomhlaaGreatPm
namespace Go.Proofs.YtpjgmeogkomhlaaGreat
open Go.RowKit
/-- A block as it is known, to read. -/
def SpotOk (W : World) (V : Va) (s : Spot) (cs : List CV) : Prop := s.off + cs.length ≤ s.size ∧ s.blk < W.heap.size ∧ ∀ (j : Nat) (c : CV), cs[j]? = some c → ∃ v, W.cell? ⟨s.blk, s.off + j, none⟩ = some v ∧ VR V c v
theorem spot_row {W : World} {V : Va} {B O C : Nat} {l : List Int} {cs : List CV} (h : RowAt W B O C l) (hv : VRs V cs (numV l)) : SpotOk W V ⟨B, O, O + C⟩ cs := by
  have hl := hv.length
  simp only [numV, List.length_map] at hl
  refine ⟨by have := h.len; show O + cs.length ≤ O + C; omega, h.lt, fun j c hc => ?_⟩
  obtain ⟨v, h3, h4⟩ := hv.get hc
  unfold numV at h3
  rw [List.getElem?_map] at h3
  cases q : l[j]? with
  | none => rw [q] at h3; cases h3
  | some y =>
    rw [q] at h3
    cases h3
    exact ⟨_, h.cell j y q, h4⟩
theorem spot_box {W : World} {V : Va} {b : Nat} {vs : Array Value} {t : TypeId} {cs : List CV} (h : W.heap[b]? = some (.cells vs t (0, 0))) (hv : VRs V cs vs.toList) : SpotOk W V ⟨b, 0, vs.size⟩ cs := by
  have hl := hv.length
  simp only [Array.length_toList] at hl
  refine ⟨by show 0 + cs.length ≤ vs.size; omega, (Array.getElem?_eq_some_iff.1 h).1, fun j c hc => ?_⟩
  obtain ⟨v, h3, h4⟩ := hv.get hc
  refine ⟨v, ?_, h4⟩
  unfold World.cell?
  dsimp only
  rw [h, Nat.zero_add]
  rw [Array.getElem?_toList] at h3
  simpa using h3
def vaT (S : List Spot) (nums : List Int) (bols : List Bool) (caps : List Nat) : Va := ⟨fun i => S[i]?, fun i => nums[i]?, fun i => bols[i]?, fun i => caps[i]?⟩
theorem relG (w0 W : World) (S : List Spot) (nums : List Int) (bols : List Bool) (caps : List Nat) (L : List (List CV)) (hbel : Below w0.heap.size w0 W) (hl : S.length = L.length) (hs : ∀ (i : Nat) (cs : List CV) (s : Spot), L[i]? = some cs → S[i]? = some s → SpotOk W (vaT S nums bols caps) s cs) : Rel w0 ⟨setRo 0 L .nil, L.length, nums.length, bols.length, caps.length, []⟩ (vaT S nums bols caps) W := by
  have get : ∀ b o, (setRo 0 L .nil).get b = some o → ∃ cs, o = .cells cs true ∧ L[b]? = some cs := fun b o h => by
    rw [setRo_get] at h
    split at h
    · rw [Nat.sub_zero] at h
      cases q : L[b]? with
      | none => rw [q] at h; cases h
      | some cs => rw [q] at h; cases h; exact ⟨cs, rfl, rfl⟩
    · cases h
  refine ⟨hbel, hbel.size, fun b o s hb hbs => ?_, fun b b' o o' hb _ ho => ?_, fun b hb => ⟨?_, ?_⟩, fun i hi => List.getElem?_eq_none hi, fun i hi => List.getElem?_eq_none hi, fun i hi => List.getElem?_eq_none hi, fun f hf => (by cases hf), fun b s hbs => ?_⟩
  · obtain ⟨cs, rfl, hcs⟩ := get b o hb
    have := hs b cs s hcs hbs
    exact ⟨this.1, fun e => (by cases e), fun i c hc => this.2.2 i c hc⟩
  · obtain ⟨cs, rfl, _⟩ := get b o hb
    cases ho
  · exact List.getElem?_eq_none (by have : L.length ≤ b := hb; omega)
  · show (setRo 0 L .nil).get b = none
    have hb : L.length ≤ b := hb
    rw [setRo_get, if_neg (by omega)]
    rfl
  · have hbs : S[b]? = some s := hbs
    have hlt := (List.getElem?_eq_some_iff.1 hbs).1
    exact (hs b L[b] s (List.getElem?_eq_getElem (by omega)) hbs).2.1
theorem slice_v {V : Va} {b n B O C : Nat} (h1 : V.blk b = some ⟨B, O, O + C⟩) (h2 : V.cap b = some C) (hn : n ≤ C) : VR V (.slice (some (b, 0)) 1 n (.var b 0)) (.slice (some ⟨B, O, none⟩) n C) := ⟨⟨B, O, O + C⟩, C, h1, cap_of h2, hn, by simp, by simp⟩
theorem trkL_ok {V : Va} {b B O C B' O' C' : Nat} (h1 : V.blk b = some ⟨B, O, O + C⟩) (h2 : V.cap b = some C) (hn : 3 ≤ C) (k1 : V.blk (b + 1) = some ⟨B', O', O' + C'⟩) (k2 : V.cap (b + 1) = some C') (kn : 9 ≤ C') : VRs V (trkL b) [.int .i64 3, .int .i64 1, .slice (some ⟨B, O, none⟩) 3 C, .int .i64 3, .int .i64 3, .slice (some ⟨B', O', none⟩) 9 C'] :=
  VRs.cons (ii_ok _ 3) (VRs.cons (ii_ok _ 1) (VRs.cons (slice_v h1 h2 hn) (VRs.cons (ii_ok _ 3) (VRs.cons (ii_ok _ 3) (VRs.cons (slice_v k1 k2 kn) (VRs.nil V))))))
theorem var_of {V : Va} {i : Nat} {x : Int} (h : V.num i = some x) : VR V (.int .i64 (.var i)) (.int .i64 x) := ⟨x, h, rfl⟩
theorem resT {t : Tr CV} {h : CH} (e : okT t h = true) : resX tsL ⟨59, t⟩ h Tryz.f3.results.toList = some [bb true] := by
  unfold okT at e
  rw [getK_eq] at e
  rw [Tryz.results3]
  cases hg : t.get 6 with
  | none =>
    rw [hg] at e
    cases e
  | some c =>
    rw [hg] at e
    dsimp only at e
    simp only [resX, hg]
    split at e
    · rename_i q
      rw [q]
      rfl
    · cases e
/-- The run's word, on memory that is as it asks. -/
theorem rest_of {sat m : Bool} {b g : BE} (e : runT sat m b g = true) {w W : World} {V : Va} {a : Act} (r : Rel w (hT sat m b g) V W) (hsz : a.tmps.size = 59) (hdf : a.defers = []) (h3 : VR V (.ptr 6 0) (a.tmps.getD 3 undef)) (h4 : VR V (.ptr 7 0) (a.tmps.getD 4 undef)) (h5 : VR V (.ptr 8 0) (a.tmps.getD 5 undef)) (h7 : a.tmps.getD 7 undef = .bool true) : rest3.wp Tryz.prog (bodyPost Tryz.prog Tryz.f3 (TopP w)) a W := by
  have hf : FR V ⟨59, tT⟩ a := by
    refine ⟨hsz, hdf, fun i c hc => ?_⟩
    have hc : tT.get i = some c := hc
    unfold tT at hc
    by_cases e7 : i = 7
    · subst e7
      rw [Tr.get_set] at hc
      cases hc
      exact ⟨by decide, by rw [h7]; exact ⟨true, rfl, rfl⟩⟩
    rw [Tr.get_set_ne _ _ e7] at hc
    by_cases e5 : i = 5
    · subst e5
      rw [Tr.get_set] at hc
      cases hc
      exact ⟨by decide, h5⟩
    rw [Tr.get_set_ne _ _ e5] at hc
    by_cases e4 : i = 4
    · subst e4
      rw [Tr.get_set] at hc
      cases hc
      exact ⟨by decide, h4⟩
    rw [Tr.get_set_ne _ _ e4] at hc
    by_cases e3 : i = 3
    · subst e3
      rw [Tr.get_set] at hc
      cases hc
      exact ⟨by decide, h3⟩
    rw [Tr.get_set_ne _ _ e3] at hc
    cases hc
  obtain ⟨l, q1, q2⟩ := (runL_ok 5000).2 _ _ _ _ _ _ _ _ e
  refine ((code_ok tsL_ok fsS_ok hookF_ok mixed_ok 5000).2 [] rest3 _ _ V a W w _ _ q1 (by kernel_rfl) r hf ?_).1
  rintro ex a' W' ⟨x, hx, rfl, V', _, f2, r2⟩
  obtain ⟨t', q3, q4⟩ := q2 x hx
  obtain ⟨ex, f', h'⟩ := x
  dsimp only at q3 q4 f2 r2
  subst q3
  cases ex with
  | normal => cases q4
  | exit i => cases q4
  | ret =>
    obtain ⟨v, k1, k2⟩ := run_results (P := Tryz.prog) (fn := Tryz.f3) tsL_ok r2 f2 (resT q4)
    obtain ⟨y, y1, y2⟩ := k1
    cases y1
    exact ⟨f2.2.1, v, k2, by rw [y2]; exact TopP.of r2.bel⟩
set_option maxRecDepth 100000 in
set_option maxHeartbeats 4000000 in
theorem rest_ok {sat m b g : Bool} {bE gE : BE} (e : runT sat m bE gE = true) {w W : World} {a : Act} {BX1 OX1 CX1 BP1 OP1 CP1 BX2 OX2 CX2 BP2 OP2 CP2 BX3 OX3 CX3 BP3 OP3 CP3 : Nat} {x10 x11 x12 p1a p1b p1c p1d p1e p1f x20 x21 x22 p2a p2b p2c p2d p2e p2f x30 x31 x32 p3a p3b p3c p3d p3e p3f q0 q1 q2 q3 st co o0 o1 o2 o3 c0 c1 c2 c3 c4 c5 s0 s1 s2 s3 s4 s5 s6 s7 s8 s9 : Int}
    (hbE : ∀ V : Va, V.bol 0 = some b → bE.den V = some b) (hgE : ∀ V : Va, V.bol 1 = some g → gE.den V = some g)
    (hx10 : lowQ ≤ x10 ∧ x10 ≤ topQ) (hx11 : lowQ ≤ x11 ∧ x11 ≤ topQ) (hx12 : lowQ ≤ x12 ∧ x12 ≤ topQ) (hp1a : 0 ≤ p1a ∧ p1a ≤ topQ) (hp1b : lowQ ≤ p1b ∧ p1b ≤ topQ) (hp1c : lowQ ≤ p1c ∧ p1c ≤ topQ) (hp1d : 0 ≤ p1d ∧ p1d ≤ topQ) (hp1e : lowQ ≤ p1e ∧ p1e ≤ topQ) (hp1f : 0 ≤ p1f ∧ p1f ≤ topQ) (hx20 : lowQ ≤ x20 ∧ x20 ≤ topQ) (hx21 : lowQ ≤ x21 ∧ x21 ≤ topQ) (hx22 : lowQ ≤ x22 ∧ x22 ≤ topQ) (hp2a : 0 ≤ p2a ∧ p2a ≤ topQ) (hp2b : lowQ ≤ p2b ∧ p2b ≤ topQ) (hp2c : lowQ ≤ p2c ∧ p2c ≤ topQ) (hp2d : 0 ≤ p2d ∧ p2d ≤ topQ) (hp2e : lowQ ≤ p2e ∧ p2e ≤ topQ) (hp2f : 0 ≤ p2f ∧ p2f ≤ topQ) (hx30 : lowQ ≤ x30 ∧ x30 ≤ topQ) (hx31 : lowQ ≤ x31 ∧ x31 ≤ topQ) (hx32 : lowQ ≤ x32 ∧ x32 ≤ topQ) (hp3a : 0 ≤ p3a ∧ p3a ≤ topQ) (hp3b : lowQ ≤ p3b ∧ p3b ≤ topQ) (hp3c : lowQ ≤ p3c ∧ p3c ≤ topQ) (hp3d : 0 ≤ p3d ∧ p3d ≤ topQ) (hp3e : lowQ ≤ p3e ∧ p3e ≤ topQ) (hp3f : 0 ≤ p3f ∧ p3f ≤ topQ) (hq0 : lowQ ≤ q0 ∧ q0 ≤ topQ) (hq1 : lowQ ≤ q1 ∧ q1 ≤ topQ) (hq2 : lowQ ≤ q2 ∧ q2 ≤ topQ) (hq3 : lowQ ≤ q3 ∧ q3 ≤ topQ) (hst : 0 ≤ st ∧ st ≤ 1099511627776) (hco : 0 ≤ co ∧ co ≤ 1000) (ho0 : 0 ≤ o0 ∧ o0 ≤ 1000) (ho1 : 0 ≤ o1 ∧ o1 ≤ 1000) (ho2 : 0 ≤ o2 ∧ o2 ≤ 1000) (ho3 : 0 ≤ o3 ∧ o3 ≤ 1000) (hc0 : 1 ≤ c0 ∧ c0 ≤ 17179869184) (hc1 : 1 ≤ c1 ∧ c1 ≤ 17179869184) (hc2 : 1 ≤ c2 ∧ c2 ≤ 17179869184) (hc3 : 1 ≤ c3 ∧ c3 ≤ 17179869184) (hc4 : 1 ≤ c4 ∧ c4 ≤ 17179869184) (hc5 : 1 ≤ c5 ∧ c5 ≤ 17179869184) (hX1 : RowAt W BX1 OX1 CX1 [x10, x11, x12]) (hP1 : RowAt W BP1 OP1 CP1 [p1a, p1b, p1c, p1b, p1d, p1e, p1c, p1e, p1f]) (hX2 : RowAt W BX2 OX2 CX2 [x20, x21, x22]) (hP2 : RowAt W BP2 OP2 CP2 [p2a, p2b, p2c, p2b, p2d, p2e, p2c, p2e, p2f]) (hX3 : RowAt W BX3 OX3 CX3 [x30, x31, x32]) (hP3 : RowAt W BP3 OP3 CP3 [p3a, p3b, p3c, p3b, p3d, p3e, p3c, p3e, p3f])
    (hB : Boxes w #[.int .i64 c0, .int .i64 c1, .int .i64 c2, .int .i64 c3, .int .i64 c4, .int .i64 c5] #[.int .i64 q0, .int .i64 q1, .int .i64 q2, .int .i64 q3, .int .i64 3, .int .i64 1, .slice (some ⟨BX1, OX1, none⟩) 3 CX1, .int .i64 3, .int .i64 3, .slice (some ⟨BP1, OP1, none⟩) 9 CP1, .int .i64 3, .int .i64 1, .slice (some ⟨BX2, OX2, none⟩) 3 CX2, .int .i64 3, .int .i64 3, .slice (some ⟨BP2, OP2, none⟩) 9 CP2, .int .i64 3, .int .i64 1, .slice (some ⟨BX3, OX3, none⟩) 3 CX3, .int .i64 3, .int .i64 3, .slice (some ⟨BP3, OP3, none⟩) 9 CP3, .int .i64 st, .int .i64 co, .int .i64 o0, .int .i64 o1, .int .i64 o2, .int .i64 o3, .bool sat] #[.bool m, .int .i64 s0, .int .i64 s1, .int .i64 s2, .int .i64 s3, .int .i64 s4, .int .i64 s5, .bool b, .int .i64 s6, .bool g, .int .i64 s7, .int .i64 s8, .int .i64 s9] W)
    (hsz : a.tmps.size = 59) (hdf : a.defers = []) (h3 : a.tmps.getD 3 undef = .pointer (some ⟨w.heap.size, 0, none⟩)) (h4 : a.tmps.getD 4 undef = .pointer (some ⟨w.heap.size + 1, 0, none⟩)) (h5 : a.tmps.getD 5 undef = .pointer (some ⟨w.heap.size + 2, 0, none⟩)) (h7 : a.tmps.getD 7 undef = .bool true) : rest3.wp Tryz.prog (bodyPost Tryz.prog Tryz.f3 (TopP w)) a W := by
  have hnum : ∀ i : Nat, (vaT [⟨BX1, OX1, OX1 + CX1⟩, ⟨BP1, OP1, OP1 + CP1⟩, ⟨BX2, OX2, OX2 + CX2⟩, ⟨BP2, OP2, OP2 + CP2⟩, ⟨BX3, OX3, OX3 + CX3⟩, ⟨BP3, OP3, OP3 + CP3⟩, ⟨w.heap.size, 0, 6⟩, ⟨w.heap.size + 1, 0, 29⟩, ⟨w.heap.size + 2, 0, 13⟩] [x10, x11, x12, p1a, p1b, p1c, p1d, p1e, p1f, x20, x21, x22, p2a, p2b, p2c, p2d, p2e, p2f, x30, x31, x32, p3a, p3b, p3c, p3d, p3e, p3f, q0, q1, q2, q3, st, co, o0, o1, o2, o3, c0, c1, c2, c3, c4, c5, s0, s1, s2, s3, s4, s5, s6, s7, s8, s9] [b, g] [CX1, CP1, CX2, CP2, CX3, CP3]).num i = [x10, x11, x12, p1a, p1b, p1c, p1d, p1e, p1f, x20, x21, x22, p2a, p2b, p2c, p2d, p2e, p2f, x30, x31, x32, p3a, p3b, p3c, p3d, p3e, p3f, q0, q1, q2, q3, st, co, o0, o1, o2, o3, c0, c1, c2, c3, c4, c5, s0, s1, s2, s3, s4, s5, s6, s7, s8, s9][i]? := fun _ => rfl
  have hblk : ∀ i : Nat, (vaT [⟨BX1, OX1, OX1 + CX1⟩, ⟨BP1, OP1, OP1 + CP1⟩, ⟨BX2, OX2, OX2 + CX2⟩, ⟨BP2, OP2, OP2 + CP2⟩, ⟨BX3, OX3, OX3 + CX3⟩, ⟨BP3, OP3, OP3 + CP3⟩, ⟨w.heap.size, 0, 6⟩, ⟨w.heap.size + 1, 0, 29⟩, ⟨w.heap.size + 2, 0, 13⟩] [x10, x11, x12, p1a, p1b, p1c, p1d, p1e, p1f, x20, x21, x22, p2a, p2b, p2c, p2d, p2e, p2f, x30, x31, x32, p3a, p3b, p3c, p3d, p3e, p3f, q0, q1, q2, q3, st, co, o0, o1, o2, o3, c0, c1, c2, c3, c4, c5, s0, s1, s2, s3, s4, s5, s6, s7, s8, s9] [b, g] [CX1, CP1, CX2, CP2, CX3, CP3]).blk i = (([⟨BX1, OX1, OX1 + CX1⟩, ⟨BP1, OP1, OP1 + CP1⟩, ⟨BX2, OX2, OX2 + CX2⟩, ⟨BP2, OP2, OP2 + CP2⟩, ⟨BX3, OX3, OX3 + CX3⟩, ⟨BP3, OP3, OP3 + CP3⟩, ⟨w.heap.size, 0, 6⟩, ⟨w.heap.size + 1, 0, 29⟩, ⟨w.heap.size + 2, 0, 13⟩] : List Spot)[i]?) := fun _ => rfl
  have hcap : ∀ i : Nat, (vaT [⟨BX1, OX1, OX1 + CX1⟩, ⟨BP1, OP1, OP1 + CP1⟩, ⟨BX2, OX2, OX2 + CX2⟩, ⟨BP2, OP2, OP2 + CP2⟩, ⟨BX3, OX3, OX3 + CX3⟩, ⟨BP3, OP3, OP3 + CP3⟩, ⟨w.heap.size, 0, 6⟩, ⟨w.heap.size + 1, 0, 29⟩, ⟨w.heap.size + 2, 0, 13⟩] [x10, x11, x12, p1a, p1b, p1c, p1d, p1e, p1f, x20, x21, x22, p2a, p2b, p2c, p2d, p2e, p2f, x30, x31, x32, p3a, p3b, p3c, p3d, p3e, p3f, q0, q1, q2, q3, st, co, o0, o1, o2, o3, c0, c1, c2, c3, c4, c5, s0, s1, s2, s3, s4, s5, s6, s7, s8, s9] [b, g] [CX1, CP1, CX2, CP2, CX3, CP3]).cap i = ([CX1, CP1, CX2, CP2, CX3, CP3] : List Nat)[i]? := fun _ => rfl
  have hb0 : (vaT [⟨BX1, OX1, OX1 + CX1⟩, ⟨BP1, OP1, OP1 + CP1⟩, ⟨BX2, OX2, OX2 + CX2⟩, ⟨BP2, OP2, OP2 + CP2⟩, ⟨BX3, OX3, OX3 + CX3⟩, ⟨BP3, OP3, OP3 + CP3⟩, ⟨w.heap.size, 0, 6⟩, ⟨w.heap.size + 1, 0, 29⟩, ⟨w.heap.size + 2, 0, 13⟩] [x10, x11, x12, p1a, p1b, p1c, p1d, p1e, p1f, x20, x21, x22, p2a, p2b, p2c, p2d, p2e, p2f, x30, x31, x32, p3a, p3b, p3c, p3d, p3e, p3f, q0, q1, q2, q3, st, co, o0, o1, o2, o3, c0, c1, c2, c3, c4, c5, s0, s1, s2, s3, s4, s5, s6, s7, s8, s9] [b, g] [CX1, CP1, CX2, CP2, CX3, CP3]).bol 0 = some b := rfl
  have hb1 : (vaT [⟨BX1, OX1, OX1 + CX1⟩, ⟨BP1, OP1, OP1 + CP1⟩, ⟨BX2, OX2, OX2 + CX2⟩, ⟨BP2, OP2, OP2 + CP2⟩, ⟨BX3, OX3, OX3 + CX3⟩, ⟨BP3, OP3, OP3 + CP3⟩, ⟨w.heap.size, 0, 6⟩, ⟨w.heap.size + 1, 0, 29⟩, ⟨w.heap.size + 2, 0, 13⟩] [x10, x11, x12, p1a, p1b, p1c, p1d, p1e, p1f, x20, x21, x22, p2a, p2b, p2c, p2d, p2e, p2f, x30, x31, x32, p3a, p3b, p3c, p3d, p3e, p3f, q0, q1, q2, q3, st, co, o0, o1, o2, o3, c0, c1, c2, c3, c4, c5, s0, s1, s2, s3, s4, s5, s6, s7, s8, s9] [b, g] [CX1, CP1, CX2, CP2, CX3, CP3]).bol 1 = some g := rfl
  have r : Rel w (hT sat m bE gE) (vaT [⟨BX1, OX1, OX1 + CX1⟩, ⟨BP1, OP1, OP1 + CP1⟩, ⟨BX2, OX2, OX2 + CX2⟩, ⟨BP2, OP2, OP2 + CP2⟩, ⟨BX3, OX3, OX3 + CX3⟩, ⟨BP3, OP3, OP3 + CP3⟩, ⟨w.heap.size, 0, 6⟩, ⟨w.heap.size + 1, 0, 29⟩, ⟨w.heap.size + 2, 0, 13⟩] [x10, x11, x12, p1a, p1b, p1c, p1d, p1e, p1f, x20, x21, x22, p2a, p2b, p2c, p2d, p2e, p2f, x30, x31, x32, p3a, p3b, p3c, p3d, p3e, p3f, q0, q1, q2, q3, st, co, o0, o1, o2, o3, c0, c1, c2, c3, c4, c5, s0, s1, s2, s3, s4, s5, s6, s7, s8, s9] [b, g] [CX1, CP1, CX2, CP2, CX3, CP3]) W := by
    refine relG w W [⟨BX1, OX1, OX1 + CX1⟩, ⟨BP1, OP1, OP1 + CP1⟩, ⟨BX2, OX2, OX2 + CX2⟩, ⟨BP2, OP2, OP2 + CP2⟩, ⟨BX3, OX3, OX3 + CX3⟩, ⟨BP3, OP3, OP3 + CP3⟩, ⟨w.heap.size, 0, 6⟩, ⟨w.heap.size + 1, 0, 29⟩, ⟨w.heap.size + 2, 0, 13⟩] [x10, x11, x12, p1a, p1b, p1c, p1d, p1e, p1f, x20, x21, x22, p2a, p2b, p2c, p2d, p2e, p2f, x30, x31, x32, p3a, p3b, p3c, p3d, p3e, p3f, q0, q1, q2, q3, st, co, o0, o1, o2, o3, c0, c1, c2, c3, c4, c5, s0, s1, s2, s3, s4, s5, s6, s7, s8, s9] [b, g] [CX1, CP1, CX2, CP2, CX3, CP3] (rowsT ++ [confL, estL sat, sampL m bE gE]) hB.bel rfl (fun i cs s hc hs => ?_)
    generalize vaT [⟨BX1, OX1, OX1 + CX1⟩, ⟨BP1, OP1, OP1 + CP1⟩, ⟨BX2, OX2, OX2 + CX2⟩, ⟨BP2, OP2, OP2 + CP2⟩, ⟨BX3, OX3, OX3 + CX3⟩, ⟨BP3, OP3, OP3 + CP3⟩, ⟨w.heap.size, 0, 6⟩, ⟨w.heap.size + 1, 0, 29⟩, ⟨w.heap.size + 2, 0, 13⟩] [x10, x11, x12, p1a, p1b, p1c, p1d, p1e, p1f, x20, x21, x22, p2a, p2b, p2c, p2d, p2e, p2f, x30, x31, x32, p3a, p3b, p3c, p3d, p3e, p3f, q0, q1, q2, q3, st, co, o0, o1, o2, o3, c0, c1, c2, c3, c4, c5, s0, s1, s2, s3, s4, s5, s6, s7, s8, s9] [b, g] [CX1, CP1, CX2, CP2, CX3, CP3] = V at *
    match i, hc, hs with
    | 0, hc, hs => cases hc; cases hs; exact spot_row hX1 (VRs.cons (bnd_of (hnum 0) hx10.1 hx10.2) (VRs.cons (bnd_of (hnum 1) hx11.1 hx11.2) (VRs.cons (bnd_of (hnum 2) hx12.1 hx12.2) (VRs.nil _))))
    | 1, hc, hs => cases hc; cases hs; exact spot_row hP1 (VRs.cons (bnd_of (hnum 3) hp1a.1 hp1a.2) (VRs.cons (bnd_of (hnum 4) hp1b.1 hp1b.2) (VRs.cons (bnd_of (hnum 5) hp1c.1 hp1c.2) (VRs.cons (bnd_of (hnum 4) hp1b.1 hp1b.2) (VRs.cons (bnd_of (hnum 6) hp1d.1 hp1d.2) (VRs.cons (bnd_of (hnum 7) hp1e.1 hp1e.2) (VRs.cons (bnd_of (hnum 5) hp1c.1 hp1c.2) (VRs.cons (bnd_of (hnum 7) hp1e.1 hp1e.2) (VRs.cons (bnd_of (hnum 8) hp1f.1 hp1f.2) (VRs.nil _))))))))))
    | 2, hc, hs => cases hc; cases hs; exact spot_row hX2 (VRs.cons (bnd_of (hnum 9) hx20.1 hx20.2) (VRs.cons (bnd_of (hnum 10) hx21.1 hx21.2) (VRs.cons (bnd_of (hnum 11) hx22.1 hx22.2) (VRs.nil _))))
    | 3, hc, hs => cases hc; cases hs; exact spot_row hP2 (VRs.cons (bnd_of (hnum 12) hp2a.1 hp2a.2) (VRs.cons (bnd_of (hnum 13) hp2b.1 hp2b.2) (VRs.cons (bnd_of (hnum 14) hp2c.1 hp2c.2) (VRs.cons (bnd_of (hnum 13) hp2b.1 hp2b.2) (VRs.cons (bnd_of (hnum 15) hp2d.1 hp2d.2) (VRs.cons (bnd_of (hnum 16) hp2e.1 hp2e.2) (VRs.cons (bnd_of (hnum 14) hp2c.1 hp2c.2) (VRs.cons (bnd_of (hnum 16) hp2e.1 hp2e.2) (VRs.cons (bnd_of (hnum 17) hp2f.1 hp2f.2) (VRs.nil _))))))))))
    | 4, hc, hs => cases hc; cases hs; exact spot_row hX3 (VRs.cons (bnd_of (hnum 18) hx30.1 hx30.2) (VRs.cons (bnd_of (hnum 19) hx31.1 hx31.2) (VRs.cons (bnd_of (hnum 20) hx32.1 hx32.2) (VRs.nil _))))
    | 5, hc, hs => cases hc; cases hs; exact spot_row hP3 (VRs.cons (bnd_of (hnum 21) hp3a.1 hp3a.2) (VRs.cons (bnd_of (hnum 22) hp3b.1 hp3b.2) (VRs.cons (bnd_of (hnum 23) hp3c.1 hp3c.2) (VRs.cons (bnd_of (hnum 22) hp3b.1 hp3b.2) (VRs.cons (bnd_of (hnum 24) hp3d.1 hp3d.2) (VRs.cons (bnd_of (hnum 25) hp3e.1 hp3e.2) (VRs.cons (bnd_of (hnum 23) hp3c.1 hp3c.2) (VRs.cons (bnd_of (hnum 25) hp3e.1 hp3e.2) (VRs.cons (bnd_of (hnum 26) hp3f.1 hp3f.2) (VRs.nil _))))))))))
    | 6, hc, hs => cases hc; cases hs; exact spot_box hB.c (VRs.cons (bnd_of (hnum 37) hc0.1 hc0.2) (VRs.cons (bnd_of (hnum 38) hc1.1 hc1.2) (VRs.cons (bnd_of (hnum 39) hc2.1 hc2.2) (VRs.cons (bnd_of (hnum 40) hc3.1 hc3.2) (VRs.cons (bnd_of (hnum 41) hc4.1 hc4.2) (VRs.cons (bnd_of (hnum 42) hc5.1 hc5.2) (VRs.nil _)))))))
    | 7, hc, hs => cases hc; cases hs; exact spot_box hB.e (VRs.append (VRs.append (VRs.append (VRs.append (VRs.append (cs := bndC lowQ topQ 4 27) (vs := [.int .i64 q0, .int .i64 q1, .int .i64 q2, .int .i64 q3]) (VRs.cons (bnd_of (hnum 27) hq0.1 hq0.2) (VRs.cons (bnd_of (hnum 28) hq1.1 hq1.2) (VRs.cons (bnd_of (hnum 29) hq2.1 hq2.2) (VRs.cons (bnd_of (hnum 30) hq3.1 hq3.2) (VRs.nil _))))) (trkL_ok (b := 0) (hblk 0) (hcap 0) hX1.len (hblk 1) (hcap 1) hP1.len)) (trkL_ok (b := 2) (hblk 2) (hcap 2) hX2.len (hblk 3) (hcap 3) hP2.len)) (trkL_ok (b := 4) (hblk 4) (hcap 4) hX3.len (hblk 5) (hcap 5) hP3.len)) (show VRs V (.int .i64 (.bnd 31 0 1099511627776) :: bndC 0 1000 5 32) [.int .i64 st, .int .i64 co, .int .i64 o0, .int .i64 o1, .int .i64 o2, .int .i64 o3] from VRs.cons (bnd_of (hnum 31) hst.1 hst.2) (VRs.cons (bnd_of (hnum 32) hco.1 hco.2) (VRs.cons (bnd_of (hnum 33) ho0.1 ho0.2) (VRs.cons (bnd_of (hnum 34) ho1.1 ho1.2) (VRs.cons (bnd_of (hnum 35) ho2.1 ho2.2) (VRs.cons (bnd_of (hnum 36) ho3.1 ho3.2) (VRs.nil _)))))))) (show VRs V [bb sat] [.bool sat] from VRs.cons ⟨sat, rfl, rfl⟩ (VRs.nil V)))
    | 8, hc, hs => cases hc; cases hs; exact spot_box hB.s (VRs.cons ⟨m, rfl, rfl⟩ (VRs.cons (var_of (hnum 43)) (VRs.cons (var_of (hnum 44)) (VRs.cons (var_of (hnum 45)) (VRs.cons (var_of (hnum 46)) (VRs.cons (var_of (hnum 47)) (VRs.cons (var_of (hnum 48)) (VRs.cons ⟨b, hbE V hb0, rfl⟩ (VRs.cons (var_of (hnum 49)) (VRs.cons ⟨g, hgE V hb1, rfl⟩ (VRs.cons (var_of (hnum 50)) (VRs.cons (var_of (hnum 51)) (VRs.cons (var_of (hnum 52)) (VRs.nil _))))))))))))))
    | n + 9, hc, hs => cases hc
  refine rest_of e r hsz hdf ?_ ?_ ?_ h7
  · rw [h3]; exact ⟨_, hblk 6, rfl⟩
  · rw [h4]; exact ⟨_, hblk 7, rfl⟩
  · rw [h5]; exact ⟨_, hblk 8, rfl⟩
end Go.Proofs.YtpjgmeogkomhlaaGreat
