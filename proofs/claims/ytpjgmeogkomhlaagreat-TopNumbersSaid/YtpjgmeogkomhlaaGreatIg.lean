/-
  The law, whatever setting, estimator and sample. No conditions but those named.
-/
import Derived.Test.YtpjgmeogkomhlaaGreatIf
import Derived.Test.YtpjgmeogkomhlaaGreatIb
import Derived.Test.YtpjgmeogkomhlaaGreatIc
import Derived.Test.YtpjgmeogkomhlaaGreatId
namespace Go.Proofs.YtpjgmeogkomhlaaGreat
open Go.RowKit
theorem inB_of {n : Int} (h : inB n = true) : lowQ ≤ n ∧ n ≤ topQ := by
  unfold inB at h
  simpa using h
theorem mayB_to {n : Int} (h : mayB n = true) : 1 ≤ n ∧ n ≤ 17179869184 := by
  unfold mayB at h
  simpa using h
theorem rowAt_of {w W : World} {s : Value} {l : List Int} {n : Nat} (h : RowI w s l) (hl : l.length = n) (hn : 0 < n) (hb : Below w.heap.size w W) : ∃ B O C, s = .slice (some ⟨B, O, none⟩) n C ∧ RowAt W B O C l := by
  rcases h with ⟨_, _, _, rfl⟩ | ⟨b, off, cap, h1, h2, h3, h4⟩
  · simp at hl; omega
  · exact ⟨b, off, cap, by rw [h1, hl], Nat.lt_of_lt_of_le h3 hb.size, h2, fun i x hx => (hb.cell (p := ⟨b, off + i, none⟩) h3).trans (h4 i x hx)⟩
theorem trk_facts {a b c d : Int} {sx sp : Value} {lx lp : List Int} {w W : World} (ha : a = 3) (h : TrkOk a b c d lx lp) (hx : RowI w sx lx) (hp : RowI w sp lp) (hb : Below w.heap.size w W) :
    b = 1 ∧ c = 3 ∧ d = 3 ∧ ∃ (x0 x1 x2 pa pb pc pd pe pf : Int) (BX OX CX BP OP CP : Nat), sx = .slice (some ⟨BX, OX, none⟩) 3 CX ∧ sp = .slice (some ⟨BP, OP, none⟩) 9 CP ∧ RowAt W BX OX CX [x0, x1, x2] ∧ RowAt W BP OP CP [pa, pb, pc, pb, pd, pe, pc, pe, pf] ∧
      (lowQ ≤ x0 ∧ x0 ≤ topQ) ∧ (lowQ ≤ x1 ∧ x1 ≤ topQ) ∧ (lowQ ≤ x2 ∧ x2 ≤ topQ) ∧ (0 ≤ pa ∧ pa ≤ topQ) ∧ (lowQ ≤ pb ∧ pb ≤ topQ) ∧ (lowQ ≤ pc ∧ pc ≤ topQ) ∧ (0 ≤ pd ∧ pd ≤ topQ) ∧ (lowQ ≤ pe ∧ pe ≤ topQ) ∧ (0 ≤ pf ∧ pf ≤ topQ) := by
  subst ha
  obtain ⟨⟨_, _, _, _, l1, w1⟩, ⟨_, _, _, _, l2, w2⟩, rfl, rfl, rfl, sym⟩ := h
  have l1 : lx.length = 3 := by unfold wrap64 at l1; omega
  have l2 : lp.length = 9 := by unfold wrap64 at l2; omega
  obtain ⟨BX, OX, CX, e1, r1⟩ := rowAt_of hx l1 (by omega) hb
  obtain ⟨BP, OP, CP, e2, r2⟩ := rowAt_of hp l2 (by omega) hb
  refine ⟨rfl, rfl, rfl, ?_⟩
  have s0 := sym 3 rfl 0 (by omega)
  have s1 := sym 3 rfl 1 (by omega)
  have s2 := sym 3 rfl 2 (by omega)
  match lx, l1, lp, l2 with
  | [x0, x1, x2], _, [pa, pb, pc, pb', pd, pe, pc', pe', pf], _ =>
    have g1 : pb' = pb := s1.2 0 (by omega)
    have g2 : pc' = pc := s2.2 0 (by omega)
    have g3 : pe' = pe := s2.2 1 (by omega)
    have d0 : 0 ≤ pa := s0.1
    have d1 : 0 ≤ pd := s1.1
    have d2 : 0 ≤ pf := s2.1
    subst g1 g2 g3
    have W1 := fun x hx => inB_of (w1 x hx)
    have W2 := fun x hx => inB_of (w2 x hx)
    exact ⟨x0, x1, x2, pa, pb', pc', pd, pe', pf, BX, OX, CX, BP, OP, CP, e1, e2, r1, r2, W1 _ (by simp), W1 _ (by simp), W1 _ (by simp), ⟨d0, (W2 _ (by simp)).2⟩, W2 _ (by simp), W2 _ (by simp), ⟨d1, (W2 _ (by simp)).2⟩, W2 _ (by simp), ⟨d2, (W2 _ (by simp)).2⟩⟩
set_option maxRecDepth 20000 in
set_option maxHeartbeats 2000000 in
theorem numbers_walk (up : ∀ W, Calls Tryz.prog 4 #[] W (fun e W' => e = .returned (.bool true) ∧ Below W.heap.size W W')) (c0 c1 c2 c3 c4 c5 q0 q1 q2 q3 : Int) (a1 b1 : Int) (sx1 : Value) (d1 e1 : Int) (sp1 : Value) (lx1 lp1 : List Int) (a2 b2 : Int) (sx2 : Value) (d2 e2 : Int) (sp2 : Value) (lx2 lp2 : List Int) (a3 b3 : Int) (sx3 : Value) (d3 e3 : Int) (sp3 : Value) (lx3 lp3 : List Int) (st co o0 o1 o2 o3 : Int) (sat m : Bool) (s0 s1 s2 s3 s4 s5 : Int) (b : Bool) (s6 : Int) (g : Bool) (s7 s8 s9 : Int) (w : World)
    (hx1 : RowI w sx1 lx1) (hp1 : RowI w sp1 lp1) (hx2 : RowI w sx2 lx2) (hp2 : RowI w sp2 lp2) (hx3 : RowI w sx3 lx3) (hp3 : RowI w sp3 lp3) :
    Calls Tryz.prog 3 #[.agg #[.int .i64 c0, .int .i64 c1, .int .i64 c2, .int .i64 c3, .int .i64 c4, .int .i64 c5], .agg #[.int .i64 q0, .int .i64 q1, .int .i64 q2, .int .i64 q3, .int .i64 a1, .int .i64 b1, sx1, .int .i64 d1, .int .i64 e1, sp1, .int .i64 a2, .int .i64 b2, sx2, .int .i64 d2, .int .i64 e2, sp2, .int .i64 a3, .int .i64 b3, sx3, .int .i64 d3, .int .i64 e3, sp3, .int .i64 st, .int .i64 co, .int .i64 o0, .int .i64 o1, .int .i64 o2, .int .i64 o3, .bool sat], .agg #[.bool m, .int .i64 s0, .int .i64 s1, .int .i64 s2, .int .i64 s3, .int .i64 s4, .int .i64 s5, .bool b, .int .i64 s6, .bool g, .int .i64 s7, .int .i64 s8, .int .i64 s9]] w (TopP w) := by
  refine top_walk up #[.int .i64 c0, .int .i64 c1, .int .i64 c2, .int .i64 c3, .int .i64 c4, .int .i64 c5] #[.int .i64 q0, .int .i64 q1, .int .i64 q2, .int .i64 q3, .int .i64 a1, .int .i64 b1, sx1, .int .i64 d1, .int .i64 e1, sp1, .int .i64 a2, .int .i64 b2, sx2, .int .i64 d2, .int .i64 e2, sp2, .int .i64 a3, .int .i64 b3, sx3, .int .i64 d3, .int .i64 e3, sp3, .int .i64 st, .int .i64 co, .int .i64 o0, .int .i64 o1, .int .i64 o2, .int .i64 o3, .bool sat] #[.bool m, .int .i64 s0, .int .i64 s1, .int .i64 s2, .int .i64 s3, .int .i64 s4, .int .i64 s5, .bool b, .int .i64 s6, .bool g, .int .i64 s7, .int .i64 s8, .int .i64 s9] w rfl rfl (mayB c0 = true ∧ mayB c1 = true ∧ mayB c2 = true ∧ mayB c3 = true ∧ mayB c4 = true ∧ mayB c5 = true) (EstOk [q0, q1, q2, q3] [(a1, b1, d1, e1, lx1, lp1), (a2, b2, d2, e2, lx2, lp2), (a3, b3, d3, e3, lx3, lp3)] st co [o0, o1, o2, o3]) (fun W => (may5 c0 c1 c2 c3 c4 c5 W).mono fun _ _ h => h) (fun W hb => (right6 q0 q1 q2 q3 a1 b1 sx1 d1 e1 sp1 lx1 lp1 a2 b2 sx2 d2 e2 sp2 lx2 lp2 a3 b3 sx3 d3 e3 sp3 lx3 lp3 st co o0 o1 o2 o3 sat W (hx1.below hb) (hp1.below hb) (hx2.below hb) (hp2.below hb) (hx3.below hb) (hp3.below hb)).mono fun _ _ h => h) ?_
  rintro ⟨mc0, mc1, mc2, mc3, mc4, mc5⟩ ⟨hq, ht, hst0, hst1, hco0, hco1, ho⟩ W a hB hsz hdf h3 h4 h5 h7
  have t1 := ht (a1, b1, d1, e1, lx1, lp1) (by simp)
  obtain ⟨rfl, rfl, rfl, x10, x11, x12, p1a, p1b, p1c, p1d, p1e, p1f, BX1, OX1, CX1, BP1, OP1, CP1, rfl, rfl, rX1, rP1, kx10, kx11, kx12, kp1a, kp1b, kp1c, kp1d, kp1e, kp1f⟩ := trk_facts t1.1 t1.2 hx1 hp1 hB.bel
  have ea1 : a1 = 3 := t1.1
  subst ea1
  have t2 := ht (a2, b2, d2, e2, lx2, lp2) (by simp)
  obtain ⟨rfl, rfl, rfl, x20, x21, x22, p2a, p2b, p2c, p2d, p2e, p2f, BX2, OX2, CX2, BP2, OP2, CP2, rfl, rfl, rX2, rP2, kx20, kx21, kx22, kp2a, kp2b, kp2c, kp2d, kp2e, kp2f⟩ := trk_facts t2.1 t2.2 hx2 hp2 hB.bel
  have ea2 : a2 = 3 := t2.1
  subst ea2
  have t3 := ht (a3, b3, d3, e3, lx3, lp3) (by simp)
  obtain ⟨rfl, rfl, rfl, x30, x31, x32, p3a, p3b, p3c, p3d, p3e, p3f, BX3, OX3, CX3, BP3, OP3, CP3, rfl, rfl, rX3, rP3, kx30, kx31, kx32, kp3a, kp3b, kp3c, kp3d, kp3e, kp3f⟩ := trk_facts t3.1 t3.2 hx3 hp3 hB.bel
  have ea3 : a3 = 3 := t3.1
  subst ea3
  have fin := fun (bE gE : BE) (e : runT sat m bE gE = true) (h1 : ∀ V : Va, V.bol 0 = some b → bE.den V = some b) (h2 : ∀ V : Va, V.bol 1 = some g → gE.den V = some g) => rest_ok (b := b) (g := g) e h1 h2 kx10 kx11 kx12 kp1a kp1b kp1c kp1d kp1e kp1f kx20 kx21 kx22 kp2a kp2b kp2c kp2d kp2e kp2f kx30 kx31 kx32 kp3a kp3b kp3c kp3d kp3e kp3f (inB_of (hq q0 (by simp))) (inB_of (hq q1 (by simp))) (inB_of (hq q2 (by simp))) (inB_of (hq q3 (by simp))) ⟨hst0, hst1⟩ ⟨hco0, hco1⟩ (ho o0 (by simp)) (ho o1 (by simp)) (ho o2 (by simp)) (ho o3 (by simp)) (mayB_to mc0) (mayB_to mc1) (mayB_to mc2) (mayB_to mc3) (mayB_to mc4) (mayB_to mc5) rX1 rP1 rX2 rP2 rX3 rP3 hB hsz hdf h3 h4 h5 h7
  clear hx1 hp1 hx2 hp2 hx3 hp3
  cases m with
  | true =>
    cases sat with
    | false => exact fin _ _ run_fm (fun _ h => h) (fun _ h => h)
    | true => exact fin _ _ run_tm (fun _ h => h) (fun _ h => h)
  | false =>
    cases sat with
    | false =>
      cases b with
      | false =>
        cases g with
        | false => exact fin _ _ run_fff (fun _ _ => rfl) (fun _ _ => rfl)
        | true => exact fin _ _ run_fft (fun _ _ => rfl) (fun _ _ => rfl)
      | true =>
        cases g with
        | false => exact fin _ _ run_ftf (fun _ _ => rfl) (fun _ _ => rfl)
        | true => exact fin _ _ run_ftt (fun _ _ => rfl) (fun _ _ => rfl)
    | true =>
      cases b with
      | false =>
        cases g with
        | false => exact fin _ _ run_tff (fun _ _ => rfl) (fun _ _ => rfl)
        | true => exact fin _ _ run_tft (fun _ _ => rfl) (fun _ _ => rfl)
      | true =>
        cases g with
        | false => exact fin _ _ run_ttf (fun _ _ => rfl) (fun _ _ => rfl)
        | true => exact fin _ _ run_ttt (fun _ _ => rfl) (fun _ _ => rfl)
end Go.Proofs.YtpjgmeogkomhlaaGreat
