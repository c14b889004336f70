/-
  What the reference asks of matrices.
  What the reference asks of tracks.
  What the reference asks of estimators. No conditions but those named.
-/
import Derived.Test.YtpjgmeogkomhlaaGreatPk
import Derived.BigQuiet
import Derived.RangeFuncOwn
namespace Go.Proofs.YtpjgmeogkomhlaaGreat
open Go.RowKit
/-- A row of numbers, as a slice. -/
def RowI (W : World) (s : Value) (l : List Int) : Prop := (∃ (a : Option Addr) (cap : Nat), s = .slice a 0 cap ∧ l = []) ∨ ∃ b off cap, s = .slice (some ⟨b, off, none⟩) l.length cap ∧ l.length ≤ cap ∧ b < W.heap.size ∧ ∀ (i : Nat) (x : Int), l[i]? = some x → W.cell? ⟨b, off + i, none⟩ = some (.int .i64 x)
/-- What a matrix that is right is. -/
def MatOk (R C : Int) (l : List Int) : Prop := 1 ≤ R ∧ R ≤ 8 ∧ 1 ≤ C ∧ C ≤ 8 ∧ (l.length : Int) = wrap64 (R * C) ∧ ∀ x ∈ l, inB x = true
def Mat19P (R C : Int) (s : Value) (l : List Int) (w : World) (e : Ending) (w' : World) : Prop := w' = w.alloc (.cells #[.int .i64 R, .int .i64 C, s] 29) ∧ ∃ r, e = .returned (.bool r) ∧ (r = true → MatOk R C l)
theorem Mat19P.no (R C : Int) (s : Value) (l : List Int) (w : World) : Mat19P R C s l w (.returned (.bool false)) (w.alloc (.cells #[.int .i64 R, .int .i64 C, s] 29)) := ⟨rfl, false, rfl, fun q => by cases q⟩
theorem Mat19P.yes (R C : Int) (s : Value) (l : List Int) (w : World) (h' : MatOk R C l) : Mat19P R C s l w (.returned (.bool true)) (w.alloc (.cells #[.int .i64 R, .int .i64 C, s] 29)) := ⟨rfl, true, rfl, fun _ => h'⟩
theorem right19n (R C : Int) (a : Option Addr) (cap : Nat) (w : World) : Calls Tryz.prog 19 #[.agg #[.int .i64 R, .int .i64 C, .slice a 0 cap]] w (Mat19P R C (.slice a 0 cap) [] w) := by
  go_enter Tryz.func19, Tryz.ntmps19
  go_wp2
  all_goals first | exact bodyPost_ret (v := .bool false) (by simp [results, Tryz.results19, go_sem]) rfl (Mat19P.no _ _ _ _ _) | skip
  · refine wp_loop_rounds 1 ?_
    rw [rounds_succ]
    go_wp2
    have h5 : (0 : Int) = wrap64 (R * C) := by
      have := ‹_ ∧ (0 != wrap64 (R * C)) = false›.2
      simpa using this
    exact bodyPost_ret (by simp [results, Tryz.results19, go_sem]) rfl (Mat19P.yes _ _ _ _ _ ⟨by omega, by omega, by omega, by omega, h5, fun x hx => by cases hx⟩)
theorem take_snoc {l : List Int} {k : Nat} (hk : k < l.length) {P : Int → Prop} (h : ∀ x ∈ l.take k, P x) (h1 : P l[k]) : ∀ x ∈ l.take (k + 1), P x := by
  rw [List.take_add_one, List.getElem?_eq_getElem hk]
  intro x hx
  rcases List.mem_append.1 hx with q | q
  · exact h x q
  · simp at q; subst q; exact h1
theorem right19s (R C : Int) (l : List Int) (b off cap : Nat) (w : World) (hb : b < w.heap.size) (hc : ∀ (i : Nat) (x : Int), l[i]? = some x → w.cell? ⟨b, off + i, none⟩ = some (.int .i64 x)) : Calls Tryz.prog 19 #[.agg #[.int .i64 R, .int .i64 C, .slice (some ⟨b, off, none⟩) l.length cap]] w (Mat19P R C (.slice (some ⟨b, off, none⟩) l.length cap) l w) := by
  have HC := Lib.hid hc
  clear hc
  go_enter Tryz.func19, Tryz.ntmps19
  go_wp2
  all_goals first | exact bodyPost_ret (v := .bool false) (by simp [results, Tryz.results19, go_sem]) rfl (Mat19P.no _ _ _ _ _) | skip
  · rename_i g1 g2 g3 g4 g5 K gK
    have h5 : (l.length : Int) = wrap64 (R * C) := by simpa using g5.2
    have hL : (l.length : Int) ≤ 9223372036854775807 := by rw [h5]; unfold wrap64; omega
    have H5 := Lib.hid h5
    clear h5 g5
    go_loopw [3] (fun i wr => ∃ k : Nat, k ≤ l.length ∧ i = .int .i64 k ∧ Hid (∀ x ∈ l.take k, inB x = true) ∧ wr = w.alloc (.cells #[.int .i64 R, .int .i64 C, .slice (some ⟨b, off, none⟩) l.length cap] 29)) (fun i _ => l.length - (intOf i).toNat)
    case atStart => exact ⟨0, Nat.zero_le _, rfl, Lib.hid (fun x hx => by simp at hx), rfl⟩
    case round =>
      obtain ⟨k, hk, rfl, hI, rfl⟩ := hrel
      by_cases hlt : k < l.length
      · have hx := HC.out k _ (List.getElem?_eq_getElem hlt)
        have d : decide ((k : Int) < (l.length : Int)) = true := by simpa using hlt
        have HX := Lib.hid (fun p => take_snoc (P := fun x => inB x = true) hlt hI.out p)
        generalize l[k] = x at *
        have hbx : ¬ b = w.heap.size := by omega
        cases p0 : inB x with
        | false =>
          have C := fun W => Lib.hid (in9_at x false W p0)
          clear p0
          go_wp2_with (first | (go_at_call_of 9 x; refine (C _).out.mono ?_; rintro e w1 ⟨rfl, rfl⟩))
          exact bodyPost_ret (by simp [results, Tryz.results19, go_sem]) rfl (Mat19P.no _ _ _ _ _)
        | true =>
          have p1 := Lib.hid p0
          have C := fun W => Lib.hid (in9_at x true W p0)
          clear p0
          go_wp2_with (first | (go_at_call_of 9 x; refine (C _).out.mono ?_; rintro e w1 ⟨rfl, rfl⟩))
          go_roundw
          case rel => exact ⟨k + 1, by omega, by first | rfl | (congr 1; unfold wrap64; omega), Lib.hid (HX.out p1.out), trivial⟩
          case measure =>
            simp only [intOf]
            (try unfold wrap64)
            omega
      · obtain rfl : k = l.length := by omega
        have d : decide ((l.length : Int) < (l.length : Int)) = false := by simp
        have hI := hI.out
        rw [List.take_length] at hI
        have HI := Lib.hid hI
        clear hI
        go_wp2
        exact bodyPost_ret (by simp [results, Tryz.results19, go_sem]) rfl (Mat19P.yes _ _ _ _ _ ⟨by omega, by omega, by omega, by omega, H5.out, HI.out⟩)
theorem right19 (R C : Int) (s : Value) (l : List Int) (w : World) (h : RowI w s l) : Calls Tryz.prog 19 #[.agg #[.int .i64 R, .int .i64 C, s]] w (Mat19P R C s l w) := by
  rcases h with ⟨a, cap, rfl, rfl⟩ | ⟨b, off, cap, rfl, _, hb, hc⟩
  · exact right19n R C a cap w
  · exact right19s R C l b off cap w hb hc
end Go.Proofs.YtpjgmeogkomhlaaGreat
namespace Go.Proofs.YtpjgmeogkomhlaaGreat
open Go.RowKit
/-- What a track that is right is. -/
def TrkOk (XR XC PR PC : Int) (lx lp : List Int) : Prop := MatOk XR XC lx ∧ MatOk PR PC lp ∧ XC = 1 ∧ PR = XR ∧ PC = XR ∧ ∀ n : Nat, XR = (n : Int) → ∀ i, i < n → 0 ≤ lp.getD (i * n + i) 0 ∧ ∀ k, k < i → lp.getD (i * n + k) 0 = lp.getD (k * n + i) 0
def Trk8P (XR XC PR PC : Int) (lx lp : List Int) (w : World) (e : Ending) (w' : World) : Prop := Below w.heap.size w w' ∧ ∃ r, e = .returned (.bool r) ∧ (r = true → TrkOk XR XC PR PC lx lp)
theorem Trk8P.no (XR XC PR PC : Int) (lx lp : List Int) (w w' : World) (h : Below w.heap.size w w') : Trk8P XR XC PR PC lx lp w (.returned (.bool false)) w' := ⟨h, false, rfl, fun q => by cases q⟩
theorem Trk8P.yes (XR XC PR PC : Int) (lx lp : List Int) (w w' : World) (h : Below w.heap.size w w') (h' : TrkOk XR XC PR PC lx lp) : Trk8P XR XC PR PC lx lp w (.returned (.bool true)) w' := ⟨h, true, rfl, fun _ => h'⟩
theorem RowI.alloc {w : World} {s : Value} {l : List Int} (h : RowI w s l) (o : Obj) : RowI (w.alloc o) s l := by
  rcases h with h | ⟨b, off, cap, h1, h2, h3, h4⟩
  · exact .inl h
  · exact .inr ⟨b, off, cap, h1, h2, by simp; omega, fun i x hx => by rw [← h4 i x hx]; exact World.cell?_of_block (Below.heap_alloc w o b h3)⟩
theorem idx_lt {i k N : Nat} (hi : i < N) (hk : k < N) : i * N + k < N * N := by
  have : (i + 1) * N ≤ N * N := Nat.mul_le_mul_right N hi
  rw [Nat.add_mul] at this
  omega
theorem wrap_idx {i k N : Nat} (hi : i < N) (hk : k < N) (hN : N ≤ 8) : wrap64 (wrap64 ((i : Int) * (N : Int)) + (k : Int)) = ((i * N + k : Nat) : Int) := by
  have h1 := idx_lt hi hk
  have h2 : N * N ≤ 8 * 8 := Nat.mul_le_mul hN hN
  have h3 : (i : Int) * (N : Int) = ((i * N : Nat) : Int) := by push_cast; rfl
  have h4 : wrap64 ((i * N : Nat) : Int) = ((i * N : Nat) : Int) := by unfold wrap64; omega
  rw [h3, h4]
  have h5 : ((i * N : Nat) : Int) + (k : Int) = ((i * N + k : Nat) : Int) := by push_cast; rfl
  rw [h5]
  unfold wrap64
  omega
theorem mat_len {N : Nat} {l : List Int} (h : MatOk (N : Int) (N : Int) l) : N ≤ 8 ∧ 1 ≤ N ∧ l.length = N * N := by
  obtain ⟨h1, h2, _, _, h5, _⟩ := h
  have hN : N ≤ 8 := by omega
  have h6 : N * N ≤ 8 * 8 := Nat.mul_le_mul hN hN
  have h7 : (N : Int) * (N : Int) = ((N * N : Nat) : Int) := by push_cast; rfl
  rw [h7] at h5
  unfold wrap64 at h5
  exact ⟨hN, by omega, by omega⟩
/-- What is known behind some rows. -/
def Rows8 (N i : Nat) (lp : List Int) : Prop := ∀ j, j < i → 0 ≤ lp.getD (j * N + j) 0 ∧ ∀ k, k < j → lp.getD (j * N + k) 0 = lp.getD (k * N + j) 0
def Row8 (N i k : Nat) (lp : List Int) : Prop := ∀ j, j < k → lp.getD (i * N + j) 0 = lp.getD (j * N + i) 0
structure At8 (w wr : World) (sp : Value) : Prop where
  bel : Below w.heap.size w wr
  box : wr.cell? ⟨w.heap.size, 5, none⟩ = some sp
theorem At8.drewN {w wr : World} {sp : Value} (h : At8 w wr sp) (n : Nat) : At8 w (wr.drewN n) sp := ⟨⟨h.bel.os, h.bel.tape, h.bel.output, h.bel.size, h.bel.block⟩, h.box⟩
theorem row_snoc {N i k : Nat} {lp : List Int} (h : Row8 N i k lp) (h1 : lp.getD (i * N + k) 0 = lp.getD (k * N + i) 0) : Row8 N i (k + 1) lp := fun j hj => by
  by_cases e : j = k
  · subst e; exact h1
  · exact h j (by omega)
theorem rows_snoc {N i : Nat} {lp : List Int} (h : Rows8 N i lp) (h1 : 0 ≤ lp.getD (i * N + i) 0) (h2 : Row8 N i i lp) : Rows8 N (i + 1) lp := fun j hj => by
  by_cases e : j = i
  · subst e; exact ⟨h1, h2⟩
  · exact h j (by omega)
theorem row_get {l : List Int} {i : Nat} (h : i < l.length) : l[i]? = some (l.getD i 0) := by
  rw [List.getD, List.getElem?_eq_getElem h]
  rfl
theorem box_at (w : World) (o1 o2 o3 : Obj) : (((w.alloc o1).alloc o2).alloc o3).heap[w.heap.size]? = some o1 := by
  rw [Below.heap_alloc _ _ _ (by simp; omega), Below.heap_alloc _ _ _ (by simp), World.alloc_heap_new]
theorem box_cell (w : World) (vs : Array Value) (t : TypeId) (o2 o3 : Obj) (i : Nat) (v : Value) (h : vs[i]? = some v) : (((w.alloc (.cells vs t)).alloc o2).alloc o3).cell? ⟨w.heap.size, i, none⟩ = some v := by
  unfold World.cell?
  dsimp only
  rw [box_at]
  simpa using h
set_option maxHeartbeats 4000000 in
set_option maxRecDepth 10000 in
theorem right8 (XR XC PR PC : Int) (sx sp : Value) (lx lp : List Int) (w : World) (hx : RowI w sx lx) (hp : RowI w sp lp) : Calls Tryz.prog 8 #[.agg #[.int .i64 XR, .int .i64 XC, sx, .int .i64 PR, .int .i64 PC, sp]] w (Trk8P XR XC PR PC lx lp w) := by
  have HX := Lib.hid (hx.alloc (.cells #[.int .i64 XR, .int .i64 XC, sx, .int .i64 PR, .int .i64 PC, sp] 31))
  have HP := Lib.hid ((hp.alloc (.cells #[.int .i64 XR, .int .i64 XC, sx, .int .i64 PR, .int .i64 PC, sp] 31)).alloc (.cells #[.int .i64 XR, .int .i64 XC, sx] 29))
  have HB := Lib.hid ((((Below.refl w.heap.size w).alloc (Nat.le_refl _) (.cells #[.int .i64 XR, .int .i64 XC, sx, .int .i64 PR, .int .i64 PC, sp] 31)).alloc (by simp) (.cells #[.int .i64 XR, .int .i64 XC, sx] 29)).alloc (by simp; omega) (.cells #[.int .i64 PR, .int .i64 PC, sp] 29))
  by_cases hE : XC = 1 ∧ PR = XR ∧ PC = XR
  · obtain ⟨rfl, rfl, rfl⟩ := hE
    go_enter Tryz.func8, Tryz.ntmps8
    go_wp2_with (first
      | (go_at_call_of 19 (1 : Int); refine (right19 _ _ _ _ _ HX.out).mono ?_; rintro e w1 ⟨rfl, r1, rfl, hr1⟩; have hr1 := Lib.hid hr1)
      | (go_at_call 19; refine (right19 _ _ _ _ _ HP.out).mono ?_; rintro e w1 ⟨rfl, r2, rfl, hr2⟩; have hr2 := Lib.hid hr2))
    all_goals first | exact bodyPost_ret (v := .bool false) (by simp [results, Tryz.results8, go_sem]) rfl (Trk8P.no _ _ _ _ _ _ _ _ HB.out) | skip
    rename_i g1 g2 K gK
    have hM := hr1.out g1
    have hL := hr2.out g2
    have hA : At8 w _ sp := ⟨HB.out, box_cell w _ 31 _ _ 5 sp rfl⟩
    have HA := Lib.hid hA
    clear hA HX HB HP hr1 hr2 g1 g2
    obtain ⟨N, rfl⟩ : ∃ N : Nat, PC = (N : Int) := ⟨PC.toNat, by have := hM.1; omega⟩
    obtain ⟨hN, hN1, hlen⟩ := mat_len hL
    rcases hp with ⟨_, _, rfl, rfl⟩ | ⟨b, off, cap, rfl, _, hb, hc⟩
    · exfalso
      have : 1 * 1 ≤ N * N := Nat.mul_le_mul hN1 hN1
      simp at hlen
      omega
    have HLen := Lib.hid hlen
    clear hlen
    have HC := Lib.hid hc
    have HM := Lib.hid hM
    have HL := Lib.hid hL
    clear hc hM hL
    go_loopw [6] (fun ti wr => ∃ i : Nat, i ≤ N ∧ ti = .int .i64 i ∧ Hid (Rows8 N i lp ∧ At8 w wr (.slice (some ⟨b, off, none⟩) lp.length cap))) (fun ti _ => N - (intOf ti).toNat)
    case atStart => exact ⟨0, Nat.zero_le _, rfl, Lib.hid ⟨fun j hj => absurd hj (Nat.not_lt_zero j), HA.out⟩⟩
    case round =>
      obtain ⟨i, hi, rfl, HI⟩ := hrel
      have cb := HI.out.2.box
      by_cases hlt : i < N
      · have e1 := wrap_idx hlt hlt hN
        have d1 := idx_lt hlt hlt
        rw [← HLen.out] at d1
        have h1 := (HI.out.2.bel.cell (p := ⟨b, off + (i * N + i), none⟩) hb).trans (HC.out _ _ (row_get d1))
        generalize hx1 : lp.getD (i * N + i) 0 = x1 at h1
        have HX1 := Lib.hid hx1
        clear hx1
        have d2 : ((i * N + i : Nat) : Int) < (lp.length : Int) := Int.ofNat_lt.2 d1
        generalize i * N + i = j at e1 d1 d2 h1
        by_cases hs : x1 < 0
        · have hs' : decide (x1 < 0) = true := decide_eq_true hs
          clear hs
          go_wp2
          exact bodyPost_ret (v := .bool false) (by simp [results, Tryz.results8, go_sem]) rfl (Trk8P.no _ _ _ _ _ _ _ _ HI.out.2.bel)
        have hs' : decide (x1 < 0) = false := decide_eq_false hs
        have HS := Lib.hid hs
        clear hs
        go_wp2
        clear e1 d1 d2 h1 hs' cb
        have HI2 := Lib.hid HI.out.2
        go_loopw [7] (fun tk wr => ∃ k : Nat, k ≤ i ∧ tk = .int .i64 k ∧ Hid (Row8 N i k lp ∧ At8 w wr (.slice (some ⟨b, off, none⟩) lp.length cap))) (fun tk _ => i - (intOf tk).toNat)
        case atStart => exact ⟨0, Nat.zero_le _, rfl, Lib.hid ⟨fun j hj => absurd hj (Nat.not_lt_zero j), HI2.out⟩⟩
        case round =>
          obtain ⟨k, hk, rfl, HK⟩ := hrel
          have cb := HK.out.2.box
          by_cases hkt : k < i
          · have e1 := wrap_idx hlt (Nat.lt_trans hkt hlt) hN
            have e2 := wrap_idx (Nat.lt_trans hkt hlt) hlt hN
            have d1 := idx_lt hlt (Nat.lt_trans hkt hlt)
            have d2 := idx_lt (Nat.lt_trans hkt hlt) hlt
            rw [← HLen.out] at d1 d2
            have h1 := (HK.out.2.bel.cell (p := ⟨b, off + (i * N + k), none⟩) hb).trans (HC.out _ _ (row_get d1))
            have h2 := (HK.out.2.bel.cell (p := ⟨b, off + (k * N + i), none⟩) hb).trans (HC.out _ _ (row_get d2))
            generalize hy1 : lp.getD (i * N + k) 0 = y1 at h1
            generalize hy2 : lp.getD (k * N + i) 0 = y2 at h2
            have HY1 := Lib.hid hy1
            have HY2 := Lib.hid hy2
            clear hy1 hy2
            have d3 : ((i * N + k : Nat) : Int) < (lp.length : Int) := Int.ofNat_lt.2 d1
            have d4 : ((k * N + i : Nat) : Int) < (lp.length : Int) := Int.ofNat_lt.2 d2
            generalize i * N + k = j1 at e1 d1 d3 h1
            generalize k * N + i = j2 at e2 d2 d4 h2
            by_cases he : y1 = y2
            · have hd : (y1 != y2) = false := by rw [bne_eq_false_iff_eq]; exact he
              have HE := Lib.hid he
              clear he
              go_wp2
              go_quiet (fail)
              go_wp2
              go_roundw
              case rel => exact ⟨k + 1, by omega, rfl, Lib.hid ⟨row_snoc HK.out.1 (by rw [HY1.out, HY2.out, HE.out]), HK.out.2.drewN _⟩⟩
              case measure =>
                simp only [intOf]
                omega
            · have hd : (y1 != y2) = true := by rw [bne_iff_ne]; exact he
              clear he
              go_wp2
              go_quiet (fail)
              go_wp2
              exact bodyPost_ret (v := .bool false) (by simp [results, Tryz.results8, go_sem]) rfl (Trk8P.no _ _ _ _ _ _ _ _ (HK.out.2.drewN _).bel)
          · obtain rfl : k = i := by omega
            go_wp2
            go_roundw
            case rel => exact ⟨k + 1, by omega, by first | rfl | (congr 1; unfold wrap64; omega), Lib.hid ⟨rows_snoc HI.out.1 (by have := HS.out; rw [HX1.out]; omega) HK.out.1, HK.out.2⟩⟩
            case measure =>
              simp only [intOf]
              (try unfold wrap64)
              omega
      · obtain rfl : i = N := by omega
        go_wp2
        exact bodyPost_ret (v := .bool true) (by simp [results, Tryz.results8, go_sem]) rfl (Trk8P.yes _ _ _ _ _ _ _ _ HI.out.2.bel ⟨HM.out, HL.out, rfl, rfl, rfl, fun n hn j hj => by
          obtain rfl : i = n := by omega
          exact HI.out.1 j hj⟩)
  · go_enter Tryz.func8, Tryz.ntmps8
    go_wp2_with (first
      | (go_at_call_of 19 XR; refine (right19 _ _ _ _ _ HX.out).mono ?_; rintro e w1 ⟨rfl, r1, rfl, hr1⟩; have hr1 := Lib.hid hr1)
      | (go_at_call_of 19 PR; refine (right19 _ _ _ _ _ HP.out).mono ?_; rintro e w1 ⟨rfl, r2, rfl, hr2⟩; have hr2 := Lib.hid hr2))
    all_goals first
      | exact bodyPost_ret (v := .bool false) (by simp [results, Tryz.results8, go_sem]) rfl (Trk8P.no _ _ _ _ _ _ _ _ ((((Below.refl w.heap.size w).alloc (Nat.le_refl _) _).alloc (by simp) _).alloc (by simp; omega) _))
      | exact absurd ⟨‹XC = 1›, ‹PR = XR›, by simpa using ‹(PC != XR) = false›⟩ hE
end Go.Proofs.YtpjgmeogkomhlaaGreat
namespace Go.Proofs.YtpjgmeogkomhlaaGreat
open Go.RowKit
/-- What an estimator that is right is. -/
def EstOk (q : List Int) (t : List (Int × Int × Int × Int × List Int × List Int)) (st co : Int) (off : List Int) : Prop := (∀ x ∈ q, inB x = true) ∧ (∀ a ∈ t, a.1 = 3 ∧ TrkOk a.1 a.2.1 a.2.2.1 a.2.2.2.1 a.2.2.2.2.1 a.2.2.2.2.2) ∧ 0 ≤ st ∧ st ≤ 1099511627776 ∧ 0 ≤ co ∧ co ≤ 1000 ∧ ∀ x ∈ off, 0 ≤ x ∧ x ≤ 1000
def Est6P (P : Prop) (w : World) (e : Ending) (w' : World) : Prop := Below w.heap.size w w' ∧ ∃ r, e = .returned (.bool r) ∧ (r = true → P)
theorem Est6P.no {P : Prop} {w w' : World} (h : Below w.heap.size w w') : Est6P P w (.returned (.bool false)) w' := ⟨h, false, rfl, fun q => by cases q⟩
theorem Est6P.yes {P : Prop} {w w' : World} (r : Bool) (h : Below w.heap.size w w') (h' : r = true → P) : Est6P P w (.returned (.bool r)) w' := ⟨h, r, rfl, h'⟩
theorem RowI.below {w w' : World} {s : Value} {l : List Int} (h : RowI w s l) (hb : Below w.heap.size w w') : RowI w' s l := by
  rcases h with h | ⟨b, off, cap, h1, h2, h3, h4⟩
  · exact .inl h
  · exact .inr ⟨b, off, cap, h1, h2, Nat.lt_of_lt_of_le h3 hb.size, fun i x hx => (hb.cell (p := ⟨b, off + i, none⟩) h3).trans (h4 i x hx)⟩
theorem est_cell {vs : Array Value} {t : TypeId} {w w2 : World} (hb : Below (w.heap.size + 1) (w.alloc (.cells vs t)) w2) {i : Nat} {v : Value} (h : vs[i]? = some v) : w2.cell? ⟨w.heap.size, i, none⟩ = some v := by
  refine (hb.cell (p := ⟨w.heap.size, i, none⟩) (Nat.lt_succ_self _)).trans ?_
  unfold World.cell?
  dsimp only
  rw [World.alloc_heap_new]
  simpa using h
theorem est_below {o : Obj} {w w2 : World} (hb : Below (w.heap.size + 1) (w.alloc o) w2) : Below w.heap.size w w2 := ((Below.refl w.heap.size w).alloc (Nat.le_refl _) o).trans (hb.mono (Nat.le_succ _))
set_option maxHeartbeats 4000000 in
set_option maxRecDepth 20000 in
theorem right6 (q0 q1 q2 q3 : Int) (a1 b1 : Int) (sx1 : Value) (c1 d1 : Int) (sp1 : Value) (lx1 lp1 : List Int) (a2 b2 : Int) (sx2 : Value) (c2 d2 : Int) (sp2 : Value) (lx2 lp2 : List Int) (a3 b3 : Int) (sx3 : Value) (c3 d3 : Int) (sp3 : Value) (lx3 lp3 : List Int) (st co o0 o1 o2 o3 : Int) (sat : Bool) (w : World)
    (h1 : RowI w sx1 lx1) (k1 : RowI w sp1 lp1) (h2 : RowI w sx2 lx2) (k2 : RowI w sp2 lp2) (h3 : RowI w sx3 lx3) (k3 : RowI w sp3 lp3) :
    Calls Tryz.prog 6 #[.agg #[.int .i64 q0, .int .i64 q1, .int .i64 q2, .int .i64 q3, .int .i64 a1, .int .i64 b1, sx1, .int .i64 c1, .int .i64 d1, sp1, .int .i64 a2, .int .i64 b2, sx2, .int .i64 c2, .int .i64 d2, sp2, .int .i64 a3, .int .i64 b3, sx3, .int .i64 c3, .int .i64 d3, sp3, .int .i64 st, .int .i64 co, .int .i64 o0, .int .i64 o1, .int .i64 o2, .int .i64 o3, .bool sat]] w
      (Est6P (EstOk [q0, q1, q2, q3] [(a1, b1, c1, d1, lx1, lp1), (a2, b2, c2, d2, lx2, lp2), (a3, b3, c3, d3, lx3, lp3)] st co [o0, o1, o2, o3]) w) := by
  have H1 := Lib.hid h1
  have K1 := Lib.hid k1
  have H2 := Lib.hid h2
  have K2 := Lib.hid k2
  have H3 := Lib.hid h3
  have K3 := Lib.hid k3
  clear h1 k1 h2 k2 h3 k3
  go_enter Tryz.func6, Tryz.ntmps6
  go_wp2
  all_goals first
    | exact bodyPost_ret (v := .bool false) (by simp [results, Tryz.results6, go_sem]) rfl (Est6P.no ((Below.refl w.heap.size w).alloc (Nat.le_refl _) _))
    | skip
  rename_i g1 g2 g3 g4 K gK
  have G := Lib.hid (show 0 ≤ st ∧ st ≤ 1099511627776 ∧ 0 ≤ co ∧ co ≤ 1000 by omega)
  clear g1 g2 g3 g4
  refine wp_loop_rounds 5 ?_
  rw [rounds_succ]
  go_wp2
  all_goals first
    | exact bodyPost_ret (v := .bool false) (by simp [results, Tryz.results6, go_sem]) rfl (Est6P.no ((Below.refl w.heap.size w).alloc (Nat.le_refl _) _))
    | skip
  rw [rounds_succ]
  go_wp2
  all_goals first
    | exact bodyPost_ret (v := .bool false) (by simp [results, Tryz.results6, go_sem]) rfl (Est6P.no ((Below.refl w.heap.size w).alloc (Nat.le_refl _) _))
    | skip
  rw [rounds_succ]
  go_wp2
  all_goals first
    | exact bodyPost_ret (v := .bool false) (by simp [results, Tryz.results6, go_sem]) rfl (Est6P.no ((Below.refl w.heap.size w).alloc (Nat.le_refl _) _))
    | skip
  rw [rounds_succ]
  go_wp2
  all_goals first
    | exact bodyPost_ret (v := .bool false) (by simp [results, Tryz.results6, go_sem]) rfl (Est6P.no ((Below.refl w.heap.size w).alloc (Nat.le_refl _) _))
    | skip
  rw [rounds_succ]
  go_wp2
  have GO := Lib.hid (show (0 ≤ o0 ∧ o0 ≤ 1000) ∧ (0 ≤ o1 ∧ o1 ≤ 1000) ∧ (0 ≤ o2 ∧ o2 ≤ 1000) ∧ (0 ≤ o3 ∧ o3 ≤ 1000) by omega)
  refine wp_loop_rounds 4 ?_
  rw [rounds_succ]
  go_wp2_with (first | (go_at_call 8; refine (right8 a1 b1 c1 d1 sx1 sp1 lx1 lp1 _ (H1.out.below ((Below.refl w.heap.size w).alloc (Nat.le_refl _) _)) (K1.out.below ((Below.refl w.heap.size w).alloc (Nat.le_refl _) _))).mono ?_; rintro e w1 ⟨hb, r1, rfl, hr⟩; have R1 := Lib.hid hr; have B1 := Lib.hid (show Below (w.heap.size + 1) (w.alloc _) w1 by simpa using hb); clear hb hr; have f1_4 : w1.cell? ⟨w.heap.size, 4, none⟩ = some (.int .i64 a1) := est_cell B1.out rfl; have f1_10 : w1.cell? ⟨w.heap.size, 10, none⟩ = some (.int .i64 a2) := est_cell B1.out rfl; have f1_11 : w1.cell? ⟨w.heap.size, 11, none⟩ = some (.int .i64 b2) := est_cell B1.out rfl; have f1_12 : w1.cell? ⟨w.heap.size, 12, none⟩ = some (sx2) := est_cell B1.out rfl; have f1_13 : w1.cell? ⟨w.heap.size, 13, none⟩ = some (.int .i64 c2) := est_cell B1.out rfl; have f1_14 : w1.cell? ⟨w.heap.size, 14, none⟩ = some (.int .i64 d2) := est_cell B1.out rfl; have f1_15 : w1.cell? ⟨w.heap.size, 15, none⟩ = some (sp2) := est_cell B1.out rfl))
  all_goals first
    | exact bodyPost_ret (v := .bool false) (by simp [results, Tryz.results6, go_sem]) rfl (Est6P.no (est_below B1.out))
    | skip
  rw [rounds_succ]
  go_wp2_with (first | (go_at_call 8; refine (right8 a2 b2 c2 d2 sx2 sp2 lx2 lp2 _ (H2.out.below (est_below B1.out)) (K2.out.below (est_below B1.out))).mono ?_; rintro e w2 ⟨hb, r2, rfl, hr⟩; have R2 := Lib.hid hr; have B2 := Lib.hid (B1.out.trans (hb.mono (by have := B1.out.size; simpa using this))); clear hb hr; have f2_10 : w2.cell? ⟨w.heap.size, 10, none⟩ = some (.int .i64 a2) := est_cell B2.out rfl; have f2_16 : w2.cell? ⟨w.heap.size, 16, none⟩ = some (.int .i64 a3) := est_cell B2.out rfl; have f2_17 : w2.cell? ⟨w.heap.size, 17, none⟩ = some (.int .i64 b3) := est_cell B2.out rfl; have f2_18 : w2.cell? ⟨w.heap.size, 18, none⟩ = some (sx3) := est_cell B2.out rfl; have f2_19 : w2.cell? ⟨w.heap.size, 19, none⟩ = some (.int .i64 c3) := est_cell B2.out rfl; have f2_20 : w2.cell? ⟨w.heap.size, 20, none⟩ = some (.int .i64 d3) := est_cell B2.out rfl; have f2_21 : w2.cell? ⟨w.heap.size, 21, none⟩ = some (sp3) := est_cell B2.out rfl))
  all_goals first
    | exact bodyPost_ret (v := .bool false) (by simp [results, Tryz.results6, go_sem]) rfl (Est6P.no (est_below B2.out))
    | skip
  rw [rounds_succ]
  go_wp2_with (first | (go_at_call 8; refine (right8 a3 b3 c3 d3 sx3 sp3 lx3 lp3 _ (H3.out.below (est_below B2.out)) (K3.out.below (est_below B2.out))).mono ?_; rintro e w3 ⟨hb, r3, rfl, hr⟩; have R3 := Lib.hid hr; have B3 := Lib.hid (B2.out.trans (hb.mono (by have := B2.out.size; simpa using this))); clear hb hr; have f3_16 : w3.cell? ⟨w.heap.size, 16, none⟩ = some (.int .i64 a3) := est_cell B3.out rfl; have f3_0 : w3.cell? ⟨w.heap.size, 0, none⟩ = some (.int .i64 q0) := est_cell B3.out rfl; have f3_1 : w3.cell? ⟨w.heap.size, 1, none⟩ = some (.int .i64 q1) := est_cell B3.out rfl; have f3_2 : w3.cell? ⟨w.heap.size, 2, none⟩ = some (.int .i64 q2) := est_cell B3.out rfl; have f3_3 : w3.cell? ⟨w.heap.size, 3, none⟩ = some (.int .i64 q3) := est_cell B3.out rfl))
  all_goals first
    | exact bodyPost_ret (v := .bool false) (by simp [results, Tryz.results6, go_sem]) rfl (Est6P.no (est_below B3.out))
    | skip
  rw [rounds_succ]
  go_wp2_with (first | (go_at_call 14; refine (right14 q0 q1 q2 q3 _).mono ?_; rintro e w4 ⟨hb, r4, rfl, hr⟩; have R4 := Lib.hid hr; have B4 := Lib.hid (B3.out.trans (hb.mono (by have := B3.out.size; simpa using this))); clear hb hr))
  have T1 := R1.out ‹r1 = true›
  have T2 := R2.out ‹r2 = true›
  have T3 := R3.out ‹r3 = true›
  have A1 : a1 = 3 := by simpa using ‹(a1 != 3) = false›
  have A2 : a2 = 3 := by simpa using ‹(a2 != 3) = false›
  have A3 : a3 = 3 := by simpa using ‹(a3 != 3) = false›
  refine bodyPost_ret (v := .bool r4) (by simp [results, Tryz.results6, go_sem]) rfl (Est6P.yes _ (est_below B4.out) (fun hr => ⟨fun x hx => ?_, fun x hx => ?_, G.out.1, G.out.2.1, G.out.2.2.1, G.out.2.2.2, fun x hx => ?_⟩))
  · have Q := R4.out hr
    simp only [List.mem_cons, List.not_mem_nil, or_false] at hx
    rcases hx with rfl | rfl | rfl | rfl
    · exact Q.1
    · exact Q.2.1
    · exact Q.2.2.1
    · exact Q.2.2.2
  · simp only [List.mem_cons, List.not_mem_nil, or_false] at hx
    rcases hx with rfl | rfl | rfl
    · exact ⟨A1, T1⟩
    · exact ⟨A2, T2⟩
    · exact ⟨A3, T3⟩
  · have Q := GO.out
    simp only [List.mem_cons, List.not_mem_nil, or_false] at hx
    rcases hx with rfl | rfl | rfl | rfl <;> omega
end Go.Proofs.YtpjgmeogkomhlaaGreat
