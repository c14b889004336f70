/-
  Rows of eight bytes, by slices.Chunk.
  Numbers of eight bytes; how many a frame has. No conditions but those named.
-/
import Derived.Test.YtpjgmeogkomhlaaGreatRows
import Derived.RangeFuncBox
import Derived.RangeFuncLeaves
import Derived.Shelf.Abstract
import Derived.WalkKit
import Derived.OwnWalkIn
import Derived.TacticsInMore
import Derived.LoopNIn
import Derived.LoopIn
import Derived.Sort.QuietIn
import Derived.Lib.Hide
import Derived.Test.YtpjgmeogkomhlaaGreatPn
namespace Go.Proofs.YtpjgmeogkomhlaaGreat
open Go.RowKit Go.Shelf
attribute [local go_sem] Oper.semAt_some
/-- The eight bytes at place k. -/
def row8 (b off k : Nat) : Value := .slice (some ⟨b, off + 8 * k, none⟩) 8 8
/-- What the rows' iterator keeps: its two boxes. -/
def KpB (Bs Bn : Nat) (A B : World) : Prop := B.heap[Bs]? = A.heap[Bs]? ∧ B.heap[Bn]? = A.heap[Bn]?
theorem KpB.cell {Bs Bn : Nat} {A B : World} (h : KpB Bs Bn A B) {v u : Value} (h1 : A.cell? ⟨Bs, 0, none⟩ = some v) (h2 : A.cell? ⟨Bn, 0, none⟩ = some u) : B.cell? ⟨Bs, 0, none⟩ = some v ∧ B.cell? ⟨Bn, 0, none⟩ = some u :=
  ⟨(World.cell?_of_block h.1).trans h1, (World.cell?_of_block h.2).trans h2⟩
/-- The first k places. -/
def upF (N : Nat) : Nat → List (Fin N)
  | 0 => []
  | k + 1 => upF N k ++ (if h : k < N then [⟨k, h⟩] else [])
theorem upF_succ {N k : Nat} (h : k < N) : upF N (k + 1) = upF N k ++ [⟨k, h⟩] := by rw [upF, dif_pos h]
theorem upF_length {N : Nat} : ∀ {k : Nat}, k ≤ N → (upF N k).length = k
  | 0, _ => rfl
  | k + 1, h => by rw [upF_succ h, List.length_append, upF_length (Nat.le_of_succ_le h)]; rfl
theorem upF_map {N : Nat} {vs : List Int} (hv : vs.length = N) : ∀ {k : Nat}, k ≤ N → (upF N k).map (fun x => vs.getD x.val 0) = vs.take k
  | 0, _ => by simp [upF]
  | k + 1, h => by
    rw [upF_succ h, List.map_append, upF_map hv (Nat.le_of_succ_le h), List.take_add_one, List.getElem?_eq_getElem (by omega)]
    simp [List.getD, List.getElem?_eq_getElem (show k < vs.length by omega)]
set_option maxRecDepth 100000 in
set_option maxHeartbeats 2000000 in
theorem chunk211 (n l Bs Bn b off cap N : Nat) (hn : 1 ≤ n) (hN : N ≤ 1000) (hcap : 8 * N ≤ cap) (J Jx : List (Fin N) → World → Prop)
    (hY : ∀ pre x W, J pre W → pre.length < N → YieldAt Fence.wide (n - 1) Tryz.prog l #[row8 b off x.val] W fun e W' =>
      (e = .returned (.bool true) ∧ J (pre ++ [x]) W' ∧ KpB Bs Bn W W') ∨ (e = .returned (.bool false) ∧ Jx (pre ++ [x]) W'))
    (hdr : ∀ pre W k, J pre W → J pre (W.drewN k))
    (W : World) (hBs : W.cell? ⟨Bs, 0, none⟩ = some (.slice (some ⟨b, off, none⟩) (8 * N) cap)) (hBn : W.cell? ⟨Bn, 0, none⟩ = some (.int .i64 8)) (h0 : J [] W) :
    CallsIn Fence.wide n Tryz.prog 211 #[.func (.yield l) #[] #[], .pointer (some ⟨Bs, 0, none⟩), .pointer (some ⟨Bn, 0, none⟩)] W fun e W' => (∃ v, e = .returned v) ∧
      ((∃ ys, ys = upF N N ∧ J ys W') ∨ (∃ pre, (∃ k, k ≤ N ∧ pre = upF N k) ∧ Jx pre W')) := by
  refine callsIn_of_wp Tryz.func211 rfl trivial ?_ rfl
  simp only [Tryz.ntmps211, List.size_toArray, List.length_cons, List.length_nil, Nat.reduceAdd, Nat.reduceSub, Array.replicate_succ, Array.replicate_zero, List.push_toArray, List.append_toArray, List.nil_append, List.cons_append]
  gi_wp2
  gi_loopw [4] (fun i wr => ∃ k : Nat, k ≤ N ∧ i = .int .i64 (8 * k : Nat) ∧ J (upF N k) wr ∧ wr.cell? ⟨Bs, 0, none⟩ = some (.slice (some ⟨b, off, none⟩) (8 * N) cap) ∧ wr.cell? ⟨Bn, 0, none⟩ = some (.int .i64 8))
    (fun i _ => 8 * N - (intOf i).toNat)
  case atStart => exact ⟨0, Nat.zero_le _, rfl, h0, hBs, hBn⟩
  case round =>
    obtain ⟨k, hk, rfl, hJs, c1, c2⟩ := hrel
    by_cases hlt : k < N
    · have d1 : decide (((8 * k : Nat) : Int) < ((8 * N : Nat) : Int)) = true := by simp; omega
      gi_wp2
      gi_quiet (fail)
      gi_wp2
      obtain ⟨fn, tmps, assign, body, hy, hR⟩ := hY _ ⟨k, hlt⟩ (wr.drewN nq) (hdr _ _ _ hJs) (by rw [upF_length hk]; exact hlt)
      have c1' : (wr.drewN nq).cell? ⟨Bs, 0, none⟩ = some (.slice (some ⟨b, off, none⟩) (8 * N) cap) := c1
      have c2' : (wr.drewN nq).cell? ⟨Bn, 0, none⟩ = some (.int .i64 8) := c2
      unfold row8 at hy
      gi_wp2
      refine hR.mono ?_
      rintro e W3 (⟨rfl, hJ3, hk3⟩ | ⟨rfl, hJx3⟩)
      · obtain ⟨c3, c4⟩ := hk3.cell c1' c2'
        rw [← upF_succ hlt] at hJ3
        gi_wp2
        go_roundw
        case rel => exact ⟨k + 1, by omega, by congr 1, hJ3, c3, c4⟩
        case measure => simp [intOf]; omega
      · rw [← upF_succ hlt] at hJx3
        gi_wp2
        refine bodyPost_ret (results_none rfl _ _ _) rfl ?_
        exact ⟨⟨_, rfl⟩, .inr ⟨_, ⟨k + 1, by omega, rfl⟩, hJx3⟩⟩
    · obtain rfl : k = N := by omega
      have d1 : decide (((8 * k : Nat) : Int) < ((8 * k : Nat) : Int)) = false := by simp
      gi_wp2
      go_end0
      exact ⟨⟨_, rfl⟩, .inl ⟨_, rfl, hJs⟩⟩
end Go.Proofs.YtpjgmeogkomhlaaGreat
namespace Go.Proofs.YtpjgmeogkomhlaaGreat
open Go.RowKit
/-- The number of bytes, as the code reckons it. -/
def accN : List Nat → Int → Int
  | [], a => a
  | x :: l, a => accN l (bits .or .u64 (IntKind.u64.wrap (a * 256)) (x : Int))
theorem accN_snoc : ∀ (l : List Nat) (x : Nat) (a : Int), accN (l ++ [x]) a = bits .or .u64 (IntKind.u64.wrap (accN l a * 256)) (x : Int)
  | [], _, _ => rfl
  | _ :: l, x, _ => accN_snoc l x _
theorem take_snoc' {l : List Nat} {k : Nat} (hk : k < l.length) : l.take (k + 1) = l.take k ++ [l[k]] := by
  rw [List.take_add_one, List.getElem?_eq_getElem hk]
  rfl
set_option maxHeartbeats 2000000 in
theorem number180 (l : List Nat) (hl : l.length = 8) (hb : ∀ x ∈ l, x < 256) (B O C : Nat) (W : World) (hc : ∀ (i : Nat) (x : Nat), l[i]? = some x → W.cell? ⟨B, O + i, none⟩ = some (.int .u8 (x : Int))) : Calls Tryz.prog 180 #[.slice (some ⟨B, O, none⟩) 8 C] W (fun e W' => e = .returned (.int .i64 (wrap64 (accN l 0))) ∧ W = W') := by
  have HC := Lib.hid hc
  have HL := Lib.hid hl
  have HB := Lib.hid hb
  clear hc hl hb
  go_enter Tryz.func180, Tryz.ntmps180
  go_wp2
  go_loopw [3, 8] (fun a i wr => ∃ k : Nat, k ≤ 8 ∧ i = .int .i64 k ∧ a = .int .u64 (accN (l.take k) 0) ∧ W = wr) (fun _ i _ => 8 - (intOf i).toNat)
  case atStart => exact ⟨0, by omega, rfl, rfl, rfl⟩
  case round =>
    obtain ⟨k, hk, rfl, rfl, rfl⟩ := hrel
    by_cases hlt : k < 8
    · have d : decide ((k : Int) < 8) = true := by simp; omega
      have hkl : k < l.length := by rw [HL.out]; exact hlt
      have hx := HC.out k _ (List.getElem?_eq_getElem hkl)
      have hx0 := HB.out _ (List.getElem_mem hkl)
      have E := Lib.hid (accN_snoc (l.take k) l[k] 0)
      have T := Lib.hid (take_snoc' hkl)
      generalize l[k] = x at *
      generalize accN (l.take k) 0 = acc at *
      have hx1 : IntKind.u64.wrap (x : Int) = x := by rw [IntKind.wrap_u64]; omega
      go_wp2
      go_roundw
      case rel => exact ⟨k + 1, by omega, by go_num, by rw [T.out, E.out], trivial⟩
      case measure => simp [intOf]; omega
    · obtain rfl : k = 8 := by omega
      have T : l.take 8 = l := List.take_of_length_le (by rw [HL.out]; exact Nat.le_refl _)
      rw [T]
      clear T
      go_wp2
      exact bodyPost_ret (by simp [results, Tryz.results180, go_sem]) rfl ⟨rfl, rfl⟩
theorem chunk179 (a : Option Addr) (len cap : Nat) (w : World) : Calls Tryz.prog 179 #[.slice a len cap, .int .i64 8] w fun e w' => e = .returned (.func (.func 211) #[] #[.pointer (some ⟨w.heap.size, 0, none⟩), .pointer (some ⟨w.heap.size + 1, 0, none⟩)]) ∧ w' = (w.alloc (.cells #[.slice a len cap] 193)).alloc (.cells #[.int .i64 8] 3) := by
  go_enter Tryz.func179, Tryz.ntmps179
  go_wp2
  go_ret
  exact ⟨by simp, rfl⟩
theorem ix319_1 (w : World) : (Instr.index 319 (.agg #[.int .i64 3, .int .i64 8, .int .i64 8, .int .i64 5, .int .i64 18, .int .i64 4, .int .i64 1, .int .i64 15]) (.int .i64 0)).run Tryz.prog w = .ok (.int .i64 3) w := by kernel_rfl
set_option maxRecDepth 10000 in
theorem long178_1 (w : World) : Calls Tryz.prog 178 #[.int .i64 1] w fun e w' => e = .returned (.int .i64 3) ∧ w = w' := by
  have ix := ix319_1
  go_enter Tryz.func178, Tryz.ntmps178
  go_wp2
  exact bodyPost_ret (v := .int .i64 3) (by simp [results, Tryz.results178, go_sem]) rfl ⟨rfl, rfl⟩
theorem ix319_2 (w : World) : (Instr.index 319 (.agg #[.int .i64 3, .int .i64 8, .int .i64 8, .int .i64 5, .int .i64 18, .int .i64 4, .int .i64 1, .int .i64 15]) (.int .i64 1)).run Tryz.prog w = .ok (.int .i64 8) w := by kernel_rfl
set_option maxRecDepth 10000 in
theorem long178_2 (w : World) : Calls Tryz.prog 178 #[.int .i64 2] w fun e w' => e = .returned (.int .i64 8) ∧ w = w' := by
  have ix := ix319_2
  go_enter Tryz.func178, Tryz.ntmps178
  go_wp2
  exact bodyPost_ret (v := .int .i64 8) (by simp [results, Tryz.results178, go_sem]) rfl ⟨rfl, rfl⟩
theorem ix319_3 (w : World) : (Instr.index 319 (.agg #[.int .i64 3, .int .i64 8, .int .i64 8, .int .i64 5, .int .i64 18, .int .i64 4, .int .i64 1, .int .i64 15]) (.int .i64 2)).run Tryz.prog w = .ok (.int .i64 8) w := by kernel_rfl
set_option maxRecDepth 10000 in
theorem long178_3 (w : World) : Calls Tryz.prog 178 #[.int .i64 3] w fun e w' => e = .returned (.int .i64 8) ∧ w = w' := by
  have ix := ix319_3
  go_enter Tryz.func178, Tryz.ntmps178
  go_wp2
  exact bodyPost_ret (v := .int .i64 8) (by simp [results, Tryz.results178, go_sem]) rfl ⟨rfl, rfl⟩
end Go.Proofs.YtpjgmeogkomhlaaGreat
