/-
  All the turns, by either rule: what comes out is what plain numbers come to (no number is past its type): no conditions but those named.
-/
import Derived.Test.YtccmimgdmfjciaaStep
import Derived.Test.YtccmimgdmfjciaaWa
import Derived.Test.YtccmimgdmfjciaaWb
import Derived.BigQuiet
namespace Go.Proofs.Ytccmimgdmfjciaa
open Go.RowKit Go.BigFrame
structure V where
  (x y z : Int)
def stp (b : Bool) (i : Nat) (v : V) : V := if b then ⟨v.x - v.y / 2 ^ i, v.y + v.x / 2 ^ i, wrap32 (v.z - tn i)⟩ else ⟨v.x + v.y / 2 ^ i, v.y - v.x / 2 ^ i, wrap32 (v.z + tn i)⟩
def run (up : Int → Int → Bool) (v : V) : Nat → V
  | 0 => v
  | n + 1 => stp (up (run up v n).y (run up v n).z) n (run up v n)
def mb : Nat → Int
  | 0 => 288230376151711744
  | n + 1 => mb n + mb n / 2 ^ n + 1
theorem mb_le (n : Nat) (h : n ≤ 30) : 0 ≤ mb n ∧ mb n ≤ 2305843009213693952 := by
  have : ∀ i : Fin 31, 0 ≤ mb i.val ∧ mb i.val ≤ 2305843009213693952 := by decide +kernel
  exact this ⟨n, by omega⟩
theorem div_rng (y m : Int) (i : Nat) (h1 : -m ≤ y) (h2 : y ≤ m) : -(m / 2 ^ i) - 1 ≤ y / 2 ^ i ∧ y / 2 ^ i ≤ m / 2 ^ i := by
  have hp : (0 : Int) < 2 ^ i := Int.pow_pos (by decide)
  refine ⟨?_, Int.ediv_le_ediv hp h2⟩
  have h3 : (-m) / 2 ^ i ≤ y / 2 ^ i := Int.ediv_le_ediv hp h1
  have h4 : -(m / 2 ^ i) - 1 ≤ (-m) / 2 ^ i := by
    rw [Int.le_ediv_iff_mul_le hp, Int.sub_mul, Int.neg_mul]
    have e := Int.mul_ediv_add_emod m (2 ^ i)
    have r := Int.emod_lt_of_pos m hp
    rw [Int.mul_comm] at e
    omega
  omega
theorem stp_rng (b : Bool) (i : Nat) (v : V) (h : (-mb i ≤ v.x ∧ v.x ≤ mb i) ∧ (-mb i ≤ v.y ∧ v.y ≤ mb i)) : (-mb (i + 1) ≤ (stp b i v).x ∧ (stp b i v).x ≤ mb (i + 1)) ∧ (-mb (i + 1) ≤ (stp b i v).y ∧ (stp b i v).y ≤ mb (i + 1)) := by
  have h1 := div_rng v.x (mb i) i h.1.1 h.1.2
  have h2 := div_rng v.y (mb i) i h.2.1 h.2.2
  have e : mb (i + 1) = mb i + mb i / 2 ^ i + 1 := rfl
  rw [e]
  unfold stp
  cases b <;> simp only [if_true, if_false, Bool.false_eq_true] <;> exact ⟨⟨by omega, by omega⟩, ⟨by omega, by omega⟩⟩
theorem run_rng (up : Int → Int → Bool) (v : V) (h : (-288230376151711744 ≤ v.x ∧ v.x ≤ 288230376151711744) ∧ (-288230376151711744 ≤ v.y ∧ v.y ≤ 288230376151711744)) : ∀ n, (-mb n ≤ (run up v n).x ∧ (run up v n).x ≤ mb n) ∧ (-mb n ≤ (run up v n).y ∧ (run up v n).y ≤ mb n)
  | 0 => h
  | n + 1 => stp_rng _ n _ (run_rng up v h n)
theorem wrap64_eq (a : Int) (h1 : -9223372036854775808 ≤ a) (h2 : a ≤ 9223372036854775807) : IntKind.i64.wrap a = a := by rw [IntKind.wrap_i64]; omega
theorem wrap32_rng (a : Int) : -2147483648 ≤ wrap32 a ∧ wrap32 a ≤ 2147483647 := by unfold wrap32; omega
/-- One turn's three numbers as the program reckons them are the plain ones. -/
theorem stp_up (i : Nat) (v : V) (hi : i < 30) (h : (-mb i ≤ v.x ∧ v.x ≤ mb i) ∧ (-mb i ≤ v.y ∧ v.y ≤ mb i)) :
    IntKind.i64.wrap (v.x - IntKind.i64.wrap (1 * (v.y / 2 ^ i))) = (stp true i v).x ∧ IntKind.i64.wrap (v.y + IntKind.i64.wrap (1 * (v.x / 2 ^ i))) = (stp true i v).y ∧ wrap32 (v.z - tn i) = (stp true i v).z := by
  have h1 := div_rng v.x (mb i) i h.1.1 h.1.2
  have h2 := div_rng v.y (mb i) i h.2.1 h.2.2
  have h3 := mb_le i (by omega)
  have h4 : mb i / 2 ^ i ≤ mb i := Int.ediv_le_self _ h3.1
  rw [Int.one_mul, Int.one_mul, wrap64_eq (v.y / 2 ^ i) (by omega) (by omega), wrap64_eq (v.x / 2 ^ i) (by omega) (by omega), wrap64_eq _ (by omega) (by omega), wrap64_eq _ (by omega) (by omega)]
  exact ⟨rfl, rfl, rfl⟩
theorem stp_dn (i : Nat) (v : V) (hi : i < 30) (h : (-mb i ≤ v.x ∧ v.x ≤ mb i) ∧ (-mb i ≤ v.y ∧ v.y ≤ mb i)) :
    IntKind.i64.wrap (v.x - IntKind.i64.wrap (-1 * (v.y / 2 ^ i))) = (stp false i v).x ∧ IntKind.i64.wrap (v.y + IntKind.i64.wrap (-1 * (v.x / 2 ^ i))) = (stp false i v).y ∧ wrap32 (v.z - -tn i) = (stp false i v).z := by
  have h1 := div_rng v.x (mb i) i h.1.1 h.1.2
  have h2 := div_rng v.y (mb i) i h.2.1 h.2.2
  have h3 := mb_le i (by omega)
  have h4 : mb i / 2 ^ i ≤ mb i := Int.ediv_le_self _ h3.1
  rw [wrap64_eq (-1 * (v.y / 2 ^ i)) (by omega) (by omega), wrap64_eq (-1 * (v.x / 2 ^ i)) (by omega) (by omega), wrap64_eq _ (by omega) (by omega), wrap64_eq _ (by omega) (by omega)]
  refine ⟨?_, ?_, ?_⟩
  · show _ = v.x + v.y / 2 ^ i; omega
  · show _ = v.y - v.x / 2 ^ i; omega
  · show _ = wrap32 (v.z + tn i); congr 1; omega
theorem run_z (up : Int → Int → Bool) (v : V) (h : -2147483648 ≤ v.z ∧ v.z ≤ 2147483647) : ∀ n, -2147483648 ≤ (run up v n).z ∧ (run up v n).z ≤ 2147483647
  | 0 => h
  | n + 1 => by
    show -2147483648 ≤ (stp _ n _).z ∧ (stp _ n _).z ≤ 2147483647
    unfold stp
    split <;> exact wrap32_rng _

abbrev vL (bx by' bz : Nat) (v : V) : List (Nat × Obj) := [(bz, .cells #[.int .i32 v.z] 21), (by', .cells #[.int .i64 v.y] 2), (bx, .cells #[.int .i64 v.x] 2)]

def upS : Int → Int → Bool := fun _ z => decide (0 ≤ z)
set_option maxHeartbeats 2000000 in
theorem turned20 (v : V) (w : World) (h : (-288230376151711744 ≤ v.x ∧ v.x ≤ 288230376151711744) ∧ (-288230376151711744 ≤ v.y ∧ v.y ≤ 288230376151711744)) (hz : -2147483648 ≤ v.z ∧ v.z ≤ 2147483647) :
    Calls Try.prog 19 #[.int .i64 v.x, .int .i64 v.y, .int .i32 v.z, .func (.func 20) #[] #[]] w fun e w' => e = .returned (.tuple #[.int .i64 (run upS v 30).x, .int .i64 (run upS v 30).y, .int .i32 (run upS v 30).z]) ∧ Below w.heap.size w w' := by
  have HR := Lib.hid (run_rng upS v h)
  have HZ := Lib.hid (run_z upS v hz)
  have I0 := Lib.hid ((((Inv.start w).alloc (.cells #[.int .i64 v.x] 2)).alloc (.cells #[.int .i64 v.y] 2)).alloc (.cells #[.int .i32 v.z] 21))
  clear h hz
  have hmf : ∀ (fn : Fn) (first cap : Array Value) (w : World), (Instr.makeFunc fn first cap).run Try.prog w = .ok (.func fn first cap) w := fun _ _ _ _ => rfl
  go_enter Try.func19, Try.ntmps19
  go_wp2_with (go_at_call 27; refine (turns_any _).mono ?_; rintro e w1 ⟨rfl, hb⟩)
  have I1 := Lib.hid (I0.out.call hb)
  simp only [World.size_alloc] at I1
  have hbx : w.heap.size ≤ w.heap.size := Nat.le_refl _
  clear hb I0
  have I2 : Hid (Inv w.heap.size w (vL w.heap.size (w.heap.size + 1) (w.heap.size + 1 + 1) (run upS v 0)) w1) := I1
  clear I1
  go_loopw [12, 13, 16] (fun u12 u13 i wr => ∃ k : Nat, k ≤ 30 ∧ i = .int .i64 k ∧ Hid (Inv w.heap.size w (vL w.heap.size (w.heap.size + 1) (w.heap.size + 1 + 1) (run upS v k)) wr)) (fun u12 u13 i _ => 30 - (intOf i).toNat)
  case atStart => exact ⟨0, by omega, rfl, I2⟩
  case round =>
    obtain ⟨k, hk, rfl, IW⟩ := hrel
    clear I2
    have hR := HR.out k
    have hZ := HZ.out k
    by_cases hlt : k < 30
    · have hs : run upS v (k + 1) = stp (upS (run upS v k).y (run upS v k).z) k (run upS v k) := rfl
      have HS := Lib.hid hs
      clear hs
      generalize run upS v k = s at *
      have hI := IW.out
      have cx := cell_of_one (hI.get w.heap.size (.cells #[.int .i64 s.x] 2) (by simp))
      have cy := cell_of_one (hI.get (w.heap.size + 1) (.cells #[.int .i64 s.y] 2) (by simp))
      have cz := cell_of_one (hI.get (w.heap.size + 1 + 1) (.cells #[.int .i32 s.z] 21) (by simp))
      clear hI
      have hX := index47 k hlt
      have ht := tn_rng k
      by_cases hu : 0 ≤ s.z
      · have hd : decide (0 ≤ s.z) = true := decide_eq_true hu
        have HT := Lib.hid (stp_up k s hlt hR)
        have hst : stp (upS s.y s.z) k s = stp true k s := by unfold upS; rw [hd]
        rw [hst] at HS
        clear hst hR hZ
        go_wp2_with (first
          | (go_at_call 20; refine (up20 _ _ _).mono ?_; rintro e w2 ⟨rfl, rfl⟩))
        refine (step_any k (tn k) 1 s.x s.y s.z hlt IW.out (Nat.le_refl _) (by omega) (by omega)).mono ?_
        rintro e w3 ⟨rfl, I3⟩
        rw [HT.out.1, HT.out.2.1, HT.out.2.2] at I3
        have I4 := Lib.hid I3
        clear I3 IW HT cx cy cz hX
        go_wp2
        go_roundw
        case rel => exact ⟨k + 1, by omega, by go_num, by rw [HS.out]; exact I4⟩
        case measure => simp [intOf]; omega
      · have hd : decide (0 ≤ s.z) = false := decide_eq_false hu
        have HT := Lib.hid (stp_dn k s hlt hR)
        have hst : stp (upS s.y s.z) k s = stp false k s := by unfold upS; rw [hd]
        rw [hst] at HS
        clear hst hR hZ
        go_wp2_with (first
          | (go_at_call 20; refine (up20 _ _ _).mono ?_; rintro e w2 ⟨rfl, rfl⟩))
        refine (step_any k (-tn k) (-1) s.x s.y s.z hlt IW.out (Nat.le_refl _) (by omega) (by omega)).mono ?_
        rintro e w3 ⟨rfl, I3⟩
        rw [HT.out.1, HT.out.2.1, HT.out.2.2] at I3
        have I4 := Lib.hid I3
        clear I3 IW HT cx cy cz hX
        go_wp2
        go_roundw
        case rel => exact ⟨k + 1, by omega, by go_num, by rw [HS.out]; exact I4⟩
        case measure => simp [intOf]; omega
    · obtain rfl : k = 30 := by omega
      generalize hs : run upS v 30 = s at *
      have HS := Lib.hid hs
      clear hs
      have hI := IW.out
      have cx := cell_of_one (hI.get w.heap.size (.cells #[.int .i64 s.x] 2) (by simp))
      have cy := cell_of_one (hI.get (w.heap.size + 1) (.cells #[.int .i64 s.y] 2) (by simp))
      have cz := cell_of_one (hI.get (w.heap.size + 1 + 1) (.cells #[.int .i32 s.z] 21) (by simp))
      have HB := Lib.hid IW.out.1
      clear hI IW hR hZ
      go_wp2
      refine wp_region_quiet_lit (by kernel_rfl) (by kernel_rfl) ?_
      repeat (go_big_quiet_step (fail))
      refine wpQuiet_nil ?_
      rintro _ ⟨nq, rfl⟩
      go_wp2
      exact bodyPost_ret (v := .tuple #[.int .i64 s.x, .int .i64 s.y, .int .i32 s.z]) (by simp [results, Try.results19, go_sem]) rfl ⟨by rw [HS.out], below_drewN HB.out _⟩

def upA : Int → Int → Bool := fun y _ => decide (y < 0)
set_option maxHeartbeats 2000000 in
theorem turned25 (v : V) (w : World) (h : (-288230376151711744 ≤ v.x ∧ v.x ≤ 288230376151711744) ∧ (-288230376151711744 ≤ v.y ∧ v.y ≤ 288230376151711744)) (hz : -2147483648 ≤ v.z ∧ v.z ≤ 2147483647) :
    Calls Try.prog 19 #[.int .i64 v.x, .int .i64 v.y, .int .i32 v.z, .func (.func 25) #[] #[]] w fun e w' => e = .returned (.tuple #[.int .i64 (run upA v 30).x, .int .i64 (run upA v 30).y, .int .i32 (run upA v 30).z]) ∧ Below w.heap.size w w' := by
  have HR := Lib.hid (run_rng upA v h)
  have HZ := Lib.hid (run_z upA v hz)
  have I0 := Lib.hid ((((Inv.start w).alloc (.cells #[.int .i64 v.x] 2)).alloc (.cells #[.int .i64 v.y] 2)).alloc (.cells #[.int .i32 v.z] 21))
  clear h hz
  have hmf : ∀ (fn : Fn) (first cap : Array Value) (w : World), (Instr.makeFunc fn first cap).run Try.prog w = .ok (.func fn first cap) w := fun _ _ _ _ => rfl
  go_enter Try.func19, Try.ntmps19
  go_wp2_with (go_at_call 27; refine (turns_any _).mono ?_; rintro e w1 ⟨rfl, hb⟩)
  have I1 := Lib.hid (I0.out.call hb)
  simp only [World.size_alloc] at I1
  have hbx : w.heap.size ≤ w.heap.size := Nat.le_refl _
  clear hb I0
  have I2 : Hid (Inv w.heap.size w (vL w.heap.size (w.heap.size + 1) (w.heap.size + 1 + 1) (run upA v 0)) w1) := I1
  clear I1
  go_loopw [12, 13, 16] (fun u12 u13 i wr => ∃ k : Nat, k ≤ 30 ∧ i = .int .i64 k ∧ Hid (Inv w.heap.size w (vL w.heap.size (w.heap.size + 1) (w.heap.size + 1 + 1) (run upA v k)) wr)) (fun u12 u13 i _ => 30 - (intOf i).toNat)
  case atStart => exact ⟨0, by omega, rfl, I2⟩
  case round =>
    obtain ⟨k, hk, rfl, IW⟩ := hrel
    clear I2
    have hR := HR.out k
    have hZ := HZ.out k
    by_cases hlt : k < 30
    · have hs : run upA v (k + 1) = stp (upA (run upA v k).y (run upA v k).z) k (run upA v k) := rfl
      have HS := Lib.hid hs
      clear hs
      generalize run upA v k = s at *
      have hI := IW.out
      have cx := cell_of_one (hI.get w.heap.size (.cells #[.int .i64 s.x] 2) (by simp))
      have cy := cell_of_one (hI.get (w.heap.size + 1) (.cells #[.int .i64 s.y] 2) (by simp))
      have cz := cell_of_one (hI.get (w.heap.size + 1 + 1) (.cells #[.int .i32 s.z] 21) (by simp))
      clear hI
      have hX := index47 k hlt
      have ht := tn_rng k
      by_cases hu : s.y < 0
      · have hd : decide (s.y < 0) = true := decide_eq_true hu
        have HT := Lib.hid (stp_up k s hlt hR)
        have hst : stp (upA s.y s.z) k s = stp true k s := by unfold upA; rw [hd]
        rw [hst] at HS
        clear hst hR hZ
        go_wp2_with (first
          | (go_at_call 25; refine (up25 _ _ _).mono ?_; rintro e w2 ⟨rfl, rfl⟩))
        refine (step_any k (tn k) 1 s.x s.y s.z hlt IW.out (Nat.le_refl _) (by omega) (by omega)).mono ?_
        rintro e w3 ⟨rfl, I3⟩
        rw [HT.out.1, HT.out.2.1, HT.out.2.2] at I3
        have I4 := Lib.hid I3
        clear I3 IW HT cx cy cz hX
        go_wp2
        go_roundw
        case rel => exact ⟨k + 1, by omega, by go_num, by rw [HS.out]; exact I4⟩
        case measure => simp [intOf]; omega
      · have hd : decide (s.y < 0) = false := decide_eq_false hu
        have HT := Lib.hid (stp_dn k s hlt hR)
        have hst : stp (upA s.y s.z) k s = stp false k s := by unfold upA; rw [hd]
        rw [hst] at HS
        clear hst hR hZ
        go_wp2_with (first
          | (go_at_call 25; refine (up25 _ _ _).mono ?_; rintro e w2 ⟨rfl, rfl⟩))
        refine (step_any k (-tn k) (-1) s.x s.y s.z hlt IW.out (Nat.le_refl _) (by omega) (by omega)).mono ?_
        rintro e w3 ⟨rfl, I3⟩
        rw [HT.out.1, HT.out.2.1, HT.out.2.2] at I3
        have I4 := Lib.hid I3
        clear I3 IW HT cx cy cz hX
        go_wp2
        go_roundw
        case rel => exact ⟨k + 1, by omega, by go_num, by rw [HS.out]; exact I4⟩
        case measure => simp [intOf]; omega
    · obtain rfl : k = 30 := by omega
      generalize hs : run upA v 30 = s at *
      have HS := Lib.hid hs
      clear hs
      have hI := IW.out
      have cx := cell_of_one (hI.get w.heap.size (.cells #[.int .i64 s.x] 2) (by simp))
      have cy := cell_of_one (hI.get (w.heap.size + 1) (.cells #[.int .i64 s.y] 2) (by simp))
      have cz := cell_of_one (hI.get (w.heap.size + 1 + 1) (.cells #[.int .i32 s.z] 21) (by simp))
      have HB := Lib.hid IW.out.1
      clear hI IW hR hZ
      go_wp2
      refine wp_region_quiet_lit (by kernel_rfl) (by kernel_rfl) ?_
      repeat (go_big_quiet_step (fail))
      refine wpQuiet_nil ?_
      rintro _ ⟨nq, rfl⟩
      go_wp2
      exact bodyPost_ret (v := .tuple #[.int .i64 s.x, .int .i64 s.y, .int .i32 s.z]) (by simp [results, Try.results19, go_sem]) rfl ⟨by rw [HS.out], below_drewN HB.out _⟩
end Go.Proofs.Ytccmimgdmfjciaa
