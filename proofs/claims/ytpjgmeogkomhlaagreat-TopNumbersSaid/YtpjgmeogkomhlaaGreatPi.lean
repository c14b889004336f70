/-
  What the fixed point's functions yield, to a run: new letters within bounds.
  The fixed point's products, halves, roots: what they yield.
  How many bits a word has, as math/bits reckons it. No conditions but those named.
-/
import Derived.Test.YtpjgmeogkomhlaaGreatPg
import Derived.Test.YtpjgmeogkomhlaaGreatPh
import Derived.Laws.Bits64b
import Derived.Lib.BitFns
namespace Go.Proofs.YtpjgmeogkomhlaaGreat
open Go.RowKit
abbrev HookR := Option (Option (List (CV × CH)))
/-- What is asked of what a run is told of a function. -/
def HookP (id : FuncId) (g : List CV → CH → HookR) : Prop := ∀ args h l, g args h = some (some l) → Ent Tryz.prog id ∧ ∀ (w0 : World) (V : Va) (W : World) (vs : List Value), Rel w0 h V W → VRs V args vs →
    Calls Tryz.prog id vs.toArray W (fun e W' => ∃ x ∈ l, ∃ V' v, e = .returned v ∧ Ext h V x.2 V' ∧ VR V' x.1 v ∧ Rel w0 x.2 V' W')
/-- A number within bounds, and a truth. -/
def newQ (h : CH) : HookR := some (some [(.tup [.int .i64 (.bnd h.nv lowQ topQ), .bool (.var h.nb)], { h with nv := h.nv + 1, nb := h.nb + 1 })])
theorem newQ_ok {w0 : World} {h : CH} {V : Va} {W W' : World} {e : Ending} (hfs : h.fs = []) (r : Rel w0 h V W) (hb : Bnd W e W') {l : List (CV × CH)} (hl : newQ h = some (some l)) :
    ∃ x ∈ l, ∃ V' v, e = .returned v ∧ Ext h V x.2 V' ∧ VR V' x.1 v ∧ Rel w0 x.2 V' W' := by
  obtain ⟨⟨q, x, h1, h2, h3⟩, h4⟩ := hb
  cases hl
  have r1 := (r.call h4).nums hfs [q]
  have r2 := r1.bols [x]
  refine ⟨_, List.mem_singleton.2 rfl, _, _, h1, (Ext.nums (r.call h4) [q]).trans (Ext.bols r1 [x]), ?_, r2⟩
  refine ⟨_, ⟨_, _, rfl, ⟨q, ?_, rfl⟩, _, _, rfl, ⟨x, ?_, rfl⟩, rfl⟩, rfl⟩
  · have : (V.nums h.nv [q]).num h.nv = some q := Va.nums_get V h.nv [q] 0
    show (match (V.nums h.nv [q]).num h.nv with | some n => if lowQ ≤ n ∧ n ≤ topQ then some n else none | none => none) = some q
    rw [this]
    exact if_pos ⟨h2, h3⟩
  · exact Va.bols_get (V.nums h.nv [q]) h.nb [x] 0
def arg2Q (args : List CV) (h : CH) : HookR := match args with
  | [.int .i64 _, .int .i64 _] => if bare h then newQ h else some none
  | _ => some none
def arg1Q (args : List CV) (h : CH) : HookR := match args with
  | [.int .i64 _] => if bare h then newQ h else some none
  | _ => some none
theorem arg2Q_ok {id : FuncId} (hE : Ent Tryz.prog id) (hC : ∀ (a b : Int) (W : World), Calls Tryz.prog id #[.int .i64 a, .int .i64 b] W (Bnd W)) : HookP id arg2Q := fun args h l e => by
  refine ⟨hE, fun w0 V W vs r hv => ?_⟩
  unfold arg2Q at e
  split at e
  · split at e
    · rename_i hb
      obtain ⟨_, _, q1, ⟨a, _, q2⟩, _, _, q3, ⟨b, _, q4⟩, q5⟩ := hv
      subst q3 q2 q4
      rw [show _ = [] from q5] at q1
      subst q1
      exact (hC a b W).mono fun e' W' hB => newQ_ok (bare_ok hb) r hB e
    · cases e
  · cases e
theorem arg1Q_ok {id : FuncId} (hE : Ent Tryz.prog id) (hC : ∀ (a : Int) (W : World), Calls Tryz.prog id #[.int .i64 a] W (Bnd W)) : HookP id arg1Q := fun args h l e => by
  refine ⟨hE, fun w0 V W vs r hv => ?_⟩
  unfold arg1Q at e
  split at e
  · split at e
    · rename_i hb
      obtain ⟨_, _, q1, ⟨a, _, q2⟩, q5⟩ := hv
      subst q2
      rw [show _ = [] from q5] at q1
      subst q1
      exact (hC a W).mono fun e' W' hB => newQ_ok (bare_ok hb) r hB e
    · cases e
  · cases e
/-- A number, whichever, and a truth. -/
def Any1 (w : World) (e : Ending) (w' : World) : Prop := (∃ (q : Int) (x : Bool), e = .returned (.tuple #[.int .i64 q, .bool x])) ∧ Below w.heap.size w w'
def newA (h : CH) : HookR := some (some [(.tup [.int .i64 (.var h.nv), .bool (.var h.nb)], { h with nv := h.nv + 1, nb := h.nb + 1 })])
theorem newA_ok {w0 : World} {h : CH} {V : Va} {W W' : World} {e : Ending} (hfs : h.fs = []) (r : Rel w0 h V W) (hb : Any1 W e W') {l : List (CV × CH)} (hl : newA h = some (some l)) :
    ∃ x ∈ l, ∃ V' v, e = .returned v ∧ Ext h V x.2 V' ∧ VR V' x.1 v ∧ Rel w0 x.2 V' W' := by
  obtain ⟨⟨q, x, h1⟩, h4⟩ := hb
  cases hl
  have r1 := (r.call h4).nums hfs [q]
  have r2 := r1.bols [x]
  refine ⟨_, List.mem_singleton.2 rfl, _, _, h1, (Ext.nums (r.call h4) [q]).trans (Ext.bols r1 [x]), ?_, r2⟩
  exact ⟨_, ⟨_, _, rfl, ⟨q, Va.nums_get V h.nv [q] 0, rfl⟩, _, _, rfl, ⟨x, Va.bols_get (V.nums h.nv [q]) h.nb [x] 0, rfl⟩, rfl⟩, rfl⟩
def arg1A (args : List CV) (h : CH) : HookR := match args with
  | [.int .i64 _] => if bare h then newA h else some none
  | _ => some none
theorem arg1A_ok {id : FuncId} (hE : Ent Tryz.prog id) (hC : ∀ (a : Int) (W : World), Calls Tryz.prog id #[.int .i64 a] W (Any1 W)) : HookP id arg1A := fun args h l e => by
  refine ⟨hE, fun w0 V W vs r hv => ?_⟩
  unfold arg1A at e
  split at e
  · split at e
    · rename_i hb
      obtain ⟨_, _, q1, ⟨a, _, q2⟩, q5⟩ := hv
      subst q2
      rw [show _ = [] from q5] at q1
      subst q1
      exact (hC a W).mono fun e' W' hB => newA_ok (bare_ok hb) r hB e
    · cases e
  · cases e
theorem Bnd.any {w w' : World} {e : Ending} (h : Bnd w e w') : Any1 w e w' :=
  let ⟨⟨q, x, h1, _, _⟩, h2⟩ := h
  ⟨⟨q, x, h1⟩, h2⟩
/-- The fixed point's half, of what fits 64 bits. -/
def halfQ (args : List CV) (h : CH) : HookR := match args with
  | [.int .i64 e, .int .i64 (.lit 1)] => (match ivl e with
    | some (a, b) => (match inR a b with | some _ => some (some [(.int .i64 (.half e), h)]) | none => some none)
    | none => some none)
  | _ => some none
theorem halfQ_ok {id : FuncId} (hE : Ent Tryz.prog id) (hC : ∀ (a : Int) (W : World), IntKind.i64.wrap a = a → Calls Tryz.prog id #[.int .i64 a, .int .i64 1] W (fun e W' => e = .returned (.int .i64 (halfN a)) ∧ Below W.heap.size W W')) : HookP id halfQ := fun args h l e => by
  refine ⟨hE, fun w0 V W vs r hv => ?_⟩
  unfold halfQ at e
  split at e
  · split at e
    · rename_i a b hab
      split at e
      · rename_i x hx
        cases e
        obtain ⟨_, _, q1, ⟨n, hn, q2⟩, _, _, q3, ⟨m, hm, q4⟩, q5⟩ := hv
        subst q3 q2 q4
        rw [show _ = [] from q5] at q1
        subst q1
        cases hm
        obtain ⟨x1, x2⟩ := x
        have h1 := ivl_ok hab hn
        have h2 := inR_ok hx h1.1 h1.2
        refine (hC n W h2.1).mono ?_
        rintro e W' ⟨rfl, hb⟩
        refine ⟨_, List.mem_singleton.2 rfl, V, _, rfl, Ext.refl h V, ⟨halfN n, ?_, rfl⟩, r.call hb⟩
        simp only [IE.den, hn]
      · cases e
    · cases e
  · cases e
end Go.Proofs.YtpjgmeogkomhlaaGreat
namespace Go.Proofs.YtpjgmeogkomhlaaGreat
open Go.RowKit
theorem Bnd.mk {w w' : World} (q : Int) (x : Bool) (h1 : -70368744177664 ≤ q) (h2 : q ≤ 70368744177663) (h : Below w.heap.size w w') : Bnd w (.returned (.tuple #[.int .i64 q, .bool x])) w' := ⟨⟨_, _, rfl, h1, h2⟩, h⟩
theorem mul33 (a b : Int) (w : World) : Calls Tryz.prog 33 #[.int .i64 a, .int .i64 b] w (Bnd w) := by
  go_enter Tryz.func33, Tryz.ntmps33
  go_wp2_with (first
      | (go_at_call 65; refine (both65 _ _ _).mono ?_; rintro e w1 ⟨rfl, rfl⟩)
      | (go_at_call 70; refine (size70 _ _).mono ?_; rintro e w1 ⟨⟨m, rfl⟩, rfl⟩)
      | (go_at_call 71; refine (signed71 _ _ _ _).mono ?_; rintro e w1 ⟨⟨q, x, rfl, hq1, hq2⟩, hb⟩)
      | (go_at_call 69; refine (mul64 _ _ _).mono ?_; rintro e w1 ⟨⟨m1, m2, rfl⟩, rfl⟩))
  all_goals exact bodyPost_ret (by simp [results, Tryz.results33, go_sem]; rfl) rfl (Bnd.mk _ _ hq1 hq2 hb)
theorem and1_u64 (n : Int) : bits .and .u64 (IntKind.u64.wrap n) 1 = n % 2 := by
  obtain ⟨m, hm⟩ : ∃ m : Nat, IntKind.u64.wrap n = (m : Int) := ⟨(n % 18446744073709551616).toNat, by rw [IntKind.wrap_u64]; omega⟩
  have h0 : (m : Int) = n % 18446744073709551616 := by rw [← hm, IntKind.wrap_u64]
  rw [hm]
  have := bits_and_u64_nat m 1 (by omega) (by omega)
  rw [show ((1 : Nat) : Int) = 1 from rfl] at this
  rw [this, Nat.and_one_is_mod]
  omega
theorem and1_i64 (n : Int) : bits .and .i64 n 1 = n % 2 := by
  have h1 : (BitVec.ofInt 64 n &&& BitVec.ofInt 64 1).toNat = (n % 18446744073709551616).toNat % 2 := by
    rw [BitVec.toNat_and, BitVec.toNat_ofInt, BitVec.toNat_ofInt]
    show _ &&& 1 = _
    rw [Nat.and_one_is_mod]
    rfl
  show IntKind.i64.wrap ((BitVec.ofInt 64 n &&& BitVec.ofInt 64 1).toNat : Int) = _
  rw [h1, IntKind.wrap_i64]
  omega
def HalfP (n : Int) (w : World) (e : Ending) (w' : World) : Prop := e = .returned (.int .i64 (halfN n)) ∧ Below w.heap.size w w'
theorem HalfP.of {n q : Int} (w : World) (h : q = halfN n) : HalfP n w (.returned (.int .i64 q)) w := ⟨by rw [h], Below.refl _ _⟩
theorem half54 (n : Int) (w : World) (hn : IntKind.i64.wrap n = n) : Calls Tryz.prog 54 #[.int .i64 n, .int .i64 1] w (HalfP n w) := by
  have hn := Lib.hid hn
  go_enter Tryz.func54, Tryz.ntmps54
  go_wp2
  all_goals
    refine bodyPost_ret (by simp [results, Tryz.results54, go_sem]; rfl) rfl (HalfP.of w ?_)
    have hn := hn.out
    rw [IntKind.wrap_i64] at hn
    simp only [and1_u64, and1_i64, beq_iff_eq, beq_eq_false_iff_ne] at *
    unfold halfN
    (try unfold wrap64)
    (try rw [IntKind.wrap_i64])
    (repeat' split) <;> omega

theorem Any1.mk {w w' : World} (q : Int) (x : Bool) (h : Below w.heap.size w w') : Any1 w (.returned (.tuple #[.int .i64 q, .bool x])) w' := ⟨⟨_, _, rfl⟩, h⟩
set_option maxRecDepth 100000 in
set_option maxHeartbeats 2000000 in
theorem sqrt62 (a : Int) (w : World) : Calls Tryz.prog 62 #[.int .i64 a] w (Any1 w) := by
  have C := fun W => Lib.hid (clamp56 a W)
  generalize (clampN a != a) = x at *
  generalize clampN a = c at *
  cases hd : decide (c < 0) with
  | true =>
    go_enter Tryz.func62, Tryz.ntmps62
    go_wp2_with (first
      | (go_at_call 56; refine (C _).out.mono ?_; rintro e w1 ⟨rfl, rfl⟩))
    exact bodyPost_ret (by simp [results, Tryz.results62, go_sem]; exact ⟨rfl, rfl⟩) rfl (Any1.mk _ _ (Below.refl _ _))
  | false =>
    go_enter Tryz.func62, Tryz.ntmps62
    go_wp2_with (first
      | (go_at_call 56; refine (C _).out.mono ?_; rintro e w1 ⟨rfl, rfl⟩)
      | (go_at_call 69; refine (mul64 _ _ _).mono ?_; rintro e w1 ⟨⟨m1, m2, rfl⟩, rfl⟩))
    generalize IntKind.u64.wrap c / 1099511627776 = hi
    generalize IntKind.u64.wrap (IntKind.u64.wrap c * 16777216) = lo
    generalize IntKind.u64.wrap c = cc
    clear C hd
    go_loopw [7, 8] (fun r b wr => ∃ (n m : Int), r = .int .u64 n ∧ b = .int .u64 m ∧ 0 ≤ m ∧ wr = w) (fun r b _ => (intOf b).toNat)
    case atStart => exact ⟨0, 34359738368, rfl, rfl, by omega, rfl⟩
    case round =>
      obtain ⟨n, m, rfl, rfl, hm, rfl⟩ := hrel
      by_cases h0 : 0 < m
      · have h1 : decide (0 < m) = true := by simpa using h0
        go_wp2_with (first
          | (go_at_call 69; refine (mul64 _ _ _).mono ?_; rintro e w1 ⟨⟨m1, m2, rfl⟩, rfl⟩))
        all_goals
          go_roundw
          case rel => exact ⟨_, m / 2, rfl, rfl, by omega, trivial⟩
          case measure => simp [intOf]; omega
      · obtain rfl : m = 0 := by omega
        go_wp2
        exact bodyPost_ret (by simp [results, Tryz.results62, go_sem]; exact ⟨rfl, rfl⟩) rfl (Any1.mk _ _ (Below.refl _ _))
end Go.Proofs.YtpjgmeogkomhlaaGreat
namespace Go.Proofs.YtpjgmeogkomhlaaGreat
open Go.RowKit
theorem tab8 : ∀ n : Fin 256, 0 < n.val → n.val < 2 ^ (Lib.len8 (n.val : Int)).toNat ∧ 2 ^ (Lib.len8 (n.val : Int)).toNat ≤ 2 * n.val ∧ (Lib.len8 (n.val : Int)).toNat ≤ 8 := by decide +kernel
theorem tabAt (x : Int) (h0 : 0 < x) (h1 : x < 256) (h : x.toNat < Lib.len8tab.size) : ∃ l : Nat, (Lib.len8tab[x.toNat]'h).toNat = l ∧ l ≤ 8 ∧ x < 2 ^ l ∧ 2 ^ l ≤ 2 * x := by
  obtain ⟨n, rfl⟩ : ∃ n : Nat, x = (n : Int) := ⟨x.toNat, by omega⟩
  have h2 : Lib.len8 (n : Int) = ((Lib.len8tab[(n : Int).toNat]'h).toNat : Int) := by
    unfold Lib.len8
    rw [ByteArray.getElem?_lt' _ _ h]
    rfl
  have h3 := tab8 ⟨n, by omega⟩ (by show 0 < n; omega)
  dsimp only at h3
  rw [h2] at h3
  simp only [Int.toNat_natCast] at h3 ⊢
  refine ⟨_, rfl, h3.2.2, ?_, ?_⟩
  · exact_mod_cast h3.1
  · exact_mod_cast h3.2.1
def LenP (y : Int) (w : World) (e : Ending) (w' : World) : Prop := (∃ L : Nat, e = .returned (.int .i64 L) ∧ 1 ≤ L ∧ L ≤ 48 ∧ y < 2 ^ L ∧ 2 ^ L ≤ 2 * y) ∧ w = w'
theorem LenP.of {y q : Int} (w : World) (h : ∃ L : Nat, q = (L : Int) ∧ 1 ≤ L ∧ L ≤ 48 ∧ y < 2 ^ L ∧ 2 ^ L ≤ 2 * y) : LenP y w (.returned (.int .i64 q)) w := by
  obtain ⟨L, rfl, h1⟩ := h
  exact ⟨⟨L, rfl, h1⟩, rfl⟩
theorem pows (l : Nat) (x : Int) (h : 2 ^ l ≤ 2 * x) (h1 : x < 2 ^ l) (h0 : 0 < x) : 1 ≤ l := by
  cases l with
  | zero => simp at h1; omega
  | succ l => omega
set_option maxRecDepth 10000 in
theorem len194 (y : Int) (h : 0 < y) (h' : y ≤ 70368744177664) (w : World) : Calls Tryz.prog 194 #[.int .u64 y] w (LenP y w) := by
  go_enter Tryz.func194, Tryz.ntmps194
  go_wp2
  all_goals first | (exfalso; have hs := Lib.len8tab_size; omega) | skip
  all_goals refine bodyPost_ret (by simp [results, Tryz.results194, go_sem]; rfl) rfl (LenP.of w ?_)
  · obtain ⟨l, e, h1, h2, h3⟩ := tabAt (y / 4294967296 / 256) (by omega) (by omega) (by have := Lib.len8tab_size; omega)
    rw [e]
    have hl := pows l _ h3 h2 (by omega)
    have hp : (2 : Int) ^ (40 + l) = 1099511627776 * 2 ^ l := by rw [Int.pow_add]; rfl
    refine ⟨40 + l, by unfold wrap64; omega, by omega, by omega, ?_⟩
    rw [hp]
    generalize (2 : Int) ^ l = p at *
    omega
  · obtain ⟨l, e, h1, h2, h3⟩ := tabAt (y / 4294967296) (by omega) (by omega) (by have := Lib.len8tab_size; omega)
    rw [e]
    have hl := pows l _ h3 h2 (by omega)
    have hp : (2 : Int) ^ (32 + l) = 4294967296 * 2 ^ l := by rw [Int.pow_add]; rfl
    refine ⟨32 + l, by unfold wrap64; omega, by omega, by omega, ?_⟩
    rw [hp]
    generalize (2 : Int) ^ l = p at *
    omega
  · obtain ⟨l, e, h1, h2, h3⟩ := tabAt (y / 65536 / 256) (by omega) (by omega) (by have := Lib.len8tab_size; omega)
    rw [e]
    have hl := pows l _ h3 h2 (by omega)
    have hp : (2 : Int) ^ (24 + l) = 16777216 * 2 ^ l := by rw [Int.pow_add]; rfl
    refine ⟨24 + l, by unfold wrap64; omega, by omega, by omega, ?_⟩
    rw [hp]
    generalize (2 : Int) ^ l = p at *
    omega
  · obtain ⟨l, e, h1, h2, h3⟩ := tabAt (y / 65536) (by omega) (by omega) (by have := Lib.len8tab_size; omega)
    rw [e]
    have hl := pows l _ h3 h2 (by omega)
    have hp : (2 : Int) ^ (16 + l) = 65536 * 2 ^ l := by rw [Int.pow_add]; rfl
    refine ⟨16 + l, by unfold wrap64; omega, by omega, by omega, ?_⟩
    rw [hp]
    generalize (2 : Int) ^ l = p at *
    omega
  · obtain ⟨l, e, h1, h2, h3⟩ := tabAt (y / 256) (by omega) (by omega) (by have := Lib.len8tab_size; omega)
    rw [e]
    have hl := pows l _ h3 h2 (by omega)
    have hp : (2 : Int) ^ (8 + l) = 256 * 2 ^ l := by rw [Int.pow_add]; rfl
    refine ⟨8 + l, by unfold wrap64; omega, by omega, by omega, ?_⟩
    rw [hp]
    generalize (2 : Int) ^ l = p at *
    omega
  · obtain ⟨l, e, h1, h2, h3⟩ := tabAt y (by omega) (by omega) (by have := Lib.len8tab_size; omega)
    rw [e]
    exact ⟨l, by unfold wrap64; omega, pows l _ h3 h2 (by omega), by omega, h2, h3⟩
def LzP (y : Int) (w : World) (e : Ending) (w' : World) : Prop := (∃ L : Nat, e = .returned (.int .i64 (64 - (L : Int))) ∧ 1 ≤ L ∧ L ≤ 48 ∧ y < 2 ^ L ∧ 2 ^ L ≤ 2 * y) ∧ w = w'
theorem lz148 (y : Int) (h : 0 < y) (h' : y ≤ 70368744177664) (w : World) : Calls Tryz.prog 148 #[.int .u64 y] w (LzP y w) := by
  go_enter Tryz.func148, Tryz.ntmps148
  go_wp2_with (first
      | (go_at_call 194; refine (len194 y h h' _).mono ?_; rintro e w1 ⟨⟨L, rfl, h1, h2, h3⟩, rfl⟩))
  exact bodyPost_ret (by simp [results, Tryz.results148, go_sem]) rfl ⟨⟨L, rfl, h1, h2, h3⟩, rfl⟩
end Go.Proofs.YtpjgmeogkomhlaaGreat
