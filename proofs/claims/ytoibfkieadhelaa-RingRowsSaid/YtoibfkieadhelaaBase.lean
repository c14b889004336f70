/-
  What a sample and a ring are in memory (13 and 224 cells), and what Go's '==' on them comes to: no conditions.
-/
import Derived.Test.YtoibfkieadhelaaRows
import Derived.WalkKit
import Derived.Below
import Derived.Outline
import Derived.Deep.RegionWith
import Derived.WalkSmall
import Derived.WalkLawsBesides
import Derived.Lib.Hide
import Derived.Deep.MidRow
import Derived.ChangeKeysEq
namespace Go.Proofs.Ytoibfkieadhelaa
open Go.RowKit

structure Smp where
  (m hb hg : Bool)
  (g0 g1 g2 a0 a1 a2 b n0 n1 n2 : Int)

theorem Smp.eq_iff (a b : Smp) : a = b ↔ (a.m = b.m ∧ a.hb = b.hb ∧ a.hg = b.hg ∧ a.g0 = b.g0 ∧ a.g1 = b.g1 ∧ a.g2 = b.g2 ∧ a.a0 = b.a0 ∧ a.a1 = b.a1 ∧ a.a2 = b.a2 ∧ a.b = b.b ∧ a.n0 = b.n0 ∧ a.n1 = b.n1 ∧ a.n2 = b.n2) := by
  cases a; cases b; simp
instance : DecidableEq Smp := fun a b => decidable_of_iff _ (Smp.eq_iff a b).symm
def Smp.zero : Smp := ⟨false, false, false, 0, 0, 0, 0, 0, 0, 0, 0, 0, 0⟩
def Smp.cells (s : Smp) : Array Value := #[.bool s.m, .int .i64 s.g0, .int .i64 s.g1, .int .i64 s.g2, .int .i64 s.a0, .int .i64 s.a1, .int .i64 s.a2, .bool s.hb, .int .i64 s.b, .bool s.hg, .int .i64 s.n0, .int .i64 s.n1, .int .i64 s.n2]

theorem eqItems_all {P : Program} (w : World) (d e c : Nat) (xs ys : Array Value) (r : Nat → Bool) : ∀ is : List Nat,
    (∀ i ∈ is, ∃ a b, (part e xs (i * c)).run P w = .ok a w ∧ (part e ys (i * c)).run P w = .ok b w ∧ (Op.equalIn d e a b).run P w = .ok (r i) w) →
    (Op.eqItems d e c xs ys is).run P w = .ok (is.all r) w
  | [], _ => by simp [Op.eqItems]
  | i :: is, h => by
    obtain ⟨a, b, h1, h2, h3⟩ := h i (by simp)
    have ih := eqItems_all w d e c xs ys r is (fun j hj => h j (by simp [hj]))
    simp only [Op.eqItems, Sem.run_bind, h1, h2, h3, Result.andThen_ok, List.all_cons]
    cases r i <;> simp [ih]

theorem eqFields_all {P : Program} (w : World) (d : Nat) (xs ys : Array Value) (r : Nat → Bool) : ∀ fs : List Field,
    (∀ f ∈ fs, f.name ≠ "_" ∧ ∃ a b, (part f.type xs f.offset).run P w = .ok a w ∧ (part f.type ys f.offset).run P w = .ok b w ∧ (Op.equalIn d f.type a b).run P w = .ok (r f.offset) w) →
    (Op.eqFields d xs ys fs).run P w = .ok (fs.all fun f => r f.offset) w
  | [], _ => by simp [Op.eqFields]
  | f :: fs, h => by
    obtain ⟨hn, a, b, h1, h2, h3⟩ := h f (by simp)
    have ih := eqFields_all w d xs ys r fs (fun j hj => h j (by simp [hj]))
    simp only [Op.eqFields, hn, ne_eq, not_false_eq_true, if_true, Sem.run_bind, h1, h2, h3, Result.andThen_ok, List.all_cons]
    cases r f.offset <;> simp [ih]

theorem part_agg {P : Program} (w : World) {t : TypeId} {d : TypeDesc} (hu : P.underlying t = some d) (hd : (match d with | .struct _ | .array _ _ => true | _ => false) = true)
    (xs : Array Value) (off : Nat) (n : Nat) (hi : (P.info? t).map (·.size) = some n) : (part t xs off).run P w = .ok (.agg (xs.extract off (off + n))) w := by
  cases hq : P.info? t with
  | none => simp [hq] at hi
  | some i =>
    have hs : i.size = n := by simpa [hq] using hi
    have hagg : (isAgg t).run P w = .ok true w := by
      unfold isAgg
      rw [Sem.run_bind, run_underlying hu w]
      cases d <;> simp_all
    simp [part, Sem.run_bind, hagg, sizeOf, typeInfo, hq, hs]

theorem info23 : ∃ i, Try.prog.info? 23 = some i := info_of_underlying Try.underlying23
theorem info2 : ∃ i, Try.prog.info? 2 = some i := info_of_underlying Try.underlying2
theorem size30 : (Try.prog.info? 30).map (·.size) = some 224 := by kernel_rfl
theorem size28 : (Try.prog.info? 28).map (·.size) = some 208 := by kernel_rfl
theorem size27 : (Try.prog.info? 27).map (·.size) = some 13 := by kernel_rfl
theorem size25 : (Try.prog.info? 25).map (·.size) = some 3 := by kernel_rfl
theorem size22 : (Try.prog.info? 22).map (·.size) = some 16 := by kernel_rfl
theorem plain23 : Try.prog.plainKey 23 = true := by kernel_rfl
theorem plain2 : Try.prog.plainKey 2 = true := by kernel_rfl
theorem plain4 : Try.prog.plainKey 4 = true := by kernel_rfl
theorem cells23 : Try.prog.cellsOf 23 = 1 := by kernel_rfl
theorem cells2 : Try.prog.cellsOf 2 = 1 := by kernel_rfl
theorem cells27 : Try.prog.cellsOf 27 = 13 := by kernel_rfl
theorem stood27 : Try.prog.stoodInHeld 27 = false := by kernel_rfl
theorem stood30 : Try.prog.stoodInHeld 30 = false := by kernel_rfl

theorem eq25 (w : World) (d : Nat) (a0 a1 a2 b0 b1 b2 : Int) : (Op.equalIn (d + 2) 25 (.agg #[.int .i64 a0, .int .i64 a1, .int .i64 a2]) (.agg #[.int .i64 b0, .int .i64 b1, .int .i64 b2])).run Try.prog w = .ok (a0 == b0 && (a1 == b1 && a2 == b2)) w := by
  obtain ⟨i, hi⟩ := info23
  rw [run_equalIn_array w (d + 1) _ _ Try.underlying25 hi, cells23]
  rw [eqItems_all w (d + 1) 23 1 _ _ (fun i => match i with | 0 => a0 == b0 | 1 => a1 == b1 | _ => a2 == b2)]
  · have hl : List.range 3 = [0, 1, 2] := by decide
    rw [hl]; simp
  · intro j hj
    have hj : j < 3 := by simpa using hj
    match j, hj with
    | 0, _ => exact ⟨_, _, run_part_plain w plain23 rfl, run_part_plain w plain23 rfl, run_equalIn_int w d 23 .i64 .i64 _ _ Try.underlying23⟩
    | 1, _ => exact ⟨_, _, run_part_plain w plain23 rfl, run_part_plain w plain23 rfl, run_equalIn_int w d 23 .i64 .i64 _ _ Try.underlying23⟩
    | 2, _ => exact ⟨_, _, run_part_plain w plain23 rfl, run_part_plain w plain23 rfl, run_equalIn_int w d 23 .i64 .i64 _ _ Try.underlying23⟩

theorem fields27 : (Try.prog.fieldsOf 27).toList = [{ name := "Missing", type := 4, offset := 0, embedded := false, tag := "", pkgPath := "", byteOffset := 0 },
        { name := "Gyro", type := 25, offset := 1, embedded := false, tag := "", pkgPath := "", byteOffset := 8 },
        { name := "Acc", type := 25, offset := 4, embedded := false, tag := "", pkgPath := "", byteOffset := 32 },
        { name := "HasBaro", type := 4, offset := 7, embedded := false, tag := "", pkgPath := "", byteOffset := 56 },
        { name := "Baro", type := 23, offset := 8, embedded := false, tag := "", pkgPath := "", byteOffset := 64 },
        { name := "HasGnss", type := 4, offset := 9, embedded := false, tag := "", pkgPath := "", byteOffset := 72 },
        { name := "Gnss", type := 25, offset := 10, embedded := false, tag := "", pkgPath := "", byteOffset := 80 }] := by
  simp [Program.fieldsOf, Try.underlying27]

theorem eq27 (w : World) (d : Nat) (a b : Smp) : (Op.equalIn (d + 3) 27 (.agg a.cells) (.agg b.cells)).run Try.prog w = .ok (decide (a = b)) w := by
  rw [run_equalIn_struct w (d + 2) 27 _ _ (by rw [Try.underlying27]; simp [Program.fieldsOf, Try.underlying27]) stood27, fields27]
  rw [eqFields_all w (d + 2) _ _ (fun o => match o with | 0 => a.m == b.m | 1 => a.g0 == b.g0 && (a.g1 == b.g1 && a.g2 == b.g2) | 4 => a.a0 == b.a0 && (a.a1 == b.a1 && a.a2 == b.a2) | 7 => a.hb == b.hb | 8 => a.b == b.b | 9 => a.hg == b.hg | _ => a.n0 == b.n0 && (a.n1 == b.n1 && a.n2 == b.n2))]
  · congr 1
    obtain ⟨a1, a2, a3, a4, a5, a6, a7, a8, a9, a10, a11, a12, a13⟩ := a
    obtain ⟨b1, b2, b3, b4, b5, b6, b7, b8, b9, b10, b11, b12, b13⟩ := b
    rw [Bool.eq_iff_iff]
    simp only [List.all_cons, List.all_nil, Bool.and_true, Bool.and_eq_true, beq_iff_eq, decide_eq_true_eq, Smp.mk.injEq]
    constructor
    · rintro ⟨rfl, ⟨rfl, rfl, rfl⟩, ⟨rfl, rfl, rfl⟩, rfl, rfl, rfl, rfl, rfl, rfl⟩; simp
    · rintro ⟨rfl, rfl, rfl, rfl, rfl, rfl, rfl, rfl, rfl, rfl, rfl, rfl, rfl⟩; simp
  · have pp := fun (xs : Array Value) (off : Nat) => part_agg w Try.underlying25 rfl xs off 3 size25
    intro f hf
    simp only [List.mem_cons, List.mem_nil_iff, or_false] at hf
    rcases hf with rfl | rfl | rfl | rfl | rfl | rfl | rfl
    · exact ⟨by decide, _, _, run_part_plain w plain4 rfl, run_part_plain w plain4 rfl, run_equalIn_bool w (d + 1) 4 _ _ Try.underlying4⟩
    · exact ⟨by decide, _, _, pp _ _, pp _ _, eq25 w d _ _ _ _ _ _⟩
    · exact ⟨by decide, _, _, pp _ _, pp _ _, eq25 w d _ _ _ _ _ _⟩
    · exact ⟨by decide, _, _, run_part_plain w plain4 rfl, run_part_plain w plain4 rfl, run_equalIn_bool w (d + 1) 4 _ _ Try.underlying4⟩
    · exact ⟨by decide, _, _, run_part_plain w plain23 rfl, run_part_plain w plain23 rfl, run_equalIn_int w (d + 1) 23 .i64 .i64 _ _ Try.underlying23⟩
    · exact ⟨by decide, _, _, run_part_plain w plain4 rfl, run_part_plain w plain4 rfl, run_equalIn_bool w (d + 1) 4 _ _ Try.underlying4⟩
    · exact ⟨by decide, _, _, pp _ _, pp _ _, eq25 w d _ _ _ _ _ _⟩

/-- The cells of a ring: places, then samples. -/
def mk (p : Nat → Int) (s : Nat → Smp) : Array Value :=
  Array.ofFn (n := 224) fun i => if i.val < 16 then .int .i64 (p i.val) else ((s ((i.val - 16) / 13)).cells)[(i.val - 16) % 13]?.getD (.int .i64 0)
theorem mk_size (p : Nat → Int) (s : Nat → Smp) : (mk p s).size = 224 := by simp [mk]
theorem mk_place (p : Nat → Int) (s : Nat → Smp) (i : Nat) (h : i < 16) : (mk p s)[i]? = some (.int .i64 (p i)) := by
  have : i < 224 := by omega
  simp [mk, this, h]
theorem Smp.cells_size (s : Smp) : s.cells.size = 13 := rfl
theorem mk_cell (p : Nat → Int) (s : Nat → Smp) (i j : Nat) (h : i < 16) (hj : j < 13) : (mk p s)[16 + i * 13 + j]? = (s i).cells[j]? := by
  have h1 : 16 + i * 13 + j < 224 := by omega
  have h2 : ¬ 16 + i * 13 + j < 16 := by omega
  have h3 : (16 + i * 13 + j - 16) / 13 = i := by omega
  have h4 : (16 + i * 13 + j - 16) % 13 = j := by omega
  have h5 : j < (s i).cells.size := by rw [Smp.cells_size]; exact hj
  simp [mk, h1, h2, h3, h4, h5]
theorem mk_of {R : Array Value} {p : Nat → Int} {s : Nat → Smp} (hs : R.size = 224) (hp : ∀ i, i < 16 → R[i]? = some (.int .i64 (p i))) (hc : ∀ i, i < 16 → ∀ j, j < 13 → R[16 + i * 13 + j]? = (s i).cells[j]?) : R = mk p s := by
  apply Array.ext_getElem?
  intro i
  by_cases h : i < 16
  · rw [hp i h, mk_place _ _ _ h]
  · by_cases h2 : i < 224
    · have e : i = 16 + ((i - 16) / 13) * 13 + (i - 16) % 13 := by omega
      rw [e, hc _ (by omega) _ (by omega), mk_cell _ _ _ _ (by omega) (by omega)]
    · rw [Array.getElem?_eq_none (by omega), Array.getElem?_eq_none (by rw [mk_size]; omega)]
theorem mk_congr {p p' : Nat → Int} {s s' : Nat → Smp} (hp : ∀ i, i < 16 → p i = p' i) (hs : ∀ i, i < 16 → s i = s' i) : mk p s = mk p' s' :=
  mk_of (mk_size _ _) (fun i hi => by rw [mk_place _ _ _ hi, hp i hi]) (fun i hi j hj => by rw [mk_cell _ _ _ _ hi hj, hs i hi])
theorem mk_extract (p : Nat → Int) (s : Nat → Smp) (i : Nat) (h : i < 16) : (mk p s).extract (16 + i * 13) (16 + i * 13 + 13) = (s i).cells := by
  apply Array.ext_getElem?
  intro j
  rw [Array.getElem?_extract, mk_size]
  by_cases hj : j < 13
  · rw [if_pos (by omega), mk_cell _ _ _ _ h hj]
  · rw [if_neg (by omega), Array.getElem?_eq_none (by rw [Smp.cells_size]; omega)]

def sameRing (p : Nat → Int) (s : Nat → Smp) (p' : Nat → Int) (s' : Nat → Smp) : Bool :=
  (List.range 16).all (fun i => p i == p' i) && (List.range 16).all (fun i => decide (s i = s' i))
theorem sameRing_iff (p s p' s') : sameRing p s p' s' = true ↔ (∀ i, i < 16 → p i = p' i) ∧ ∀ i, i < 16 → s i = s' i := by
  simp [sameRing, List.all_eq_true]

theorem eq22 (w : World) (d : Nat) (xs ys : Array Value) (p p' : Nat → Int) (hx : ∀ i, i < 16 → xs[i]? = some (.int .i64 (p i))) (hy : ∀ i, i < 16 → ys[i]? = some (.int .i64 (p' i))) :
    (Op.equalIn (d + 2) 22 (.agg xs) (.agg ys)).run Try.prog w = .ok ((List.range 16).all (fun i => p i == p' i)) w := by
  obtain ⟨i, hi⟩ := info2
  rw [run_equalIn_array w (d + 1) _ _ Try.underlying22 hi, cells2]
  rw [eqItems_all w (d + 1) 2 1 _ _ (fun i => p i == p' i)]
  intro j hj
  have hj : j < 16 := by simpa using hj
  rw [Nat.mul_one]
  exact ⟨_, _, run_part_plain w plain2 (hx j hj), run_part_plain w plain2 (hy j hj), run_equalIn_int w d 2 .i64 .i64 _ _ Try.underlying2⟩

theorem fields30 : (Try.prog.fieldsOf 30).toList = [{ name := "Places", type := 22, offset := 0, embedded := false, tag := "", pkgPath := "", byteOffset := 0 },
        { name := "Samples", type := 28, offset := 16, embedded := false, tag := "", pkgPath := "", byteOffset := 128 }] := by
  simp [Program.fieldsOf, Try.underlying30]

theorem eq30 (w : World) (d : Nat) (p : Nat → Int) (s : Nat → Smp) (p' : Nat → Int) (s' : Nat → Smp) : (Op.equalIn (d + 5) 30 (.agg (mk p s)) (.agg (mk p' s'))).run Try.prog w = .ok (sameRing p s p' s') w := by
  rw [run_equalIn_struct w (d + 4) 30 _ _ (by rw [Try.underlying30]; simp [Program.fieldsOf, Try.underlying30]) stood30, fields30]
  rw [eqFields_all w (d + 4) _ _ (fun o => match o with | 0 => (List.range 16).all (fun i => p i == p' i) | _ => (List.range 16).all (fun i => decide (s i = s' i)))]
  · simp [sameRing]
  · intro f hf
    simp only [List.mem_cons, List.mem_nil_iff, or_false] at hf
    rcases hf with rfl | rfl
    · refine ⟨by decide, _, _, part_agg w Try.underlying22 rfl _ _ 16 size22, part_agg w Try.underlying22 rfl _ _ 16 size22, eq22 w (d + 2) _ _ p p' ?_ ?_⟩
      · intro i hi
        rw [Array.getElem?_extract, mk_size, if_pos (by simp; omega)]; simpa using mk_place p s i hi
      · intro i hi
        rw [Array.getElem?_extract, mk_size, if_pos (by simp; omega)]; simpa using mk_place p' s' i hi
    · refine ⟨by decide, _, _, part_agg w Try.underlying28 rfl _ _ 208 size28, part_agg w Try.underlying28 rfl _ _ 208 size28, ?_⟩
      obtain ⟨i, hi⟩ := info_of_underlying Try.underlying27
      rw [run_equalIn_array w (d + 3) _ _ Try.underlying28 hi, cells27]
      refine eqItems_all w (d + 3) 27 13 _ _ (fun i => decide (s i = s' i)) _ ?_
      intro j hj
      have hj : j < 16 := by simpa using hj
      refine ⟨_, _, part_agg w Try.underlying27 rfl _ _ 13 size27, part_agg w Try.underlying27 rfl _ _ 13 size27, ?_⟩
      have ee : ∀ p s, ((mk p s).extract 16 (16 + 208)).extract (j * 13) (j * 13 + 13) = (s j).cells := by
        intro p s
        rw [← mk_extract p s j hj, Array.extract_extract]
        congr 1
        omega
      rw [ee, ee]
      exact eq27 w d _ _
attribute [irreducible] mk
end Go.Proofs.Ytoibfkieadhelaa
