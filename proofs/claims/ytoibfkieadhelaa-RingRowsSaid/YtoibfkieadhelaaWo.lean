/-
  A slice of samples that came in, opened; what a ring holds behind samples at places in a row: plain facts.
-/
import Derived.Test.YtoibfkieadhelaaWn
import Derived.Test.YtoibfkieadhelaaOpen
import Derived.Deep.Slices
namespace Go.Proofs.Ytoibfkieadhelaa
open Go.ChangeShapes Go.WideShapes Go.ChangeAt Go.RowKit Go.Deep
variable {H : Type} {enc : TypeId × Value → H} {w : World} {base : Nat} {spare : Nat → Bool} {held : Bool}

/-- What is known of the samples of a slice. -/
def RowsAt (w : World) (b off len : Nat) (t : Nat → Smp) : Prop := ∀ i, i < len → ∀ j, j < 13 → w.cell? ⟨b, off + i * 13 + j, none⟩ = (t i).cells[j]?

theorem opens_rows {r : Reach} {b0 : Nat} {v : Value} {d : DataW H} {pl : List MemPlace} (hv : Value.okWide Try.prog w r b0 38 v) (h : DataW.Trod enc Try.prog w base spare held 38 v d pl) :
    ∃ (a : Option Addr) (len cap : Nat), v = .slice a len cap ∧ len ≤ 9223372036854775807 ∧ (len = 0 ∨ ∃ b off t, a = some ⟨b, off, none⟩ ∧ b < w.heap.size ∧ RowsAt w b off len t) := by
  obtain ⟨a0, len0, cap0, rfl⟩ := okWide_slice Try.underlying38 hv
  obtain ⟨fuel, hf⟩ := h
  rcases open_slice Try.underlying38 hf with ⟨hcs, _⟩ | ⟨a, len, cap, m, n, D, Pl, hcs, hb, hl, hm, hmm, hx, hi⟩
  · simp [Value.cells] at hcs
    obtain ⟨rfl, rfl, rfl⟩ := hcs
    exact ⟨none, 0, 0, rfl, by omega, Or.inl rfl⟩
  · simp [Value.cells] at hcs
    obtain ⟨rfl, rfl, rfl⟩ := hcs
    unfold maxLen at hm
    refine ⟨some a, len0, cap0, rfl, by omega, ?_⟩
    by_cases h0 : len0 = 0
    · exact Or.inl h0
    · right
      have hlm : len0 ≤ m := by rw [hmm]; split <;> omega
      have hS : ∀ i, i < len0 → ∃ t : Smp, ∀ j, j < 13 → w.cell? (a.add (i * 13 + j)) = t.cells[j]? := by
        intro i hil
        obtain ⟨cs', hc, ht⟩ := hi i (by omega)
        rw [cells27] at hc
        obtain ⟨t, e⟩ := open_smp ht
        obtain ⟨_, hcl, hat⟩ := World.cells?_some hc
        refine ⟨t, fun j hj => ?_⟩
        have h1 := hat j hj
        rw [Go.Deep.add_add] at h1
        rw [h1, e, Array.getElem?_toList]
      obtain ⟨b, off, spot⟩ := a
      obtain ⟨t0, e0⟩ := hS 0 (by omega)
      have h00 := e0 0 (by omega)
      have hspot : spot = none := by
        have : w.cell? (Addr.mk b off spot) = some (.bool t0.m) := by simpa [Addr.add, Smp.cells] using h00
        simpa using World.cell?_spot this
      subst hspot
      have hlt : b < w.heap.size := by
        have : w.cell? ⟨b, off, none⟩ = some (.bool t0.m) := by simpa [Addr.add, Smp.cells] using h00
        exact World.block_lt_of_cell? w _ this
      refine ⟨b, off, fun i => if h : i < len0 then Classical.choose (hS i h) else Smp.zero, rfl, hlt, ?_⟩
      intro i hil j hj
      have := Classical.choose_spec (hS i hil) j hj
      rw [Addr.add_mid] at this
      simp only [dif_pos hil]
      rw [← this, Nat.add_assoc]

/-! ### A ring behind samples at places in a row -/
def rowsTo (t : Nat → Smp) : Nat → Rg
  | 0 => ⟨zp, zs⟩
  | n + 1 => putR (rowsTo t n) ((n : Int) + 1) (t n)
theorem slotN_nat (n : Nat) : slotN ((n : Int) + 1) = n % 16 := by unfold slotN; omega
/-- The place that stands in slot i behind n samples. -/
def lastAt (n i : Nat) : Nat := if i < n then n - (n - 1 - i) % 16 else 0
theorem lastAt_le (n i : Nat) : lastAt n i ≤ n := by unfold lastAt; split <;> omega
theorem rows_spec (t : Nat → Smp) : ∀ n, n ≤ 60 → ∀ i, i < 16 → (rowsTo t n).p i = (lastAt n i : Int) ∧ (rowsTo t n).s i = if i < n then t (lastAt n i - 1) else Smp.zero
  | 0, _, i, hi => by simp [rowsTo, zp, zs, lastAt]
  | n + 1, hn, i, hi => by
    have ih := rows_spec t n (by omega)
    have hs := slotN_nat n
    have h1 := (ih (n % 16) (by omega)).1
    have h2 := lastAt_le n (n % 16)
    show (putR (rowsTo t n) ((n : Int) + 1) (t n)).p i = _ ∧ (putR (rowsTo t n) ((n : Int) + 1) (t n)).s i = _
    unfold putR
    rw [hs, h1, if_pos ⟨by omega, by omega, by omega⟩]
    unfold upP upS
    rw [hs]
    by_cases e : i = n % 16
    · simp only [if_pos e]
      have hl : lastAt (n + 1) i = n + 1 := by unfold lastAt; rw [if_pos (by omega)]; omega
      rw [hl, if_pos (by omega)]
      exact ⟨by omega, by simp⟩
    · simp only [if_neg e]
      have hl : lastAt (n + 1) i = lastAt n i := by unfold lastAt; split <;> split <;> omega
      rw [hl, (ih i hi).1, (ih i hi).2]
      refine ⟨rfl, ?_⟩
      by_cases q : i < n
      · rw [if_pos q, if_pos (by omega)]
      · rw [if_neg q, if_neg (by omega)]

theorem rows_right (t : Nat → Smp) (n : Nat) (hn : n ≤ 60) : rightB (rowsTo t n).p (rowsTo t n).s = true := by
  apply rightB_mk
  intro i hi
  obtain ⟨h1, h2⟩ := rows_spec t n hn i hi
  unfold okAt
  rw [h1, h2]
  have hle := lastAt_le n i
  by_cases q : i < n
  · have hl : lastAt n i = n - (n - 1 - i) % 16 := by unfold lastAt; rw [if_pos q]
    rw [if_neg (by omega)]
    refine decide_eq_true ⟨by omega, by omega, ?_⟩
    unfold slotN
    omega
  · have hl : lastAt n i = 0 := by unfold lastAt; rw [if_neg q]
    rw [hl, if_neg q]
    simp
theorem rows_get (t : Nat → Smp) (n : Nat) (hn : n ≤ 60) (i : Nat) (hi : i < n) : getB (rowsTo t n).p ((i : Int) + 1) = decide (n ≤ i + 16) ∧ (n ≤ i + 16 → getS (rowsTo t n).p (rowsTo t n).s ((i : Int) + 1) = t i) := by
  have hs := slotN_nat i
  obtain ⟨h1, h2⟩ := rows_spec t n hn (i % 16) (by omega)
  have hl : lastAt n (i % 16) = n - (n - 1 - i % 16) % 16 := by unfold lastAt; rw [if_pos (by omega)]
  unfold getB getS
  rw [hs, h1, h2, hl]
  constructor
  · rw [decide_eq_decide]; omega
  · intro h
    rw [if_pos (by omega), if_pos (by omega)]
    congr 1
    omega
theorem rows_new (t : Nat → Smp) (n : Nat) (hn : n ≤ 60) : mxTo (rowsTo t n).p 16 = (n : Int) := by
  have up : ∀ m, m ≤ 16 → mxTo (rowsTo t n).p m ≤ (n : Int) := by
    intro m
    induction m with
    | zero => intro _; show (rowsTo t n).p 0 ≤ _; rw [(rows_spec t n hn 0 (by omega)).1]; have := lastAt_le n 0; omega
    | succ m ih =>
      intro hm
      show (if mxTo (rowsTo t n).p m < (rowsTo t n).p m then (rowsTo t n).p m else mxTo (rowsTo t n).p m) ≤ _
      have h1 := (rows_spec t n hn m (by omega)).1
      have h2 := lastAt_le n m
      have := ih (by omega)
      split <;> omega
  have lo : (n : Int) ≤ mxTo (rowsTo t n).p 16 := by
    have hg : ∀ (p : Nat → Int) (m i : Nat), i < m → p i ≤ mxTo p m := mxTo_ge
    by_cases h0 : n = 0
    · have := hg (rowsTo t n).p 16 0 (by omega)
      rw [(rows_spec t n hn 0 (by omega)).1] at this
      omega
    · have := hg (rowsTo t n).p 16 ((n - 1) % 16) (by omega)
      rw [(rows_spec t n hn _ (by omega)).1] at this
      have hl : lastAt n ((n - 1) % 16) = n := by unfold lastAt; rw [if_pos (by omega)]; omega
      omega
  have := up 16 (Nat.le_refl _)
  omega
end Go.Proofs.Ytoibfkieadhelaa
