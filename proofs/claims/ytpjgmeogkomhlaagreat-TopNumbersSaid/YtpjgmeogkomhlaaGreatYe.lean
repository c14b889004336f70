/-
  The tables of types and of functions say what the program's own do. No conditions.
-/
import Derived.Test.YtpjgmeogkomhlaaGreatPj
import Derived.Test.YtpjgmeogkomhlaaGreatXs
import Derived.KernelRfl
namespace Go.Proofs.YtpjgmeogkomhlaaGreat
open Go.RowKit
def tkSame : TK → TK → Bool
  | .int a, .int b => a == b
  | .bool, .bool => true
  | .struct a, .struct b => a == b
  | .array a b c, .array d e f => a == d && b == e && c == f
  | .slice a b, .slice c d => a == c && b == d
  | .ptr a, .ptr b => a == b
  | .map a b, .map c d => a == c && b == d
  | .func, .func => true
  | .other, .other => true
  | _, _ => false
theorem tkSame_eq : ∀ a b : TK, tkSame a b = true → a = b := by
  intro a b h
  cases a <;> cases b <;> first | rfl | (cases h; done) | (simp [tkSame] at h; simp [h])
def tiSame (a b : TI) : Bool := tkSame a.kind b.kind && Nat.beq a.size b.size && a.agg == b.agg && CV.same a.zero b.zero
theorem tiSame_eq {a b : TI} (h : tiSame a b = true) : a = b := by
  simp only [tiSame, Bool.and_eq_true, beq_iff_eq] at h
  obtain ⟨⟨⟨h1, h2⟩, h3⟩, h4⟩ := h
  cases a
  cases b
  simp only at h1 h2 h3 h4
  rw [tkSame_eq _ _ h1, Nat.eq_of_beq_eq_true h2, h3, CV.same_eq _ _ h4]
def allT {α : Type} (g : Nat → α → Bool) : Nat → Nat → Tr α → Bool
  | _, _, .nil => true
  | a, m, .node l v r => (match v with | none => true | some x => g a x) && allT g (a + m) (2 * m) l && allT g (a + 2 * m) (2 * m) r
theorem allT_get {α : Type} {g : Nat → α → Bool} : ∀ (t : Tr α) (a m j : Nat) (x : α), allT g a m t = true → t.get j = some x → g (a + m * j) x = true
  | .nil, _, _, _, _, _, e => by cases e
  | .node l v r, a, m, j, x, h, e => by
    simp only [allT, Bool.and_eq_true] at h
    unfold Tr.get at e
    split at e
    · rename_i h0
      subst h0
      rw [e] at h
      exact h.1.1
    · rename_i h0
      split at e
      · have := allT_get l (a + m) (2 * m) (j / 2) x h.1.2 e
        rw [show a + m + 2 * m * (j / 2) = a + m * j by
          obtain ⟨i, rfl⟩ : ∃ i, j = 2 * i + 1 := ⟨j / 2, by omega⟩
          rw [show (2 * i + 1) / 2 = i by omega, Nat.mul_add, Nat.mul_one, Nat.mul_left_comm, Nat.mul_assoc]
          omega] at this
        exact this
      · have := allT_get r (a + 2 * m) (2 * m) (j / 2 - 1) x h.2 e
        rw [show a + 2 * m + 2 * m * (j / 2 - 1) = a + m * j by
          obtain ⟨i, rfl⟩ : ∃ i, j = 2 * i + 2 := ⟨j / 2 - 1, by omega⟩
          rw [show (2 * i + 2) / 2 - 1 = i by omega, Nat.mul_add, Nat.mul_left_comm, Nat.mul_assoc]
          omega] at this
        exact this
theorem tsL_ok : TS Tryz.prog tsL := fun t ti h => by
  have hc : allT (fun t ti => match tiOf Tryz.prog t with | some ti' => tiSame ti' ti | none => false) 0 1 tsL = true := by kernel_rfl
  have := allT_get tsL 0 1 t ti hc h
  rw [Nat.zero_add, Nat.one_mul] at this
  split at this
  · rename_i ti' hti
    rw [hti, tiSame_eq this]
  · cases this
def FN (P : Program) (id : Nat) (p : Func × List (Nat × List Stp)) : Prop := P.funcs[id]? = some p.1 ∧ (p.1.name == "runtime.NumGoroutine") = false ∧ ∀ c, p.1.body = some c → codeOK p.2 c = true
theorem body_ok {f : Func} {sc : List (Nat × List Stp)} (h : (match f.body with | some c => codeOK sc c | none => true) = true) : ∀ c, f.body = some c → codeOK sc c = true := fun c e => by
  rw [e] at h
  exact h
def allP {α : Type} (g : Nat → α → Prop) : Nat → Nat → Tr α → Prop
  | _, _, .nil => True
  | a, m, .node l v r => (match v with | none => True | some x => g a x) ∧ allP g (a + m) (2 * m) l ∧ allP g (a + 2 * m) (2 * m) r
theorem allP_get {α : Type} {g : Nat → α → Prop} : ∀ (t : Tr α) (a m j : Nat) (x : α), allP g a m t → t.get j = some x → g (a + m * j) x
  | .nil, _, _, _, _, _, e => by cases e
  | .node l v r, a, m, j, x, h, e => by
    obtain ⟨h1, h2, h3⟩ := h
    unfold Tr.get at e
    split at e
    · rename_i h0
      subst h0
      rw [e] at h1
      exact h1
    · rename_i h0
      split at e
      · have := allP_get l (a + m) (2 * m) (j / 2) x h2 e
        rw [show a + m + 2 * m * (j / 2) = a + m * j by
          obtain ⟨i, rfl⟩ : ∃ i, j = 2 * i + 1 := ⟨j / 2, by omega⟩
          rw [show (2 * i + 1) / 2 = i by omega, Nat.mul_add, Nat.mul_one, Nat.mul_left_comm, Nat.mul_assoc]
          omega] at this
        exact this
      · have := allP_get r (a + 2 * m) (2 * m) (j / 2 - 1) x h3 e
        rw [show a + 2 * m + 2 * m * (j / 2 - 1) = a + m * j by
          obtain ⟨i, rfl⟩ : ∃ i, j = 2 * i + 2 := ⟨j / 2 - 1, by omega⟩
          rw [show (2 * i + 2) / 2 - 1 = i by omega, Nat.mul_add, Nat.mul_left_comm, Nat.mul_assoc]
          omega] at this
        exact this
theorem fn3 : FN Tryz.prog 3 (Tryz.f3, []) := ⟨Tryz.func3, by kernel_rfl, body_ok (by kernel_rfl)⟩
theorem fn4 : FN Tryz.prog 4 (Tryz.f4, []) := ⟨Tryz.func4, by kernel_rfl, body_ok (by kernel_rfl)⟩
theorem fn5 : FN Tryz.prog 5 (Tryz.f5, []) := ⟨Tryz.func5, by kernel_rfl, body_ok (by kernel_rfl)⟩
theorem fn6 : FN Tryz.prog 6 (Tryz.f6, []) := ⟨Tryz.func6, by kernel_rfl, body_ok (by kernel_rfl)⟩
theorem fn7 : FN Tryz.prog 7 (Tryz.f7, sc7) := ⟨Tryz.func7, by kernel_rfl, body_ok (by kernel_rfl)⟩
theorem fn8 : FN Tryz.prog 8 (Tryz.f8, sc8) := ⟨Tryz.func8, by kernel_rfl, body_ok (by kernel_rfl)⟩
theorem fn9 : FN Tryz.prog 9 (Tryz.f9, []) := ⟨Tryz.func9, by kernel_rfl, body_ok (by kernel_rfl)⟩
theorem fn10 : FN Tryz.prog 10 (Tryz.f10, sc10) := ⟨Tryz.func10, by kernel_rfl, body_ok (by kernel_rfl)⟩
theorem fn11 : FN Tryz.prog 11 (Tryz.f11, []) := ⟨Tryz.func11, by kernel_rfl, body_ok (by kernel_rfl)⟩
theorem fn12 : FN Tryz.prog 12 (Tryz.f12, []) := ⟨Tryz.func12, by kernel_rfl, body_ok (by kernel_rfl)⟩
theorem fn13 : FN Tryz.prog 13 (Tryz.f13, []) := ⟨Tryz.func13, by kernel_rfl, body_ok (by kernel_rfl)⟩
theorem fn14 : FN Tryz.prog 14 (Tryz.f14, []) := ⟨Tryz.func14, by kernel_rfl, body_ok (by kernel_rfl)⟩
theorem fn15 : FN Tryz.prog 15 (Tryz.f15, sc15) := ⟨Tryz.func15, by kernel_rfl, body_ok (by kernel_rfl)⟩
theorem fn16 : FN Tryz.prog 16 (Tryz.f16, sc16) := ⟨Tryz.func16, by kernel_rfl, body_ok (by kernel_rfl)⟩
theorem fn17 : FN Tryz.prog 17 (Tryz.f17, sc17) := ⟨Tryz.func17, by kernel_rfl, body_ok (by kernel_rfl)⟩
theorem fn18 : FN Tryz.prog 18 (Tryz.f18, []) := ⟨Tryz.func18, by kernel_rfl, body_ok (by kernel_rfl)⟩
theorem fn19 : FN Tryz.prog 19 (Tryz.f19, []) := ⟨Tryz.func19, by kernel_rfl, body_ok (by kernel_rfl)⟩
theorem fn20 : FN Tryz.prog 20 (Tryz.f20, []) := ⟨Tryz.func20, by kernel_rfl, body_ok (by kernel_rfl)⟩
theorem fn21 : FN Tryz.prog 21 (Tryz.f21, []) := ⟨Tryz.func21, by kernel_rfl, body_ok (by kernel_rfl)⟩
theorem fn22 : FN Tryz.prog 22 (Tryz.f22, []) := ⟨Tryz.func22, by kernel_rfl, body_ok (by kernel_rfl)⟩
theorem fn23 : FN Tryz.prog 23 (Tryz.f23, []) := ⟨Tryz.func23, by kernel_rfl, body_ok (by kernel_rfl)⟩
theorem fn24 : FN Tryz.prog 24 (Tryz.f24, sc24) := ⟨Tryz.func24, by kernel_rfl, body_ok (by kernel_rfl)⟩
theorem fn25 : FN Tryz.prog 25 (Tryz.f25, []) := ⟨Tryz.func25, by kernel_rfl, body_ok (by kernel_rfl)⟩
theorem fn26 : FN Tryz.prog 26 (Tryz.f26, sc26) := ⟨Tryz.func26, by kernel_rfl, body_ok (by kernel_rfl)⟩
theorem fn27 : FN Tryz.prog 27 (Tryz.f27, sc27) := ⟨Tryz.func27, by kernel_rfl, body_ok (by kernel_rfl)⟩
theorem fn28 : FN Tryz.prog 28 (Tryz.f28, sc28) := ⟨Tryz.func28, by kernel_rfl, body_ok (by kernel_rfl)⟩
theorem fn29 : FN Tryz.prog 29 (Tryz.f29, []) := ⟨Tryz.func29, by kernel_rfl, body_ok (by kernel_rfl)⟩
theorem fn30 : FN Tryz.prog 30 (Tryz.f30, []) := ⟨Tryz.func30, by kernel_rfl, body_ok (by kernel_rfl)⟩
theorem fn31 : FN Tryz.prog 31 (Tryz.f31, []) := ⟨Tryz.func31, by kernel_rfl, body_ok (by kernel_rfl)⟩
theorem fn32 : FN Tryz.prog 32 (Tryz.f32, []) := ⟨Tryz.func32, by kernel_rfl, body_ok (by kernel_rfl)⟩
theorem fn33 : FN Tryz.prog 33 (Tryz.f33, []) := ⟨Tryz.func33, by kernel_rfl, body_ok (by kernel_rfl)⟩
theorem fn34 : FN Tryz.prog 34 (Tryz.f34, sc34) := ⟨Tryz.func34, by kernel_rfl, body_ok (by kernel_rfl)⟩
theorem fn35 : FN Tryz.prog 35 (Tryz.f35, []) := ⟨Tryz.func35, by kernel_rfl, body_ok (by kernel_rfl)⟩
theorem fn36 : FN Tryz.prog 36 (Tryz.f36, sc36) := ⟨Tryz.func36, by kernel_rfl, body_ok (by kernel_rfl)⟩
theorem fn37 : FN Tryz.prog 37 (Tryz.f37, []) := ⟨Tryz.func37, by kernel_rfl, body_ok (by kernel_rfl)⟩
theorem fn38 : FN Tryz.prog 38 (Tryz.f38, []) := ⟨Tryz.func38, by kernel_rfl, body_ok (by kernel_rfl)⟩
theorem fn39 : FN Tryz.prog 39 (Tryz.f39, sc39) := ⟨Tryz.func39, by kernel_rfl, body_ok (by kernel_rfl)⟩
theorem fn40 : FN Tryz.prog 40 (Tryz.f40, []) := ⟨Tryz.func40, by kernel_rfl, body_ok (by kernel_rfl)⟩
theorem fn41 : FN Tryz.prog 41 (Tryz.f41, []) := ⟨Tryz.func41, by kernel_rfl, body_ok (by kernel_rfl)⟩
theorem fn42 : FN Tryz.prog 42 (Tryz.f42, sc42) := ⟨Tryz.func42, by kernel_rfl, body_ok (by kernel_rfl)⟩
theorem fn43 : FN Tryz.prog 43 (Tryz.f43, []) := ⟨Tryz.func43, by kernel_rfl, body_ok (by kernel_rfl)⟩
theorem fn44 : FN Tryz.prog 44 (Tryz.f44, []) := ⟨Tryz.func44, by kernel_rfl, body_ok (by kernel_rfl)⟩
theorem fn45 : FN Tryz.prog 45 (Tryz.f45, []) := ⟨Tryz.func45, by kernel_rfl, body_ok (by kernel_rfl)⟩
theorem fn46 : FN Tryz.prog 46 (Tryz.f46, sc46) := ⟨Tryz.func46, by kernel_rfl, body_ok (by kernel_rfl)⟩
theorem fn47 : FN Tryz.prog 47 (Tryz.f47, sc47) := ⟨Tryz.func47, by kernel_rfl, body_ok (by kernel_rfl)⟩
theorem fn48 : FN Tryz.prog 48 (Tryz.f48, sc48) := ⟨Tryz.func48, by kernel_rfl, body_ok (by kernel_rfl)⟩
theorem fn49 : FN Tryz.prog 49 (Tryz.f49, sc49) := ⟨Tryz.func49, by kernel_rfl, body_ok (by kernel_rfl)⟩
theorem fn50 : FN Tryz.prog 50 (Tryz.f50, []) := ⟨Tryz.func50, by kernel_rfl, body_ok (by kernel_rfl)⟩
theorem fn51 : FN Tryz.prog 51 (Tryz.f51, sc51) := ⟨Tryz.func51, by kernel_rfl, body_ok (by kernel_rfl)⟩
theorem fn52 : FN Tryz.prog 52 (Tryz.f52, sc52) := ⟨Tryz.func52, by kernel_rfl, body_ok (by kernel_rfl)⟩
theorem fn53 : FN Tryz.prog 53 (Tryz.f53, sc53) := ⟨Tryz.func53, by kernel_rfl, body_ok (by kernel_rfl)⟩
theorem fn54 : FN Tryz.prog 54 (Tryz.f54, []) := ⟨Tryz.func54, by kernel_rfl, body_ok (by kernel_rfl)⟩
theorem fn55 : FN Tryz.prog 55 (Tryz.f55, []) := ⟨Tryz.func55, by kernel_rfl, body_ok (by kernel_rfl)⟩
theorem fn56 : FN Tryz.prog 56 (Tryz.f56, []) := ⟨Tryz.func56, by kernel_rfl, body_ok (by kernel_rfl)⟩
theorem fn57 : FN Tryz.prog 57 (Tryz.f57, sc57) := ⟨Tryz.func57, by kernel_rfl, body_ok (by kernel_rfl)⟩
theorem fn58 : FN Tryz.prog 58 (Tryz.f58, []) := ⟨Tryz.func58, by kernel_rfl, body_ok (by kernel_rfl)⟩
theorem fn59 : FN Tryz.prog 59 (Tryz.f59, []) := ⟨Tryz.func59, by kernel_rfl, body_ok (by kernel_rfl)⟩
theorem fn60 : FN Tryz.prog 60 (Tryz.f60, []) := ⟨Tryz.func60, by kernel_rfl, body_ok (by kernel_rfl)⟩
theorem fn61 : FN Tryz.prog 61 (Tryz.f61, sc61) := ⟨Tryz.func61, by kernel_rfl, body_ok (by kernel_rfl)⟩
theorem fn62 : FN Tryz.prog 62 (Tryz.f62, []) := ⟨Tryz.func62, by kernel_rfl, body_ok (by kernel_rfl)⟩
theorem fn63 : FN Tryz.prog 63 (Tryz.f63, []) := ⟨Tryz.func63, by kernel_rfl, body_ok (by kernel_rfl)⟩
theorem fn64 : FN Tryz.prog 64 (Tryz.f64, sc64) := ⟨Tryz.func64, by kernel_rfl, body_ok (by kernel_rfl)⟩
theorem fn65 : FN Tryz.prog 65 (Tryz.f65, []) := ⟨Tryz.func65, by kernel_rfl, body_ok (by kernel_rfl)⟩
theorem fn66 : FN Tryz.prog 66 (Tryz.f66, []) := ⟨Tryz.func66, by kernel_rfl, body_ok (by kernel_rfl)⟩
theorem fn67 : FN Tryz.prog 67 (Tryz.f67, []) := ⟨Tryz.func67, by kernel_rfl, body_ok (by kernel_rfl)⟩
theorem fn68 : FN Tryz.prog 68 (Tryz.f68, []) := ⟨Tryz.func68, by kernel_rfl, body_ok (by kernel_rfl)⟩
theorem fn69 : FN Tryz.prog 69 (Tryz.f69, []) := ⟨Tryz.func69, by kernel_rfl, body_ok (by kernel_rfl)⟩
theorem fn70 : FN Tryz.prog 70 (Tryz.f70, []) := ⟨Tryz.func70, by kernel_rfl, body_ok (by kernel_rfl)⟩
theorem fn71 : FN Tryz.prog 71 (Tryz.f71, []) := ⟨Tryz.func71, by kernel_rfl, body_ok (by kernel_rfl)⟩
theorem fn72 : FN Tryz.prog 72 (Tryz.f72, []) := ⟨Tryz.func72, by kernel_rfl, body_ok (by kernel_rfl)⟩
theorem fn73 : FN Tryz.prog 73 (Tryz.f73, []) := ⟨Tryz.func73, by kernel_rfl, body_ok (by kernel_rfl)⟩
theorem fn74 : FN Tryz.prog 74 (Tryz.f74, []) := ⟨Tryz.func74, by kernel_rfl, body_ok (by kernel_rfl)⟩
theorem fn75 : FN Tryz.prog 75 (Tryz.f75, []) := ⟨Tryz.func75, by kernel_rfl, body_ok (by kernel_rfl)⟩
theorem fn76 : FN Tryz.prog 76 (Tryz.f76, sc76) := ⟨Tryz.func76, by kernel_rfl, body_ok (by kernel_rfl)⟩
theorem fn77 : FN Tryz.prog 77 (Tryz.f77, sc77) := ⟨Tryz.func77, by kernel_rfl, body_ok (by kernel_rfl)⟩
theorem fn78 : FN Tryz.prog 78 (Tryz.f78, sc78) := ⟨Tryz.func78, by kernel_rfl, body_ok (by kernel_rfl)⟩
theorem fn79 : FN Tryz.prog 79 (Tryz.f79, []) := ⟨Tryz.func79, by kernel_rfl, body_ok (by kernel_rfl)⟩
theorem fn80 : FN Tryz.prog 80 (Tryz.f80, []) := ⟨Tryz.func80, by kernel_rfl, body_ok (by kernel_rfl)⟩
theorem fn81 : FN Tryz.prog 81 (Tryz.f81, []) := ⟨Tryz.func81, by kernel_rfl, body_ok (by kernel_rfl)⟩
theorem fn82 : FN Tryz.prog 82 (Tryz.f82, []) := ⟨Tryz.func82, by kernel_rfl, body_ok (by kernel_rfl)⟩
theorem fn83 : FN Tryz.prog 83 (Tryz.f83, sc83) := ⟨Tryz.func83, by kernel_rfl, body_ok (by kernel_rfl)⟩
theorem fn84 : FN Tryz.prog 84 (Tryz.f84, sc84) := ⟨Tryz.func84, by kernel_rfl, body_ok (by kernel_rfl)⟩
theorem fn85 : FN Tryz.prog 85 (Tryz.f85, []) := ⟨Tryz.func85, by kernel_rfl, body_ok (by kernel_rfl)⟩
theorem fn86 : FN Tryz.prog 86 (Tryz.f86, []) := ⟨Tryz.func86, by kernel_rfl, body_ok (by kernel_rfl)⟩
theorem fn87 : FN Tryz.prog 87 (Tryz.f87, []) := ⟨Tryz.func87, by kernel_rfl, body_ok (by kernel_rfl)⟩
theorem fn88 : FN Tryz.prog 88 (Tryz.f88, []) := ⟨Tryz.func88, by kernel_rfl, body_ok (by kernel_rfl)⟩
theorem fn89 : FN Tryz.prog 89 (Tryz.f89, []) := ⟨Tryz.func89, by kernel_rfl, body_ok (by kernel_rfl)⟩
theorem fn90 : FN Tryz.prog 90 (Tryz.f90, []) := ⟨Tryz.func90, by kernel_rfl, body_ok (by kernel_rfl)⟩
theorem fn91 : FN Tryz.prog 91 (Tryz.f91, []) := ⟨Tryz.func91, by kernel_rfl, body_ok (by kernel_rfl)⟩
theorem fn92 : FN Tryz.prog 92 (Tryz.f92, sc92) := ⟨Tryz.func92, by kernel_rfl, body_ok (by kernel_rfl)⟩
theorem fn93 : FN Tryz.prog 93 (Tryz.f93, sc93) := ⟨Tryz.func93, by kernel_rfl, body_ok (by kernel_rfl)⟩
theorem fn94 : FN Tryz.prog 94 (Tryz.f94, sc94) := ⟨Tryz.func94, by kernel_rfl, body_ok (by kernel_rfl)⟩
theorem fn95 : FN Tryz.prog 95 (Tryz.f95, sc95) := ⟨Tryz.func95, by kernel_rfl, body_ok (by kernel_rfl)⟩
theorem fn96 : FN Tryz.prog 96 (Tryz.f96, sc96) := ⟨Tryz.func96, by kernel_rfl, body_ok (by kernel_rfl)⟩
theorem fn97 : FN Tryz.prog 97 (Tryz.f97, sc97) := ⟨Tryz.func97, by kernel_rfl, body_ok (by kernel_rfl)⟩
theorem fn98 : FN Tryz.prog 98 (Tryz.f98, sc98) := ⟨Tryz.func98, by kernel_rfl, body_ok (by kernel_rfl)⟩
theorem fn99 : FN Tryz.prog 99 (Tryz.f99, sc99) := ⟨Tryz.func99, by kernel_rfl, body_ok (by kernel_rfl)⟩
theorem fn100 : FN Tryz.prog 100 (Tryz.f100, sc100) := ⟨Tryz.func100, by kernel_rfl, body_ok (by kernel_rfl)⟩
theorem fn101 : FN Tryz.prog 101 (Tryz.f101, []) := ⟨Tryz.func101, by kernel_rfl, body_ok (by kernel_rfl)⟩
theorem fn102 : FN Tryz.prog 102 (Tryz.f102, sc102) := ⟨Tryz.func102, by kernel_rfl, body_ok (by kernel_rfl)⟩
theorem fn103 : FN Tryz.prog 103 (Tryz.f103, sc103) := ⟨Tryz.func103, by kernel_rfl, body_ok (by kernel_rfl)⟩
theorem fn104 : FN Tryz.prog 104 (Tryz.f104, sc104) := ⟨Tryz.func104, by kernel_rfl, body_ok (by kernel_rfl)⟩
theorem fn105 : FN Tryz.prog 105 (Tryz.f105, []) := ⟨Tryz.func105, by kernel_rfl, body_ok (by kernel_rfl)⟩
theorem fn106 : FN Tryz.prog 106 (Tryz.f106, []) := ⟨Tryz.func106, by kernel_rfl, body_ok (by kernel_rfl)⟩
theorem fn107 : FN Tryz.prog 107 (Tryz.f107, sc107) := ⟨Tryz.func107, by kernel_rfl, body_ok (by kernel_rfl)⟩
theorem fn108 : FN Tryz.prog 108 (Tryz.f108, []) := ⟨Tryz.func108, by kernel_rfl, body_ok (by kernel_rfl)⟩
theorem fn109 : FN Tryz.prog 109 (Tryz.f109, sc109) := ⟨Tryz.func109, by kernel_rfl, body_ok (by kernel_rfl)⟩
theorem fn110 : FN Tryz.prog 110 (Tryz.f110, []) := ⟨Tryz.func110, by kernel_rfl, body_ok (by kernel_rfl)⟩
theorem fn111 : FN Tryz.prog 111 (Tryz.f111, sc111) := ⟨Tryz.func111, by kernel_rfl, body_ok (by kernel_rfl)⟩
theorem fn112 : FN Tryz.prog 112 (Tryz.f112, []) := ⟨Tryz.func112, by kernel_rfl, body_ok (by kernel_rfl)⟩
theorem fn113 : FN Tryz.prog 113 (Tryz.f113, []) := ⟨Tryz.func113, by kernel_rfl, body_ok (by kernel_rfl)⟩
theorem fn114 : FN Tryz.prog 114 (Tryz.f114, []) := ⟨Tryz.func114, by kernel_rfl, body_ok (by kernel_rfl)⟩
theorem fn115 : FN Tryz.prog 115 (Tryz.f115, sc115) := ⟨Tryz.func115, by kernel_rfl, body_ok (by kernel_rfl)⟩
theorem fn116 : FN Tryz.prog 116 (Tryz.f116, []) := ⟨Tryz.func116, by kernel_rfl, body_ok (by kernel_rfl)⟩
theorem fn117 : FN Tryz.prog 117 (Tryz.f117, sc117) := ⟨Tryz.func117, by kernel_rfl, body_ok (by kernel_rfl)⟩
theorem fn118 : FN Tryz.prog 118 (Tryz.f118, []) := ⟨Tryz.func118, by kernel_rfl, body_ok (by kernel_rfl)⟩
theorem fn119 : FN Tryz.prog 119 (Tryz.f119, []) := ⟨Tryz.func119, by kernel_rfl, body_ok (by kernel_rfl)⟩
theorem fn120 : FN Tryz.prog 120 (Tryz.f120, []) := ⟨Tryz.func120, by kernel_rfl, body_ok (by kernel_rfl)⟩
theorem fn121 : FN Tryz.prog 121 (Tryz.f121, []) := ⟨Tryz.func121, by kernel_rfl, body_ok (by kernel_rfl)⟩
theorem fn122 : FN Tryz.prog 122 (Tryz.f122, []) := ⟨Tryz.func122, by kernel_rfl, body_ok (by kernel_rfl)⟩
theorem fn123 : FN Tryz.prog 123 (Tryz.f123, []) := ⟨Tryz.func123, by kernel_rfl, body_ok (by kernel_rfl)⟩
theorem fn124 : FN Tryz.prog 124 (Tryz.f124, []) := ⟨Tryz.func124, by kernel_rfl, body_ok (by kernel_rfl)⟩
theorem fn125 : FN Tryz.prog 125 (Tryz.f125, []) := ⟨Tryz.func125, by kernel_rfl, body_ok (by kernel_rfl)⟩
theorem fn126 : FN Tryz.prog 126 (Tryz.f126, sc126) := ⟨Tryz.func126, by kernel_rfl, body_ok (by kernel_rfl)⟩
theorem fn127 : FN Tryz.prog 127 (Tryz.f127, sc127) := ⟨Tryz.func127, by kernel_rfl, body_ok (by kernel_rfl)⟩
theorem fn128 : FN Tryz.prog 128 (Tryz.f128, []) := ⟨Tryz.func128, by kernel_rfl, body_ok (by kernel_rfl)⟩
theorem fn129 : FN Tryz.prog 129 (Tryz.f129, sc129) := ⟨Tryz.func129, by kernel_rfl, body_ok (by kernel_rfl)⟩
theorem fn130 : FN Tryz.prog 130 (Tryz.f130, sc130) := ⟨Tryz.func130, by kernel_rfl, body_ok (by kernel_rfl)⟩
theorem fn131 : FN Tryz.prog 131 (Tryz.f131, sc131) := ⟨Tryz.func131, by kernel_rfl, body_ok (by kernel_rfl)⟩
theorem fn132 : FN Tryz.prog 132 (Tryz.f132, sc132) := ⟨Tryz.func132, by kernel_rfl, body_ok (by kernel_rfl)⟩
theorem fn133 : FN Tryz.prog 133 (Tryz.f133, sc133) := ⟨Tryz.func133, by kernel_rfl, body_ok (by kernel_rfl)⟩
theorem fn134 : FN Tryz.prog 134 (Tryz.f134, sc134) := ⟨Tryz.func134, by kernel_rfl, body_ok (by kernel_rfl)⟩
theorem fn135 : FN Tryz.prog 135 (Tryz.f135, sc135) := ⟨Tryz.func135, by kernel_rfl, body_ok (by kernel_rfl)⟩
theorem fn136 : FN Tryz.prog 136 (Tryz.f136, sc136) := ⟨Tryz.func136, by kernel_rfl, body_ok (by kernel_rfl)⟩
theorem fn137 : FN Tryz.prog 137 (Tryz.f137, sc137) := ⟨Tryz.func137, by kernel_rfl, body_ok (by kernel_rfl)⟩
theorem fn138 : FN Tryz.prog 138 (Tryz.f138, sc138) := ⟨Tryz.func138, by kernel_rfl, body_ok (by kernel_rfl)⟩
theorem fn139 : FN Tryz.prog 139 (Tryz.f139, sc139) := ⟨Tryz.func139, by kernel_rfl, body_ok (by kernel_rfl)⟩
theorem fn140 : FN Tryz.prog 140 (Tryz.f140, []) := ⟨Tryz.func140, by kernel_rfl, body_ok (by kernel_rfl)⟩
theorem fn141 : FN Tryz.prog 141 (Tryz.f141, sc141) := ⟨Tryz.func141, by kernel_rfl, body_ok (by kernel_rfl)⟩
theorem fn142 : FN Tryz.prog 142 (Tryz.f142, sc142) := ⟨Tryz.func142, by kernel_rfl, body_ok (by kernel_rfl)⟩
theorem fn143 : FN Tryz.prog 143 (Tryz.f143, sc143) := ⟨Tryz.func143, by kernel_rfl, body_ok (by kernel_rfl)⟩
theorem fn144 : FN Tryz.prog 144 (Tryz.f144, sc144) := ⟨Tryz.func144, by kernel_rfl, body_ok (by kernel_rfl)⟩
theorem fn145 : FN Tryz.prog 145 (Tryz.f145, sc145) := ⟨Tryz.func145, by kernel_rfl, body_ok (by kernel_rfl)⟩
theorem fn146 : FN Tryz.prog 146 (Tryz.f146, []) := ⟨Tryz.func146, by kernel_rfl, body_ok (by kernel_rfl)⟩
theorem fn147 : FN Tryz.prog 147 (Tryz.f147, []) := ⟨Tryz.func147, by kernel_rfl, body_ok (by kernel_rfl)⟩
theorem fn148 : FN Tryz.prog 148 (Tryz.f148, []) := ⟨Tryz.func148, by kernel_rfl, body_ok (by kernel_rfl)⟩
theorem fn149 : FN Tryz.prog 149 (Tryz.f149, []) := ⟨Tryz.func149, by kernel_rfl, body_ok (by kernel_rfl)⟩
theorem fn150 : FN Tryz.prog 150 (Tryz.f150, sc150) := ⟨Tryz.func150, by kernel_rfl, body_ok (by kernel_rfl)⟩
theorem fn151 : FN Tryz.prog 151 (Tryz.f151, []) := ⟨Tryz.func151, by kernel_rfl, body_ok (by kernel_rfl)⟩
theorem fn152 : FN Tryz.prog 152 (Tryz.f152, []) := ⟨Tryz.func152, by kernel_rfl, body_ok (by kernel_rfl)⟩
theorem fn153 : FN Tryz.prog 153 (Tryz.f153, []) := ⟨Tryz.func153, by kernel_rfl, body_ok (by kernel_rfl)⟩
theorem fn154 : FN Tryz.prog 154 (Tryz.f154, []) := ⟨Tryz.func154, by kernel_rfl, body_ok (by kernel_rfl)⟩
theorem fn155 : FN Tryz.prog 155 (Tryz.f155, []) := ⟨Tryz.func155, by kernel_rfl, body_ok (by kernel_rfl)⟩
theorem fn156 : FN Tryz.prog 156 (Tryz.f156, []) := ⟨Tryz.func156, by kernel_rfl, body_ok (by kernel_rfl)⟩
theorem fn157 : FN Tryz.prog 157 (Tryz.f157, []) := ⟨Tryz.func157, by kernel_rfl, body_ok (by kernel_rfl)⟩
theorem fn158 : FN Tryz.prog 158 (Tryz.f158, sc158) := ⟨Tryz.func158, by kernel_rfl, body_ok (by kernel_rfl)⟩
theorem fn159 : FN Tryz.prog 159 (Tryz.f159, []) := ⟨Tryz.func159, by kernel_rfl, body_ok (by kernel_rfl)⟩
theorem fn160 : FN Tryz.prog 160 (Tryz.f160, []) := ⟨Tryz.func160, by kernel_rfl, body_ok (by kernel_rfl)⟩
theorem fn161 : FN Tryz.prog 161 (Tryz.f161, []) := ⟨Tryz.func161, by kernel_rfl, body_ok (by kernel_rfl)⟩
theorem fn162 : FN Tryz.prog 162 (Tryz.f162, []) := ⟨Tryz.func162, by kernel_rfl, body_ok (by kernel_rfl)⟩
theorem fn163 : FN Tryz.prog 163 (Tryz.f163, []) := ⟨Tryz.func163, by kernel_rfl, body_ok (by kernel_rfl)⟩
theorem fn164 : FN Tryz.prog 164 (Tryz.f164, []) := ⟨Tryz.func164, by kernel_rfl, body_ok (by kernel_rfl)⟩
theorem fn165 : FN Tryz.prog 165 (Tryz.f165, []) := ⟨Tryz.func165, by kernel_rfl, body_ok (by kernel_rfl)⟩
theorem fn166 : FN Tryz.prog 166 (Tryz.f166, []) := ⟨Tryz.func166, by kernel_rfl, body_ok (by kernel_rfl)⟩
theorem fn167 : FN Tryz.prog 167 (Tryz.f167, []) := ⟨Tryz.func167, by kernel_rfl, body_ok (by kernel_rfl)⟩
theorem fn168 : FN Tryz.prog 168 (Tryz.f168, []) := ⟨Tryz.func168, by kernel_rfl, body_ok (by kernel_rfl)⟩
theorem fn169 : FN Tryz.prog 169 (Tryz.f169, []) := ⟨Tryz.func169, by kernel_rfl, body_ok (by kernel_rfl)⟩
theorem fn170 : FN Tryz.prog 170 (Tryz.f170, []) := ⟨Tryz.func170, by kernel_rfl, body_ok (by kernel_rfl)⟩
theorem fn171 : FN Tryz.prog 171 (Tryz.f171, []) := ⟨Tryz.func171, by kernel_rfl, body_ok (by kernel_rfl)⟩
theorem fn172 : FN Tryz.prog 172 (Tryz.f172, sc172) := ⟨Tryz.func172, by kernel_rfl, body_ok (by kernel_rfl)⟩
theorem fn173 : FN Tryz.prog 173 (Tryz.f173, sc173) := ⟨Tryz.func173, by kernel_rfl, body_ok (by kernel_rfl)⟩
theorem fn174 : FN Tryz.prog 174 (Tryz.f174, sc174) := ⟨Tryz.func174, by kernel_rfl, body_ok (by kernel_rfl)⟩
theorem fn175 : FN Tryz.prog 175 (Tryz.f175, sc175) := ⟨Tryz.func175, by kernel_rfl, body_ok (by kernel_rfl)⟩
theorem fn176 : FN Tryz.prog 176 (Tryz.f176, sc176) := ⟨Tryz.func176, by kernel_rfl, body_ok (by kernel_rfl)⟩
theorem fn177 : FN Tryz.prog 177 (Tryz.f177, sc177) := ⟨Tryz.func177, by kernel_rfl, body_ok (by kernel_rfl)⟩
theorem fn178 : FN Tryz.prog 178 (Tryz.f178, []) := ⟨Tryz.func178, by kernel_rfl, body_ok (by kernel_rfl)⟩
theorem fn179 : FN Tryz.prog 179 (Tryz.f179, []) := ⟨Tryz.func179, by kernel_rfl, body_ok (by kernel_rfl)⟩
theorem fn180 : FN Tryz.prog 180 (Tryz.f180, []) := ⟨Tryz.func180, by kernel_rfl, body_ok (by kernel_rfl)⟩
theorem fn181 : FN Tryz.prog 181 (Tryz.f181, []) := ⟨Tryz.func181, by kernel_rfl, body_ok (by kernel_rfl)⟩
theorem fn182 : FN Tryz.prog 182 (Tryz.f182, []) := ⟨Tryz.func182, by kernel_rfl, body_ok (by kernel_rfl)⟩
theorem fn183 : FN Tryz.prog 183 (Tryz.f183, sc183) := ⟨Tryz.func183, by kernel_rfl, body_ok (by kernel_rfl)⟩
theorem fn184 : FN Tryz.prog 184 (Tryz.f184, []) := ⟨Tryz.func184, by kernel_rfl, body_ok (by kernel_rfl)⟩
theorem fn185 : FN Tryz.prog 185 (Tryz.f185, []) := ⟨Tryz.func185, by kernel_rfl, body_ok (by kernel_rfl)⟩
theorem fn186 : FN Tryz.prog 186 (Tryz.f186, []) := ⟨Tryz.func186, by kernel_rfl, body_ok (by kernel_rfl)⟩
theorem fn187 : FN Tryz.prog 187 (Tryz.f187, sc187) := ⟨Tryz.func187, by kernel_rfl, body_ok (by kernel_rfl)⟩
theorem fn188 : FN Tryz.prog 188 (Tryz.f188, []) := ⟨Tryz.func188, by kernel_rfl, body_ok (by kernel_rfl)⟩
theorem fn189 : FN Tryz.prog 189 (Tryz.f189, sc189) := ⟨Tryz.func189, by kernel_rfl, body_ok (by kernel_rfl)⟩
theorem fn190 : FN Tryz.prog 190 (Tryz.f190, sc190) := ⟨Tryz.func190, by kernel_rfl, body_ok (by kernel_rfl)⟩
theorem fn191 : FN Tryz.prog 191 (Tryz.f191, sc191) := ⟨Tryz.func191, by kernel_rfl, body_ok (by kernel_rfl)⟩
theorem fn192 : FN Tryz.prog 192 (Tryz.f192, sc192) := ⟨Tryz.func192, by kernel_rfl, body_ok (by kernel_rfl)⟩
theorem fn193 : FN Tryz.prog 193 (Tryz.f193, sc193) := ⟨Tryz.func193, by kernel_rfl, body_ok (by kernel_rfl)⟩
theorem fn194 : FN Tryz.prog 194 (Tryz.f194, []) := ⟨Tryz.func194, by kernel_rfl, body_ok (by kernel_rfl)⟩
theorem fn195 : FN Tryz.prog 195 (Tryz.f195, sc195) := ⟨Tryz.func195, by kernel_rfl, body_ok (by kernel_rfl)⟩
theorem fn196 : FN Tryz.prog 196 (Tryz.f196, sc196) := ⟨Tryz.func196, by kernel_rfl, body_ok (by kernel_rfl)⟩
theorem fn197 : FN Tryz.prog 197 (Tryz.f197, []) := ⟨Tryz.func197, by kernel_rfl, body_ok (by kernel_rfl)⟩
theorem fn198 : FN Tryz.prog 198 (Tryz.f198, []) := ⟨Tryz.func198, by kernel_rfl, body_ok (by kernel_rfl)⟩
theorem fn199 : FN Tryz.prog 199 (Tryz.f199, []) := ⟨Tryz.func199, by kernel_rfl, body_ok (by kernel_rfl)⟩
theorem fn200 : FN Tryz.prog 200 (Tryz.f200, []) := ⟨Tryz.func200, by kernel_rfl, body_ok (by kernel_rfl)⟩
theorem fn201 : FN Tryz.prog 201 (Tryz.f201, []) := ⟨Tryz.func201, by kernel_rfl, body_ok (by kernel_rfl)⟩
theorem fn202 : FN Tryz.prog 202 (Tryz.f202, []) := ⟨Tryz.func202, by kernel_rfl, body_ok (by kernel_rfl)⟩
theorem fn203 : FN Tryz.prog 203 (Tryz.f203, []) := ⟨Tryz.func203, by kernel_rfl, body_ok (by kernel_rfl)⟩
theorem fn204 : FN Tryz.prog 204 (Tryz.f204, []) := ⟨Tryz.func204, by kernel_rfl, body_ok (by kernel_rfl)⟩
theorem fn205 : FN Tryz.prog 205 (Tryz.f205, []) := ⟨Tryz.func205, by kernel_rfl, body_ok (by kernel_rfl)⟩
theorem fn206 : FN Tryz.prog 206 (Tryz.f206, []) := ⟨Tryz.func206, by kernel_rfl, body_ok (by kernel_rfl)⟩
theorem fn207 : FN Tryz.prog 207 (Tryz.f207, []) := ⟨Tryz.func207, by kernel_rfl, body_ok (by kernel_rfl)⟩
theorem fn208 : FN Tryz.prog 208 (Tryz.f208, []) := ⟨Tryz.func208, by kernel_rfl, body_ok (by kernel_rfl)⟩
theorem fn209 : FN Tryz.prog 209 (Tryz.f209, []) := ⟨Tryz.func209, by kernel_rfl, body_ok (by kernel_rfl)⟩
theorem fn210 : FN Tryz.prog 210 (Tryz.f210, []) := ⟨Tryz.func210, by kernel_rfl, body_ok (by kernel_rfl)⟩
theorem fn211 : FN Tryz.prog 211 (Tryz.f211, sc211) := ⟨Tryz.func211, by kernel_rfl, body_ok (by kernel_rfl)⟩
theorem fn212 : FN Tryz.prog 212 (Tryz.f212, []) := ⟨Tryz.func212, by kernel_rfl, body_ok (by kernel_rfl)⟩
theorem fn213 : FN Tryz.prog 213 (Tryz.f213, []) := ⟨Tryz.func213, by kernel_rfl, body_ok (by kernel_rfl)⟩
theorem fn214 : FN Tryz.prog 214 (Tryz.f214, []) := ⟨Tryz.func214, by kernel_rfl, body_ok (by kernel_rfl)⟩
theorem fn215 : FN Tryz.prog 215 (Tryz.f215, []) := ⟨Tryz.func215, by kernel_rfl, body_ok (by kernel_rfl)⟩
theorem fn216 : FN Tryz.prog 216 (Tryz.f216, sc216) := ⟨Tryz.func216, by kernel_rfl, body_ok (by kernel_rfl)⟩
theorem fn217 : FN Tryz.prog 217 (Tryz.f217, sc217) := ⟨Tryz.func217, by kernel_rfl, body_ok (by kernel_rfl)⟩
theorem fn218 : FN Tryz.prog 218 (Tryz.f218, []) := ⟨Tryz.func218, by kernel_rfl, body_ok (by kernel_rfl)⟩
theorem fn219 : FN Tryz.prog 219 (Tryz.f219, []) := ⟨Tryz.func219, by kernel_rfl, body_ok (by kernel_rfl)⟩
theorem fn220 : FN Tryz.prog 220 (Tryz.f220, []) := ⟨Tryz.func220, by kernel_rfl, body_ok (by kernel_rfl)⟩
theorem fn221 : FN Tryz.prog 221 (Tryz.f221, []) := ⟨Tryz.func221, by kernel_rfl, body_ok (by kernel_rfl)⟩
theorem fn222 : FN Tryz.prog 222 (Tryz.f222, []) := ⟨Tryz.func222, by kernel_rfl, body_ok (by kernel_rfl)⟩
theorem fn223 : FN Tryz.prog 223 (Tryz.f223, []) := ⟨Tryz.func223, by kernel_rfl, body_ok (by kernel_rfl)⟩
theorem fn224 : FN Tryz.prog 224 (Tryz.f224, []) := ⟨Tryz.func224, by kernel_rfl, body_ok (by kernel_rfl)⟩
theorem fn225 : FN Tryz.prog 225 (Tryz.f225, sc225) := ⟨Tryz.func225, by kernel_rfl, body_ok (by kernel_rfl)⟩
theorem fn226 : FN Tryz.prog 226 (Tryz.f226, []) := ⟨Tryz.func226, by kernel_rfl, body_ok (by kernel_rfl)⟩
theorem fn227 : FN Tryz.prog 227 (Tryz.f227, []) := ⟨Tryz.func227, by kernel_rfl, body_ok (by kernel_rfl)⟩
theorem fn228 : FN Tryz.prog 228 (Tryz.f228, sc228) := ⟨Tryz.func228, by kernel_rfl, body_ok (by kernel_rfl)⟩
theorem fn229 : FN Tryz.prog 229 (Tryz.f229, sc229) := ⟨Tryz.func229, by kernel_rfl, body_ok (by kernel_rfl)⟩
theorem fn230 : FN Tryz.prog 230 (Tryz.f230, sc230) := ⟨Tryz.func230, by kernel_rfl, body_ok (by kernel_rfl)⟩
theorem fn231 : FN Tryz.prog 231 (Tryz.f231, sc231) := ⟨Tryz.func231, by kernel_rfl, body_ok (by kernel_rfl)⟩
theorem fn232 : FN Tryz.prog 232 (Tryz.f232, []) := ⟨Tryz.func232, by kernel_rfl, body_ok (by kernel_rfl)⟩
theorem fn233 : FN Tryz.prog 233 (Tryz.f233, []) := ⟨Tryz.func233, by kernel_rfl, body_ok (by kernel_rfl)⟩
theorem fn234 : FN Tryz.prog 234 (Tryz.f234, []) := ⟨Tryz.func234, by kernel_rfl, body_ok (by kernel_rfl)⟩
theorem fn235 : FN Tryz.prog 235 (Tryz.f235, []) := ⟨Tryz.func235, by kernel_rfl, body_ok (by kernel_rfl)⟩
theorem fn236 : FN Tryz.prog 236 (Tryz.f236, []) := ⟨Tryz.func236, by kernel_rfl, body_ok (by kernel_rfl)⟩
theorem fn237 : FN Tryz.prog 237 (Tryz.f237, []) := ⟨Tryz.func237, by kernel_rfl, body_ok (by kernel_rfl)⟩
theorem fn238 : FN Tryz.prog 238 (Tryz.f238, []) := ⟨Tryz.func238, by kernel_rfl, body_ok (by kernel_rfl)⟩
theorem fn239 : FN Tryz.prog 239 (Tryz.f239, sc239) := ⟨Tryz.func239, by kernel_rfl, body_ok (by kernel_rfl)⟩
theorem fn240 : FN Tryz.prog 240 (Tryz.f240, sc240) := ⟨Tryz.func240, by kernel_rfl, body_ok (by kernel_rfl)⟩
theorem fn241 : FN Tryz.prog 241 (Tryz.f241, []) := ⟨Tryz.func241, by kernel_rfl, body_ok (by kernel_rfl)⟩
theorem fn242 : FN Tryz.prog 242 (Tryz.f242, []) := ⟨Tryz.func242, by kernel_rfl, body_ok (by kernel_rfl)⟩
theorem fn243 : FN Tryz.prog 243 (Tryz.f243, []) := ⟨Tryz.func243, by kernel_rfl, body_ok (by kernel_rfl)⟩
theorem fn244 : FN Tryz.prog 244 (Tryz.f244, []) := ⟨Tryz.func244, by kernel_rfl, body_ok (by kernel_rfl)⟩
theorem fn245 : FN Tryz.prog 245 (Tryz.f245, []) := ⟨Tryz.func245, by kernel_rfl, body_ok (by kernel_rfl)⟩
theorem fn246 : FN Tryz.prog 246 (Tryz.f246, []) := ⟨Tryz.func246, by kernel_rfl, body_ok (by kernel_rfl)⟩
theorem fn247 : FN Tryz.prog 247 (Tryz.f247, []) := ⟨Tryz.func247, by kernel_rfl, body_ok (by kernel_rfl)⟩
theorem fn248 : FN Tryz.prog 248 (Tryz.f248, []) := ⟨Tryz.func248, by kernel_rfl, body_ok (by kernel_rfl)⟩
theorem fn249 : FN Tryz.prog 249 (Tryz.f249, []) := ⟨Tryz.func249, by kernel_rfl, body_ok (by kernel_rfl)⟩
theorem fn250 : FN Tryz.prog 250 (Tryz.f250, []) := ⟨Tryz.func250, by kernel_rfl, body_ok (by kernel_rfl)⟩
theorem fn251 : FN Tryz.prog 251 (Tryz.f251, []) := ⟨Tryz.func251, by kernel_rfl, body_ok (by kernel_rfl)⟩
theorem fn252 : FN Tryz.prog 252 (Tryz.f252, []) := ⟨Tryz.func252, by kernel_rfl, body_ok (by kernel_rfl)⟩
theorem fn253 : FN Tryz.prog 253 (Tryz.f253, []) := ⟨Tryz.func253, by kernel_rfl, body_ok (by kernel_rfl)⟩
theorem fn254 : FN Tryz.prog 254 (Tryz.f254, []) := ⟨Tryz.func254, by kernel_rfl, body_ok (by kernel_rfl)⟩
theorem fn255 : FN Tryz.prog 255 (Tryz.f255, []) := ⟨Tryz.func255, by kernel_rfl, body_ok (by kernel_rfl)⟩
theorem fn256 : FN Tryz.prog 256 (Tryz.f256, []) := ⟨Tryz.func256, by kernel_rfl, body_ok (by kernel_rfl)⟩
theorem fn257 : FN Tryz.prog 257 (Tryz.f257, sc257) := ⟨Tryz.func257, by kernel_rfl, body_ok (by kernel_rfl)⟩
theorem fn258 : FN Tryz.prog 258 (Tryz.f258, []) := ⟨Tryz.func258, by kernel_rfl, body_ok (by kernel_rfl)⟩
theorem fn259 : FN Tryz.prog 259 (Tryz.f259, sc259) := ⟨Tryz.func259, by kernel_rfl, body_ok (by kernel_rfl)⟩
theorem fn260 : FN Tryz.prog 260 (Tryz.f260, []) := ⟨Tryz.func260, by kernel_rfl, body_ok (by kernel_rfl)⟩
theorem fn261 : FN Tryz.prog 261 (Tryz.f261, sc261) := ⟨Tryz.func261, by kernel_rfl, body_ok (by kernel_rfl)⟩
theorem fn262 : FN Tryz.prog 262 (Tryz.f262, sc262) := ⟨Tryz.func262, by kernel_rfl, body_ok (by kernel_rfl)⟩
theorem fsS_ok : FS Tryz.prog fsS := fun id fn sc h => by
  have hc : allP (FN Tryz.prog) 0 1 fsS := ⟨trivial, ⟨trivial, ⟨fn3, ⟨fn7, ⟨fn15, ⟨fn31, ⟨fn63, ⟨fn127, ⟨fn255, trivial, trivial⟩, trivial⟩, ⟨fn191, trivial, trivial⟩⟩, ⟨fn95, ⟨fn159, trivial, trivial⟩, ⟨fn223, trivial, trivial⟩⟩⟩, ⟨fn47, ⟨fn79, ⟨fn143, trivial, trivial⟩, ⟨fn207, trivial, trivial⟩⟩, ⟨fn111, ⟨fn175, trivial, trivial⟩, ⟨fn239, trivial, trivial⟩⟩⟩⟩, ⟨fn23, ⟨fn39, ⟨fn71, ⟨fn135, trivial, trivial⟩, ⟨fn199, trivial, trivial⟩⟩, ⟨fn103, ⟨fn167, trivial, trivial⟩, ⟨fn231, trivial, trivial⟩⟩⟩, ⟨fn55, ⟨fn87, ⟨fn151, trivial, trivial⟩, ⟨fn215, trivial, trivial⟩⟩, ⟨fn119, ⟨fn183, trivial, trivial⟩, ⟨fn247, trivial, trivial⟩⟩⟩⟩⟩, ⟨fn11, ⟨fn19, ⟨fn35, ⟨fn67, ⟨fn131, ⟨fn259, trivial, trivial⟩, trivial⟩, ⟨fn195, trivial, trivial⟩⟩, ⟨fn99, ⟨fn163, trivial, trivial⟩, ⟨fn227, trivial, trivial⟩⟩⟩, ⟨fn51, ⟨fn83, ⟨fn147, trivial, trivial⟩, ⟨fn211, trivial, trivial⟩⟩, ⟨fn115, ⟨fn179, trivial, trivial⟩, ⟨fn243, trivial, trivial⟩⟩⟩⟩, ⟨fn27, ⟨fn43, ⟨fn75, ⟨fn139, trivial, trivial⟩, ⟨fn203, trivial, trivial⟩⟩, ⟨fn107, ⟨fn171, trivial, trivial⟩, ⟨fn235, trivial, trivial⟩⟩⟩, ⟨fn59, ⟨fn91, ⟨fn155, trivial, trivial⟩, ⟨fn219, trivial, trivial⟩⟩, ⟨fn123, ⟨fn187, trivial, trivial⟩, ⟨fn251, trivial, trivial⟩⟩⟩⟩⟩⟩, ⟨fn5, ⟨fn9, ⟨fn17, ⟨fn33, ⟨fn65, ⟨fn129, ⟨fn257, trivial, trivial⟩, trivial⟩, ⟨fn193, trivial, trivial⟩⟩, ⟨fn97, ⟨fn161, trivial, trivial⟩, ⟨fn225, trivial, trivial⟩⟩⟩, ⟨fn49, ⟨fn81, ⟨fn145, trivial, trivial⟩, ⟨fn209, trivial, trivial⟩⟩, ⟨fn113, ⟨fn177, trivial, trivial⟩, ⟨fn241, trivial, trivial⟩⟩⟩⟩, ⟨fn25, ⟨fn41, ⟨fn73, ⟨fn137, trivial, trivial⟩, ⟨fn201, trivial, trivial⟩⟩, ⟨fn105, ⟨fn169, trivial, trivial⟩, ⟨fn233, trivial, trivial⟩⟩⟩, ⟨fn57, ⟨fn89, ⟨fn153, trivial, trivial⟩, ⟨fn217, trivial, trivial⟩⟩, ⟨fn121, ⟨fn185, trivial, trivial⟩, ⟨fn249, trivial, trivial⟩⟩⟩⟩⟩, ⟨fn13, ⟨fn21, ⟨fn37, ⟨fn69, ⟨fn133, ⟨fn261, trivial, trivial⟩, trivial⟩, ⟨fn197, trivial, trivial⟩⟩, ⟨fn101, ⟨fn165, trivial, trivial⟩, ⟨fn229, trivial, trivial⟩⟩⟩, ⟨fn53, ⟨fn85, ⟨fn149, trivial, trivial⟩, ⟨fn213, trivial, trivial⟩⟩, ⟨fn117, ⟨fn181, trivial, trivial⟩, ⟨fn245, trivial, trivial⟩⟩⟩⟩, ⟨fn29, ⟨fn45, ⟨fn77, ⟨fn141, trivial, trivial⟩, ⟨fn205, trivial, trivial⟩⟩, ⟨fn109, ⟨fn173, trivial, trivial⟩, ⟨fn237, trivial, trivial⟩⟩⟩, ⟨fn61, ⟨fn93, ⟨fn157, trivial, trivial⟩, ⟨fn221, trivial, trivial⟩⟩, ⟨fn125, ⟨fn189, trivial, trivial⟩, ⟨fn253, trivial, trivial⟩⟩⟩⟩⟩⟩⟩, ⟨trivial, ⟨fn4, ⟨fn8, ⟨fn16, ⟨fn32, ⟨fn64, ⟨fn128, ⟨fn256, trivial, trivial⟩, trivial⟩, ⟨fn192, trivial, trivial⟩⟩, ⟨fn96, ⟨fn160, trivial, trivial⟩, ⟨fn224, trivial, trivial⟩⟩⟩, ⟨fn48, ⟨fn80, ⟨fn144, trivial, trivial⟩, ⟨fn208, trivial, trivial⟩⟩, ⟨fn112, ⟨fn176, trivial, trivial⟩, ⟨fn240, trivial, trivial⟩⟩⟩⟩, ⟨fn24, ⟨fn40, ⟨fn72, ⟨fn136, trivial, trivial⟩, ⟨fn200, trivial, trivial⟩⟩, ⟨fn104, ⟨fn168, trivial, trivial⟩, ⟨fn232, trivial, trivial⟩⟩⟩, ⟨fn56, ⟨fn88, ⟨fn152, trivial, trivial⟩, ⟨fn216, trivial, trivial⟩⟩, ⟨fn120, ⟨fn184, trivial, trivial⟩, ⟨fn248, trivial, trivial⟩⟩⟩⟩⟩, ⟨fn12, ⟨fn20, ⟨fn36, ⟨fn68, ⟨fn132, ⟨fn260, trivial, trivial⟩, trivial⟩, ⟨fn196, trivial, trivial⟩⟩, ⟨fn100, ⟨fn164, trivial, trivial⟩, ⟨fn228, trivial, trivial⟩⟩⟩, ⟨fn52, ⟨fn84, ⟨fn148, trivial, trivial⟩, ⟨fn212, trivial, trivial⟩⟩, ⟨fn116, ⟨fn180, trivial, trivial⟩, ⟨fn244, trivial, trivial⟩⟩⟩⟩, ⟨fn28, ⟨fn44, ⟨fn76, ⟨fn140, trivial, trivial⟩, ⟨fn204, trivial, trivial⟩⟩, ⟨fn108, ⟨fn172, trivial, trivial⟩, ⟨fn236, trivial, trivial⟩⟩⟩, ⟨fn60, ⟨fn92, ⟨fn156, trivial, trivial⟩, ⟨fn220, trivial, trivial⟩⟩, ⟨fn124, ⟨fn188, trivial, trivial⟩, ⟨fn252, trivial, trivial⟩⟩⟩⟩⟩⟩, ⟨fn6, ⟨fn10, ⟨fn18, ⟨fn34, ⟨fn66, ⟨fn130, ⟨fn258, trivial, trivial⟩, trivial⟩, ⟨fn194, trivial, trivial⟩⟩, ⟨fn98, ⟨fn162, trivial, trivial⟩, ⟨fn226, trivial, trivial⟩⟩⟩, ⟨fn50, ⟨fn82, ⟨fn146, trivial, trivial⟩, ⟨fn210, trivial, trivial⟩⟩, ⟨fn114, ⟨fn178, trivial, trivial⟩, ⟨fn242, trivial, trivial⟩⟩⟩⟩, ⟨fn26, ⟨fn42, ⟨fn74, ⟨fn138, trivial, trivial⟩, ⟨fn202, trivial, trivial⟩⟩, ⟨fn106, ⟨fn170, trivial, trivial⟩, ⟨fn234, trivial, trivial⟩⟩⟩, ⟨fn58, ⟨fn90, ⟨fn154, trivial, trivial⟩, ⟨fn218, trivial, trivial⟩⟩, ⟨fn122, ⟨fn186, trivial, trivial⟩, ⟨fn250, trivial, trivial⟩⟩⟩⟩⟩, ⟨fn14, ⟨fn22, ⟨fn38, ⟨fn70, ⟨fn134, ⟨fn262, trivial, trivial⟩, trivial⟩, ⟨fn198, trivial, trivial⟩⟩, ⟨fn102, ⟨fn166, trivial, trivial⟩, ⟨fn230, trivial, trivial⟩⟩⟩, ⟨fn54, ⟨fn86, ⟨fn150, trivial, trivial⟩, ⟨fn214, trivial, trivial⟩⟩, ⟨fn118, ⟨fn182, trivial, trivial⟩, ⟨fn246, trivial, trivial⟩⟩⟩⟩, ⟨fn30, ⟨fn46, ⟨fn78, ⟨fn142, trivial, trivial⟩, ⟨fn206, trivial, trivial⟩⟩, ⟨fn110, ⟨fn174, trivial, trivial⟩, ⟨fn238, trivial, trivial⟩⟩⟩, ⟨fn62, ⟨fn94, ⟨fn158, trivial, trivial⟩, ⟨fn222, trivial, trivial⟩⟩, ⟨fn126, ⟨fn190, trivial, trivial⟩, ⟨fn254, trivial, trivial⟩⟩⟩⟩⟩⟩⟩⟩
  have := allP_get fsS 0 1 id (fn, sc) hc h
  rw [Nat.zero_add, Nat.one_mul] at this
  exact this
theorem mixed_ok : Tryz.prog.follows .mixedOrders = true := by kernel_rfl
end Go.Proofs.YtpjgmeogkomhlaaGreat
