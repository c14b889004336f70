/-
  What is known where the estimator's step is called: letters within bounds.
  The law's walk up to the estimator's step. No conditions but those named.
-/
import Derived.Test.YtpjgmeogkomhlaaGreatHt
import Derived.Test.YtpjgmeogkomhlaaGreatYd
import Derived.Test.YtpjgmeogkomhlaaGreatPl
import Derived.Laws.Rows
namespace Go.Proofs.YtpjgmeogkomhlaaGreat
open Go.RowKit
noncomputable def c3 : Code := match Tryz.f3.body with | some c => c | none => .skip
/-- From the step on. -/
noncomputable def rest3 : Code := sB (sB (sB c3))
def trkL (b : Nat) : List CV := [ii 3, ii 1, .slice (some (b, 0)) 1 3 (.var b 0), ii 3, ii 3, .slice (some (b + 1, 0)) 1 9 (.var (b + 1) 0)]
def confL : List CV := bndC 1 17179869184 6 37
def estL (sat : Bool) : List CV := bndC lowQ topQ 4 27 ++ trkL 0 ++ trkL 2 ++ trkL 4 ++ (.int .i64 (.bnd 31 0 1099511627776) :: bndC 0 1000 5 32) ++ [bb sat]
def sampL (m : Bool) (b g : BE) : List CV := bb m :: varC 6 43 ++ (.bool b :: varC 1 49) ++ (.bool g :: varC 3 50)
def rowsT : List (List CV) := [bndC lowQ topQ 3 0, ev9C 3, bndC lowQ topQ 3 9, ev9C 12, bndC lowQ topQ 3 18, ev9C 21]
def hT (sat m : Bool) (b g : BE) : CH := ⟨setRo 0 (rowsT ++ [confL, estL sat, sampL m b g]) .nil, 9, 53, 2, 6, []⟩
def tT : Tr CV := (((Tr.nil.set 3 (.ptr 6 0)).set 4 (.ptr 7 0)).set 5 (.ptr 8 0)).set 7 (bb true)
noncomputable def okT (t : Tr CV) (_ : CH) : Bool := match getK t 6 with | .bool (.lit true) => true | _ => false
noncomputable def runT (sat m : Bool) (b g : BE) : Bool := (runL Tryz.prog tsL fsS hookF 5000).2 [] 59 rest3 tT (hT sat m b g) (fun _ _ => false) (fun _ _ _ => false) okT
end Go.Proofs.YtpjgmeogkomhlaaGreat
namespace Go.Proofs.YtpjgmeogkomhlaaGreat
open Go.RowKit
theorem size24 : (Tryz.prog.info? 24).map (·.size) = some 6 := by kernel_rfl
theorem size35 : (Tryz.prog.info? 35).map (·.size) = some 29 := by kernel_rfl
theorem wl_load24 {ops : Array Oper} {rest : List Oper} {o : Oper} {a : Act} {w : World} {Q : Exit → Act → World → Prop} (hgd : o.guard = none) (x : Operand) (ho : o.op = .load 24 x)
    (b : Nat) (hx : a.eval x = .pointer (some ⟨b, 0, none⟩)) (cv : Array Value) (hcv : cv.size = 6) (hb : w.heap[b]? = some (.cells cv 24 (0, 0)))
    (h : wpList Tryz.prog ops Q rest (a.put o.dst (.agg cv)) w) : wpList Tryz.prog ops Q (o :: rest) a w :=
  wpList_load_row hgd 24 x ho b hx 24 cv (0, 0) _ hb Tryz.underlying24 rfl (by rw [hcv]; exact size24) h
theorem wl_load35 {ops : Array Oper} {rest : List Oper} {o : Oper} {a : Act} {w : World} {Q : Exit → Act → World → Prop} (hw : Region.wanted o (yielded ops a.tmps) = true) (x : Operand) (ho : o.op = .load 35 x)
    (b : Nat) (hx : a.eval x = .pointer (some ⟨b, 0, none⟩)) (ev : Array Value) (hev : ev.size = 29) (hb : w.heap[b]? = some (.cells ev 35 (0, 0)))
    (h : wpList Tryz.prog ops Q rest (a.put o.dst (.agg ev)) w) : wpList Tryz.prog ops Q (o :: rest) a w :=
  wpList_step fun _ hK => by
    rw [if_pos hw]
    exact wp_load_row 35 x ho b hx 35 ev (0, 0) _ hb Tryz.underlying35 rfl (by rw [hev]; exact size35) (hK _ _ h)
/-- Three boxes, one behind the other. -/
structure Boxes (w : World) (cv ev sv : Array Value) (W : World) : Prop where
  bel : Below w.heap.size w W
  siz : w.heap.size + 3 ≤ W.heap.size
  c : W.heap[w.heap.size]? = some (.cells cv 24 (0, 0))
  e : W.heap[w.heap.size + 1]? = some (.cells ev 35 (0, 0))
  s : W.heap[w.heap.size + 2]? = some (.cells sv 39 (0, 0))
theorem Boxes.new (w : World) (cv ev sv : Array Value) : Boxes w cv ev sv (((w.alloc (.cells cv 24)).alloc (.cells ev 35)).alloc (.cells sv 39)) := by
  refine ⟨(((Below.refl _ w).alloc (Nat.le_refl _) _).alloc (by simp) _).alloc (by simp; omega) _, by simp, ?_, ?_, ?_⟩
  · rw [Below.heap_alloc _ _ _ (by simp; omega), Below.heap_alloc _ _ _ (by simp), World.alloc_heap_new]
  · rw [Below.heap_alloc _ _ _ (by simp)]
    have := World.alloc_heap_new (w.alloc (.cells cv 24)) (.cells ev 35)
    simpa using this
  · have := World.alloc_heap_new ((w.alloc (.cells cv 24)).alloc (.cells ev 35)) (.cells sv 39)
    simpa using this
theorem Boxes.call {w W W' : World} {cv ev sv : Array Value} (h : Boxes w cv ev sv W) (hb : Below W.heap.size W W') : Boxes w cv ev sv W' := by
  have h1 := h.siz
  exact ⟨h.bel.trans (hb.mono (by omega)), Nat.le_trans h1 hb.size, (hb.block _ (by omega)).trans h.c, (hb.block _ (by omega)).trans h.e, (hb.block _ (by omega)).trans h.s⟩
theorem c3_eq : Tryz.f3.body = some (.seq (sA c3) (.seq (sA (sB c3)) (.seq (sA (sB (sB c3))) rest3))) := by kernel_rfl
def TopP (w : World) (e : Ending) (w' : World) : Prop := e = .returned (.bool true) ∧ Below w.heap.size w w'
theorem TopP.of {w w' : World} (h : Below w.heap.size w w') : TopP w (.returned (.bool true)) w' := ⟨rfl, h⟩
set_option maxRecDepth 20000 in
set_option maxHeartbeats 2000000 in
theorem top_walk (up : ∀ W, Calls Tryz.prog 4 #[] W (fun e W' => e = .returned (.bool true) ∧ Below W.heap.size W W')) (cv ev sv : Array Value) (w : World) (hcv : cv.size = 6) (hev : ev.size = 29) (M E : Prop)
    (hm : ∀ W, Calls Tryz.prog 5 #[.agg cv] W (fun e W' => Below W.heap.size W W' ∧ ∃ r, e = .returned (.bool r) ∧ (r = true → M))) (hr : ∀ W, Below w.heap.size w W → Calls Tryz.prog 6 #[.agg ev] W (fun e W' => Below W.heap.size W W' ∧ ∃ r, e = .returned (.bool r) ∧ (r = true → E)))
    (hrest : M → E → ∀ W a, Boxes w cv ev sv W → a.tmps.size = 59 → a.defers = [] → a.tmps.getD 3 undef = .pointer (some ⟨w.heap.size, 0, none⟩) → a.tmps.getD 4 undef = .pointer (some ⟨w.heap.size + 1, 0, none⟩) → a.tmps.getD 5 undef = .pointer (some ⟨w.heap.size + 2, 0, none⟩) → a.tmps.getD 7 undef = .bool true → rest3.wp Tryz.prog (bodyPost Tryz.prog Tryz.f3 (TopP w)) a W) :
    Calls Tryz.prog 3 #[.agg cv, .agg ev, .agg sv] w (TopP w) := by
  have B0 := Lib.hid (Boxes.new w cv ev sv)
  refine calls_of_wp Tryz.func3 c3_eq ?_
  simp only [Tryz.ntmps3, List.size_toArray, List.length_cons, List.length_nil, Nat.reduceAdd, Nat.reduceSub, Array.replicate_succ, Array.replicate_zero, List.push_toArray, List.append_toArray, List.nil_append, List.cons_append]
  conv => arg 2; arg 1; whnf
  conv => arg 2; arg 2; arg 1; whnf
  conv => arg 2; arg 2; arg 2; arg 1; whnf
  go_wp2_with (first
    | (go_at_call 4; refine (up _).mono ?_; rintro e w1 ⟨rfl, hb⟩; have B1 := Lib.hid (B0.out.call hb); clear hb)
    | ((with_reducible show wpList _ _ _ (Oper.mk _ (Op.load 24 _) _ _ _ _ :: _) _ _); refine wl_load24 rfl _ rfl w.heap.size rfl cv hcv B1.out.c ?_)
    | ((with_reducible show wpList _ _ _ (Oper.mk _ (Op.load 35 _) _ _ _ (some _) :: _) _ _); refine wl_load35 rfl _ rfl (w.heap.size + 1) rfl ev hev B2.out.e ?_)
    | (go_at_call 5; refine (hm _).mono ?_; rintro e w2 ⟨hb, (_ | _), rfl, hM⟩ <;> (have B2 := Lib.hid (B1.out.call hb); have HM := Lib.hid hM; clear hb hM))
    | (go_at_call 6; refine (hr _ B2.out.bel).mono ?_; rintro e w3 ⟨hb, (_ | _), rfl, hE⟩ <;> (have B3 := Lib.hid (B2.out.call hb); have HE := Lib.hid hE; clear hb hE)))
  · exact bodyPost_ret (v := .bool true) (by simp [results, Tryz.results3, go_sem]) rfl (TopP.of B2.out.bel)
  · exact bodyPost_ret (v := .bool true) (by simp [results, Tryz.results3, go_sem]) rfl (TopP.of B3.out.bel)
  · exact hrest (HM.out trivial) (HE.out trivial) _ _ B3.out rfl rfl rfl rfl rfl rfl
end Go.Proofs.YtpjgmeogkomhlaaGreat
