/-
  Ends and packets as rows of five cells: loaded and stored whole; what the functions make of them; no conditions but those named.
-/
import Derived.Test.YtoblckocmakakaaWf
import Derived.Test.YtoblckocmakakaaWi
import Derived.Test.YtoblckocmakakaaWc
namespace Go.Proofs.Ytoblckocmakakaa
open Go.RowKit
/-- An end's five cells, a packet's. -/
def lkA (l : Lk) (a : Option Addr) (cap : Nat) : Array Value := #[.int .i64 l.own, .int .i64 l.other, .int .i64 l.first, .slice a l.sent.length cap, .int .i64 l.next]
def pkA (p : Pk) (a : Option Addr) (cap : Nat) : Array Value := #[.int .i64 p.fr, .int .i64 p.to, .int .i64 p.place, .slice a p.words.length cap, .int .i64 p.wait]
def zlA : Array Value := #[.int .i64 0, .int .i64 0, .int .i64 0, .slice none 0 0, .int .i64 0]
def newL (own : Int) : Lk := ⟨own, 0, 0, [], 0⟩
def sendL (l : Lk) (x : Int) : Lk := { l with sent := l.sent ++ [x] }
def outL (l : Lk) : Pk := ⟨l.own, l.other, l.first, l.sent, l.next⟩
def rightL (l : Lk) : Bool := rightB l.own l.other l.first l.sent.length l.next
theorem lkA_one (l : Lk) (a : Option Addr) (cap : Nat) : (lkA l a cap).all (·.oneCell') = true := by simp [lkA, Value.oneCell']
theorem pkA_one (p : Pk) (a : Option Addr) (cap : Nat) : (pkA p a cap).all (·.oneCell') = true := by simp [pkA, Value.oneCell']
theorem size26 : (Try.prog.info? 26).map (·.size) = some 5 := by kernel_rfl
theorem size38 : (Try.prog.info? 38).map (·.size) = some 5 := by kernel_rfl
theorem newC (own : Int) (w : World) (h1 : 1 ≤ own) (h2 : own ≤ 4611686018427387904) : Calls Try.prog 11 #[.int .i64 own] w fun e w' => e = .returned (.tuple #[.agg (lkA (newL own) none 0), .int .i64 0]) ∧ Below w.heap.size w w' := new_yes own w h1 h2
theorem sendC (l : Lk) (a : Option Addr) (cap : Nat) (x : Int) (w : World) (h : SlIs w a l.sent) (hl : l.sent.length ≤ 7) (hcap : l.sent.length ≤ cap) :
    Calls Try.prog 12 #[.agg (lkA l a cap), .int .i64 x] w fun e w' => ∃ a' cap', e = .returned (.tuple #[.agg (lkA (sendL l x) a' cap'), .int .i64 0]) ∧ Since' w.heap.size a' ∧ SlIs w' a' (sendL l x).sent ∧ (sendL l x).sent.length ≤ cap' ∧ Below w.heap.size w w' :=
  send_yes l.own l.other l.first a l.sent cap l.next x w h hl hcap
theorem sendF (l : Lk) (a : Option Addr) (cap : Nat) (x : Int) (w : World) (hl : 8 ≤ l.sent.length) (hm : l.sent.length ≤ 100) :
    Calls Try.prog 12 #[.agg (lkA l a cap), .int .i64 x] w fun e w' => e = .returned (.tuple #[.agg (lkA l a cap), .int .i64 7]) ∧ Below w.heap.size w w' :=
  send_full l.own l.other l.first a l.sent.length cap l.next x w hl (by omega)
theorem outC (l : Lk) (a : Option Addr) (cap : Nat) (w : World) (h : SlIs w a l.sent) (hl : l.sent.length ≤ 100) :
    Calls Try.prog 13 #[.agg (lkA l a cap)] w fun e w' => ∃ a', e = .returned (.agg (pkA (outL l) a' l.sent.length)) ∧ Since' w.heap.size a' ∧ SlIs w' a' (outL l).words ∧ Below w.heap.size w w' :=
  out_any l.own l.other l.first a l.sent cap l.next w h hl
theorem inC (l : Lk) (p : Pk) (a pa : Option Addr) (cap pcap : Nat) (w : World) (h1 : SlIs w a l.sent) (h2 : SlIs w pa p.words) (hl : p.words.length ≤ 9223372036854775807) (hs : l.sent.length ≤ 100) (hcap : l.sent.length ≤ cap) (hpcap : p.words.length ≤ pcap)
    (hf : 0 ≤ l.first ∧ l.first ≤ 4611686018427387904) (hn : 0 ≤ l.next ∧ l.next ≤ 4611686018427387904) :
    Calls Try.prog 14 #[.agg (lkA l a cap), .agg (pkA p pa pcap)] w fun e w' => ∃ a' cap' ta, e = .returned (.tuple #[.agg (lkA (inL l p).1 a' cap'), .slice ta (inL l p).2.length (inL l p).2.length]) ∧ From a a' ∧ Since' w.heap.size ta ∧ SlIs w' a' (inL l p).1.sent ∧ (inL l p).1.sent.length ≤ cap' ∧ SlIs w' ta (inL l p).2 ∧ Below w.heap.size w w' :=
  in14 l p a pa cap pcap w hl hs hcap hpcap h1 h2 hf hn
theorem rightC (l : Lk) (a : Option Addr) (cap : Nat) (w : World) (hl : l.sent.length ≤ 9223372036854775807) : Calls Try.prog 18 #[.agg (lkA l a cap)] w fun e w' => e = .returned (.bool (rightL l)) ∧ Below w.heap.size w w' := right18 _ _ _ _ _ _ _ hl w
theorem rrightC (l : Lk) (a : Option Addr) (cap : Nat) (w : World) (hl : l.sent.length ≤ 9223372036854775807) : Calls Try.prog 16 #[.agg (lkA l a cap)] w fun e w' => e = .returned (.bool (rightL l)) ∧ Below w.heap.size w w' := right16 _ _ _ _ _ _ _ hl w
theorem sameC (l m : Lk) (a b : Option Addr) (ca cb : Nat) (w : World) (hx : l.sent.length ≤ 9223372036854775807) (ha : SlIs w a l.sent) (hb : SlIs w b m.sent) : Calls Try.prog 20 #[.agg (lkA l a ca), .agg (lkA m b cb)] w fun e w' => e = .returned (.bool (sameB l m)) ∧ Below w.heap.size w w' := same20 _ _ _ _ _ _ _ _ _ _ _ _ _ _ hx w ha hb
theorem rsameC (l m : Lk) (a b : Option Addr) (ca cb : Nat) (w : World) (hx : l.sent.length ≤ 9223372036854775807) (ha : SlIs w a l.sent) (hb : SlIs w b m.sent) : Calls Try.prog 17 #[.agg (lkA l a ca), .agg (lkA m b cb)] w fun e w' => e = .returned (.bool (sameB l m)) ∧ Below w.heap.size w w' := by
  rw [← same17_eq]
  exact same17 _ _ _ _ _ _ _ _ _ _ _ _ _ _ hx w ha hb
theorem wl_load26 {ops : Array Oper} {rest : List Oper} {o : Oper} {a : Act} {w : World} {Q : Exit → Act → World → Prop} (hgd : o.guard = none) (x : Operand) (ho : o.op = .load 26 x)
    (b : Nat) (hx : a.eval x = .pointer (some ⟨b, 0, none⟩)) (l : Lk) (r : Option Addr) (cap : Nat) (hb : w.heap[b]? = some (.cells (lkA l r cap) 26 (0, 0)))
    (h : wpList Try.prog ops Q rest (a.put o.dst (.agg (lkA l r cap))) w) : wpList Try.prog ops Q (o :: rest) a w :=
  wpList_load_row hgd 26 x ho b hx 26 (lkA l r cap) (0, 0) _ hb Try.underlying26 rfl size26 h
theorem wl_load26g {ops : Array Oper} {rest : List Oper} {o : Oper} {a : Act} {w : World} {Q : Exit → Act → World → Prop} (hw : Region.wanted o (yielded ops a.tmps) = true) (x : Operand) (ho : o.op = .load 26 x)
    (b : Nat) (hx : a.eval x = .pointer (some ⟨b, 0, none⟩)) (l : Lk) (r : Option Addr) (cap : Nat) (hb : w.heap[b]? = some (.cells (lkA l r cap) 26 (0, 0)))
    (h : wpList Try.prog ops Q rest (a.put o.dst (.agg (lkA l r cap))) w) : wpList Try.prog ops Q (o :: rest) a w :=
  wpList_step fun _ hK => by
    rw [if_pos hw]
    exact wp_load_row 26 x ho b hx 26 (lkA l r cap) (0, 0) _ hb Try.underlying26 rfl size26 (hK _ _ h)
theorem wl_load38 {ops : Array Oper} {rest : List Oper} {o : Oper} {a : Act} {w : World} {Q : Exit → Act → World → Prop} (hgd : o.guard = none) (x : Operand) (ho : o.op = .load 38 x)
    (b : Nat) (hx : a.eval x = .pointer (some ⟨b, 0, none⟩)) (p : Pk) (r : Option Addr) (cap : Nat) (hb : w.heap[b]? = some (.cells (pkA p r cap) 38 (0, 0)))
    (h : wpList Try.prog ops Q rest (a.put o.dst (.agg (pkA p r cap))) w) : wpList Try.prog ops Q (o :: rest) a w :=
  wpList_load_row hgd 38 x ho b hx 38 (pkA p r cap) (0, 0) _ hb Try.underlying38 rfl size38 h
theorem wl_store26 {ops : Array Oper} {rest : List Oper} {o : Oper} {a : Act} {w : World} {Q : Exit → Act → World → Prop} (hgd : o.guard = none) (x y : Operand) (ho : o.op = .store 26 x y)
    (b : Nat) (l : Lk) (r : Option Addr) (cap : Nat) (hx : a.eval x = .pointer (some ⟨b, 0, none⟩)) (hy : a.eval y = .agg (lkA l r cap)) (l' : Lk) (r' : Option Addr) (cap' : Nat) (hb : w.heap[b]? = some (.cells (lkA l' r' cap') 26 (0, 0)))
    (h : wpList Try.prog ops Q rest (a.put o.dst undef) (w.setRow b (lkA l r cap))) : wpList Try.prog ops Q (o :: rest) a w :=
  wpList_store_row hgd 26 x y ho b (lkA l r cap) hx hy 26 (lkA l' r' cap') hb size26 rfl (lkA_one _ _ _) h
theorem setRow_new (w : World) (c c' : Array Value) (t : TypeId) (n : Nat) (hn : n = w.heap.size) : (w.alloc (.cells c t)).setRow n c' = w.alloc (.cells c' t) := by
  subst hn; exact World.setRow_alloc_new w c c' t
theorem heap_at (w : World) (o : Obj) (i : Nat) (h : i = w.heap.size) : (w.alloc o).heap[i]? = some o := by subst h; exact heap_alloc_new w o
theorem wl_store26n {ops : Array Oper} {rest : List Oper} {o : Oper} {a : Act} {W : World} {Q : Exit → Act → World → Prop} (hgd : o.guard = none) (x y : Operand) (ho : o.op = .store 26 x y)
    (b : Nat) (l : Lk) (r : Option Addr) (cap : Nat) (hx : a.eval x = .pointer (some ⟨b, 0, none⟩)) (hy : a.eval y = .agg (lkA l r cap)) (w : World) (hW : W = w.alloc (.cells zlA 26)) (hb : b = w.heap.size)
    (h : wpList Try.prog ops Q rest (a.put o.dst undef) (w.alloc (.cells (lkA l r cap) 26))) : wpList Try.prog ops Q (o :: rest) a W := by
  subst hW
  refine wpList_store_row hgd 26 x y ho b (lkA l r cap) hx hy 26 zlA (heap_at _ _ _ hb) size26 rfl (lkA_one _ _ _) ?_
  rw [setRow_new _ _ _ _ _ hb]
  exact h
theorem wl_store38n {ops : Array Oper} {rest : List Oper} {o : Oper} {a : Act} {W : World} {Q : Exit → Act → World → Prop} (hgd : o.guard = none) (x y : Operand) (ho : o.op = .store 38 x y)
    (b : Nat) (p : Pk) (r : Option Addr) (cap : Nat) (hx : a.eval x = .pointer (some ⟨b, 0, none⟩)) (hy : a.eval y = .agg (pkA p r cap)) (w : World) (hW : W = w.alloc (.cells zlA 38)) (hb : b = w.heap.size)
    (h : wpList Try.prog ops Q rest (a.put o.dst undef) (w.alloc (.cells (pkA p r cap) 38))) : wpList Try.prog ops Q (o :: rest) a W := by
  subst hW
  refine wpList_store_row hgd 38 x y ho b (pkA p r cap) hx hy 38 zlA (heap_at _ _ _ hb) size38 rfl (pkA_one _ _ _) ?_
  rw [setRow_new _ _ _ _ _ hb]
  exact h
/-- An end's block, a packet's. -/
def lkO (l : Lk) (a : Option Addr) (cap : Nat) : Obj := .cells (lkA l a cap) 26 (0, 0)
def pkO (p : Pk) (a : Option Addr) (cap : Nat) : Obj := .cells (pkA p a cap) 38 (0, 0)
theorem Inv.setRow {B : Nat} {w W : World} {L L' : List (Nat × Obj)} {g : Nat} {c c' : Array Value} {t : TypeId} (h : Inv B w L W) (hg : B ≤ g) (hm : (g, .cells c t) ∈ L) (hL : ∀ x ∈ L', x = (g, .cells c' t) ∨ (x ∈ L ∧ x.1 ≠ g)) : Inv B w L' (W.setRow g c') := by
  refine ⟨below_setRow h.1 hg c', by rw [setRow_size]; exact h.2.1, fun x hx => ?_⟩
  rcases hL x hx with rfl | ⟨hx, hne⟩
  · exact setRow_heap _ _ _ _ _ _ (h.2.2 _ hm)
  · rw [setRow_other _ _ _ _ hne]; exact h.2.2 x hx
theorem SlIs.setRow {W : World} {a : Option Addr} {zs : List Int} (h : SlIs W a zs) {g : Nat} (c : Array Value) (hg : Apart g a) : SlIs (W.setRow g c) a zs := by
  rcases h with h | ⟨b, off, rfl, hlt, hc⟩
  · exact Or.inl h
  · refine Or.inr ⟨b, off, rfl, by rw [setRow_size]; exact hlt, fun j hj => ?_⟩
    rw [← hc j hj]
    have e := setRow_other W g b c (hg b off rfl)
    simp only [World.cell?, e]
end Go.Proofs.Ytoblckocmakakaa
