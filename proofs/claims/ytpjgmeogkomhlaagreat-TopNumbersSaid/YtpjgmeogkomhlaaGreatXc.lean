/-
  Single operations, run on what is known: definitions. No conditions but those named.
-/
import Derived.Test.YtpjgmeogkomhlaaGreatPa
namespace Go.Proofs.YtpjgmeogkomhlaaGreat
open Go.RowKit
/-- What a run asks of a type: kind, size, whether its values are rows of cells, its zero. -/
inductive TK where
  | int (k : IntKind)
  | bool
  | struct (fs : List (Nat × Nat × Bool))
  | array (n es : Nat) (ea : Bool)
  | slice (e es : Nat)
  | ptr (e : Nat)
  | map (k e : Nat)
  | func
  | other
structure TI where
  (kind : TK)
  (size : Nat)
  (agg : Bool)
  (zero : CV)
def cvOf1 : Value → CV
  | .bool b => .bool (.lit b)
  | .int k n => .int k (.lit n)
  | .pointer none => .nilp
  | .slice none 0 0 => .slice none 0 0 (.lit 0)
  | .nilFunc => .nilf
  | _ => .any
def cvOf : Value → CV
  | .agg cs => .agg (cs.toList.map cvOf1)
  | v => cvOf1 v
def szB (P : Program) (t : TypeId) : Nat := match P.info? t with | some i => i.size | none => 0
def aggB (P : Program) (t : TypeId) : Bool := match P.underlying t with | some (.struct _) => true | some (.array _ _) => true | _ => false
def kindOf (P : Program) (t : TypeId) : TK :=
  match P.underlying t with
  | some (.int k) => .int k
  | some .bool => .bool
  | some (.struct fs) => if fs.toList.all (fun f => (P.underlying f.type).isSome) then .struct (fs.toList.map fun f => (f.offset, szB P f.type, aggB P f.type)) else .other
  | some (.array n e) => if (P.underlying e).isSome then .array n (szB P e) (aggB P e) else .other
  | some (.slice e) => .slice e (szB P e)
  | some (.pointer e) => .ptr e
  | some (.map k e) => .map k e
  | some (.func _ _ _) => .func
  | _ => .other
def tiOf (P : Program) (t : TypeId) : Option TI :=
  match P.info? t with
  | some i => if i.bytes ≤ 16777216 then match i.zero, P.underlying t with
    | some z, some _ => some ⟨kindOf P t, i.size, aggB P t, cvOf z⟩
    | _, _ => none
    else none
  | none => none
/-- A frame: how many places, what is known of each. -/
structure Fr where
  (n : Nat)
  (t : Tr CV)
def evC (f : Fr) : Operand → CV
  | .tmp t => match f.t.get t with | some c => c | none => .any
  | .const v => cvOf v
  | .global _ => .any
  | .func g => .func g [] []
def Fr.put (f : Fr) (dst : Option Tmp) (c : CV) : Fr :=
  match dst with
  | none => f
  | some d => { f with t := f.t.set d c }
/-- A value's cells. -/
def cellsC : CV → Option (List CV)
  | .any => none
  | .agg cs => some cs
  | .tup _ => none
  | .cond _ _ _ => none
  | c => some [c]
def oneC : CV → Bool
  | .agg _ => false
  | .tup _ => false
  | .any => false
  | .cond _ _ _ => false
  | _ => true
mutual
def IE.same : IE → IE → Bool
  | .lit a, .lit b => a == b
  | .var a, .var b => a == b
  | .add k a b, .add l c d => k == l && a.same c && b.same d
  | .sub k a b, .sub l c d => k == l && a.same c && b.same d
  | .mn a b, .mn c d => a.same c && b.same d
  | .mx a b, .mx c d => a.same c && b.same d
  | .conv k a, .conv l b => k == l && a.same b
  | .bnd i a b, .bnd j c d => i == j && a == c && b == d
  | .half a, .half b => a.same b
  | _, _ => false
end
mutual
def BE.same : BE → BE → Bool
  | .lit a, .lit b => a == b
  | .var a, .var b => a == b
  | .lt a b, .lt c d => a.same c && b.same d
  | .le a b, .le c d => a.same c && b.same d
  | .eq a b, .eq c d => a.same c && b.same d
  | .not a, .not b => a.same b
  | .beq a b, .beq c d => a.same c && b.same d
  | .ite a b c, .ite d e g => a.same d && b.same e && c.same g
  | _, _ => false
end
/-- Bounds that a number of 64 bits keeps. -/
def inR (l h : Int) : Option (Int × Int) := if -9223372036854775808 ≤ l ∧ h ≤ 9223372036854775807 then some (l, h) else none
/-- Between what a number lies. -/
def ivl : IE → Option (Int × Int)
  | .lit n => some (n, n)
  | .bnd _ lo hi => some (lo, hi)
  | .mn a b => match ivl a, ivl b with | some (l, h), some (l', h') => some (if l ≤ l' then l else l', if h ≤ h' then h else h') | _, _ => none
  | .mx a b => match ivl a, ivl b with | some (l, h), some (l', h') => some (if l ≤ l' then l' else l, if h ≤ h' then h' else h) | _, _ => none
  | .add .i64 a b => match ivl a, ivl b with | some (l, h), some (l', h') => inR (l + l') (h + h') | _, _ => none
  | .sub .i64 a b => match ivl a, ivl b with | some (l, h), some (l', h') => inR (l - h') (h - l') | _, _ => none
  | .conv .i64 a => match ivl a with | some (l, h) => inR l h | _ => none
  | .half a => match ivl a with | some (l, h) => some (halfN l, halfN h) | _ => none
  | _ => none
/-- What is settled by that. -/
def decB : BE → BE
  | .lt a b => match ivl a, ivl b with
    | some (l, h), some (l', h') => if h < l' then .lit true else if h' ≤ l then .lit false else .lt a b
    | _, _ => .lt a b
  | .le a b => match ivl a, ivl b with
    | some (l, h), some (l', h') => if h ≤ l' then .lit true else if h' < l then .lit false else .le a b
    | _, _ => .le a b
  | .eq a b => if a.same b then .lit true else match ivl a, ivl b with
    | some (l, h), some (l', h') => if h < l' then .lit false else if h' < l then .lit false else .eq a b
    | _, _ => .eq a b
  | .not e => match decB e with
    | .lit b => .lit (!b)
    | e' => .not e'
  | e => e
/-- What a value is where a truth holds. -/
def stripB (s : BE) (want : Bool) : CV → Option BE
  | .bool e => some e
  | .cond s' w (.bool e) => if s'.same s && w == want then some e else none
  | _ => none
def litI : CV → Option (IntKind × Int)
  | .int k (.lit n) => some (k, n)
  | _ => none
def litN (c : CV) : Option Nat :=
  match c with
  | .int _ (.lit n) => if 0 ≤ n then some n.toNat else none
  | _ => none
def pickC (c a b : CV) : Option CV :=
  match c with
  | .bool (.lit true) => some a
  | .bool (.lit false) => some b
  | .bool e => match stripB e true a, stripB e false b with
    | some x, some y => some (.bool (.ite e x y))
    | _, _ => none
  | _ => none
/-- What a pure reckoning of the model comes to. -/
def pureIn {α : Type} (P : Program) : Sem α → Option α
  | .pure a => some a
  | .program k => pureIn P (k P)
  | _ => none
def litV : CV → Option Value
  | .bool (.lit b) => some (.bool b)
  | .int k (.lit n) => some (.int k n)
  | _ => none
def litVs : List CV → Option (List Value)
  | [] => some []
  | c :: cs => match litV c, litVs cs with | some v, some vs => some (v :: vs) | _, _ => none
def groundV : CV → Option Value
  | .agg cs => match litVs cs with | some vs => some (.agg vs.toArray) | none => none
  | c => litV c
def binC (P : Program) (ts : Tr TI) (op : BinOp) (t : TypeId) (x y : CV) : Option CV :=
  match x, y with
  | .bool a, .bool b => match ts.get t with
    | some ⟨.bool, _, _, _⟩ => match op, a, b with
      | .eql, .lit u, .lit v => some (.bool (.lit (u == v)))
      | .neq, .lit u, .lit v => some (.bool (.lit (!(u == v))))
      | .eql, a, b => some (.bool (.beq a b))
      | .neq, a, b => some (.bool (.not (.beq a b)))
      | _, _, _ => none
    | _ => none
  | .int k (.lit a), .int l (.lit b) => match pureIn P (binOp op t (.int k a) (.int l b)) with | some v => some (cvOf v) | none => none
  | .int k a, .int l b => if k == l then
      match op with
      | .add => some (.int k (.add k a b))
      | .sub => some (.int k (.sub k a b))
      | .eql => some (.bool (decB (.eq a b)))
      | .neq => some (.bool (decB (.not (.eq a b))))
      | .lss => some (.bool (decB (.lt a b)))
      | .leq => some (.bool (decB (.le a b)))
      | .gtr => some (.bool (decB (.lt b a)))
      | .geq => some (.bool (decB (.le b a)))
      | _ => none
    else none
  | .slice a _ _ _, .slice none _ _ _ => match ts.get t, op with
    | some ⟨.slice _ _, _, _, _⟩, .eql => some (.bool (.lit a.isNone))
    | some ⟨.slice _ _, _, _, _⟩, .neq => some (.bool (.lit (!a.isNone)))
    | _, _ => none
  | .agg _, .agg _ => match groundV x, groundV y with
    | some a, some b => match op with
      | .eql => match pureIn P (Op.eqGuardIn Op.maxDepth t a b), pureIn P (Op.equal t a b) with | some false, some r => some (.bool (.lit r)) | _, _ => none
      | .neq => match pureIn P (Op.eqGuardIn Op.maxDepth t a b), pureIn P (Op.equal t a b) with | some false, some r => some (.bool (.lit (!r))) | _, _ => none
      | _ => none
    | _, _ => none
  | _, _ => none
def unC (P : Program) (op : UnOp) (x : CV) : Option CV :=
  match op, x with
  | .not, .bool (.lit b) => some (.bool (.lit (!b)))
  | .not, .bool e => some (.bool (.not e))
  | op, .int k (.lit n) => match pureIn P (Op.unary op (.int k n)) with | some v => some (cvOf v) | none => none
  | _, _ => none
def convC (ts : Tr TI) (src dst : TypeId) (x : CV) : Option CV :=
  match ts.get src, ts.get dst, x with
  | some ⟨.int _, _, _, _⟩, some ⟨.int k, _, _, _⟩, .int _ (.lit n) => some (.int k (.lit (k.wrap n)))
  | some ⟨.int _, _, _, _⟩, some ⟨.int k, _, _, _⟩, .int _ e => some (.int k (.conv k e))
  | _, _, _ => none
/-- Parts laid into a row. -/
def spliceC (cs : List CV) (off : Nat) (xs : List CV) : List CV := cs.take off ++ xs ++ cs.drop (off + xs.length)
def fillC (place : Nat → Option (Nat × Nat)) (cs : List CV) : List (Nat × CV) → Option (List CV)
  | [] => some cs
  | (i, c) :: rest => match place i, cellsC c with
    | some (off, size), some xs => if xs.length = size ∧ off + size ≤ cs.length then fillC place (spliceC cs off xs) rest else none
    | _, _ => none
def partC (agg : Bool) (size : Nat) (cs : List CV) (off : Nat) : Option CV :=
  if agg then some (.agg ((cs.drop off).take size)) else cs[off]?
def boundC (x : CV) (y : Nat) : Option Nat := match litN x with | some n => if n ≤ y then some n else none | none => none
/-- How much room a slice has at least. -/
def capLo (len : Nat) : CC → Nat
  | .lit n => n
  | .var _ _ => len
def minC : CV → CV → Option CV
  | .int k (.lit a), .int _ (.lit b) => some (.int k (.lit (if b < a then b else a)))
  | .int k a, .int _ b => some (.int k (.mn a b))
  | _, _ => none
def maxC : CV → CV → Option CV
  | .int k (.lit a), .int _ (.lit b) => some (.int k (.lit (if b > a then b else a)))
  | .int k a, .int _ b => some (.int k (.mx a b))
  | _, _ => none
def foldC (g : CV → CV → Option CV) : CV → List CV → Option CV
  | c, [] => some c
  | c, d :: ds => match g c d with | some e => foldC g e ds | none => none
def setAll (cs : List CV) (off : Nat) (xs : List CV) : List CV := spliceC cs off xs
/-- The cells from a place on. -/
def readC (h : CH) (b o n : Nat) : Option (List CV) :=
  if n = 0 then some [] else match h.t.get b with
  | some (.cells cs _) => if o + n ≤ cs.length then some ((cs.drop o).take n) else none
  | _ => none
def writeC (h : CH) (b o : Nat) (xs : List CV) : Option CH :=
  match h.t.get b with
  | some (.cells cs false) => if o + xs.length ≤ cs.length ∧ xs.all oneC then some { h with t := h.t.set b (.cells (spliceC cs o xs) false) } else none
  | _ => none
/-- 'append' of cells (n elements of es cells). -/
def appendC (h : CH) (a : Option (Nat × Nat)) (es len : Nat) (cap : CC) (n : Nat) (xs : List CV) : Option (CV × CH) :=
  if xs.all oneC then
    match a with
    | none => some (.slice (some (h.n, 0)) es n (.var h.nc 0), { h.push (.cells xs false) with nc := h.nc + 1 })
    | some (b, o) => match readC h b o (len * es) with
      | none => none
      | some old => match cap with
        | .lit c =>
          if len + n ≤ c then match writeC h b (o + len * es) xs with
            | some h' => some (.slice (some (b, o)) es (len + n) (.lit c), h')
            | none => none
          else some (.slice (some (h.n, 0)) es (len + n) (.var h.nc 0), { h.push (.cells (old ++ xs) false) with nc := h.nc + 1 })
        | .var _ _ => match h.t.get b with
          | some (.cells cs0 false) => if o ≤ cs0.length then some (.slice (some (h.n, 0)) es (len + n) (.var h.nc 0), { ({ h with t := h.t.set b .dead } : CH).push (.cells (old ++ xs) false) with nc := h.nc + 1 }) else none
          | _ => none
  else none
def lookC (k : Int) : List (Int × CV) → Option CV
  | [] => none
  | (i, c) :: rest => if i = k then some c else lookC k rest
def topC (len : Nat) (cap : CC) : Option CV → Option CC
  | none => some cap
  | some v => match cap with
    | .lit c => match boundC v c with | some k => some (CC.lit k) | none => none
    | .var _ _ => match boundC v len with | some k => some (CC.lit k) | none => none
def highC (len : Nat) (m : CC) (mx : Option CV) : Option CV → Option Nat
  | some v => boundC v (capLo len m)
  | none => match mx with | some _ => none | none => some len
def lowC (h : Nat) : Option CV → Option Nat
  | some v => boundC v h
  | none => some 0
def sliceC (es : Nat) (a : Option (Nat × Nat)) (len : Nat) (cap : CC) (lo hi mx : Option CV) : Option CV :=
  match topC len cap mx with
  | none => none
  | some m => match highC len m mx hi with
    | none => none
    | some h => match lowC h lo with
      | none => none
      | some l => match m with
        | .lit k => match a with
          | none => some (.slice none es 0 (.lit 0))
          | some (b, o) => some (.slice (some (b, if k = l then o else o + l * es)) es (h - l) (.lit (k - l)))
        | .var i d => match a with
          | none => none
          | some (b, o) => if l = 0 then some (.slice (some (b, o)) es h (.var i d)) else if l < h then some (.slice (some (b, o + l * es)) es (h - l) (.var i (d + l))) else none
/-- A type's zero has so many cells. -/
def zeroOK (ts : Tr TI) (e es : Nat) : Bool := match ts.get e with | some te => (match cellsC te.zero with | some z => z.length == es | none => false) | none => false
/-- What is behind all elements, where how much room there is isn't known. -/
def restC (es : Nat) (a : Option (Nat × Nat)) (len : Nat) (cap : CC) (lo hi mx : Option CV) (h : CH) : Option (CV × CH) :=
  match a, cap, lo, hi, mx with
  | some _, .var i d, some x, none, none => match litN x with
    | some l => if l = len then some (.slice (some (h.n, 0)) es 0 (.var i (d + l)), { h with n := h.n + 1 }) else none
    | none => none
  | _, _, _, _, _ => none
def builtC (ts : Tr TI) (b : Builtin) (tys : List TypeId) (args : List CV) (h : CH) : Option (CV × CH) :=
  match b, args with
  | .len, [x] => match tys with
    | t :: _ => match ts.get t, x with
      | some ⟨.slice _ _, _, _, _⟩, .slice _ _ n _ => if n ≤ 100000 then some (.int .i64 (.lit n), h) else none
      | some ⟨.array n _ _, _, _, _⟩, _ => if n ≤ 100000 then some (.int .i64 (.lit n), h) else none
      | _, _ => none
    | _ => none
  | .cap, [x] => match tys with
    | t :: _ => match ts.get t, x with
      | some ⟨.slice _ _, _, _, _⟩, .slice _ _ _ (.lit n) => if n ≤ 100000 then some (.int .i64 (.lit n), h) else none
      | _, _ => none
    | _ => none
  | .min, x :: xs => match foldC minC x xs with | some c => some (c, h) | none => none
  | .max, x :: xs => match foldC maxC x xs with | some c => some (c, h) | none => none
  | .append, [s, x] => match s, x, tys with
    | .slice a e' len cap, .slice a' _ n _, [t, t2] => match ts.get t, ts.get t2 with
      | some ⟨.slice e es, _, _, _⟩, some ⟨.slice _ _, _, _, _⟩ => if (a.isNone || e' == es) && es != 0 && zeroOK ts e es && decide (len + n ≤ 100000) then
          if n = 0 then some (s, h) else match a' with
            | some (b', o') => match readC h b' o' (n * es) with
              | some xs => appendC h a es len cap n xs
              | none => none
            | none => none
        else none
      | _, _ => none
    | .slice a e' len cap, .int _ (.lit n), [t, t2] => match ts.get t, ts.get t2 with
      | some ⟨.slice e es, _, _, _⟩, some ⟨.int _, _, _, _⟩ => match ts.get e with
        | some te => match cellsC te.zero with
          | some z => if 0 ≤ n ∧ n ≤ 10000 ∧ z.length = es ∧ 0 < es ∧ len ≤ 100000 ∧ (a.isNone || e' == es) = true then
              if n = 0 then some (s, h) else appendC h a es len cap n.toNat ((List.replicate n.toNat z).flatten)
            else none
          | none => none
        | none => none
      | _, _ => none
    | _, _, _ => none
  | .copy, [d, s] => match d, s, tys with
    | .slice a _ len _, .slice a' _ n _, t :: _ => match ts.get t with
      | some ⟨.slice _ es, _, _, _⟩ => if es = 0 then none else
        let k := min n len
        if k = 0 then some (.int .i64 (.lit 0), h) else match a, a' with
          | some (b, o), some (b', o') => match readC h b' o' (k * es) with
            | some xs => match writeC h b o xs with
              | some h' => some (.int .i64 (.lit k), h')
              | none => none
            | none => none
          | _, _ => none
      | _ => none
    | _, _, _ => none
  | _, _ => none
/-- One operation that enters no function: what it yields, and memory behind it. -/
def opX (P : Program) (ts : Tr TI) (h : CH) (f : Fr) (o : Op) : Option (CV × CH) :=
  match o with
  | .move x => some (evC f x, h)
  | .assign x => some (evC f x, h)
  | .pick c a b => match pickC (evC f c) (evC f a) (evC f b) with | some v => some (v, h) | none => none
  | .alloc t => match ts.get t with
    | some ti => match cellsC ti.zero with
      | some cs => some (.ptr h.n 0, h.push (.cells cs false))
      | none => none
    | none => none
  | .box _ x => match cellsC (evC f x) with
    | some cs => some (.ptr h.n 0, h.push (.cells cs false))
    | none => none
  | .build t parts => match ts.get t with
    | some ti => match cellsC ti.zero with
      | some z => match ti.kind with
        | .struct fs => match fillC (fun i => match fs[i]? with | some (off, s, _) => some (off, s) | none => none) z (parts.toList.map fun p => (p.1, evC f p.2)) with
          | some cs => some (.agg cs, h)
          | none => none
        | .array _ es _ => if es = 0 then none else match fillC (fun i => some (i * es, es)) z (parts.toList.map fun p => (p.1, evC f p.2)) with
          | some cs => some (.agg cs, h)
          | none => none
        | _ => none
      | none => none
    | none => none
  | .buildSlice t len parts => match ts.get t with
    | some ⟨.slice e es, _, _, _⟩ => if 2 ^ 24 < len * es ∨ es = 0 ∨ (ts.get e).isNone = true then none else
      match fillC (fun i => some (i * es, es)) (List.replicate (len * es) .any) (parts.toList.map fun p => (p.1, evC f p.2)) with
      | some cs => some (.slice (some (h.n, 0)) es len (.lit len), h.push (.cells cs false))
      | none => none
    | _ => none
  | .load t a => match ts.get t, evC f a with
    | some ti, .ptr b o => match h.t.get b with
      | some (.cells cs _) => if ti.agg then (if o + ti.size ≤ cs.length then some (.agg ((cs.drop o).take ti.size), h) else none)
        else match cs[o]? with | some c => some (c, h) | none => none
      | _ => none
    | _, _ => none
  | .store t a x => match ts.get t, evC f a, cellsC (evC f x) with
    | some ti, .ptr b o, some xs => if xs.length = ti.size then match writeC h b o xs with | some h' => some (.any, h') | none => none else none
    | _, _, _ => none
  | .nilCheck x => match evC f x with
    | .ptr b o => some (.ptr b o, h)
    | .func g a c => some (.func g a c, h)
    | .map b => some (.map b, h)
    | _ => none
  | .binOp op t x y _ => match binC P ts op t (evC f x) (evC f y) with | some v => some (v, h) | none => none
  | .unOp op _ x => match unC P op (evC f x) with | some v => some (v, h) | none => none
  | .convert s d x => match convC ts s d (evC f x) with | some v => some (v, h) | none => none
  | .makeFunc (.func g) first captured => some (.func g (first.toList.map (evC f)) (captured.toList.map (evC f)), h)
  | .makeMap _ none => some (.map h.n, h.push (.map []))
  | .insert t m k x => match ts.get t, evC f m, evC f k with
    | some ⟨.map kt _, _, _, _⟩, .map b, .int .i64 (.lit n) => match ts.get kt, h.t.get b with
      | some ⟨.int .i64, _, _, _⟩, some (.map es) => match lookC n es with
        | none => some (.any, { h with t := h.t.set b (.map (es ++ [(n, evC f x)])) })
        | some _ => none
      | _, _ => none
    | _, _, _ => none
  | .lookup t m k true => match ts.get t, evC f m, evC f k with
    | some ⟨.map kt et, _, _, _⟩, .map b, .int .i64 (.lit n) => match ts.get kt, ts.get et, h.t.get b with
      | some ⟨.int .i64, _, _, _⟩, some te, some (.map es) => match lookC n es with
        | some c => some (.tup [c, .bool (.lit true)], h)
        | none => some (.tup [te.zero, .bool (.lit false)], h)
      | _, _, _ => none
    | _, _, _ => none
  | .lookup t m k false => match ts.get t, evC f m, evC f k with
    | some ⟨.map kt _, _, _, _⟩, .map b, .int .i64 (.lit n) => match ts.get kt, h.t.get b with
      | some ⟨.int .i64, _, _, _⟩, some (.map es) => match lookC n es with
        | some c => some (c, h)
        | none => none
      | _, _ => none
    | _, _, _ => none
  | .makeSlice t l c => match ts.get t, litN (evC f l), litN (evC f c) with
    | some ⟨.slice e es, _, _, _⟩, some n, some m => match ts.get e with
      | some te => match cellsC te.zero with
        | some z => if n ≤ m ∧ m ≤ 10000 ∧ z.length = es ∧ 0 < es then
            some (.slice (some (h.n, 0)) es n (.lit m), h.push (.cells ((List.replicate m z).flatten) false)) else none
        | none => none
      | none => none
    | _, _, _ => none
  | .slice t x lo hi mx => match ts.get t, evC f x with
    | some ⟨.slice _ es, _, _, _⟩, .slice a es' len cap => if (a.isNone || es' == es) && es != 0 then match sliceC es a len cap (lo.map (evC f)) (hi.map (evC f)) (mx.map (evC f)) with
      | some v => some (v, h)
      | none => restC es a len cap (lo.map (evC f)) (hi.map (evC f)) (mx.map (evC f)) h
      else none
    | some ⟨.array n es _, _, _, _⟩, .ptr b o => match h.t.get b with
      | some (.cells cs _) => if o + n * es ≤ cs.length ∧ es ≠ 0 then match sliceC es (some (b, o)) n (.lit n) (lo.map (evC f)) (hi.map (evC f)) (mx.map (evC f)) with
          | some v => some (v, h)
          | none => none
        else none
      | _ => none
    | _, _ => none
  | .fieldAddr t x i => match ts.get t, evC f x with
    | some ⟨.struct fs, _, _, _⟩, .ptr b o => match fs[i]? with
      | some (off, s, _) => if s = 0 then none else some (.ptr b (o + off), h)
      | none => none
    | _, _ => none
  | .field t x i => match ts.get t, evC f x with
    | some ⟨.struct fs, _, _, _⟩, .agg cs => match fs[i]? with
      | some (off, s, ag) => match partC ag s cs off with | some v => some (v, h) | none => none
      | none => none
    | _, _ => none
  | .indexAddr t x i => match ts.get t, evC f x, litN (evC f i) with
    | some ⟨.array n es _, _, _, _⟩, .ptr b o, some k => if k < n ∧ es ≠ 0 then some (.ptr b (o + k * es), h) else none
    | some ⟨.slice _ es, _, _, _⟩, .slice (some (b, o)) _ n _, some k => if k < n ∧ es ≠ 0 then some (.ptr b (o + k * es), h) else none
    | _, _, _ => none
  | .index t x i => match ts.get t, evC f x, litN (evC f i) with
    | some ⟨.array n es ea, _, _, _⟩, .agg cs, some k => if k < n ∧ es ≠ 0 then match partC ea es cs (k * es) with | some v => some (v, h) | none => none else none
    | _, _, _ => none
  | .extract x i => match evC f x with
    | .tup cs => match cs[i]? with | some c => some (c, h) | none => none
    | _ => none
  | .sliceToArrayPointer t x => match ts.get t, evC f x with
    | some ⟨.array n _ _, _, _, _⟩, .slice (some (b, o)) _ len _ => if n ≤ len then some (.ptr b o, h) else none
    | _, _ => none
  | .call c => match c.callee with
    | .builtin b => builtC ts b c.argTypes.toList (c.args.toList.map (evC f)) h
    | _ => none
  | _ => none
end Go.Proofs.YtpjgmeogkomhlaaGreat
