/-
  Functions, run on what is known: definitions. No conditions but those named.
-/
import Derived.Test.YtpjgmeogkomhlaaGreatXc
namespace Go.Proofs.YtpjgmeogkomhlaaGreat
open Go.RowKit
inductive Ex where
  | normal
  | exit (id : Nat)
  | ret
/-- How a call runs: what it yields, and memory behind it; each way. -/
abbrev Caller := FuncId → List CV → CH → Option (List (CV × CH))
/-- Each of many, then all that comes. -/
def eachX {α β : Type} (g : α → Option (List β)) : List α → Option (List β)
  | [] => some []
  | x :: xs => match g x with
    | none => none
    | some l => match eachX g xs with
      | none => none
      | some l' => some (l ++ l')
def callX (P : Program) (ts : Tr TI) (cl : Caller) (h : CH) (f : Fr) (o : Op) : Option (List (CV × CH)) :=
  match o with
  | .call c => match c.callee with
    | .value g => match evC f g with
      | .func id first captured => cl id (first ++ c.args.toList.map (evC f) ++ captured) h
      | _ => none
    | _ => match opX P ts h f o with | some x => some [x] | none => none
  | _ => match opX P ts h f o with | some x => some [x] | none => none
/-- Is an operation wanted? 'some (none)': it hangs on what isn't known. -/
inductive Wt where
  | yes
  | no
  | hangs (s : BE) (w : Bool)
  | odd
def wantX (ops : Array Oper) (f : Fr) (o : Oper) : Wt :=
  match o.guard with
  | none => .yes
  | some (j, w) => match (ops[j]?).bind (·.dst) with
    | none => .odd
    | some d => match f.t.get d with
      | some (.bool (.lit b)) => if b == w then .yes else .no
      | some (.bool e) => .hangs e w
      | some (.cond s v (.bool e)) => .hangs (.ite (if v then s else .not s) (if w then e else .not e) (.lit false)) true
      | some (.tup []) => .no
      | _ => .odd
def stripX (s : BE) (w : Bool) : CV → CV
  | .cond s' w' c => if s'.same s && w' == w then c else .cond s' w' c
  | c => c
/-- Operations that only reckon: nothing is read, nothing is written. -/
def plainOp : Op → Bool
  | .move _ | .assign _ | .pick _ _ _ | .binOp _ _ _ _ _ | .unOp _ _ _ | .convert _ _ _ | .fieldAddr _ _ _ | .field _ _ _ | .indexAddr _ _ _ | .index _ _ _ | .extract _ _ | .nilCheck _ | .build _ _ | .makeFunc _ _ _ | .sliceToArrayPointer _ _ => true
  | .call c => match c.callee with
    | .builtin .len => true
    | .builtin .cap => true
    | .builtin .min => true
    | .builtin .max => true
    | _ => false
  | _ => false
/-- Operations that look at memory, and leave it as it is. -/
def lookOp : Op → Bool
  | .load _ _ | .lookup _ _ _ _ | .slice _ _ _ _ _ => true
  | _ => false
/-- Operations that make a new block, whatever memory holds. -/
def allocOp : Op → Bool
  | .alloc _ | .box _ _ | .buildSlice _ _ _ | .makeSlice _ _ _ | .makeMap _ _ => true
  | _ => false
def okDst (f : Fr) (d : Option Tmp) : Bool := match d with | none => true | some t => t < f.n
def stripT (s : BE) (w : Bool) (f : Fr) : List Tmp → Tr CV
  | [] => .nil
  | p :: l => match f.t.get p with
    | some c => (stripT s w f l).set p (stripX s w c)
    | none => stripT s w f l
/-- These places, as they are where a truth holds. -/
def stripF (s : BE) (w : Bool) (f : Fr) (l : List Tmp) : Fr := ⟨f.n, stripT s w f l⟩
/-- The frame in which an operation is carried out. -/
def actF (ops : Array Oper) (f : Fr) (o : Oper) : Fr :=
  match wantX ops f o with
  | .hangs s w => stripF s w f (o.looksAt ops)
  | _ => f
/-- An operation, with its guard: what it yields, each way. -/
def oneV (P : Program) (ts : Tr TI) (cl : Caller) (ops : Array Oper) (o : Oper) (f : Fr) (h : CH) : Option (List (CV × CH)) :=
  match wantX ops f o with
  | .odd => none
  | .no => some [(.tup [], h)]
  | .yes => callX P ts cl h f o.op
  | .hangs s w => if plainOp o.op || lookOp o.op then
      match opX P ts h (stripF s w f (o.looksAt ops)) o.op with
      | some (c, h') => if h'.n = h.n then some [(.cond s w c, h)] else none
      | none => none
    else none
def oneX (P : Program) (ts : Tr TI) (cl : Caller) (ops : Array Oper) (o : Oper) (f : Fr) (h : CH) : Option (List (Fr × CH)) :=
  if okDst f o.dst then
    match oneV P ts cl ops o f h with
    | none => none
    | some l => some (l.map fun x => (f.put o.dst x.1, x.2))
  else none
def opsX (P : Program) (ts : Tr TI) (cl : Caller) (ops : Array Oper) : List Oper → Fr → CH → Option (List (Fr × CH))
  | [], f, h => some [(f, h)]
  | o :: rest, f, h => match oneX P ts cl ops o f h with
    | none => none
    | some l => eachX (fun x => opsX P ts cl ops rest x.1 x.2) l
/-- What a region that draws goes through: an operation is taken at once (when it comes up doesn't matter), or is the one that must come up next (and which reads must read as before behind it). -/
inductive Stp where
  | take (i : Nat)
  | run (i : Nat) (re : List Nat)
def takeX (P : Program) (ts : Tr TI) (ops : Array Oper) (o : Oper) (f : Fr) (h : CH) : Option (Fr × CH) :=
  if okDst f o.dst then
    match wantX ops f o with
    | .odd => none
    | .no => some (f.put o.dst (.tup []), h)
    | .yes => if plainOp o.op || lookOp o.op then match opX P ts h f o.op with
          | some (c, h') => if h'.n = h.n then some (f.put o.dst c, h) else none
          | none => none
        else if allocOp o.op then match opX P ts h f o.op with
          | some (c, h') => some (f.put o.dst c, h')
          | none => none
        else none
    | .hangs s w => if plainOp o.op || lookOp o.op then match opX P ts h (stripF s w f (o.looksAt ops)) o.op with
          | some (c, h') => if h'.n = h.n then some (f.put o.dst (.cond s w c), h) else none
          | none => none
        else none
  else none
mutual
def CV.same : CV → CV → Bool
  | .any, .any => true
  | .bool a, .bool b => a.same b
  | .int k a, .int l b => k == l && a.same b
  | .nilp, .nilp => true
  | .ptr a b, .ptr c d => Nat.beq a c && Nat.beq b d
  | .slice a es len cap, .slice a' es' len' cap' => (match a, a' with | none, none => true | some (b, o), some (b', o') => Nat.beq b b' && Nat.beq o o' | _, _ => false) && Nat.beq es es' && Nat.beq len len' && (match cap, cap' with | .lit n, .lit m => Nat.beq n m | .var i d, .var j e => Nat.beq i j && Nat.beq d e | _, _ => false)
  | .map a, .map b => Nat.beq a b
  | .func f a c, .func g b d => Nat.beq f g && CV.sames a b && CV.sames c d
  | .nilf, .nilf => true
  | .agg a, .agg b => CV.sames a b
  | .tup a, .tup b => CV.sames a b
  | .cond s w c, .cond t v d => s.same t && w == v && CV.same c d
  | _, _ => false
def CV.sames : List CV → List CV → Bool
  | [], [] => true
  | a :: xs, b :: ys => CV.same a b && CV.sames xs ys
  | _, _ => false
end
/-- Does a read read as before? -/
def readsX (P : Program) (ts : Tr TI) (ops : Array Oper) (f : Fr) (h h' : CH) (k : Nat) : Bool :=
  match ops[k]? with
  | none => false
  | some o => match opX P ts h (actF ops f o) o.op, opX P ts h' (actF ops f o) o.op with
    | some (c, _), some (c', h1) => CV.same c c' && Nat.beq h1.n h'.n
    | none, _ => true
    | _, _ => false
def drawX (P : Program) (ts : Tr TI) (cl : Caller) (ops : Array Oper) : List Stp → Fr → CH → Option (List (Fr × CH))
  | [], f, h => some [(f, h)]
  | .take i :: rest, f, h => match ops[i]? with
    | none => none
    | some o => match takeX P ts ops o f h with
      | none => none
      | some (f', h') => drawX P ts cl ops rest f' h'
  | .run i re :: rest, f, h => match ops[i]? with
    | none => none
    | some o => match oneX P ts cl ops o f h with
      | none => none
      | some l => eachX (fun x => if re.all (readsX P ts ops f h x.2) then drawX P ts cl ops rest x.1 x.2 else none) l
/-- j waits for k, by some way. -/
def reaches (ops : Array Oper) : Nat → Nat → Nat → Bool
  | 0, _, _ => false
  | n + 1, j, k => match ops[j]? with
    | none => false
    | some o => o.after.toList.any fun e => Region.binds .any e && (e.on == k || reaches ops n e.on k)
def listedOf (ops : Array Oper) (done : List Nat) : Array Bool := done.foldl (fun l i => l.setIfInBounds i true) (Array.replicate ops.size false)
/-- Does an operation fit behind those that are done? -/
def fits1 (ops : Array Oper) (done : List Nat) (take : Bool) (i : Nat) : Bool :=
  match ops[i]? with
  | none => false
  | some o => !done.contains i && o.after.toList.all (fun e => !Region.binds .any e || done.contains e.on) &&
    done.all (fun k => match ops[k]? with
      | none => false
      | some ok => (match o.dst with
          | none => true
          | some d => ok.dst != some d && (!(ok.looksAt ops).contains d || (!take && reaches ops 1 i k))) &&
        (match ok.dst with
          | none => true
          | some d => !(o.looksAt ops).contains d || reaches ops 1 i k)) &&
    (!take || (match o.dst with | none => true | some d => !(o.looksAt ops).contains d))
def chkS (ops : Array Oper) : List Nat → List Stp → Bool
  | done, [] => (List.range ops.size).all fun i => done.contains i
  | done, .take i :: rest => fits1 ops done true i && chkS ops (i :: done) rest
  | done, .run i re :: rest => fits1 ops done false i && (Region.ready .any ops (listedOf ops done) == [i]) &&
    (done.all fun k => match ops[k]? with | none => false | some ok => !lookOp ok.op || re.contains k || reaches ops 4 i k) && chkS ops (i :: done) rest
def scrOf (sc : List (Nat × List Stp)) (id : Nat) : List Stp := match sc with
  | [] => []
  | (i, l) :: rest => if Nat.beq i id then l else scrOf rest id
/-- Do a function's scripts fit its code? -/
def codeOK (sc : List (Nat × List Stp)) : Code → Bool
  | .region id ops true => chkS ops [] (scrOf sc id)
  | .seq a b => codeOK sc a && codeOK sc b
  | .cond _ a b => codeOK sc a && codeOK sc b
  | .block _ a => codeOK sc a
  | .loop a => codeOK sc a
  | _ => true
def resX (ts : Tr TI) (f : Fr) (h : CH) : List ResultVar → Option (List CV)
  | [] => some []
  | r :: rs => match (match r with
      | .tmp t => some (match f.t.get t with | some c => c | none => .any)
      | .cell a t => match ts.get t, f.t.get a with
        | some ti, some (.ptr b o) => match h.t.get b with
          | some (.cells cs _) => if ti.agg then (if o + ti.size ≤ cs.length then some (.agg ((cs.drop o).take ti.size)) else none) else cs[o]?
          | _ => none
        | _, _ => none) with
    | none => none
    | some c => match resX ts f h rs with
      | none => none
      | some cs => some (c :: cs)
def argsX : Nat → List CV → Tr CV → Tr CV
  | _, [], t => t
  | i, c :: cs, t => argsX (i + 1) cs (t.set i c)
mutual
def codeX (P : Program) (ts : Tr TI) (fs : Tr (Func × List (Nat × List Stp))) (hk : FuncId → List CV → CH → Option (Option (List (CV × CH)))) : Nat → List (Nat × List Stp) → Code → Fr → CH → Option (List (Ex × Fr × CH))
  | 0, _, _, _, _ => none
  | n + 1, sc, c, f, h => match c with
    | .skip => some [(.normal, f, h)]
    | .ret => some [(.ret, f, h)]
    | .exit id => some [(.exit id, f, h)]
    | .region id ops d => match (if d then drawX P ts (funX P ts fs hk n) ops (scrOf sc id) f h else opsX P ts (funX P ts fs hk n) ops ops.toList f h) with
      | some l => some (l.map fun x => (.normal, x.1, x.2))
      | none => none
    | .seq a b => match codeX P ts fs hk n sc a f h with
      | none => none
      | some l => eachX (fun x => match x with
        | (.normal, f', h') => codeX P ts fs hk n sc b f' h'
        | y => some [y]) l
    | .cond c a b => match evC f c with
      | .bool (.lit true) => codeX P ts fs hk n sc a f h
      | .bool (.lit false) => codeX P ts fs hk n sc b f h
      | .bool _ => match codeX P ts fs hk n sc a f h, codeX P ts fs hk n sc b f h with
        | some l, some l' => some (l ++ l')
        | _, _ => none
      | _ => none
    | .block id a => match codeX P ts fs hk n sc a f h with
      | none => none
      | some l => some (l.map fun x => match x with
        | (.exit i, f', h') => if i = id then (.normal, f', h') else (.exit i, f', h')
        | y => y)
    | .loop a => match codeX P ts fs hk n sc a f h with
      | none => none
      | some l => eachX (fun x => match x with
        | (.normal, f', h') => codeX P ts fs hk n sc (.loop a) f' h'
        | y => some [y]) l
    | _ => none
def funX (P : Program) (ts : Tr TI) (fs : Tr (Func × List (Nat × List Stp))) (hk : FuncId → List CV → CH → Option (Option (List (CV × CH)))) : Nat → Caller
  | 0, _, _, _ => none
  | n + 1, id, args, h => match hk id args h with
    | some r => r
    | none => match fs.get id with
      | none => none
      | some (fn, sc) => match fn.body with
        | none => none
        | some c => match codeX P ts fs hk n sc c ⟨max fn.ntmps args.length, argsX 0 args .nil⟩ h with
          | none => none
          | some l => eachX (fun x => match x with
            | (.exit _, _, _) => none
            | (_, f', h') => match resX ts f' h' fn.results.toList with
              | some [c] => some [(c, h')]
              | some cs => some [(.tup cs, h')]
              | none => none) l
end
end Go.Proofs.YtpjgmeogkomhlaaGreat
