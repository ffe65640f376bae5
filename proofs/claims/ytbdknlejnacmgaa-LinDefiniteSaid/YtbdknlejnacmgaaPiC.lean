/-
  When a function's short form fits the function as the program bears it: a check that computes.
-/
import Derived.Test.YtbdknlejnacmgaaRows
import Derived.WalkKit
import Derived.ProofKit
import Derived.OpenShut
import Derived.Below
import Derived.Orders
import Derived.Test.YtbdknlejnacmgaaPiA
namespace Go.Proofs.Ytbdknlejnacmgaa.Pi
open Go
set_option linter.unusedVariables false

def okLit : Value → PV → Bool
  | .bool b, .bool c => b == c
  | .int k n, .int k' n' => decide (k = k') && decide (n = n')
  | .string s, .str l => decide (s.data.toList.map UInt8.toNat = l)
  | .slice none 0 0, .nil0 => true
  | .slice none 0 0, .view [] => true
  | _, _ => false

def okArg : Operand → PArg → Bool
  | .tmp t, .t n => t == n
  | .const v, .c p => okLit v p
  | .func f, .c (.fn g []) => f == g
  | _, _ => false

def okArgs : List Operand → List PArg → Bool
  | [], [] => true
  | o :: os, p :: ps => okArg o p && okArgs os ps
  | _, _ => false

def okOpt : Option Operand → Option PArg → Bool
  | none, none => true
  | some o, some p => okArg o p
  | _, _ => false

def okCells : List Value → List PV → Bool
  | [], [] => true
  | v :: vs, p :: ps => okLit v p && okCells vs ps
  | _, _ => false

def aggT (P : Program) (t : TypeId) : Option Bool := (P.underlying t).map fun | .struct _ | .array _ _ => true | _ => false
def sizeT (P : Program) (t : TypeId) : Option Nat := (P.info? t).map (·.size)
def bytesT (P : Program) (t : TypeId) : Option Nat := (P.info? t).map (·.bytes)
def zeroT (P : Program) (t : TypeId) : Option (List Value) := (P.info? t).bind fun i => i.zero.map fun z => z.cells.toList
def elemT (P : Program) (t : TypeId) : Option TypeId := (P.underlying t).bind fun | .slice e => some e | _ => none

def okParts (P : Program) (fs : Array Field) : List (Nat × Operand) → List (Nat × Nat × PArg) → Bool
  | [], [] => true
  | (i, x) :: r, (off, sz, y) :: q => ((fs[i]?).map fun f => f.offset == off && sizeT P f.type == some sz).getD false && okArg x y && okParts P fs r q
  | _, _ => false

def okElems (i : Nat) : List (Nat × Operand) → List PArg → Bool
  | [], [] => true
  | (j, x) :: r, y :: q => j == i && okArg x y && okElems (i + 1) r q
  | _, _ => false

def okTag (P : Program) (t : TypeId) (tag : Nat) : Bool :=
  match tag with
  | 0 => true
  | 1 => match P.underlying t with | some .bool => true | _ => false
  | 2 => true
  | 3 => match P.underlying t with | some (.slice _) => true | _ => false
  | _ => false

def nilSlice : Operand → Bool
  | .const (.slice none 0 0) => true
  | _ => false

def okOp (P : Program) (op : Op) (ty : TypeId) (p : POp) : Bool :=
  match p with
  | .mv y => match op with | .move x | .assign x => okArg x y | _ => false
  | .nils l sz => match op with | .move x | .assign x => nilSlice x | _ => false
  | .pick c a b => match op with | .pick c' a' b' => okArg c' c && okArg a' a && okArg b' b | _ => false
  | .alloc l cells nils => match op with
    | .alloc e => (match zeroT P e with | some z => okCells z cells | none => false) && nils.all fun x => match cells[x.1]? with | some .nil0 => true | _ => false
    | _ => false
  | .box l y => match op with | .box e x => okArg x y | _ => false
  | .load n agg y => match op with | .load t x => okArg x y && sizeT P t == some n && aggT P t == some agg && (agg || n == 1) | _ => false
  | .store n a v => match op with | .store t x y => okArg x a && okArg y v && sizeT P t == some n | _ => false
  | .storeRow a v => match op with | .store t x y => okArg x a && okArg y v && sizeT P t == some 1 | _ => false
  | .bin tag o x y => match op with | .binOp o' t x' y' _ => decide (o = o') && okArg x' x && okArg y' y && okTag P t tag && (tag != 3 || nilSlice y') | _ => false
  | .un o x => match op with | .unOp o' _ x' => decide (o = o') && okArg x' x | _ => false
  | .conv k x => match op with
    | .convert s d x' => okArg x' x && (P.underlying s).isSome && (match P.underlying d with | some (.int k') => decide (k = k') | _ => false)
    | _ => false
  | .tostr x => match op with
    | .convert s d x' => okArg x' x && (match P.underlying d with | some .string => true | _ => false) &&
      (match P.underlying s with | some (.slice e) => (match P.underlying e with | some (.int .u8) => true | _ => false) | _ => false)
    | _ => false
  | .clos f cap => match op with | .makeFunc (.func f') first caps => f == f' && first.isEmpty && okArgs caps.toList cap | _ => false
  | .make l zero bytes n c => match op with
    | .makeSlice t n' c' => okArg n' n && okArg c' c && (match elemT P t with
      | some e => (match zeroT P e with | some z => okCells z zero | none => false) && sizeT P e == some zero.length && bytesT P e == some bytes && decide (1 ≤ zero.length) && decide (1 ≤ bytes)
      | none => false)
    | _ => false
  | .slice str sz x lo hi mx => match op with
    | .slice t x' lo' hi' mx' => okArg x' x && okOpt lo' lo && okOpt hi' hi && okOpt mx' mx && (mx.isNone || hi.isSome) && (match P.underlying t with
      | some (.slice e) => !str && sizeT P e == some sz && decide (1 ≤ sz)
      | some .string => str
      | _ => false)
    | _ => false
  | .field c n x => match op with
    | .fieldAddr s x' f => okArg x' x && (match P.underlying s with
      | some (.struct fs) => ((fs[f]?).map fun fl => fl.offset == c && sizeT P fl.type == some n && decide (1 ≤ n)).getD false
      | _ => false)
    | _ => false
  | .getf c n agg x => match op with
    | .field s x' f => okArg x' x && (match P.underlying s with
      | some (.struct fs) => ((fs[f]?).map fun fl => fl.offset == c && sizeT P fl.type == some n && aggT P fl.type == some agg && (agg || n == 1)).getD false
      | _ => false)
    | _ => false
  | .idx sz x i => match op with
    | .indexAddr t x' i' => okArg x' x && okArg i' i && (match P.underlying t with
      | some (.slice e) => sizeT P e == some sz
      | _ => false)
    | _ => false
  | .sidx x i => match op with
    | .index t x' i' => okArg x' x && okArg i' i && (match P.underlying t with
      | some .string => true
      | _ => false)
    | _ => false
  | .ext x i => match op with | .extract x' i' => okArg x' x && i == i' | _ => false
  | .build zero parts => match op with
    | .build t ps => (match zeroT P t with | some z => okCells z zero | none => false) && (match P.underlying t with
      | some (.struct fs) => okParts P fs ps.toList parts && fs.toList.all fun f => (P.info? f.type).isSome
      | _ => false)
    | _ => false
  | .lits l sz len parts => match op with
    | .buildSlice t n ps => n == len && okElems 0 ps.toList parts && parts.length == len && (match elemT P t with
      | some e => (zeroT P e).isSome && sizeT P e == some sz && ((zeroT P e).map (·.length)) == some sz && decide (len * sz ≤ 16777216) && decide (1 ≤ sz)
      | none => false)
    | _ => false
  | .len str x => match op with
    | .call { callee := .builtin .len, args, argTypes } => okArgs args.toList [x] && (match argTypes[0]? with
      | some t => (match P.underlying t with | some .string => str | some (.slice _) => !str | _ => false)
      | none => false)
    | _ => false
  | .app l sz bytes x y => match op with
    | .call { callee := .builtin .append, args, argTypes } => okArgs args.toList [x, y] && (match argTypes.toList with
      | [t, t'] => t == t' && (match elemT P t with
        | some e => sizeT P e == some sz && bytesT P e == some bytes && decide (1 ≤ bytes) && decide (1 ≤ sz) && ((zeroT P e).map (·.length)) == some sz
        | none => false)
      | _ => false)
    | _ => false
  | .copy sz x y => match op with
    | .call { callee := .builtin .copy, args, argTypes } => okArgs args.toList [x, y] && (match argTypes[0]? with
      | some t => (match elemT P t with | some e => sizeT P e == some sz && decide (1 ≤ sz) | none => false)
      | none => false)
    | _ => false
  | .mm mx xs => match op with
    | .call { callee := .builtin .max, args, .. } => mx && okArgs args.toList xs
    | .call { callee := .builtin .min, args, .. } => !mx && okArgs args.toList xs
    | _ => false
  | .call f al io imp => match op with
    | .call { callee := .value f', args, .. } => okArg f' f && okArgs args.toList al
    | _ => false
  | .bad => false

/-- Labels that an operation makes. -/
def POp.cl : POp → List Nat
  | .nils l _ => [l]
  | .alloc l _ ns => l :: ns.map (·.2.1)
  | .box l _ => [l]
  | .make l .. => [l]
  | .lits l .. => [l]
  | .app l .. => [l]
  | .call _ _ _ (some l) => [l]
  | _ => []

/-- 0: it asks no object; 1: it reads objects; 2: it writes the one that 'wl' names; 3: it writes. -/
def POp.kind : POp → Nat
  | .load .. | .tostr _ | .call _ _ none _ => 1
  | .store .. | .copy .. => 2
  | .storeRow .. | .app .. | .call _ _ (some _) _ => 3
  | _ => 0

def PArg.tmps : PArg → List Nat
  | .t n => [n]
  | .c _ => []

def otmps : Option PArg → List Nat
  | none => []
  | some x => x.tmps

def POp.args : POp → List PArg
  | .mv x | .box _ x | .load _ _ x | .un _ x | .conv _ x | .tostr x | .field _ _ x | .getf _ _ _ x | .ext x _ | .len _ x => [x]
  | .pick a b c => [a, b, c]
  | .store _ a v | .storeRow a v | .bin _ _ a v | .idx _ a v | .sidx a v | .app _ _ _ a v | .copy _ a v => [a, v]
  | .clos _ l | .mm _ l | .lits _ _ _ l => l
  | .make _ _ _ n c => [n, c]
  | .slice _ _ x lo hi mx => x :: (lo.toList ++ hi.toList ++ mx.toList)
  | .build _ ps => ps.map (·.2.2)
  | .call f l _ _ => f :: l
  | .nils .. | .alloc .. | .bad => []

def POper.uses (o : POper) : List Nat := (match o.gd with | some (t, _) => [t] | none => []) ++ o.op.args.flatMap PArg.tmps

/-- May two operations of a region go in either order? -/
def compat (a b : POper) : Bool :=
  (match a.d with | some d => !b.uses.contains d && !(b.d == some d) | none => true) &&
  (match b.d with | some d => !a.uses.contains d | none => true) &&
  (a.op.kind != 3 || b.op.kind == 0) && (b.op.kind != 3 || a.op.kind == 0) &&
  (a.op.kind != 2 || b.op.kind == 0 || (match a.wl with | some l => b.av.contains l | none => false)) &&
  (b.op.kind != 2 || a.op.kind == 0 || (match b.wl with | some l => a.av.contains l | none => false)) &&
  (b.op.kind == 0 || a.op.cl.all fun l => b.av.contains l) && (a.op.kind == 0 || b.op.cl.all fun l => a.av.contains l)

def direct (o : Oper) (i : Nat) : Bool := o.after.any fun e => e.on == i && Region.binds .any e

def okOper (P : Program) (nt : Nat) (ops : Array Oper) (o : Oper) (p : POper) : Bool :=
  o.dst == p.d && (match p.d with | some d => decide (d < nt) | none => true) &&
  (match o.guard, p.gd with
   | none, none => true
   | some (j, want), some (t, want') => ((ops[j]?).bind (·.dst)) == some t && want == want'
   | _, _ => false) &&
  okOp P o.op o.type p.op

def nodupB : List Nat → Bool
  | [] => true
  | a :: r => !r.contains a && nodupB r

def okOpers (P : Program) (nt : Nat) (ops : Array Oper) : List Oper → List POper → Bool
  | [], [] => true
  | o :: os, p :: ps => okOper P nt ops o p && okOpers P nt ops os ps
  | _, _ => false

/-- Each pair of a region's operations: ordered by an edge, or free to go in either order. -/
def okPairs (ops : Array Oper) (ps : List POper) : Bool :=
  (List.range ps.length).all fun k => match ops[k]?, ps[k]? with
    | some o, some p => (o.after.all fun e => !Region.binds .any e || decide (e.on < k)) &&
        (List.range k).all fun i => direct o i || (match ps[i]? with | some q => compat q p | none => false)
    | _, _ => false

def okReg (P : Program) (nt : Nat) (ops : Array Oper) (ps : List POper) (draw : Bool) : Bool :=
  okOpers P nt ops ops.toList ps && nodupB (ps.flatMap fun p => p.op.cl) && (!draw || okPairs ops ps)

def okCode (P : Program) (nt : Nat) : Code → PCode → Bool
  | .skip, .skip => true
  | .region _ ops draw, .reg ps draw' _ _ => draw == draw' && okReg P nt ops ps draw
  | .seq a b, .seq p q => okCode P nt a p && okCode P nt b q
  | .cond c a b, .cond x p q => okArg c x && okCode P nt a p && okCode P nt b q
  | .block i a, .block j p => i == j && okCode P nt a p
  | .loop a, .loop p => okCode P nt a p
  | .exit i, .exit j => i == j
  | .ret, .ret => true
  | _, _ => false

def okRes (P : Program) : List ResultVar → List PRes → Bool
  | [], [] => true
  | .tmp t :: r, .tmp u :: q => t == u && okRes P r q
  | .cell a t :: r, .cell u n agg :: q => a == u && sizeT P t == some n && aggT P t == some agg && (agg || n == 1) && okRes P r q
  | _, _ => false

def okFn (P : Program) (f : Nat) (pf : PFunc) : Bool :=
  match P.funcs[f]? with
  | some fn => (match fn.body with
    | some c => okCode P fn.ntmps c pf.body
    | none => false) && okRes P fn.results.toList pf.res && decide (pf.np ≤ fn.ntmps) && fn.name != "runtime.NumGoroutine"
  | none => false

end Go.Proofs.Ytbdknlejnacmgaa.Pi
