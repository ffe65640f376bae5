/-
  A small machine of our own ('Pi'): values as trees, a few objects by name, straight code in a short form. What it computes is shown (PiB ..) to be what the model's program does.
-/
import GoSem.Core.View
import Derived.Attr
namespace Go.Proofs.Ytbdknlejnacmgaa.Pi
open Go
set_option linter.unusedVariables false

/-- An object's name: label, generation, place in its group. -/
structure Nm where
  l : Nat
  g : Nat
  j : Nat deriving DecidableEq, Inhabited

/-- Values. -/
inductive PV where
  | any
  | bool (b : Bool)
  | int (k : IntKind) (n : Int)
  | str (s : List Nat)
  | agg (cs : List PV)
  | tuple (vs : List PV)
  | view (xs : List (List PV))
  | nil0
  | own (n : Nm) (sz off len : Nat)
  | optr (n : Nm) (i c : Nat)
  | vptr (x : List PV)
  | fn (f : Nat) (cap : List PV) deriving Inhabited

/-- An object: its elements, each by its cells; whether no cell names an object. -/
structure Obj where
  xs : List (List PV)
  pure : Bool deriving Inhabited

/-- A group of objects. -/
structure Ent where
  l : Nat
  g : Nat
  fz : Bool
  os : List Obj deriving Inhabited

structure St where
  t : List (Nat × PV)
  h : List Ent
  z : List (Nat × Nat)
  g : Nat deriving Inhabited

inductive PArg where
  | t (n : Nat)
  | c (v : PV) deriving Inhabited

inductive POp where
  | mv (x : PArg)
  | nils (l sz : Nat)
  | pick (c a b : PArg)
  | alloc (l : Nat) (cells : List PV) (nils : List (Nat × Nat × Nat))
  | box (l : Nat) (x : PArg)
  | load (n : Nat) (agg : Bool) (a : PArg)
  | store (n : Nat) (a v : PArg)
  | storeRow (a v : PArg)
  | bin (tag : Nat) (op : BinOp) (x y : PArg)
  | un (op : UnOp) (x : PArg)
  | conv (k : IntKind) (x : PArg)
  | tostr (x : PArg)
  | clos (f : Nat) (cap : List PArg)
  | make (l : Nat) (zero : List PV) (bytes : Nat) (n c : PArg)
  | slice (str : Bool) (sz : Nat) (x : PArg) (lo hi mx : Option PArg)
  | field (c n : Nat) (x : PArg)
  | getf (c n : Nat) (agg : Bool) (x : PArg)
  | idx (sz : Nat) (x i : PArg)
  | sidx (x i : PArg)
  | ext (x : PArg) (i : Nat)
  | build (zero : List PV) (parts : List (Nat × Nat × PArg))
  | lits (l : Nat) (sz len : Nat) (parts : List PArg)
  | len (str : Bool) (x : PArg)
  | app (l : Nat) (sz bytes : Nat) (x y : PArg)
  | copy (sz : Nat) (x y : PArg)
  | mm (max : Bool) (xs : List PArg)
  | call (f : PArg) (args : List PArg) (io : Option Nat) (imp : Option Nat)
  | bad deriving Inhabited

/-- One operation: its slot, what it does, its guard (a slot, and what it should hold), and for regions whose order is open: the label that it writes, the labels that it must not touch. -/
structure POper where
  d : Option Nat
  op : POp
  gd : Option (Nat × Bool) := none
  wl : Option Nat := none
  av : List Nat := [] deriving Inhabited

inductive PCode where
  | skip
  | reg (ops : List POper) (draw : Bool) (live liveO : List Nat)
  | seq (a b : PCode)
  | cond (c : PArg) (a b : PCode)
  | block (id : Nat) (a : PCode)
  | loop (a : PCode)
  | exit (id : Nat)
  | ret
  | bad deriving Inhabited

inductive PRes where
  | tmp (t : Nat)
  | cell (t n : Nat) (agg : Bool) deriving Inhabited

structure PFunc where
  np : Nat
  res : List PRes
  own : Bool
  body : PCode deriving Inhabited

structure Ret where
  vs : List PV
  own : List Obj
  io : Option Obj deriving Inhabited

/-! ### Looking things up -/
def rget : List (Nat × PV) → Nat → PV
  | [], _ => .any
  | (m, v) :: r, n => bif m == n then v else rget r n

def efind : List Ent → Nat → Nat → Option Ent
  | [], _, _ => none
  | e :: r, l, g => bif e.l == l && e.g == g then some e else efind r l g

def lfind : List Ent → Nat → Option Ent
  | [], _ => none
  | e :: r, l => bif e.l == l then some e else lfind r l

def hobj (h : List Ent) (n : Nm) : Option Obj := (efind h n.l n.g).bind fun e => e.os[n.j]?

def zin : List (Nat × Nat) → Nat → Nat → Bool
  | [], _, _ => false
  | (a, b) :: r, l, g => (a == l && b == g) || zin r l g

def isFz (h : List Ent) (z : List (Nat × Nat)) (n : Nm) : Bool := ((efind h n.l n.g).map (·.fz)).getD true || zin z n.l n.g

def St.ev (s : St) : PArg → PV
  | .t n => rget s.t n
  | .c v => v

/-! ### Purity: no object is named -/
def pu00 : PV → Bool
  | .any | .agg _ | .tuple _ | .own .. | .optr .. | .fn .. => false
  | _ => true
def pu0 : PV → Bool
  | .any | .agg _ | .tuple _ | .own .. | .optr .. => false
  | .fn _ cap => cap.all pu00
  | _ => true
def pu : PV → Bool
  | .agg cs | .tuple cs => cs.all pu0
  | v => pu0 v

/-- May it lie in one cell? -/
def flat : PV → Bool
  | .any | .agg _ | .tuple _ => false
  | _ => true

def cellsOf : PV → List PV
  | .agg cs => cs
  | v => [v]

/-! ### Handing on: what names objects becomes a view of what they hold; the objects' groups are told -/
def rel0 (h : List Ent) (n : Nm) : Option Obj :=
  bif n.l == 0 then none else hobj h n

def fz0 (h : List Ent) (p : PV) : Option (PV × List (Nat × Nat)) :=
  bif pu0 p then some (p, []) else
  match p with
  | .own n _ off len => (rel0 h n).bind fun o => bif o.pure && decide (off + len ≤ o.xs.length) then some (.view ((o.xs.drop off).take len), [(n.l, n.g)]) else none
  | _ => none

def mapM' {α β : Type} (f : α → Option β) : List α → Option (List β)
  | [] => some []
  | a :: r => (f a).bind fun b => (mapM' f r).bind fun l => some (b :: l)

def fzl (f : PV → Option (PV × List (Nat × Nat))) : List PV → Option (List PV × List (Nat × Nat))
  | [] => some ([], [])
  | a :: r => (f a).bind fun b => (fzl f r).bind fun l => some (b.1 :: l.1, b.2 ++ l.2)

def fzll (f : PV → Option (PV × List (Nat × Nat))) : List (List PV) → Option (List (List PV) × List (Nat × Nat))
  | [] => some ([], [])
  | a :: r => (fzl f a).bind fun b => (fzll f r).bind fun l => some (b.1 :: l.1, b.2 ++ l.2)

/-- A cell, one level more. -/
def fz1 (h : List Ent) (p : PV) : Option (PV × List (Nat × Nat)) :=
  bif pu0 p then some (p, []) else
  match p with
  | .own n _ off len => (rel0 h n).bind fun o => bif decide (off + len ≤ o.xs.length) then
      (bif o.pure then some (.view ((o.xs.drop off).take len), [(n.l, n.g)]) else (fzll (fz0 h) ((o.xs.drop off).take len)).map fun r => (.view r.1, (n.l, n.g) :: r.2)) else none
  | _ => none

def fzo (h : List Ent) (n : Nm) (i c : Nat) : Option (PV × List (Nat × Nat)) :=
  (rel0 h n).bind fun o => (o.xs[i]?).bind fun x =>
    bif o.pure then some (.vptr (x.drop c), [(n.l, n.g)]) else (fzl (fz1 h) (x.drop c)).map fun r => (.vptr r.1, (n.l, n.g) :: r.2)

/-- What a function value has caught. -/
def fzc (h : List Ent) (p : PV) : Option (PV × List (Nat × Nat)) :=
  match p with
  | .optr n i c => fzo h n i c
  | q => bif pu00 q then some (q, []) else none

def fz2 (h : List Ent) (p : PV) : Option (PV × List (Nat × Nat)) :=
  match p with
  | .optr n i c => fzo h n i c
  | .fn f cap => bif pu0 p then some (p, []) else (fzl (fzc h) cap).map fun r => (.fn f r.1, r.2)
  | p => fz1 h p

def fzv (h : List Ent) (p : PV) : Option (PV × List (Nat × Nat)) :=
  match p with
  | .agg cs => (fzl (fz2 h) cs).map fun r => (.agg r.1, r.2)
  | p => fz2 h p

/-! ### Arithmetic -/
def bcmp (op : BinOp) (a b : Int) : Option PV :=
  match op with
  | .eql => some (.bool (a == b))
  | .neq => some (.bool (a != b))
  | .lss => some (.bool (decide (a < b)))
  | .leq => some (.bool (decide (a ≤ b)))
  | .gtr => some (.bool (decide (b < a)))
  | .geq => some (.bool (decide (b ≤ a)))
  | _ => none

def bint (op : BinOp) (k : IntKind) (a b : Int) : Option PV :=
  match op with
  | .add => some (.int k (k.wrap (a + b)))
  | .sub => some (.int k (k.wrap (a - b)))
  | .mul => some (.int k (k.wrap (a * b)))
  | .quo => bif b == 0 then none else some (.int k (k.wrap (a.tdiv b)))
  | .rem => bif b == 0 then none else some (.int k (a.tmod b))
  | .and => some (.int k (k.wrap ((BitVec.ofInt k.bits a &&& BitVec.ofInt k.bits b).toNat)))
  | .or => some (.int k (k.wrap ((BitVec.ofInt k.bits a ||| BitVec.ofInt k.bits b).toNat)))
  | .xor => some (.int k (k.wrap ((BitVec.ofInt k.bits a ^^^ BitVec.ofInt k.bits b).toNat)))
  | op => bcmp op a b

def bbin (tag : Nat) (op : BinOp) (x y : PV) : Option PV :=
  match x, y with
  | .int k a, .int k' b =>
    match op with
    | .shl => bif decide (b < 0) then none else some (.int k (k.wrap (a * 2 ^ (min b.toNat k.bits))))
    | .shr => bif decide (b < 0) then none else some (.int k (a.fdiv (2 ^ (min b.toNat k.bits))))
    | op => bif decide (k = k') then bint op k a b else none
  | .bool a, .bool b =>
    match op with
    | .eql => bif tag == 1 then some (.bool (a == b)) else none
    | .neq => bif tag == 1 then some (.bool (!(a == b))) else none
    | _ => none
  | .str a, .str b =>
    match op with
    | .add => bif decide (a.length + b.length ≤ 4611686018427387904) then some (.str (a ++ b)) else none
    | .eql => some (.bool (decide (a = b)))
    | .neq => some (.bool (!decide (a = b)))
    | _ => none
  | .view ((_ :: _) :: _), .nil0 =>
    match op with
    | .eql => bif tag == 3 then some (.bool false) else none
    | .neq => bif tag == 3 then some (.bool true) else none
    | _ => none
  | .own _ _ _ (_ + 1), .nil0 =>
    match op with
    | .eql => bif tag == 3 then some (.bool false) else none
    | .neq => bif tag == 3 then some (.bool true) else none
    | _ => none
  | _, _ => none

def bun (op : UnOp) (x : PV) : Option PV :=
  match op, x with
  | .neg, .int k a => some (.int k (k.wrap (0 - a)))
  | .xor, .int k a => some (.int k (k.wrap ((BitVec.ofInt k.bits (if k.signed then -1 else k.max) ^^^ BitVec.ofInt k.bits a).toNat)))
  | .not, .bool b => some (.bool (!b))
  | _, _ => none

def nat? : PV → Option Nat
  | .int _ n => bif decide (0 ≤ n) then some n.toNat else none
  | _ => none

/-! ### One operation -/
structure Eff where
  v : PV
  up : List Ent := []
  z : List (Nat × Nat) := []

def okAv (av : List Nat) (l : Nat) : Bool := !av.contains l
def okW (wl : Option Nat) (l : Nat) : Bool := match wl with | none => true | some w => w == l

def strBytes : List (List PV) → Option (List Nat)
  | [] => some []
  | [.int .u8 n] :: r => (strBytes r).map fun l => (n.toNat % 256) :: l
  | _ => none

/-- The elements that a slice value holds, and (if it names an object) its label. -/
def elems (h : List Ent) (av : List Nat) (p : PV) : Option (List (List PV)) :=
  match p with
  | .view xs => some xs
  | .nil0 => some []
  | .own n _ off len => bif okAv av n.l then (hobj h n).bind fun o => bif decide (off + len ≤ o.xs.length) then some ((o.xs.drop off).take len) else none else none
  | _ => none

def slen (p : PV) : Option Nat :=
  match p with
  | .view xs => some xs.length
  | .nil0 => some 0
  | .own _ _ _ len => some len
  | _ => none

/-- The group with one object changed. -/
def put (h : List Ent) (n : Nm) (o : Obj) : Option Ent := (efind h n.l n.g).map fun e => { e with os := e.os.set n.j o }

def setAt {α : Type} (l : List α) (i : Nat) (ys : List α) : List α := l.take i ++ ys ++ l.drop (i + ys.length)

def fits (sz : Nat) (xs : List (List PV)) : Bool := xs.all fun x => x.length == sz

def bnd (s : St) (d : Nat) : Option PArg → Option Nat
  | none => some d
  | some x => nat? (s.ev x)

def putParts (s : St) (cs : List PV) : List (Nat × Nat × PArg) → Option (List PV)
  | [] => some cs
  | (off, sz, x) :: r =>
    let ys := cellsOf (s.ev x)
    bif ys.length == sz && decide (off + sz ≤ cs.length) && ys.all flat then putParts s (setAt cs off ys) r else none

def minInts : List PV → Option PV
  | [] => none
  | [.int k a] => some (.int k a)
  | .int k a :: r => match minInts r with
    | some (.int k' b) => bif decide (k = k') then some (.int k (min a b)) else none
    | _ => none
  | _ => none
def maxInts : List PV → Option PV
  | [] => none
  | [.int k a] => some (.int k a)
  | .int k a :: r => match maxInts r with
    | some (.int k' b) => bif decide (k = k') then some (.int k (max a b)) else none
    | _ => none
  | _ => none

/-- Objects that came out of a call, under another name. -/
def ren (l g l' g' : Nat) : PV → PV
  | .own n sz off len => bif n.l == l && n.g == g then .own ⟨l', g', n.j⟩ sz off len else .own n sz off len
  | p => p
def renO (l g l' g' : Nat) (o : Obj) : Obj := bif o.pure then o else { o with xs := o.xs.map fun x => x.map (ren l g l' g') }

abbrev CallF := Nat → List PV → Option Obj → Option Ret

def one (vs : List PV) : PV := match vs with | [v] => v | vs => .tuple vs

/-- What a call hands back, taken in. -/
def takeIn (s : St) (imp : Option Nat) (r : Ret) (z : List (Nat × Nat)) (io : List Ent) : Option Eff :=
  match r.own with
  | [] => some { v := one r.vs, up := io, z := z }
  | os =>
    match imp with
    | some l => bif decide (1 ≤ l) then some { v := ren 1 0 l s.g (one r.vs), up := { l := l, g := s.g, fz := false, os := os.map (renO 1 0 l s.g) } :: io, z := z } else none
    | none => (fzv [{ l := 1, g := 0, fz := false, os := os }] (one r.vs)).map fun x => { v := x.1, up := io, z := z }

def evCall (F : CallF) (s : St) (av : List Nat) (wl : Option Nat) (f : PV) (args : List PV) (io imp : Option Nat) : Option Eff :=
  match f with
  | .fn k cap =>
    let al := args ++ cap
    match io.bind (al[·]?), io with
    | some (.own n sz off len), some p =>
      bif okAv av n.l then
        bif isFz s.h s.z n then
          (fzl (fzv s.h) al).bind fun q => bif q.2.all (fun x => okAv av x.1) then (F k q.1 none).bind fun r => takeIn s imp r q.2 [] else none
        else
          (fzl (fzv s.h) (al.set p .nil0)).bind fun q =>
          bif q.2.all (fun x => okAv av x.1 && !(x.1 == n.l && x.2 == n.g)) && okW wl n.l then
            (hobj s.h n).bind fun o => bif o.pure && decide (off + len ≤ o.xs.length) then
              (F k (q.1.set p (.own ⟨0, 0, 0⟩ sz off len)) (some o)).bind fun r =>
                match r.io with
                | some o' => (put s.h n o').bind fun e => takeIn s imp r q.2 [e]
                | none => none
            else none
          else none
      else none
    | _, _ => (fzl (fzv s.h) al).bind fun q => bif q.2.all (fun x => okAv av x.1) then (F k q.1 none).bind fun r => takeIn s imp r q.2 [] else none
  | _ => none

def evStore (s : St) (av : List Nat) (wl : Option Nat) (n : Nat) (a v : PV) : Option Eff :=
  match a with
  | .optr nm i c =>
    let ys := cellsOf v
    bif okAv av nm.l && okW wl nm.l && !isFz s.h s.z nm && ys.length == n && ys.all flat then
      (hobj s.h nm).bind fun o => (o.xs[i]?).bind fun x => bif decide (c + n ≤ x.length) then
        (put s.h nm { xs := o.xs.set i (setAt x c ys), pure := o.pure && ys.all pu0 }).map fun e => { v := .any, up := [e] }
      else none
    else none
  | _ => none

/-- A row (an object of its own, alone in its group) becomes a child of the array's group. -/
def evStoreRow (s : St) (av : List Nat) (wl : Option Nat) (a v : PV) : Option Eff :=
  match a, v with
  | .optr nm i 0, .own m sz 0 len =>
    bif okAv av nm.l && okW wl nm.l && !isFz s.h s.z nm && nm.j == 0 && !(nm.l == m.l) && okAv av m.l && m.j == 0 && !isFz s.h s.z m && !(m.l == 0) && !(nm.l == 0) then
      (efind s.h nm.l nm.g).bind fun e => (efind s.h m.l m.g).bind fun r =>
      match e.os, r.os with
      | o :: os, [ro] =>
        bif os.length == i && ro.pure && ro.xs.length == len then
          (o.xs[i]?).bind fun x => bif x.length == 1 then
            some { v := .any, up := [{ e with os := ({ xs := o.xs.set i [.own ⟨nm.l, nm.g, i + 1⟩ sz 0 len], pure := false } : Obj) :: (os ++ [ro]) }, { r with os := [] }] }
          else none
        else none
      | _, _ => none
    else none
  | _, _ => none

def noSelf (l g : Nat) : PV → Bool
  | .own n _ _ _ => !(n.l == l && n.g == g && n.j == 0)
  | _ => true

/-- append: the elements behind; a row that is one element alone becomes a child. -/
def evApp (s : St) (av : List Nat) (wl : Option Nat) (l sz bytes : Nat) (x y : PV) : Option Eff :=
  (elems s.h av y).bind fun ys =>
  bif decide (1 ≤ l) && fits sz ys && ys.all (·.all flat) then
    match x with
    | .nil0 => bif ys.isEmpty then some { v := .view [] } else
        bif decide (ys.length * bytes ≤ 140737488355328) && ys.all (·.all pu0) then
        some { v := .own ⟨l, s.g, 0⟩ sz 0 ys.length, up := [{ l := l, g := s.g, fz := false, os := [{ xs := ys, pure := true }] }] } else none
    | .own n zs 0 len => bif zs == sz && okAv av n.l && okW wl n.l && !isFz s.h s.z n && n.j == 0 && !(n.l == 0) && decide ((len + ys.length) * bytes ≤ 140737488355328) then
        (efind s.h n.l n.g).bind fun e =>
        match e.os with
        | ob :: os => bif ob.xs.length == len && (ob.pure || ob.xs.all (·.all (noSelf n.l n.g))) then
            (bif ys.all (·.all pu0) then
              some { v := .own ⟨l, s.g, 0⟩ sz 0 (len + ys.length), up := [{ l := l, g := s.g, fz := false, os := renO n.l n.g l s.g { xs := ob.xs ++ ys, pure := ob.pure } :: os }, { e with os := [] }] }
            else
              match ys with
              | [[.own m zm 0 k]] =>
                bif okAv av m.l && m.j == 0 && !isFz s.h s.z m && !(m.l == 0) && !(m.l == n.l) && !(m.l == l) && sz == 1 then
                  (efind s.h m.l m.g).bind fun r =>
                  match r.os with
                  | [ro] => bif ro.pure && ro.xs.length == k then
                      some { v := .own ⟨l, s.g, 0⟩ sz 0 (len + 1), up := [{ l := l, g := s.g, fz := false, os := { xs := ob.xs.map (fun x => x.map (ren n.l n.g l s.g)) ++ [[.own ⟨l, s.g, os.length + 1⟩ zm 0 k]], pure := false } :: (os ++ [ro]) }, { e with os := [] }, { r with os := [] }] } else none
                  | _ => none
                else none
              | _ => none)
            else none
        | _ => none
      else none
    | _ => none
  else none

def nilSet (g : Nat) (ns : List (Nat × Nat × Nat)) (cells : List PV) : List PV := ns.foldl (fun (c : List PV) x => c.set x.1 (.own ⟨x.2.1, g, 0⟩ x.2.2 0 0)) cells
def nilEnts (g : Nat) (ns : List (Nat × Nat × Nat)) : List Ent := ns.map fun x => { l := x.2.1, g := g, fz := false, os := [{ xs := [], pure := true }] }

def evOp (F : CallF) (s : St) (o : POper) : Option Eff :=
  match o.op with
  | .mv x => some { v := s.ev x }
  | .nils l sz => bif decide (1 ≤ l) then some { v := .own ⟨l, s.g, 0⟩ sz 0 0, up := [{ l := l, g := s.g, fz := false, os := [{ xs := [], pure := true }] }] } else none
  | .pick c a b => match s.ev c with | .bool true => some { v := s.ev a } | .bool false => some { v := s.ev b } | _ => none
  | .alloc l cells nils =>
    bif decide (1 ≤ l) && nils.all (fun x => decide (1 ≤ x.2.1)) then
    some { v := .optr ⟨l, s.g, 0⟩ 0 0, up := { l := l, g := s.g, fz := false, os := [{ xs := [nilSet s.g nils cells], pure := nils.isEmpty && (nilSet s.g nils cells).all pu0 }] } :: nilEnts s.g nils } else none
  | .box l x =>
    let cs := cellsOf (s.ev x)
    bif decide (1 ≤ l) && cs.all flat then some { v := .optr ⟨l, s.g, 0⟩ 0 0, up := [{ l := l, g := s.g, fz := false, os := [{ xs := [cs], pure := cs.all pu0 }] }] } else none
  | .load n agg a =>
    (match s.ev a with
     | .optr nm i c => bif okAv o.av nm.l then (hobj s.h nm).bind fun ob => (ob.xs[i]?).bind fun x => some ((x.drop c).take n) else none
     | .vptr x => some (x.take n)
     | _ => none).bind fun ys => bif ys.length == n then (bif agg then some { v := .agg ys } else (match ys with | [y] => some { v := y } | _ => none)) else none
  | .store n a v => evStore s o.av o.wl n (s.ev a) (s.ev v)
  | .storeRow a v =>
    match s.ev a, s.ev v with
    | .optr nm i c, .own m sz off len => bif nm.l == m.l then evStore s o.av o.wl 1 (.optr nm i c) (.own m sz off len) else evStoreRow s o.av o.wl (.optr nm i c) (.own m sz off len)
    | a, v => evStore s o.av o.wl 1 a v
  | .bin tag op x y => (bbin tag op (s.ev x) (s.ev y)).map fun v => { v := v }
  | .un op x => (bun op (s.ev x)).map fun v => { v := v }
  | .conv k x => match s.ev x with | .int _ n => some { v := .int k (k.wrap n) } | _ => none
  | .tostr x => (elems s.h o.av (s.ev x)).bind fun xs => (strBytes xs).map fun l => { v := .str l }
  | .clos f cap => some { v := .fn f (cap.map s.ev) }
  | .make l zero bytes n c =>
    (nat? (s.ev n)).bind fun m => (nat? (s.ev c)).bind fun k => bif decide (1 ≤ l) && decide (m ≤ k) && decide (bytes * k ≤ 140737488355328) then
      some { v := .own ⟨l, s.g, 0⟩ zero.length 0 m, up := [{ l := l, g := s.g, fz := false, os := [{ xs := List.replicate m zero, pure := zero.all pu0 }] }] } else none
  | .slice str sz x lo hi mx =>
    match s.ev x with
    | .view xs => (bnd s xs.length hi).bind fun b => (bnd s 0 lo).bind fun a => bif !str && decide (a ≤ b) && decide (b ≤ xs.length) && ((xs[0]?).map fun x => x.length == sz).getD true then
        (match mx with
         | none => some { v := .view ((xs.take b).drop a) }
         | some m => (nat? (s.ev m)).bind fun k => bif decide (k = b) then (bif decide (a = b) then some { v := .nil0 } else some { v := .view ((xs.take b).drop a) }) else none) else none
    | .own n zs off len => (bnd s len hi).bind fun b => (bnd s 0 lo).bind fun a => bif !str && zs == sz && decide (a ≤ b) && decide (b ≤ len) then
        (match mx with
         | none => some { v := .own n sz (off + a) (b - a) }
         | some m => (nat? (s.ev m)).bind fun k => bif decide (k = b) && decide (a = b) then some { v := .nil0 } else none) else none
    | .nil0 => (bnd s 0 hi).bind fun b => (bnd s 0 lo).bind fun a => bif !str && decide (a = 0) && decide (b = 0) then (match mx with | none => some { v := .nil0 } | some m => (nat? (s.ev m)).bind fun k => bif decide (k = 0) then some { v := .nil0 } else none) else none
    | .str l => (bnd s l.length hi).bind fun b => (bnd s 0 lo).bind fun a => bif str && decide (a ≤ b) && decide (b ≤ l.length) && mx.isNone then some { v := .str ((l.take b).drop a) } else none
    | _ => none
  | .field c n x =>
    match s.ev x with
    | .optr nm i c0 => some { v := .optr nm i (c0 + c) }
    | .vptr y => some { v := .vptr (y.drop c) }
    | _ => none
  | .getf c n agg x =>
    match s.ev x with
    | .agg cs => let ys := (cs.drop c).take n
      bif ys.length == n then (bif agg then some { v := .agg ys } else (match ys with | [y] => some { v := y } | _ => none)) else none
    | _ => none
  | .idx sz x i =>
    (nat? (s.ev i)).bind fun k =>
    match s.ev x with
    | .view xs => (xs[k]?).bind fun y => bif y.length == sz && decide (1 ≤ sz) then some { v := .vptr y } else none
    | .own n zs off len => bif decide (k < len) && zs == sz then some { v := .optr n (off + k) 0 } else none
    | _ => none
  | .sidx x i =>
    (nat? (s.ev i)).bind fun k =>
    match s.ev x with
    | .str l => (l[k]?).map fun (c : Nat) => ({ v := .int .u8 (c : Int) } : Eff)
    | _ => none
  | .ext x i => match s.ev x with | .tuple vs => (vs[i]?).map fun v => { v := v } | _ => none
  | .build zero parts => (putParts s zero parts).map fun cs => { v := .agg cs }
  | .lits l sz len parts =>
    let xs := parts.map fun x => cellsOf (s.ev x)
    bif decide (1 ≤ l) && xs.length == len && fits sz xs && xs.all (·.all flat) then
      some { v := .own ⟨l, s.g, 0⟩ sz 0 len, up := [{ l := l, g := s.g, fz := false, os := [{ xs := xs, pure := xs.all (·.all pu0) }] }] } else none
  | .len str x => (bif str then (match s.ev x with | .str l => some l.length | _ => none) else slen (s.ev x)).map fun (n : Nat) => ({ v := .int .i64 (n : Int) } : Eff)
  | .app l sz bytes x y => evApp s o.av o.wl l sz bytes (s.ev x) (s.ev y)
  | .copy sz x y =>
    match s.ev x with
    | .own n zs off len =>
      (elems s.h o.av (s.ev y)).bind fun ys =>
      bif okAv o.av n.l && okW o.wl n.l && !isFz s.h s.z n && zs == sz && fits sz ys && ys.all (·.all pu0) then
        (hobj s.h n).bind fun ob => bif decide (off + len ≤ ob.xs.length) then
          let zs := ys.take len
          (put s.h n { xs := setAt ob.xs off zs, pure := ob.pure }).map fun e => { v := .int .i64 (zs.length : Nat), up := [e] }
        else none
      else none
    | _ => none
  | .mm mx xs => (if mx then maxInts (xs.map s.ev) else minInts (xs.map s.ev)).map fun v => { v := v }
  | .call f args io imp => evCall F s o.av o.wl (s.ev f) (args.map s.ev) io imp
  | .bad => none

/-! ### Code -/
inductive PEx where
  | n
  | x (id : Nat)
  | r deriving Inhabited

def St.app (s : St) (d : Option Nat) (e : Eff) : St :=
  { s with t := (match d with | some d => (d, e.v) :: s.t | none => s.t), h := e.up ++ s.h, z := e.z ++ s.z }

def evGd (F : CallF) (s : St) (o : POper) : Option Eff :=
  match o.gd with
  | none => evOp F s o
  | some (t, want) => match rget s.t t with
    | .bool b => bif b == want then evOp F s o else some { v := .any }
    | _ => none

def runOps (F : CallF) : List POper → St → Option St
  | [], s => some s
  | o :: r, s => (evGd F s o).bind fun e => runOps F r (s.app o.d e)

def St.restrict (s : St) (live liveO : List Nat) : St :=
  { t := live.map fun n => (n, rget s.t n), h := liveO.filterMap fun l => (lfind s.h l).map fun e => { e with fz := e.fz || zin s.z e.l e.g }, z := [], g := s.g + 1 }

def loopN (f : St → Option (PEx × St)) : Nat → St → Option (PEx × St)
  | 0, _ => none
  | k + 1, s => match f s with
    | some (.n, s') => loopN f k s'
    | r => r

def evC (F : CallF) (N : Nat) : PCode → St → Option (PEx × St)
  | .skip, s => some (.n, s)
  | .reg ops _ live liveO, s => (runOps F ops s).map fun s' => (.n, s'.restrict live liveO)
  | .seq a b, s => match evC F N a s with
    | some (.n, s') => evC F N b s'
    | r => r
  | .cond c a b, s => match s.ev c with
    | .bool true => evC F N a s
    | .bool false => evC F N b s
    | _ => none
  | .block id a, s => match evC F N a s with
    | some (.x i, s') => bif i == id then some (.n, s') else some (.x i, s')
    | r => r
  | .loop a, s => loopN (evC F N a) N s
  | .exit id, s => some (.x id, s)
  | .ret, s => some (.r, s)
  | .bad, _ => none

def resVal (s : St) : PRes → Option PV
  | .tmp t => some (rget s.t t)
  | .cell t n agg => match rget s.t t with
    | .optr nm i c => (hobj s.h nm).bind fun ob => (ob.xs[i]?).bind fun x =>
        let ys := (x.drop c).take n
        bif ys.length == n then (bif agg then some (.agg ys) else (match ys with | [y] => some y | _ => none)) else none
    | _ => none

def inGroup (l g : Nat) : PV → Bool
  | .own n _ _ _ => n.l == l && n.g == g
  | _ => false

def finIo (s : St) (io : Option Obj) (r : Ret) : Option Ret :=
  match io with
  | none => some r
  | some _ => (hobj s.h ⟨0, 0, 0⟩).bind fun o => bif o.pure then some { r with io := some o } else none

def fin (own : Bool) (vs : List PV) (s : St) (io : Option Obj) : Option Ret :=
  match own, vs with
  | true, [.own n sz 0 len] =>
    (efind s.h n.l n.g).bind fun e =>
      bif !isFz s.h s.z n && n.j == 0 && !(n.l == 0) && ((e.os[0]?).map fun o => o.xs.length == len).getD false && e.os.all fun o => o.pure || o.xs.all (·.all fun p => pu0 p || inGroup n.l n.g p) then
        finIo s io { vs := [.own ⟨1, 0, 0⟩ sz 0 len], own := e.os.map (renO n.l n.g 1 0), io := none }
      else none
  | _, vs => (fzl (fzv s.h) vs).bind fun q => finIo s io { vs := q.1, own := [], io := none }

def zipArgs : Nat → List PV → List (Nat × PV)
  | _, [] => []
  | i, a :: r => (i, a) :: zipArgs (i + 1) r

def ioEnts : Option Obj → List Ent
  | none => []
  | some o => [{ l := 0, g := 0, fz := false, os := [o] }]

def evFn (F : CallF) (N : Nat) (pf : PFunc) (args : List PV) (io : Option Obj) : Option Ret :=
  bif args.length == pf.np then
    match evC F N pf.body { t := zipArgs 0 args, h := ioEnts io, z := [], g := 1 } with
    | some (.n, s) | some (.r, s) => (mapM' (resVal s) pf.res).bind fun vs => fin pf.own vs s io
    | _ => none
  else none

/-- The program's functions, in short form; fuel for calls and for rounds. -/
def callN (T : Nat → Option PFunc) (N : Nat) : Nat → CallF
  | 0, _, _, _ => none
  | k + 1, f, args, io => (T f).bind fun pf => evFn (callN T N k) N pf args io

end Go.Proofs.Ytbdknlejnacmgaa.Pi
