/-
  THE EVALUATOR, PART A: values by type, frames, and a function 'run' that evaluates the text of a Go function over them (no memory: a slice is its list).
  Own work, for all claims of this repo. Nothing here is trusted: parts B and C prove that what 'run' tells is what the Go call does.
-/
import Derived.Orders
import Derived.Below
import Derived.Deep.MidRow
namespace Go.Ev
open Go

/-! ## Types and values -/
inductive Ty where
  | int (k : IntKind) | bool | str | sl (e : Ty) | unit | pair (a b : Ty)
  deriving DecidableEq

@[reducible] def Ty.den : Ty → Type
  | .int _ => Int
  | .bool => Bool
  | .str => ByteArray
  | .sl e => List e.den
  | .unit => Unit
  | .pair a b => a.den × b.den

def Ty.size : Ty → Nat
  | .unit => 0
  | .pair a b => a.size + b.size
  | _ => 1

def Ty.agg : Ty → Bool
  | .unit | .pair .. => true
  | _ => false

def Ty.isSl : Ty → Bool
  | .sl _ => true
  | _ => false

def zeroD : (t : Ty) → t.den
  | .int _ => (0 : Int)
  | .bool => false
  | .str => (⟨#[]⟩ : ByteArray)
  | .sl _ => []
  | .unit => ()
  | .pair a b => (zeroD a, zeroD b)

def zeroC : Ty → List Value
  | .int k => [.int k 0]
  | .bool => [.bool false]
  | .str => [.string ⟨#[]⟩]
  | .sl _ => [.slice none 0 0]
  | .unit => []
  | .pair a b => zeroC a ++ zeroC b

/-- Where the slices lie among a type's cells. -/
def slOffs : Ty → Nat → List Nat
  | .sl _, o => [o]
  | .pair a b, o => slOffs a o ++ slOffs b (o + a.size)
  | _, _ => []

structure DV where
  t : Ty
  x : t.den

def DV.as (d : DV) (t : Ty) : Option t.den := if h : d.t = t then some (h ▸ d.x) else none

/-- The part at a place, of a known type. -/
def proj (u : Ty) : (t : Ty) → t.den → Nat → Option u.den
  | .pair a b, x, off =>
    if h : off = 0 ∧ Ty.pair a b = u then some (h.2 ▸ x)
    else bif Nat.blt off a.size then proj u a x.1 off else proj u b x.2 (off - a.size)
  | .int k, x, off => if h : off = 0 ∧ Ty.int k = u then some (h.2 ▸ x) else none
  | .bool, x, off => if h : off = 0 ∧ Ty.bool = u then some (h.2 ▸ x) else none
  | .str, x, off => if h : off = 0 ∧ Ty.str = u then some (h.2 ▸ x) else none
  | .sl e, x, off => if h : off = 0 ∧ Ty.sl e = u then some (h.2 ▸ x) else none
  | .unit, x, off => if h : off = 0 ∧ Ty.unit = u then some (h.2 ▸ x) else none

def upd (u : Ty) (y : u.den) : (t : Ty) → t.den → Nat → Option t.den
  | .pair a b, x, off =>
    if h : off = 0 ∧ u = Ty.pair a b then some (h.2 ▸ y)
    else bif Nat.blt off a.size then (upd u y a x.1 off).bind fun z => some (z, x.2) else (upd u y b x.2 (off - a.size)).bind fun z => some (x.1, z)
  | .int k, _, off => if h : off = 0 ∧ u = Ty.int k then some (h.2 ▸ y) else none
  | .bool, _, off => if h : off = 0 ∧ u = Ty.bool then some (h.2 ▸ y) else none
  | .str, _, off => if h : off = 0 ∧ u = Ty.str then some (h.2 ▸ y) else none
  | .sl e, _, off => if h : off = 0 ∧ u = Ty.sl e then some (h.2 ▸ y) else none
  | .unit, _, off => if h : off = 0 ∧ u = Ty.unit then some (h.2 ▸ y) else none

/-- Equality of flat values (no slices). -/
def eqD : (t : Ty) → t.den → t.den → Bool
  | .int _, x, y => x == y
  | .bool, x, y => x == y
  | .str, x, y => x.toList == y.toList
  | .sl _, _, _ => false
  | .unit, _, _ => true
  | .pair a b, x, y => eqD a x.1 y.1 && eqD b x.2 y.2

def Ty.flat : Ty → Bool
  | .sl _ => false
  | .pair a b => a.flat && b.flat
  | _ => true

def idx {α : Type} (xs : List α) (i : Int) : Option α := bif decide (0 ≤ i) then xs[i.toNat]? else none

/-! ## Frames -/
inductive Cap where
  | val (d : DV) | ref (k off : Nat) | peek (d : DV)

inductive Ent where
  | undef
  | val (d : DV) (own : Bool)
  | ref (k off : Nat)
  | peek (d : DV)
  | clo (f : Nat) (caps : List Cap)
  | tup (ds : List DV)
  /-- A row with nothing behind it: an append makes a new one. -/
  | full (d : DV)

structure Box where
  t : Ty
  x : t.den
  own : List Nat

structure Fr where
  v : List (Nat × Ent)
  b : List (Nat × Box)

def getE : List (Nat × Ent) → Nat → Ent
  | [], _ => .undef
  | (k, e) :: r, s => bif Nat.beq k s then e else getE r s

def setE : List (Nat × Ent) → Nat → Ent → List (Nat × Ent)
  | [], s, e => [(s, e)]
  | (k, x) :: r, s, e => bif Nat.beq k s then (k, e) :: r else (k, x) :: setE r s e

def getB : List (Nat × Box) → Nat → Option Box
  | [], _ => none
  | (k, e) :: r, s => bif Nat.beq k s then some e else getB r s

def setB : List (Nat × Box) → Nat → Box → List (Nat × Box)
  | [], s, e => [(s, e)]
  | (k, x) :: r, s, e => bif Nat.beq k s then (k, e) :: r else (k, x) :: setB r s e

def Cap.mentions (d : Nat) : Cap → Bool
  | .ref k _ => Nat.beq k d
  | _ => false

def Ent.purge (d : Nat) (e : Ent) : Ent := match e with
  | .ref k o => bif Nat.beq k d then .undef else .ref k o
  | .clo f cs => bif cs.any (Cap.mentions d) then .undef else .clo f cs
  | e => e

structure Delta where
  purge : Option Nat := none
  us : List (Nat × Ent) := []
  bs : List (Nat × Box) := []

def setEs : List (Nat × Ent) → List (Nat × Ent) → List (Nat × Ent)
  | v, [] => v
  | v, (s, e) :: r => setEs (setE v s e) r

def setBs : List (Nat × Box) → List (Nat × Box) → List (Nat × Box)
  | v, [] => v
  | v, (s, e) :: r => setBs (setB v s e) r

def purgeE (d : Nat) : List (Nat × Ent) → List (Nat × Ent)
  | [] => []
  | (s, e) :: r => (s, e.purge d) :: purgeE d r

def Fr.app (F : Fr) (δ : Delta) : Fr :=
  ⟨setEs (match δ.purge with | some d => purgeE d F.v | none => F.v) δ.us, setBs F.b δ.bs⟩

/-! ## Contracts -/
inductive ATy where
  | v (t : Ty) | pk (t : Ty) | cl (f : Nat) (caps : List (Bool × Ty))

@[reducible] def CapsDen : List (Bool × Ty) → Type
  | [] => Unit
  | c :: r => c.2.den × CapsDen r

@[reducible] def ATy.den : ATy → Type
  | .v t | .pk t => t.den
  | .cl _ caps => CapsDen caps

@[reducible] def DenA : List ATy → Type
  | [] => Unit
  | a :: r => a.den × DenA r

@[reducible] def DenR : List Ty → Type
  | [] => Unit
  | [t] => t.den
  | t :: r => t.den × DenR r

structure Con where
  f : Nat
  args : List ATy
  res : List Ty
  own : Bool
  fn : DenA args → Option (DenR res)
  /-- 'some (pos, cl, own)': the argument at place 'pos' points to a variable that the call may turn (or is the function 'cl' that captured the pointer): what it holds comes last among 'args', and last among 'res' what it holds then; 'own': where in it the slices lie that may grow. -/
  mu : Option (Nat × Option Nat × List Nat) := none

/-- An argument that is handed on: a value, a pointer that is only read through, a function value with what it captured ('true': a pointer). -/
inductive Arg where
  | val (d : DV) | peek (d : DV) | clo (f : Nat) (caps : List (Bool × DV))

def decCaps : (cs : List (Bool × Ty)) → List (Bool × DV) → Option (CapsDen cs)
  | [], [] => some ()
  | (b, t) :: r, (b', d) :: r' => bif b == b' then (match d.as t, decCaps r r' with | some x, some y => some (x, y) | _, _ => none) else none
  | _, _ => none

def decArg : (a : ATy) → Arg → Option a.den
  | .v t, .val d => d.as t
  | .pk t, .peek d => d.as t
  | .cl f cs, .clo g ds => bif Nat.beq f g then decCaps cs ds else none
  | _, _ => none

def decA : (as : List ATy) → List Arg → Option (DenA as)
  | [], [] => some ()
  | a :: r, x :: r' => match decArg a x, decA r r' with | some p, some q => some (p, q) | _, _ => none
  | _, _ => none

def encR : (ts : List Ty) → DenR ts → List DV
  | [], _ => []
  | [t], x => [⟨t, x⟩]
  | t :: u :: r, x => ⟨t, x.1⟩ :: encR (u :: r) x.2

def decR : (ts : List Ty) → List DV → Option (DenR ts)
  | [], [] => some ()
  | [t], [d] => d.as t
  | t :: u :: r, d :: r' => match d.as t, decR (u :: r) r' with | some x, some y => some (x, y) | _, _ => none
  | _, _ => none

def resE : (ts : List Ty) → (own : Bool) → DenR ts → Ent
  | [t], own, x => .val ⟨t, x⟩ (own && t.isSl)
  | ts, _, x => .tup (encR ts x)

/-! ## The type table -/
structure TI where
  ty : Ty
  elem : Nat
  bytes : Nat
  flds : List (Nat × Nat × Ty)
  len : Nat
  eqok : Bool

abbrev TT := List (Nat × TI)

def TT.look : TT → Nat → Option TI
  | [], _ => none
  | (k, e) :: r, s => bif Nat.beq k s then some e else TT.look r s

/-! ## The operations -/
section core
variable {R : Type} (Γ : List Con) (tt : TT) (tr : Bool) (gv : Nat → Ent) (gb : Nat → Option Box)

def constE (ty : Nat) : Value → Ent
  | .int k n => .val ⟨.int k, n⟩ false
  | .bool b => .val ⟨.bool, b⟩ false
  | .string s => .val ⟨.str, s⟩ false
  | .slice none 0 0 => match tt.look ty with
    | some ti => match ti.ty with
      | .sl e => .val ⟨.sl e, []⟩ true
      | _ => .undef
    | none => .undef
  | _ => .undef

def ent (ty : Nat) : Operand → Ent
  | .tmp t => gv t
  | .const c => constE tt ty c
  | .func f => .clo f []
  | .global _ => .undef

/-- What is left in the slot from which a row that may grow was taken. -/
def left (d : DV) : Operand → List (Nat × Ent)
  | .tmp s => [(s, .val d false)]
  | _ => []

def put (o : Oper) (k : Delta → Option R) (e : Ent) (more : List (Nat × Ent)) : Option R := match o.dst with
  | some d => k { us := more ++ [(d, e)] }
  | none => none

def mvK (o : Oper) (x : Operand) (k : Delta → Option R) : Option R := match x, ent tt gv o.type x with
  | _, .undef => none
  | .tmp _, .val d own => put o k (.val d (own && tr)) (bif own && tr then left d x else [])
  | _, e => put o k e []

def scal (e : Ent) : Option DV := match e with
  | .val d _ => some d
  | _ => none

def intBinK (op : BinOp) (k : IntKind) (a b : Int) (κ : DV → Option R) : Option R := match op with
  | .add => κ ⟨.int k, k.wrap (a + b)⟩
  | .sub => κ ⟨.int k, k.wrap (a - b)⟩
  | .mul => κ ⟨.int k, k.wrap (a * b)⟩
  | .quo => bif b == 0 then none else κ ⟨.int k, k.wrap (a.tdiv b)⟩
  | .rem => bif b == 0 then none else κ ⟨.int k, a.tmod b⟩
  | .and => κ ⟨.int k, k.wrap (BitVec.ofInt k.bits a &&& BitVec.ofInt k.bits b).toNat⟩
  | .or => κ ⟨.int k, k.wrap (BitVec.ofInt k.bits a ||| BitVec.ofInt k.bits b).toNat⟩
  | .xor => κ ⟨.int k, k.wrap (BitVec.ofInt k.bits a ^^^ BitVec.ofInt k.bits b).toNat⟩
  | .andNot => κ ⟨.int k, k.wrap (BitVec.ofInt k.bits a &&& ~~~BitVec.ofInt k.bits b).toNat⟩
  | .eql => κ ⟨.bool, a == b⟩
  | .neq => κ ⟨.bool, a != b⟩
  | .lss => κ ⟨.bool, decide (a < b)⟩
  | .leq => κ ⟨.bool, decide (a ≤ b)⟩
  | .gtr => κ ⟨.bool, decide (a > b)⟩
  | .geq => κ ⟨.bool, decide (a ≥ b)⟩
  | _ => none

def shiftK (op : BinOp) (k : IntKind) (a y : Int) (κ : DV → Option R) : Option R :=
  bif decide (y < 0) then none else match op with
  | .shl => κ ⟨.int k, k.wrap (a * 2 ^ (min y.toNat k.bits))⟩
  | .shr => κ ⟨.int k, a.fdiv (2 ^ (min y.toNat k.bits))⟩
  | _ => none

def IntKind.same (a b : IntKind) : Bool := match a, b with
  | .i8, .i8 | .i16, .i16 | .i32, .i32 | .i64, .i64 | .u8, .u8 | .u16, .u16 | .u32, .u32 | .u64, .u64 => true
  | _, _ => false

def isShift : BinOp → Bool
  | .shl | .shr => true
  | _ => false

def flatEqK (op : BinOp) (ty : Nat) (a : DV) (b : DV) (κ : DV → Option R) : Option R := match tt.look ty with
  | some ti => bif ti.eqok && ti.ty.flat then (match a.as ti.ty, b.as ti.ty with
    | some x, some y => (match op with
      | .eql => κ ⟨.bool, eqD ti.ty x y⟩
      | .neq => κ ⟨.bool, !eqD ti.ty x y⟩
      | _ => none)
    | _, _ => none) else none
  | none => none

def binK (op : BinOp) (ty : Nat) (a b : DV) (κ : DV → Option R) : Option R := match a, b with
  | ⟨.int k, x⟩, ⟨.int k', y⟩ => bif isShift op then shiftK op k x y κ else bif IntKind.same k k' then intBinK op k x y κ else none
  | ⟨.int _, _⟩, _ => none
  | _, ⟨.int _, _⟩ => none
  | ⟨.str, x⟩, ⟨.str, y⟩ => (match op with
    | .eql => κ ⟨.bool, x.toList == y.toList⟩
    | .neq => κ ⟨.bool, !(x.toList == y.toList)⟩
    | _ => none)
  | a, b => flatEqK tt op ty a b κ

def unK (op : UnOp) (a : DV) (κ : DV → Option R) : Option R := match op, a with
  | .neg, ⟨.int k, x⟩ => κ ⟨.int k, k.wrap (0 - x)⟩
  | .not, ⟨.bool, x⟩ => κ ⟨.bool, !x⟩
  | _, _ => none

def mkFields (t : Ty) (flds : List (Nat × Nat × Ty)) : t.den → List (Nat × Option DV) → Option t.den
  | x, [] => some x
  | x, (i, some d) :: r => match flds[i]? with
    | some (off, _, ty) => (match d.as ty with
      | some y => (upd ty y t x off).bind fun z => mkFields t flds z r
      | none => none)
    | none => none
  | _, (_, none) :: _ => none

def mkElems (e : Ty) : List e.den → List (Nat × Option DV) → Option (List e.den)
  | xs, [] => some xs
  | xs, (i, some d) :: r => match d.as e with
    | some y => bif Nat.blt i xs.length then mkElems e (xs.set i y) r else none
    | none => none
  | _, (_, none) :: _ => none

def partsD (tyOf : Nat → Nat) (parts : Array (Nat × Operand)) : List (Nat × Option DV) :=
  parts.toList.map fun p => (p.1, scal (ent tt gv (tyOf p.1) p.2))

def capOf : Ent → Option Cap
  | .val d _ => some (.val d)
  | .ref k o => some (.ref k o)
  | .peek d => some (.peek d)
  | _ => none

def capsOf : List Ent → Option (List Cap)
  | [] => some []
  | e :: r => match capOf e, capsOf r with | some c, some cs => some (c :: cs) | _, _ => none

def rcap : Cap → Option (Bool × DV)
  | .val d => some (false, d)
  | .peek d => some (true, d)
  | .ref k o => match o, gb k with | 0, some bx => some (true, ⟨bx.t, bx.x⟩) | _, _ => none

def rcaps : List Cap → Option (List (Bool × DV))
  | [] => some []
  | c :: r => match rcap gb c, rcaps r with | some x, some xs => some (x :: xs) | _, _ => none

def capArg : Bool × DV → Arg
  | (false, d) => .val d
  | (true, d) => .peek d

def argOf : Ent → Option Arg
  | .val d _ => some (.val d)
  | .peek d => some (.peek d)
  | .ref k o => match o, gb k with | 0, some bx => some (.peek ⟨bx.t, bx.x⟩) | _, _ => none
  | .clo f cs => (rcaps gb cs).bind fun xs => some (.clo f xs)
  | _ => none

def argsOf : List Ent → Option (List Arg)
  | [] => some []
  | e :: r => match argOf gb e, argsOf r with | some c, some cs => some (c :: cs) | _, _ => none

def zipTys : List Operand → List Nat → List (Nat × Operand)
  | x :: r, t :: r' => (t, x) :: zipTys r r'
  | x :: r, [] => (0, x) :: zipTys r []
  | [], _ => []

def callCon (o : Oper) (k : Delta → Option R) (g : Nat) (as : List Arg) : List Con → Option R
  | [] => none
  | c :: r => bif Nat.beq c.f g && c.mu.isNone then (match decA c.args as with
      | some x => (c.fn x).bind fun y => put o k (resE c.res c.own y) []
      | none => callCon o k g as r) else callCon o k g as r

def most : Nat := 2147483648

def appendK (o : Oper) (k : Delta → Option R) (t u : Nat) (s x : Operand) : Option R :=
  match ent tt gv t s, ent tt gv u x, tt.look t with
  | .val ⟨.sl e, xs⟩ own, .val d _, some ti => bif own && Nat.beq t u && decide (ti.ty = .sl e) then (match d.as (.sl e) with
      | some ys => bif decide (xs.length + ys.length ≤ most) then put o k (.val ⟨.sl e, xs ++ ys⟩ true) (left ⟨.sl e, xs⟩ s) else none
      | none => none) else none
  | .full ⟨.sl e, xs⟩, .val d _, some ti => bif Nat.beq t u && decide (ti.ty = .sl e) then (match d.as (.sl e) with
      | some ys => bif Nat.blt 0 ys.length && decide (xs.length + ys.length ≤ most) then put o k (.val ⟨.sl e, xs ++ ys⟩ true) [] else none
      | none => none) else none
  | _, _, _ => none

def bestK (mx : Bool) (a b : DV) (κ : DV → Option R) : Option R := match a, b with
  | ⟨.int i, x⟩, ⟨.int j, y⟩ => bif IntKind.same i j then κ ⟨.int i, bif mx then (bif decide (y > x) then y else x) else (bif decide (y < x) then y else x)⟩ else none
  | _, _ => none

def callK (o : Oper) (c : Call) (k : Delta → Option R) : Option R := match c.callee with
  | .builtin b => (match b, c.args.toList, c.argTypes.toList with
    | .len, [x], [t] => (match ent tt gv t x, tt.look t with
      | .val ⟨.sl e, xs⟩ _, some ti => bif decide (ti.ty = .sl e) then put o k (.val ⟨.int .i64, (xs.length : Int)⟩ false) [] else none
      | _, _ => none)
    | .append, [s, x], [t, u] => appendK tt gv o k t u s x
    | .max, [x, y], [t, u] => (match ent tt gv t x, ent tt gv u y with
      | .val a _, .val b _ => bestK true a b fun d => put o k (.val d false) []
      | _, _ => none)
    | .min, [x, y], [t, u] => (match ent tt gv t x, ent tt gv u y with
      | .val a _, .val b _ => bestK false a b fun d => put o k (.val d false) []
      | _, _ => none)
    | _, _, _ => none)
  | .value f => (match ent tt gv 0 f with
    | .clo g caps => (match rcaps gb caps, argsOf gb ((zipTys c.args.toList c.argTypes.toList).map fun p => ent tt gv p.1 p.2) with
      | some cs, some as => callCon o k g (as ++ cs.map capArg) Γ
      | _, _ => none)
    | _ => none)
  | _ => none

def intOfE : Ent → Option Int
  | .val ⟨.int _, n⟩ _ => some n
  | _ => none

/-- A bound of a cut: not there, or a number. -/
def bndK : Option Operand → Option (Option Int)
  | none => some none
  | some y => match intOfE (ent tt gv 0 y) with
    | some i => some (some i)
    | none => none

/-- Two bounds that are the same number. -/
def sameC : Option Operand → Option Operand → Bool
  | some (.const (.int _ a)), some (.const (.int _ b)) => a == b
  | _, _ => false

def cutE (full : Bool) (d : DV) : Ent := match full with
  | true => .full d
  | false => .val d false

def sliceK (o : Oper) (t : Nat) (x : Operand) (lo hi mx : Option Operand) (k : Delta → Option R) : Option R :=
  match ent tt gv t x, tt.look t with
  | .val ⟨.sl e, xs⟩ own, some ti => bif decide (ti.ty = .sl e) then
    (match bndK tt gv lo, bndK tt gv hi, bndK tt gv mx with
    | some none, some none, some none => put o k (.val ⟨.sl e, xs⟩ (own && tr)) (bif own && tr then left ⟨.sl e, xs⟩ x else [])
    | some (some l), some none, some none => bif decide (0 ≤ l) && decide (l ≤ xs.length) then
        put o k (.val ⟨.sl e, xs.drop l.toNat⟩ false) [] else none
    | some none, some (some h), some none => bif decide (0 ≤ h) && decide (h ≤ xs.length) then put o k (.val ⟨.sl e, xs.take h.toNat⟩ false) [] else none
    | some (some l), some (some h), some none => bif decide (0 ≤ l) && decide (l ≤ h) && decide (h ≤ xs.length) then
        put o k (.val ⟨.sl e, (xs.take h.toNat).drop l.toNat⟩ false) [] else none
    | some none, some (some h), some (some m) => bif decide (0 ≤ h) && decide (h ≤ m) && decide (m ≤ xs.length) then put o k (cutE (sameC hi mx) ⟨.sl e, xs.take h.toNat⟩) [] else none
    | some (some l), some (some h), some (some m) => bif decide (0 ≤ l) && decide (l ≤ h) && decide (h ≤ m) && decide (m ≤ xs.length) then
        put o k (cutE (sameC hi mx) ⟨.sl e, (xs.take h.toNat).drop l.toNat⟩) [] else none
    | _, _, _ => none) else none
  | _, _ => none

def loadK (o : Oper) (t : Nat) (a : Operand) (k : Delta → Option R) : Option R := match tt.look t, ent tt gv 0 a with
  | some ti, .ref kk off => (match gb kk with
    | some bx => (match proj ti.ty bx.t bx.x off with
      | some y => bif tr && ti.ty.isSl && bx.own.contains off then (match o.dst with
          | some d => k { us := [(d, .val ⟨ti.ty, y⟩ true)], bs := [(kk, { bx with own := bx.own.filter (fun q => !Nat.beq q off) })] }
          | none => none)
        else put o k (.val ⟨ti.ty, y⟩ false) []
      | none => none)
    | none => none)
  | some ti, .peek d => (match proj ti.ty d.t d.x 0 with
    | some y => put o k (.val ⟨ti.ty, y⟩ false) []
    | none => none)
  | _, _ => none

def storeK (o : Oper) (t : Nat) (a x : Operand) (k : Delta → Option R) : Option R := match tt.look t, ent tt gv 0 a, ent tt gv t x, o.dst with
  | some ti, .ref kk off, .val d own, none => (match gb kk with
    | some bx => bif decide (d.t = ti.ty) then (match upd d.t d.x bx.t bx.x off with
      | some z => k { us := bif own then left d x else [],
                      bs := [(kk, ⟨bx.t, z, bx.own.filter (fun q => Nat.blt q off || Nat.ble (off + d.t.size) q) ++ (bif own && d.t.isSl then [off] else [])⟩)] }
      | none => none) else none
    | none => none)
  | _, _, _, _ => none

def fieldAddrK (o : Oper) (t : Nat) (x : Operand) (f : Nat) (k : Delta → Option R) : Option R := match tt.look t with
  | some ti => (match ti.flds[f]? with
    | some (off, _, fty) => bif Nat.beq fty.size 0 || !Nat.beq ti.len 0 || !ti.ty.agg then none else (match ent tt gv 0 x with
      | .ref kk o' => put o k (.ref kk (o' + off)) []
      | .peek d => bif decide (d.t = ti.ty) then (match proj fty d.t d.x off with
        | some y => put o k (.peek ⟨fty, y⟩) []
        | none => none) else none
      | _ => none)
    | none => none)
  | none => none

def indexAddrK (o : Oper) (t : Nat) (x ix : Operand) (k : Delta → Option R) : Option R := match tt.look t, intOfE (ent tt gv 0 ix), ent tt gv t x with
  | some ti, some i, .val ⟨.sl e, xs⟩ _ => bif decide (ti.ty = .sl e) then (idx xs i).bind fun y => put o k (.peek ⟨e, y⟩) [] else none
  | some ti, some i, .ref kk off => (match ti.ty with
    | .pair e _ => bif decide (0 ≤ i) && Nat.blt i.toNat ti.len && !Nat.beq e.size 0 then put o k (.ref kk (off + i.toNat * e.size)) [] else none
    | _ => none)
  | some ti, some i, .peek d => (match ti.ty with
    | .pair e _ => bif decide (0 ≤ i) && Nat.blt i.toNat ti.len && !Nat.beq e.size 0 && decide (d.t = ti.ty) then (match proj e d.t d.x (i.toNat * e.size) with
      | some y => put o k (.peek ⟨e, y⟩) []
      | none => none) else none
    | _ => none)
  | _, _, _ => none

def core (o : Oper) (k : Delta → Option R) : Option R := match o.op with
  | .move x | .assign x => mvK tt tr gv o x k
  | .pick c a b => (match ent tt gv o.type c, ent tt gv o.type a, ent tt gv o.type b with
    | .val ⟨.bool, q⟩ _, .val x _, .val y _ => bif q then put o k (.val x false) [] else put o k (.val y false) []
    | .val ⟨.bool, q⟩ _, .val x _, _ => bif q then put o k (.val x false) [] else none
    | .val ⟨.bool, q⟩ _, _, .val y _ => bif q then none else put o k (.val y false) []
    | _, _, _ => none)
  | .alloc t => (match tt.look t, o.dst with
    | some ti, some d => k { purge := some d, us := [(d, .ref d 0)], bs := [(d, ⟨ti.ty, zeroD ti.ty, slOffs ti.ty 0⟩)] }
    | _, _ => none)
  | .box t x => (match tt.look t, o.dst, ent tt gv t x with
    | some ti, some d, .val q _ => bif decide (q.t = ti.ty) then
        k { purge := some d, us := [(d, .ref d 0)], bs := [(d, ⟨q.t, q.x, []⟩)] } else none
    | _, _, _ => none)
  | .build t parts => (match tt.look t with
    | some ti => bif !ti.ty.agg then none else (match mkFields ti.ty ti.flds (zeroD ti.ty) (partsD tt gv (fun i => ((ti.flds[i]?).map (·.2.1)).getD 0) parts) with
      | some x => put o k (.val ⟨ti.ty, x⟩ false) []
      | none => none)
    | none => none)
  | .buildSlice t n parts => (match tt.look t with
    | some ti => (match ti.ty with
      | .sl e => bif Nat.ble n 4096 && Nat.ble e.size 4096 then (match mkElems e (List.replicate n (zeroD e)) (partsD tt gv (fun _ => ti.elem) parts) with
        | some xs => put o k (.val ⟨.sl e, xs⟩ true) []
        | none => none) else none
      | _ => none)
    | none => none)
  | .load t a => loadK tt tr gv gb o t a k
  | .store t a x => storeK tt gv gb o t a x k
  | .nilCheck x => (match ent tt gv o.type x with
    | .ref kk off => put o k (.ref kk off) []
    | .peek d => put o k (.peek d) []
    | .clo f cs => put o k (.clo f cs) []
    | _ => none)
  | .binOp op t x y u => (match ent tt gv t x, ent tt gv u y with
    | .val a _, .val b _ => binK tt op t a b fun d => put o k (.val d false) []
    | _, _ => none)
  | .unOp op t x => (match ent tt gv t x with
    | .val a _ => unK op a fun d => put o k (.val d false) []
    | _ => none)
  | .convert src dst x => (match ent tt gv src x, tt.look dst, tt.look src with
    | .val ⟨.int _, n⟩ _, some ti, some _ => (match ti.ty with
      | .int k' => put o k (.val ⟨.int k', k'.wrap n⟩ false) []
      | _ => none)
    | _, _, _ => none)
  | .makeFunc (.func f) first caps => bif first.isEmpty then (match capsOf (caps.toList.map (ent tt gv 0)) with
    | some cs => put o k (.clo f cs) []
    | none => none) else none
  | .makeSlice t l c => (match tt.look t, intOfE (ent tt gv 0 l), intOfE (ent tt gv 0 c) with
    | some ti, some n, some m => (match ti.ty with
      | .sl e => bif decide (0 ≤ n) && decide (n ≤ m) && decide (m ≤ 2147483648) then put o k (.val ⟨.sl e, List.replicate n.toNat (zeroD e)⟩ true) [] else none
      | _ => none)
    | _, _, _ => none)
  | .slice t x lo hi mx => sliceK tt tr gv o t x lo hi mx k
  | .fieldAddr t x f => fieldAddrK tt gv o t x f k
  | .field t x f => (match tt.look t, ent tt gv t x with
    | some ti, .val d _ => (match ti.flds[f]? with
      | some (off, _, fty) => bif decide (d.t = ti.ty) && Nat.beq ti.len 0 && ti.ty.agg then (match proj fty d.t d.x off with
        | some y => put o k (.val ⟨fty, y⟩ false) []
        | none => none) else none
      | none => none)
    | _, _ => none)
  | .indexAddr t x ix => indexAddrK tt gv o t x ix k
  | .extract x i => (match ent tt gv 0 x with
    | .tup ds => (match ds[i]? with
      | some d => put o k (.val d false) []
      | none => none)
    | _ => none)
  | .call c => callK Γ tt gv gb o c k
  | _ => none

end core

/-! ## Steps, regions, code -/
section run
variable {R : Type} (Γ : List Con) (tt : TT)

def eats (d : Nat) (o : Oper) : Bool := match o.op with
  | .assign (.tmp s) => Nat.beq s d
  | .store _ _ (.tmp s) => Nat.beq s d
  | .slice _ (.tmp s) none none none => Nat.beq s d
  | .call c => (match c.callee with
    | .builtin .append => (match c.args.toList with | .tmp s :: _ => Nat.beq s d | _ => false)
    | _ => false)
  | _ => false

def isSlT (t : Nat) : Bool := match tt.look t with
  | some ti => ti.ty.isSl
  | none => false

def fed (ops : List Oper) (o : Oper) : Bool := match o.dst with
  | some d => ops.any (eats d)
  | none => false

/-- Does the row that an operation takes go on to where it may grow? -/
def takes (ops : List Oper) (o : Oper) : Bool := match o.op with
  | .assign _ => isSlT tt o.type
  | .move _ => isSlT tt o.type && fed ops o
  | .load t _ => isSlT tt t && fed ops o
  | _ => fed ops o

/-- A slice against nil: which one, and is it '=='? -/
def nilOp (o : Oper) : Option (Nat × Operand × Bool) := match o.op with
  | .binOp .eql t x (.const (.slice none 0 0)) _ => some (t, x, true)
  | .binOp .neq t x (.const (.slice none 0 0)) _ => some (t, x, false)
  | _ => none

/-- Both ways must come to the same. -/
noncomputable def both (a b : Option R) : Option R := match a, b with
  | some r, some s => @ite _ (r = s) (Classical.propDecidable (r = s)) (some r) none
  | _, _ => none

noncomputable def nilK (k : Fr → Option R) (o : Oper) (t : Nat) (x : Operand) (pol : Bool) (G : Fr) : Option R := match o.dst, tt.look t, ent tt (getE G.v) t x with
  | some d, some ti, .val ⟨.sl e, xs⟩ _ => bif decide (ti.ty = .sl e) then (bif xs.isEmpty then
        both (k ⟨setE G.v d (.val ⟨.bool, pol⟩ false), G.b⟩) (k ⟨setE G.v d (.val ⟨.bool, !pol⟩ false), G.b⟩)
      else k ⟨setE G.v d (.val ⟨.bool, !pol⟩ false), G.b⟩) else none
  | _, _, _ => none

def stepG (go : Fr → Option R) (ops : List Oper) (o : Oper) (F : Fr) (k : Fr → Option R) : Option R :=
  let skip (G : Fr) : Option R := match o.dst with
    | some d => k ⟨setE G.v d (.tup []), G.b⟩
    | none => k G
  match o.guard with
  | none => go F
  | some (j, want) => match (ops[j]?).bind (·.dst) with
    | some g => (match getE F.v g with
      | .val ⟨.bool, b⟩ own => bif b then (bif want then go else skip) ⟨setE F.v g (.val ⟨.bool, true⟩ own), F.b⟩
          else (bif want then skip else go) ⟨setE F.v g (.val ⟨.bool, false⟩ own), F.b⟩
      | .tup [] => skip F
      | _ => none)
    | none => none

/-! Calls that turn a variable of the caller's -/
def capEnt : Cap → Ent
  | .val d => .val d false
  | .ref k o => .ref k o
  | .peek d => .peek d

def findM (g : Nat) : List Con → Option Con
  | [] => none
  | c :: r => bif Nat.beq c.f g && c.mu.isSome then some c else findM g r

def valsOf : List Ent → Option (List Arg)
  | [] => some []
  | .val d _ :: r => (match valsOf r with | some l => some (.val d :: l) | none => none)
  | _ => none

def splitLast : List DV → Option (List DV × DV)
  | [] => none
  | [d] => some ([], d)
  | d :: u :: r => (match splitLast (u :: r) with | some (l, x) => some (d :: l, x) | none => none)

def resOf : List DV → Ent
  | [d] => .val d false
  | ds => .tup ds

def sameNats : List Nat → List Nat → Bool
  | [], [] => true
  | a :: r, b :: s => Nat.beq a b && sameNats r s
  | _, _ => false

def muE (cl : Option Nat) (b : Nat) : Ent := match cl with
  | none => .ref b 0
  | some g => .clo g [.ref b 0]

def muBox (cl : Option Nat) (e : Ent) : Option Nat := match cl, e with
  | none, .ref b 0 => some b
  | some g, .clo g' [.ref b 0] => bif Nat.beq g g' then some b else none
  | _, _ => none

def mK (k : Fr → Option R) (o : Oper) (G : Fr) (c : Con) (es : List Ent) : Option R := match c.mu with
  | none => none
  | some (pos, cl, own) => (match (es[pos]?).bind (muBox cl) with
    | some b => (match getB G.b b with
      | some bx => bif sameNats bx.own own then (match valsOf (es.eraseIdx pos) with
        | some as => (match decA c.args (as ++ [.val ⟨bx.t, bx.x⟩]) with
          | some x => (c.fn x).bind fun r => (match splitLast (encR c.res r), o.dst with
            | some (ds, y), some d => k ⟨setE G.v d (resOf ds), setB G.b b ⟨y.t, y.x, own⟩⟩
            | _, _ => none)
          | none => none)
        | none => none) else none
      | none => none)
    | _ => none)

def mCallK (ops : List Oper) (k : Fr → Option R) (o : Oper) (G : Fr) : Option R :=
  let plain := core Γ tt (takes tt ops o) (getE G.v) (getB G.b) o fun δ => k (G.app δ)
  match o.op with
  | .call c => (match c.callee with
    | .value f => (match ent tt (getE G.v) 0 f with
      | .clo g caps => (match findM g Γ with
        | some con => mK k o G con ((zipTys c.args.toList c.argTypes.toList).map (fun p => ent tt (getE G.v) p.1 p.2) ++ caps.map capEnt)
        | none => plain)
      | _ => plain)
    | _ => plain)
  | _ => plain

/-- May the operation be such a call? -/
def mOp (o : Oper) : Bool := Γ.any (fun c => c.mu.isSome) && (match o.op with
  | .call c => (match c.callee with | .value _ => true | _ => false)
  | _ => false)

noncomputable def step (ops : List Oper) (o : Oper) (F : Fr) (k : Fr → Option R) : Option R := match nilOp o with
  | none => (match mOp Γ o with
    | true => stepG (mCallK Γ tt ops k o) ops o F k
    | false => stepG (fun G => core Γ tt (takes tt ops o) (getE G.v) (getB G.b) o fun δ => k (G.app δ)) ops o F k)
  | some (t, x, pol) => stepG (nilK tt k o t x pol) ops o F k

noncomputable def steps (ops : List Oper) : List Oper → Fr → (Fr → Option R) → Option R
  | [], F, k => k F
  | o :: r, F, k => step Γ tt ops o F fun G => steps ops r G k

inductive Ex where
  | normal | exit (id : Nat) | ret

def keepE (keep : List Nat) : List (Nat × Ent) → List (Nat × Ent)
  | [] => []
  | (s, e) :: r => bif keep.any (Nat.beq s) then (s, e) :: keepE keep r else keepE keep r

/-- A frame with just these slots and variables in memory, in this order. -/
def canonE (v : List (Nat × Ent)) : List Nat → List (Nat × Ent)
  | [] => []
  | s :: r => (s, getE v s) :: canonE v r

def canonB (b : List (Nat × Box)) : List Nat → List (Nat × Box)
  | [] => []
  | s :: r => match getB b s with
    | some x => (s, x) :: canonB b r
    | none => canonB b r

/-- The places at which frames are brought into one form: the way to the place (from the place up), the slots, the variables in memory. -/
abbrev Cuts := List (List Nat × List Nat × List Nat)

def sameWay : List Nat → List Nat → Bool
  | [], [] => true
  | a :: r, b :: s => Nat.beq a b && sameWay r s
  | _, _ => false

def canonAt : Cuts → List Nat → Fr → Fr
  | [], _, F => F
  | (q, ss, bs) :: r, p, F => bif sameWay q p then ⟨canonE F.v ss, canonB F.b bs⟩ else canonAt r p F

def loopK (cn : Fr → Fr) (rec : Fr → (Ex → Fr → Option R) → Option R) (k : Ex → Fr → Option R) : Ex → Fr → Option R := fun e G => match e with
  | .normal => rec (cn G) k
  | e => k e G

def loopN (cn : Fr → Fr) (ev : Fr → (Ex → Fr → Option R) → Option R) : Nat → Fr → (Ex → Fr → Option R) → Option R
  | 0, _, _ => none
  | n + 1, F, k => ev F (loopK cn (loopN cn ev n) k)

def hasCut : Cuts → List Nat → Bool
  | [], _ => false
  | (q, _, _) :: r, p => bif sameWay q p then true else hasCut r p

/-- At a place where frames are brought into one form, one may go on only with fuel: so an equation with a variable for the fuel halts there. -/
def gate (cut : Cuts) (p : List Nat) (n : Nat) : Nat := bif hasCut cut p then n else 1

def pass {R : Type} (n : Nat) (x : Option R) : Option R := match n with
  | 0 => none
  | _ + 1 => x

def seqK (g : Fr → Nat) (cn : Fr → Fr) (runB : Fr → (Ex → Fr → Option R) → Option R) (k : Ex → Fr → Option R) : Ex → Fr → Option R := fun e G => match e with
  | .normal => pass (g (cn G)) (runB (cn G) k)
  | e => k e G

def blockK (id : Nat) (k : Ex → Fr → Option R) : Ex → Fr → Option R := fun e G => match e with
  | .exit i => bif Nat.beq i id then k .normal G else k (.exit i) G
  | e => k e G

/-- What two operations must not share, if their order is open. -/
def foot (ops : List Oper) (o : Oper) : List Nat :=
  o.dst.toList ++ (o.op.operands.toList.filterMap fun | .tmp t => some t | _ => none) ++
  (match o.guard with | some (j, _) => ((ops[j]?).bind (·.dst)).toList | none => [])

def taken (ops : List Oper) (o : Oper) : List Nat := match o.op with
  | .move (.tmp s) | .assign (.tmp s) => bif takes tt ops o then [s] else []
  | .slice _ (.tmp s) none none none => bif takes tt ops o then [s] else []
  | .store _ _ (.tmp s) => [s]
  | .call c => (match c.callee with
    | .builtin .append => (match c.args.toList with | .tmp s :: _ => [s] | _ => [])
    | _ => [])
  | _ => []

def writes (ops : List Oper) (o : Oper) : List Nat := o.dst.toList ++ taken tt ops o

/-- 2: writes to variables in memory, 1: reads them. -/
def mem (ops : List Oper) (o : Oper) : Nat := match o.op with
  | .store .. => 2
  | .load .. => bif takes tt ops o then 2 else 1
  | .call c => (match c.callee with | .value _ => 1 | _ => 0)
  | _ => 0

def makes (o : Oper) : Bool := match o.op with
  | .alloc _ | .box .. => true
  | _ => false

def apart1 (xs ys : List Nat) : Bool := xs.all fun x => !ys.any (Nat.beq x)

def apart (ops : List Oper) (p q : Oper) : Bool :=
  apart1 (writes tt ops p) (foot ops q) && apart1 (writes tt ops q) (foot ops p) &&
  !(Nat.beq (mem tt ops p) 2 && !Nat.beq (mem tt ops q) 0) && !(Nat.beq (mem tt ops q) 2 && !Nat.beq (mem tt ops p) 0)

/-- The operations that must stand before each one: a bit each. -/
def befores : List Oper → List Nat → List Nat
  | [], acc => acc
  | o :: r, acc => befores r (acc ++ [o.after.toList.foldl (fun s e => bif Region.binds .any e && Nat.blt e.on acc.length then s ||| 2 ^ e.on ||| acc.getD e.on 0 else s) 0])

def sameDst (p q : Oper) : Bool := match p.dst, q.dst with
  | some a, some b => Nat.beq a b
  | _, _ => false

def drawOk (ops : List Oper) : Bool :=
  let bs := befores ops []
  (List.range ops.length).all fun i => ((ops[i]?).map fun o => (nilOp o).isNone && o.after.toList.all fun e => !Region.binds .any e || Nat.blt e.on i).getD false && (List.range i).all fun j =>
    ((bs.getD i 0).testBit j || match ops[i]?, ops[j]? with
      | some p, some q => apart tt ops p q
      | _, _ => false) && (match ops[i]?, ops[j]? with
      | some p, some q => !(makes p && makes q && sameDst p q)
      | _, _ => false)

def Ent.mentions (d : Nat) : Ent → Bool
  | .ref k _ => Nat.beq k d
  | .clo _ cs => cs.any (Cap.mentions d)
  | _ => false

/-- No reference to what is yet to be made. -/
def freshB (ops : List Oper) (F : Fr) : Bool := ops.all fun o => bif makes o then (match o.dst with
  | some d => F.v.all fun p => !p.2.mentions d
  | none => true) else true

noncomputable def run (cut : Cuts) (keep : List Nat) (fu : List Nat → Fr → Nat) : Code → List Nat → Fr → (Ex → Fr → Option R) → Option R
  | .skip, _, F, k => k .normal F
  | .region _ ops draw, _, F, k => bif draw && !(drawOk tt ops.toList && freshB ops.toList F && ops.toList.all fun o => !mOp Γ o) then none else steps Γ tt ops.toList ops.toList F fun G => k .normal ⟨keepE keep G.v, G.b⟩
  | .seq a b, p, F, k => run cut keep fu a (0 :: p) F (seqK (fun G => gate cut p (fu p G)) (canonAt cut p) (run cut keep fu b (1 :: p)) k)
  | .cond q a b, p, F, k => (match ent tt (getE F.v) 0 q with
    | .val ⟨.bool, x⟩ _ => bif x then run cut keep fu a (0 :: p) F k else run cut keep fu b (1 :: p) F k
    | _ => none)
  | .block id a, p, F, k => run cut keep fu a (0 :: p) F (blockK id k)
  | .loop a, p, F, k => loopN (canonAt cut p) (run cut keep fu a (0 :: p)) (fu p (canonAt cut p F)) (canonAt cut p F) k
  | .exit id, _, F, k => k (.exit id) F
  | .ret, _, F, k => k .ret F
  | _, _, _, _ => none

/-- What follows a place of the code: the way down to it, the way up from where we are, the rounds that are left of the loops that are entered on the way. -/
noncomputable def contAt (cut : Cuts) (keep : List Nat) (fu : List Nat → Fr → Nat) : Code → List Nat → List Nat → List Nat → (Ex → Fr → Option R) → Ex → Fr → Option R
  | .seq a b, 0 :: q, p, ns, k => contAt cut keep fu a q (0 :: p) ns (seqK (fun G => gate cut p (fu p G)) (canonAt cut p) (run Γ tt cut keep fu b (1 :: p)) k)
  | .seq _ b, 1 :: q, p, ns, k => contAt cut keep fu b q (1 :: p) ns k
  | .cond _ a _, 0 :: q, p, ns, k => contAt cut keep fu a q (0 :: p) ns k
  | .cond _ _ b, 1 :: q, p, ns, k => contAt cut keep fu b q (1 :: p) ns k
  | .block id a, 0 :: q, p, ns, k => contAt cut keep fu a q (0 :: p) ns (blockK id k)
  | .loop a, 0 :: q, p, n :: ns, k => contAt cut keep fu a q (0 :: p) ns (loopK (canonAt cut p) (loopN (canonAt cut p) (run Γ tt cut keep fu a (0 :: p)) n) k)
  | _, _, _, _, k => k

def subAt : Code → List Nat → Code
  | .seq a _, 0 :: q => subAt a q
  | .seq _ b, 1 :: q => subAt b q
  | .cond _ a _, 0 :: q => subAt a q
  | .cond _ _ b, 1 :: q => subAt b q
  | .block _ a, 0 :: q => subAt a q
  | .loop a, 0 :: q => subAt a q
  | c, _ => c

/-- From the head of a loop on (the way leads to the loop; n rounds are left), and from the second part of a sequence on (the way leads to the sequence): to the end of the code. -/
noncomputable def fromLoop (cut : Cuts) (keep : List Nat) (fu : List Nat → Fr → Nat) (c : Code) (k : Ex → Fr → Option R) (q ns : List Nat) (n : Nat) (F : Fr) : Option R :=
  loopN (canonAt cut q.reverse) (run Γ tt cut keep fu (subAt c (q ++ [0])) (0 :: q.reverse)) n F (contAt Γ tt cut keep fu c q [] ns k)

noncomputable def fromSeq (cut : Cuts) (keep : List Nat) (fu : List Nat → Fr → Nat) (c : Code) (k : Ex → Fr → Option R) (q ns : List Nat) (F : Fr) : Option R :=
  pass (gate cut q.reverse (fu q.reverse F)) (run Γ tt cut keep fu (subAt c (q ++ [1])) (1 :: q.reverse) F (contAt Γ tt cut keep fu c (q ++ [1]) [] ns k))

def startE : Nat → List Arg → List (Nat × Ent) → List (Nat × Ent)
  | _, [], v => v
  | i, a :: r, v => startE (i + 1) r (setE v i (match a with
    | .val d => .val d false
    | .peek d => .peek d
    | .clo f cs => .clo f (cs.map fun | (false, d) => .val d | (true, d) => .peek d)))

def resD (F : Fr) : ResultVar → Option (DV × Bool)
  | .tmp t => match getE F.v t with
    | .val d own => some (d, own)
    | _ => none
  | .cell a t => match getE F.v a, tt.look t with
    | .ref k o, some ti => (match o, getB F.b k with
      | 0, some bx => bif decide (bx.t = ti.ty) then some (⟨bx.t, bx.x⟩, false) else none
      | _, _ => none)
    | _, _ => none

def resDs (F : Fr) : List ResultVar → Option (List (DV × Bool))
  | [] => some []
  | r :: rs => match resD tt F r, resDs F rs with | some x, some xs => some (x :: xs) | _, _ => none

def ownOk (own : Bool) : List (DV × Bool) → Bool
  | [(_, b)] => !own || b
  | _ => true

def retK (fn : Func) (res : List Ty) (own : Bool) : Ex → Fr → Option (DenR res) := fun e F => match e with
  | .exit _ => none
  | _ => match resDs tt F fn.results.toList with
    | some l => bif ownOk own l then decR res (l.map (·.1)) else none
    | none => none

def codeOf (fn : Func) : Code := match fn.body with
  | some c => c
  | none => .refuse ""

def startF (keep boxes : List Nat) (as : List Arg) : Fr := ⟨startE 0 as (keep.map fun s => (s, .undef)), boxes.map fun s => (s, ⟨.unit, (), []⟩)⟩

/-! Functions that turn a variable of the caller's -/
def KB : Nat := 1000000

def setFrom : Nat → List Ent → List (Nat × Ent) → List (Nat × Ent)
  | _, [], v => v
  | i, e :: r, v => setFrom (i + 1) r (setE v i e)

def valE : Arg → Ent
  | .val d => .val d false
  | _ => .undef

def startM (as : List Arg) (pos : Nat) (cl : Option Nat) (v : List (Nat × Ent)) : List (Nat × Ent) := setFrom 0 ((as.map valE).take pos ++ muE cl KB :: (as.map valE).drop pos) v

def splitArg : List Arg → Option (List Arg × DV)
  | [] => none
  | [.val d] => some ([], d)
  | [_] => none
  | a :: b :: r => (match splitArg (b :: r) with | some (l, x) => some (a :: l, x) | none => none)

def retM (fn : Func) (res : List Ty) (own : List Nat) : Ex → Fr → Option (DenR res) := fun e F => match e with
  | .exit _ => none
  | _ => match resDs tt F fn.results.toList, getB F.b KB with
    | some l, some bx => bif sameNats bx.own own then decR res (l.map (·.1) ++ [⟨bx.t, bx.x⟩]) else none
    | _, _ => none

noncomputable def fnM (cut : Cuts) (keep boxes : List Nat) (fu : List Nat → Fr → Nat) (fn : Func) (res : List Ty) (pos : Nat) (cl : Option Nat) (own : List Nat) (as : List Arg) : Option (DenR res) :=
  match splitArg as with
  | some (vs, d) => run Γ tt cut keep fu (codeOf fn) [] ⟨startM vs pos cl (keep.map fun s => (s, .undef)), (KB, ⟨d.t, d.x, own⟩) :: boxes.map fun s => (s, ⟨.unit, (), []⟩)⟩ (retM tt fn res own)
  | none => none

/-- What a function comes to. -/
noncomputable def fnR (cut : Cuts) (keep boxes : List Nat) (fu : List Nat → Fr → Nat) (fn : Func) (res : List Ty) (own : Bool) (as : List Arg) : Option (DenR res) :=
  run Γ tt cut keep fu (codeOf fn) [] (startF keep boxes as) (retK tt fn res own)

end run
end Go.Ev
