/- An abstract evaluator for the translated Go code: definitions. Conditions: none (definitions alone). -/
import Derived.Orders
import Derived.WalkKit
namespace Go.Proofs.Ytbhbjmneglkgnaa.AI
open Go

/-- Abstract values: what a temporary or a cell holds. -/
inductive AV where
  | bad
  | int (k : IntKind) (n : Int)
  | bit (b : Bool)
  | str (s : ByteArray)
  | nilI
  | err (n : Int)
  | nilP
  | nilS
  | nilF
  | clo (f : FuncId) (first caps : List AV)
  | sl (sz n : Nat) (f : Nat → Nat → AV)
  | iref (m : Nat) (g : Nat → AV)
  | loc (id j : Nat)
  | elt (id i j w : Nat)
  | own (id n : Nat)
  | qs (id n : Nat) (f : Nat → Nat → AV)
  | agg (cs : List AV)
  | tup (vs : List AV)
  deriving Inhabited

/-- A row of cells of the call's own: n elements of sz cells; st 0: may be stored into and appended to; 1: appended to; 2: read alone; bx: a variable's row, whose cells may name other rows. -/
structure Row where
  e : TypeId
  sz : Nat
  n : Nat
  f : Nat → Nat → AV
  st : Nat
  bx : Bool

structure St where
  t : Nat → AV
  m : Nat → Option Row

/-- What an operation comes to: nothing known; a value; a value under a condition; a value, a new row under the operation's own name, and what becomes of the rows' states. -/
inductive R0 where
  | no
  | val (v : AV)
  | valc (p : Prop) (v : AV)
  | eff (p : Option Prop) (v : AV) (kb : Option Bool) (new : Option Row) (fz : Nat → Nat → Nat)

inductive SR where
  | no
  | ok (r : AV)
  | okb (b : Bool)
  | pre (p : Prop) (r : AV)
  | flt (p : Prop) (r : AV)
  | new (p : Prop) (r : Row)
  | new2 (p : Prop) (r1 r2 : Row) (rest : List AV)

inductive TDesc where
  | prim
  | int (k : IntKind)
  | bool
  | iface
  | struct (fs : List (Nat × Nat × TypeId))
  | array (n : Nat) (e : TypeId)
  | slice (e : TypeId)
  | ptr
  deriving Inhabited, DecidableEq

structure TD where
  desc : TDesc
  size : Nat
  bytes : Nat
  z : List AV
  deriving Inhabited

/-- Where a row lies: not at all; a nil slice; block g with room for cap elements of sz cells, n of them in use. -/
inductive Place where
  | no
  | nil (sz : Nat)
  | at (g cap sz n : Nat)

/-- What the caller of a call that is evaluated in its place knows. -/
structure Base where
  ρ : Nat → Place
  I : Nat → Nat → Prop
  w : World
/-- A call that is evaluated in the caller's rows: the names that have to stay, the rows, the arguments, what is asked of the result and of the rows behind it. -/
abbrev InlT := List Nat → List (Nat × Row) → List AV → (AV → (Nat → Option Row) → Prop) → Prop
structure Env where
  tab : TypeId → Option TD
  spec : FuncId → List AV → SR
  errT : TypeId
  base : Option Base := none
  keep : List Nat := []
  inl : FuncId → Option InlT := fun _ => none
  eat : List Nat := []

structure Chk (p x : Prop) : Prop where
  l : p
  r : x
structure Brn (b : Bool) (x y : Prop) : Prop where
  t : b = true → x
  f : b = false → y

def St.put (σ : St) (d : Nat) (v : AV) : St := ⟨fun t => match Nat.beq t d with | true => v | false => σ.t t, σ.m⟩
def St.putO (σ : St) (d : Option Nat) (v : AV) : St := match d with | some d => σ.put d v | none => σ

def effM (m : Nat → Option Row) (d : Nat) (new : Option Row) (fz : Nat → Nat → Nat) (id : Nat) : Option Row :=
  match new, Nat.beq id d with
  | some r, true => some r
  | _, _ => match m id with
    | some ⟨e, sz, n, f, st, bx⟩ => some ⟨e, sz, n, f, fz id st, bx⟩
    | none => none
def St.eff (σ : St) (d : Nat) (v : AV) (new : Option Row) (fz : Nat → Nat → Nat) : St :=
  ⟨fun t => match Nat.beq t d with | true => v | false => σ.t t, effM σ.m d new fz⟩

def AV.ofCell : Value → AV
  | .bool b => .bit b
  | .int k n => .int k n
  | .string s => .str s
  | .nilIface => .nilI
  | .pointer none => .nilP
  | .slice none 0 0 => .nilS
  | .nilFunc => .nilF
  | _ => .bad
def oneCells : List Value → Bool
  | [] => true
  | v :: r => v.oneCell' && oneCells r
def AV.ofConst : Value → AV
  | .agg cs => match oneCells cs.toList with
    | true => .agg (cs.toList.map AV.ofCell)
    | false => .bad
  | v => AV.ofCell v

def evO (t : Nat → AV) : Operand → AV
  | .tmp i => t i
  | .const v => AV.ofConst v
  | .func f => .clo f [] []
  | .global _ => .bad

def nth (l : List AV) (i : Nat) : AV := match l, i with
  | [], _ => .bad
  | x :: _, 0 => x
  | _ :: l, i+1 => nth l i

def AV.cells : AV → List AV
  | .agg cs => cs
  | v => [v]

def takeF (g : Nat → AV) : Nat → Nat → List AV
  | _, 0 => []
  | j, n+1 => g j :: takeF g (j+1) n

def TDesc.agg : TDesc → Bool
  | .struct _ => true
  | .array _ _ => true
  | _ => false
/-- The type's value (an aggregate or one cell) out of a run of cells. -/
def TD.val (td : TD) (g : Nat → AV) (j : Nat) : AV := match td.desc.agg with
  | true => .agg (takeF g j td.size)
  | false => g j

/-- The cells with the parts filled in. -/
def fillF (place : Nat → Nat) : List (Nat × AV) → (Nat → AV) → (Nat → AV)
  | [], z => z
  | (i, v) :: r, z => fillF place r (fun j => match Nat.ble (place i) j, Nat.blt j (place i + v.cells.length) with
    | true, true => nth v.cells (j - place i)
    | _, _ => z j)

def okPart : AV → Bool
  | .bad => false
  | .tup _ => false
  | _ => true

/-- A cell of which something is known. -/
def okCell : AV → Bool
  | .bad => false
  | .agg _ => false
  | .tup _ => false
  | _ => true
def okCells : List AV → Bool
  | [] => true
  | v :: r => okCell v && okCells r

def okPartsL : List AV → Bool
  | [] => true
  | v :: r => okPart v && okPartsL r

def partsOK (place : Nat → Nat) (sz : Nat → Nat) (n size : Nat) : List (Nat × AV) → Bool
  | [] => true
  | (i, v) :: r => okPart v && Nat.blt i n && Nat.beq v.cells.length (sz i) && Nat.ble (place i + sz i) size && partsOK place sz n size r

def lookF : List (Nat × Nat × TypeId) → Nat → Nat × Nat × TypeId
  | [], _ => (0, 0, 0)
  | x :: _, 0 => x
  | _ :: l, i+1 => lookF l i

/-- A cell that names no row. -/
def pureC : AV → AV
  | .own _ _ => .bad
  | .qs _ _ _ => .bad
  | .loc _ _ => .bad
  | .elt _ _ _ _ => .bad
  | .clo _ _ _ => .bad
  | .agg _ => .bad
  | .tup _ => .bad
  | v => v
def pureB : AV → Bool
  | .own _ _ => false
  | .qs _ _ _ => false
  | .loc _ _ => false
  | .elt _ _ _ _ => false
  | .clo _ _ _ => false
  | .agg _ => false
  | .tup _ => false
  | _ => true
def pureBL : List AV → Bool
  | [] => true
  | v :: r => pureB v && pureBL r

mutual
/-- The value with the call's own rows told as values of the world: for a call, for a result. -/
def pure1 (m : Nat → Option Row) : AV → AV
  | .own id n => match m id with
    | some ⟨_, sz, _, f, _, false⟩ => .sl sz n f
    | _ => .bad
  | .qs _ _ _ => .bad
  | .loc id j => match m id with
    | some ⟨_, sz, n, f, _, _⟩ => match Nat.blt 0 n with
      | true => .iref (sz - j) (fun k => pureC (f 0 (j + k)))
      | false => .bad
    | none => .bad
  | .elt id i j w => match m id with
    | some ⟨_, _, _, f, _, _⟩ => .iref w (fun k => pureC (f i (j + k)))
    | none => .bad
  | .clo f a b => .clo f (pureL m a) (pureL m b)
  | .agg cs => .agg (pureL m cs)
  | .tup vs => .tup (pureL m vs)
  | v => v
def pureL (m : Nat → Option Row) : List AV → List AV
  | [] => []
  | v :: r => pure1 m v :: pureL m r
end

mutual
def hasId (id : Nat) : AV → Bool
  | .own i _ => Nat.beq i id
  | .qs i _ _ => Nat.beq i id
  | .loc i _ => Nat.beq i id
  | .elt i _ _ _ => Nat.beq i id
  | .clo _ a b => hasIdL id a || hasIdL id b
  | .agg cs => hasIdL id cs
  | .tup vs => hasIdL id vs
  | _ => false
def hasIdL (id : Nat) : List AV → Bool
  | [] => false
  | v :: r => hasId id v || hasIdL id r
end

/-- The rows that a call is handed may not be stored into any more. -/
def fzArgs (args : List AV) (id s : Nat) : Nat := match hasIdL id args, s with
  | true, 0 => 1
  | _, s => s
def fzId (r id s : Nat) : Nat := match Nat.beq id r, s with
  | true, 0 => 1
  | _, s => s
def fzApp (r id s : Nat) : Nat := match Nat.beq id r with
  | true => 2
  | false => s
def fz0 (_ s : Nat) : Nat := s

def wr (n : Int) : Int := IntKind.i64.wrap n

/-- The fields of two structs, compared. -/
def eqF (E : Env) (xs ys : List AV) : List (Nat × Nat × TypeId) → Option Bool
  | [] => some true
  | (o, _, ft) :: r => match E.tab ft, nth xs o, nth ys o with
    | some ⟨.int .i64, _, _, _⟩, .int .i64 a, .int .i64 b => (match eqF E xs ys r with | some c => some (decide (a = b) && c) | none => none)
    | some ⟨.bool, _, _, _⟩, .bit a, .bit b => (match eqF E xs ys r with | some c => some ((a == b) && c) | none => none)
    | _, _, _ => none

/-- The truth values of two arrays, compared. -/
def eqBits : List AV → List AV → Option Bool
  | [], [] => some true
  | .bit a :: r, .bit b :: s => match eqBits r s with
    | some c => some ((a == b) && c)
    | none => none
  | _, _ => none
def eqArr (E : Env) (n : Nat) (e : TypeId) (xs ys : List AV) : Option Bool := match E.tab e, Nat.beq xs.length n with
  | some ⟨.bool, _, _, _⟩, true => eqBits xs ys
  | _, _ => none

def uand (a b : Int) : Int := IntKind.u32.wrap (BitVec.ofInt 32 a &&& BitVec.ofInt 32 b).toNat
def uor (a b : Int) : Int := IntKind.u32.wrap (BitVec.ofInt 32 a ||| BitVec.ofInt 32 b).toNat
def abin (E : Env) (op : BinOp) (ty : TypeId) (ynil : Bool) (x y : AV) : R0 :=
  match op, x, y with
  | .add, .int .i64 a, .int .i64 b => .val (.int .i64 (wr (a + b)))
  | .sub, .int .i64 a, .int .i64 b => .val (.int .i64 (wr (a - b)))
  | .mul, .int .i64 a, .int .i64 b => .val (.int .i64 (wr (a * b)))
  | .quo, .int .i64 a, .int .i64 b => .valc (b ≠ 0) (.int .i64 (wr (a.tdiv b)))
  | .rem, .int .i64 a, .int .i64 b => .valc (b ≠ 0) (.int .i64 (a.tmod b))
  | .shl, .int .i64 a, .int _ b => .valc (0 ≤ b) (.int .i64 (wr (a * 2 ^ (min b.toNat 64))))
  | .shr, .int .i64 a, .int _ b => .valc (0 ≤ b) (.int .i64 (a.fdiv (2 ^ (min b.toNat 64))))
  | .lss, .int .i64 a, .int .i64 b => .val (.bit (decide (a < b)))
  | .leq, .int .i64 a, .int .i64 b => .val (.bit (decide (a ≤ b)))
  | .gtr, .int .i64 a, .int .i64 b => .val (.bit (decide (b < a)))
  | .geq, .int .i64 a, .int .i64 b => .val (.bit (decide (b ≤ a)))
  | .eql, .int .i64 a, .int .i64 b => .val (.bit (decide (a = b)))
  | .neq, .int .i64 a, .int .i64 b => .val (.bit (!decide (a = b)))
  | .and, .int .u32 a, .int .u32 b => .val (.int .u32 (uand a b))
  | .or, .int .u32 a, .int .u32 b => .val (.int .u32 (uor a b))
  | .shr, .int .u32 a, .int _ b => .valc (0 ≤ b) (.int .u32 (a.fdiv (2 ^ (min b.toNat 32))))
  | .rem, .int .u8 a, .int .u8 b => .valc (b ≠ 0) (.int .u8 (a.tmod b))
  | .eql, .int .u32 a, .int .u32 b => .val (.bit (decide (a = b)))
  | .eql, .err n, .nilI => match ynil, E.tab ty with
    | true, some { desc := .iface, .. } => .val (.bit (decide (n = 0)))
    | _, _ => .no
  | .neq, .err n, .nilI => match ynil, E.tab ty with
    | true, some { desc := .iface, .. } => .val (.bit (!decide (n = 0)))
    | _, _ => .no
  | .eql, .nilI, .nilI => match ynil, E.tab ty with
    | true, some { desc := .iface, .. } => .val (.bit true)
    | _, _ => .no
  | .neq, .nilI, .nilI => match ynil, E.tab ty with
    | true, some { desc := .iface, .. } => .val (.bit false)
    | _, _ => .no
  | .eql, .loc _ _, .nilP => match E.tab ty with
    | some { desc := .ptr, .. } => .val (.bit false)
    | _ => .no
  | .eql, .iref _ _, .nilP => match E.tab ty with
    | some { desc := .ptr, .. } => .val (.bit false)
    | _ => .no
  | .eql, .nilP, .nilP => match E.tab ty with
    | some { desc := .ptr, .. } => .val (.bit true)
    | _ => .no
  | .eql, .bit a, .bit b => match E.tab ty with
    | some { desc := .bool, .. } => .val (.bit (a == b))
    | _ => .no
  | .neq, .bit a, .bit b => match E.tab ty with
    | some { desc := .bool, .. } => .val (.bit (!(a == b)))
    | _ => .no
  | .eql, .agg xs, .agg ys => match E.tab ty with
    | some ⟨.struct fs, _, _, _⟩ => (match eqF E xs ys fs with | some b => .val (.bit b) | none => .no)
    | some ⟨.array n e, _, _, _⟩ => (match eqArr E n e xs ys with | some b => .val (.bit b) | none => .no)
    | _ => .no
  | .neq, .agg xs, .agg ys => match E.tab ty with
    | some ⟨.struct fs, _, _, _⟩ => (match eqF E xs ys fs with | some b => .val (.bit (!b)) | none => .no)
    | some ⟨.array n e, _, _, _⟩ => (match eqArr E n e xs ys with | some b => .val (.bit (!b)) | none => .no)
    | _ => .no
  | _, _, _ => .no

def isNilConst : Operand → Bool
  | .const .nilIface => true
  | _ => false

/-- The row that a value points into. -/
def rowOf (m : Nat → Option Row) : AV → Option Row
  | .own id _ => m id
  | .loc id _ => m id
  | .elt id _ _ _ => m id
  | _ => none

/-- A load. -/
def aload (E : Env) (t : TypeId) (x : AV) (row : Option Row) : R0 :=
  match E.tab t, x with
  | some td, .loc _ j => match row with
    | some ⟨_, sz, n, f, _, _⟩ => match Nat.blt 0 n, Nat.ble (j + td.size) sz with
      | true, true => .val (td.val (f 0) j)
      | _, _ => .no
    | none => .no
  | some td, .elt _ i j w => match row with
    | some ⟨_, _, _, f, _, _⟩ => match Nat.ble td.size w with
      | true => .val (td.val (f i) j)
      | false => .no
    | none => .no
  | some td, .iref k g => match Nat.ble td.size k with
    | true => .val (td.val g 0)
    | false => .no
  | _, _ => .no

/-- An index into an address: the row's element, an array's element. 'ci': the index where it is a constant. -/
def aindex (E : Env) (t : TypeId) (x ix : AV) (ci : Option Nat) (row : Option Row) : R0 :=
  match E.tab t, ix with
  | some ⟨.slice e, _, _, _⟩, .int _ i => match E.tab e, x with
    | some ⟨_, ts, _, _⟩, .sl sz n f => match Nat.beq sz ts with
      | true => .valc (0 ≤ i ∧ i < n) (.iref sz (f i.toNat))
      | false => .no
    | some ⟨_, ts, _, _⟩, .qs _ n f => match Nat.beq 1 ts with
      | true => .valc (0 ≤ i ∧ i < n) (.iref 1 (f i.toNat))
      | false => .no
    | some ⟨_, ts, _, _⟩, .own id n => match row with
      | some ⟨_, sz, _, _, _, _⟩ => match Nat.beq sz ts with
        | true => .valc (0 ≤ i ∧ i < n) (.elt id i.toNat 0 sz)
        | false => .no
      | none => .no
    | _, _ => .no
  | some ⟨.array n e, _, _, _⟩, .int _ i => match E.tab e, x, ci with
    | some ⟨_, ts, _, _⟩, .loc id b, some c => match Nat.blt c n with
      | true => .valc (i = c) (.loc id (b + c * ts))
      | false => .no
    | some ⟨_, ts, _, _⟩, .loc id b, none => match row with
      | some ⟨_, sz, k, _, _, _⟩ => match Nat.blt 0 k, Nat.ble (b + n * ts) sz with
        | true, true => .valc (0 ≤ i ∧ i < n) (.elt id 0 (b + i.toNat * ts) ts)
        | _, _ => .no
      | none => .no
    | some ⟨_, ts, _, _⟩, .elt id a b w, _ => match Nat.ble (n * ts) w with
      | true => .valc (0 ≤ i ∧ i < n) (.elt id a (b + i.toNat * ts) ts)
      | false => .no
    | some ⟨_, ts, _, _⟩, .iref k g, _ => match Nat.ble (n * ts) k with
      | true => .valc (0 ≤ i ∧ i < n) (.iref ts (fun j => g (i.toNat * ts + j)))
      | false => .no
    | _, _, _ => .no
  | _, _ => .no

def sliceOf (lo hi : Option AV) (n sz : Nat) (f : Nat → Nat → AV) (K : Option Prop → AV → R0) : R0 := match lo, hi with
  | none, none => K none (.sl sz n f)
  | some (.int _ l), none => K (some (0 ≤ l ∧ l ≤ n)) (.sl sz (n - l.toNat) (fun i j => f (l.toNat + i) j))
  | none, some (.int _ h) => K (some (0 ≤ h ∧ h ≤ n)) (.sl sz h.toNat f)
  | some (.int _ l), some (.int _ h) => K (some (0 ≤ l ∧ l ≤ h ∧ h ≤ n)) (.sl sz (h.toNat - l.toNat) (fun i j => f (l.toNat + i) j))
  | _, _ => .no

/-- A slice of a slice, or of an array in memory. -/
def aslice (E : Env) (t : TypeId) (x : AV) (lo hi : Option AV) (row : Option Row) : R0 :=
  match E.tab t with
  | some ⟨.slice e, _, _, _⟩ => match E.tab e with
    | some ⟨_, ts, _, _⟩ => match x with
      | .sl sz n f => match Nat.beq sz ts with
        | true => sliceOf lo hi n sz f (fun p v => .eff p v none none fz0)
        | false => .no
      | .qs id n f => match lo, hi with
        | some (.int _ l), none => match Nat.beq 1 ts with
          | true => .eff (some (0 ≤ l ∧ l ≤ n)) (.qs id (n - l.toNat) (fun i j => f (l.toNat + i) j)) none none fz0
          | false => .no
        | _, _ => .no
      | .own id n => match row with
        | some ⟨_, sz, _, f, _, false⟩ => match Nat.beq sz ts with
          | true => sliceOf lo hi n sz f (fun p v => .eff p v none none (fzId id))
          | false => .no
        | _ => .no
      | _ => .no
    | none => .no
  | some ⟨.array n e, _, _, _⟩ => match E.tab e, x, lo, hi with
    | some ⟨_, ts, _, _⟩, .loc id j, none, none => match row with
      | some ⟨_, sz, k, f, _, _⟩ => match Nat.blt 0 k, Nat.ble (j + n * ts) sz && Nat.ble n 4294967296 with
        | true, true => .eff none (.sl ts n (fun a b => pureC (f 0 (j + (a * ts + b))))) none none (fzId id)
        | _, _ => .no
      | none => .no
    | _, _, _, _ => .no
  | _ => .no

/-- What is appended: its length and its elements. -/
def newsOf (ts : Nat) (x : AV) (row : Option Row) : Option (Nat × (Nat → Nat → AV)) :=
  match x with
  | .sl sz k g => match Nat.beq sz ts with | true => some (k, g) | false => none
  | .own _ k => match row with
    | some ⟨_, sz, _, f, _, false⟩ => match Nat.beq sz ts with | true => some (k, f) | false => none
    | _ => none
  | _ => none

def apOK : Option Row → Bool
  | some r => Nat.ble r.st 1
  | none => false

def appF (n : Nat) (f g : Nat → Nat → AV) (i j : Nat) : AV := match Nat.blt i n with | true => f i j | false => g (i - n) j
def aapp (E : Env) (t t' : TypeId) (s x : AV) (d : Nat) (srow xrow : Option Row) (ab : Bool) : R0 :=
  match Nat.beq t t', E.tab t with
  | true, some ⟨.slice e, _, _, _⟩ => match E.tab e with
    | some ⟨_, ts, tb, _⟩ => match Nat.blt 0 ts, newsOf ts x xrow with
      | true, some (k, g) => match s with
        | .nilS => .eff (some (k * tb ≤ 140737488355328 ∧ k ≤ 9223372036854775807)) (.own d k) none (some ⟨e, ts, k, g, 1, false⟩) fz0
        | .own id n => match srow with
          | some ⟨re, sz, _, f, _, false⟩ => match Nat.beq re e, Nat.beq sz ts, ab with
            | true, true, true => .eff (some ((n + k) * tb ≤ 140737488355328 ∧ n + k ≤ 9223372036854775807)) (.own d (n + k)) none
                (some ⟨e, ts, n + k, appF n f g, 1, false⟩) (fzApp id)
            | _, _, _ => .no
          | _ => .no
        | _ => .no
      | _, _ => .no
    | none => .no
  | _, _ => .no

/-- A result that names nothing in memory. -/
def flatR : AV → Bool
  | .int _ _ => true
  | .bit _ => true
  | .err _ => true
  | .nilI => true
  | _ => false
def noTup : AV → Bool
  | .tup _ => false
  | _ => true
def noTups : List AV → Bool
  | [] => true
  | v :: r => noTup v && noTups r

def acall (E : Env) (c : Call) (d : Nat) (ev : Operand → AV) (m : Nat → Option Row) : R0 :=
  match c.callee with
  | .value fo => match ev fo with
    | .clo f first caps =>
      match noTups (c.args.toList.map ev), E.spec f (pureL m (first ++ c.args.toList.map ev ++ caps)) with
      | false, _ => .no
      | true, .no => .no
      | true, .ok r => .eff none r none none (fzArgs (first ++ c.args.toList.map ev ++ caps))
      | true, .okb b => .eff none (.bit b) (some b) none (fzArgs (first ++ c.args.toList.map ev ++ caps))
      | true, .pre p r => .eff (some p) r none none (fzArgs (first ++ c.args.toList.map ev ++ caps))
      | true, .flt p r => match flatR r with
        | true => .eff (some p) r none none fz0
        | false => .no
      | true, .new p r => .eff (some p) (.own d r.n) none (some r) (fzArgs (first ++ c.args.toList.map ev ++ caps))
      | true, .new2 .. => .no
    | _ => .no
  | .builtin .len => match c.args.toList.map ev, c.argTypes.toList with
    | [x], [t] => match E.tab t, x with
      | some ⟨.slice _, _, _, _⟩, .sl _ n _ => .val (.int .i64 n)
      | some ⟨.slice _, _, _, _⟩, .own _ n => .val (.int .i64 n)
      | some ⟨.slice _, _, _, _⟩, .qs _ n _ => .val (.int .i64 n)
      | some ⟨.slice _, _, _, _⟩, .nilS => .val (.int .i64 0)
      | some ⟨.array n _, _, _, _⟩, _ => .val (.int .i64 n)
      | _, _ => .no
    | _, _ => .no
  | .builtin .max => match c.args.toList.map ev with
    | [.int .i64 a, .int .i64 b] => .val (.int .i64 (max a b))
    | [.int .i64 a, .int .i64 b, .int .i64 d] => .val (.int .i64 (max (max a b) d))
    | _ => .no
  | .builtin .min => match c.args.toList.map ev with
    | [.int .i64 a, .int .i64 b] => .val (.int .i64 (min a b))
    | [.int .i64 a, .int .i64 b, .int .i64 d] => .val (.int .i64 (min (min a b) d))
    | [.int .i64 a, .int .i64 b, .int .i64 d, .int .i64 e] => .val (.int .i64 (min (min (min a b) d) e))
    | _ => .no
  | .builtin .append => match c.args.toList.map ev, c.argTypes.toList with
    | [s, x], [t, t'] => aapp E t t' s x d (rowOf m s) (rowOf m x) (apOK (rowOf m s))
    | _, _ => .no
  | _ => .no

def constIx : Operand → Option Nat
  | .const (.int _ (.ofNat n)) => some n
  | _ => none

/-- An operation: all but a store. 'd': its own temporary: the name of the row that it makes. -/
def aop (E : Env) (op : Op) (d : Nat) (ev : Operand → AV) (m : Nat → Option Row) : R0 :=
  match op with
  | .move x => .val (ev x)
  | .assign x => .val (ev x)
  | .pick c a b => match ev c with
    | .bit v => .val (match v with | true => ev a | false => ev b)
    | _ => .no
  | .binOp op ty x y _ => abin E op ty (isNilConst y) (ev x) (ev y)
  | .unOp .not _ x => match ev x with
    | .bit b => .val (.bit (!b))
    | _ => .no
  | .unOp .neg _ x => match ev x with
    | .int .i64 n => .val (.int .i64 (wr (0 - n)))
    | _ => .no
  | .convert src dst x => match E.tab src, E.tab dst, ev x with
    | some _, some ⟨.int k, _, _, _⟩, .int _ n => .val (.int k (k.wrap n))
    | _, _, _ => .no
  | .makeInterface t x => match Nat.beq t E.errT, ev x, E.tab t with
    | true, .int .i64 n, some ⟨.int _, _, _, _⟩ => .valc (n ≠ 0) (.err n)
    | _, _, _ => .no
  | .extract x i => match ev x with
    | .tup vs => match Nat.blt i vs.length with
      | true => .val (nth vs i)
      | false => .no
    | _ => .no
  | .box e x => match E.tab e with
    | some ⟨_, ts, _, _⟩ => match okPart (ev x) && Nat.beq (ev x).cells.length ts with
      | true => .eff none (.loc d 0) none (some ⟨e, ts, 1, fun _ j => nth (ev x).cells j, 0, true⟩) fz0
      | false => .no
    | none => .no
  | .alloc e => match E.tab e with
    | some ⟨_, ts, _, z⟩ => .eff none (.loc d 0) none (some ⟨e, ts, 1, fun _ j => nth z j, 0, true⟩) fz0
    | none => .no
  | .fieldAddr t x f => match E.tab t with
    | some ⟨.struct fs, _, _, _⟩ => match Nat.blt f fs.length, lookF fs f, ev x with
      | true, (o, s, _), .loc id j => match Nat.blt 0 s with
        | true => .val (.loc id (j + o))
        | false => .no
      | true, (o, s, _), .elt id i j w => match Nat.blt 0 s, Nat.ble (o + s) w with
        | true, true => .val (.elt id i (j + o) s)
        | _, _ => .no
      | true, (o, s, _), .iref k g => match Nat.blt 0 s, Nat.ble (o + s) k with
        | true, true => .val (.iref s (fun j => g (o + j)))
        | _, _ => .no
      | _, _, _ => .no
    | _ => .no
  | .load t x => aload E t (ev x) (rowOf m (ev x))
  | .field t x f => match E.tab t with
    | some ⟨.struct fs, _, _, _⟩ => match Nat.blt f fs.length, lookF fs f, ev x with
      | true, (o, s, ft), .agg cs => match E.tab ft, Nat.ble (o + s) cs.length with
        | some td, true => match Nat.beq td.size s with
          | true => .val (td.val (nth cs) o)
          | false => .no
        | _, _ => .no
      | _, _, _ => .no
    | _ => .no
  | .index t x ix => match E.tab t, ev x, ev ix with
    | some ⟨.array n e, _, _, _⟩, .agg cs, .int _ i => match E.tab e with
      | some te => match Nat.beq cs.length (n * te.size) with
        | true => .valc (0 ≤ i ∧ i < n) (te.val (nth cs) (i.toNat * te.size))
        | false => .no
      | none => .no
    | _, _, _ => .no
  | .indexAddr t x ix => aindex E t (ev x) (ev ix) (constIx ix) (rowOf m (ev x))
  | .slice t x lo hi none => aslice E t (ev x) (lo.map ev) (hi.map ev) (rowOf m (ev x))
  | .build t ps => match E.tab t with
    | some ⟨.struct fs, size, _, z⟩ =>
      match partsOK (fun i => (lookF fs i).1) (fun i => (lookF fs i).2.1) fs.length size (ps.toList.map fun p => (p.1, ev p.2)) with
      | true => .val (.agg (takeF (fillF (fun i => (lookF fs i).1) (ps.toList.map fun p => (p.1, ev p.2)) (nth z)) 0 size))
      | false => .no
    | some ⟨.array n e, size, _, z⟩ => match E.tab e with
      | some ⟨_, ts, _, _⟩ =>
        match partsOK (fun i => i * ts) (fun _ => ts) n size (ps.toList.map fun p => (p.1, ev p.2)) with
        | true => .val (.agg (takeF (fillF (fun i => i * ts) (ps.toList.map fun p => (p.1, ev p.2)) (nth z)) 0 size))
        | false => .no
      | none => .no
    | _ => .no
  | .buildSlice t n ps => match E.tab t with
    | some ⟨.slice e, _, _, _⟩ => match E.tab e with
      | some ⟨_, ts, _, z⟩ =>
        match partsOK (fun i => i * ts) (fun _ => ts) n (n * ts) (ps.toList.map fun p => (p.1, pure1 m (ev p.2))), Nat.ble (n * ts) 16777216, Nat.blt 0 ts with
        | true, true, true => .eff none (.own d n) none (some ⟨e, ts, n, fun i j => pureC (fillF (fun i => i * ts) (ps.toList.map fun p => (p.1, pure1 m (ev p.2))) (fun q => nth z (q % ts)) (i * ts + j)), 0, false⟩) (fzArgs (ps.toList.map fun p => ev p.2))
        | _, _, _ => .no
      | none => .no
    | _ => .no
  | .makeSlice t l c => match E.tab t, ev l, ev c with
    | some ⟨.slice e, _, _, _⟩, .int _ n, .int _ k => match E.tab e with
      | some ⟨_, ts, tb, z⟩ => match Nat.blt 0 ts with
        | true => .eff (some (0 ≤ n ∧ n ≤ k ∧ (tb : Int) * k ≤ 281474976710656 ∧ k ≤ 9223372036854775807)) (.own d n.toNat) none (some ⟨e, ts, n.toNat, fun _ j => nth z j, 0, false⟩) fz0
        | false => .no
      | none => .no
    | _, _, _ => .no
  | .makeFunc (.func f) first caps => match okPartsL (first.toList.map ev) && okPartsL (caps.toList.map ev) with
    | true => .val (.clo f (first.toList.map ev) (caps.toList.map ev))
    | false => .no
  | .typeAssert x xt at_ true => match E.tab xt, Nat.beq at_ E.errT, ev x, E.tab at_ with
    | some ⟨.iface, _, _, _⟩, true, .err n, some ⟨.int .i64, _, _, [.int .i64 0]⟩ => .val (.tup [.int .i64 n, .bit (!decide (n = 0))])
    | some ⟨.iface, _, _, _⟩, true, .nilI, some ⟨.int .i64, _, _, [.int .i64 0]⟩ => .val (.tup [.int .i64 0, .bit false])
    | _, _, _, _ => .no
  | .nilCheck x => match ev x with
    | .loc id j => .val (.loc id j)
    | .elt id i j w => .val (.elt id i j w)
    | .iref k g => .val (.iref k g)
    | _ => .no
  | .call c => acall E c d ev m
  | _ => .no

def updF (f : Nat → Nat → AV) (i j : Nat) (cs : List AV) : Nat → Nat → AV := fun a b =>
  match Nat.ble j b, Nat.blt b (j + cs.length), Nat.beq a i with
  | true, true, true => nth cs (b - j)
  | _, _, _ => f a b

/-- A store: the row's name and the row as it is then. -/
def sop (E : Env) (t : TypeId) (x y : AV) (m : Nat → Option Row) : Option (Nat × Row) :=
  match E.tab t, x with
  | some ⟨_, ts, _, _⟩, .loc id j => match m id with
    | some ⟨e, sz, n, f, st, bx⟩ => match Nat.beq st 0, Nat.blt 0 n, Nat.ble (j + ts) sz, okPart y && Nat.beq y.cells.length ts with
      | true, true, true, true => (match bx, pureBL y.cells with | false, false => none | _, _ => some (id, ⟨e, sz, n, updF f 0 j y.cells, 0, bx⟩))
      | _, _, _, _ => none
    | none => none
  | some ⟨_, ts, _, _⟩, .elt id i j w => match m id with
    | some ⟨e, sz, n, f, st, bx⟩ => match Nat.beq st 0, Nat.ble ts w, okPart y && Nat.beq y.cells.length ts with
      | true, true, true => (match bx, pureBL y.cells with | false, false => none | _, _ => some (id, ⟨e, sz, n, updF f i j y.cells, 0, bx⟩))
      | _, _, _ => none
    | none => none
  | _, _ => none

abbrev KB := Nat → Option Bool
def kbOf (kb : KB) : Operand → Option Bool
  | .tmp t => kb t
  | .const (.bool b) => some b
  | _ => none
def kbPut (kb : KB) (d : Option Nat) (x : Option Bool) : KB := match d with
  | some d => fun t => match Nat.beq t d with | true => x | false => kb t
  | none => kb
def kbMark (kb : KB) (x : Operand) (b : Bool) : KB := match x with
  | .tmp t => fun i => match Nat.beq i t with | true => some b | false => kb i
  | _ => kb

def chkO (p : Option Prop) (x : Prop) : Prop := match p with
  | none => x
  | some p => Chk p x

def evR (dst : Option Nat) (σ : St) (kb : KB) (nk : Option Bool) (K : St → KB → Prop) (r : R0) : Prop :=
  match r with
  | .no => False
  | .val v => K (σ.putO dst v) (kbPut kb dst nk)
  | .valc p v => Chk p (K (σ.putO dst v) (kbPut kb dst nk))
  | .eff p v k new fz => match dst with
    | some d => match new, σ.m d with
      | none, _ => chkO p (K (σ.eff d v none fz) (kbPut kb dst k))
      | some r, none => chkO p (K (σ.eff d v (some r) fz) (kbPut kb dst k))
      | some _, some _ => False
    | none => match new with
      | none => chkO p (K ⟨σ.t, effM σ.m 0 none fz⟩ kb)
      | some _ => False

def evOp (E : Env) (o : Oper) (σ : St) (kb : KB) (K : St → KB → Prop) : Prop :=
  match o.op with
  | .pick c a b => match kbOf kb c with
    | some true => K (σ.putO o.dst (evO σ.t a)) (kbPut kb o.dst (kbOf kb a))
    | some false => K (σ.putO o.dst (evO σ.t b)) (kbPut kb o.dst (kbOf kb b))
    | none => match evO σ.t c with
      | .bit v => Brn v (K (σ.putO o.dst (evO σ.t a)) (kbPut (kbMark kb c true) o.dst (kbOf kb a))) (K (σ.putO o.dst (evO σ.t b)) (kbPut (kbMark kb c false) o.dst (kbOf kb b)))
      | _ => False
  | .move x => K (σ.putO o.dst (evO σ.t x)) (kbPut kb o.dst (kbOf kb x))
  | .assign x => K (σ.putO o.dst (evO σ.t x)) (kbPut kb o.dst (kbOf kb x))
  | .unOp .not t x => evR o.dst σ kb ((kbOf kb x).map not) K (aop E (.unOp .not t x) (o.dst.getD 0) (evO σ.t) σ.m)
  | .store t x y => match o.dst, sop E t (evO σ.t x) (evO σ.t y) σ.m with
    | none, some (id, r) => K ⟨σ.t, fun k => match Nat.beq k id with | true => some r | false => σ.m k⟩ kb
    | _, _ => False
  | op => evR o.dst σ kb none K (aop E op (o.dst.getD 0) (evO σ.t) σ.m)

def gdst : List Oper → Nat → Option Nat
  | [], _ => none
  | o :: _, 0 => o.dst
  | _ :: r, n + 1 => gdst r n

def evOps (E : Env) (ops : List Oper) : List Oper → St → KB → (St → KB → Prop) → Prop
  | [], σ, kb, K => K σ kb
  | o :: r, σ, kb, K => match o.guard with
    | none => evOp E o σ kb (fun σ' kb' => evOps E ops r σ' kb' K)
    | some (j, want) => match gdst ops j with
      | none => False
      | some d => match kb d with
        | some b => match b, want with
          | true, true => evOp E o σ kb (fun σ' kb' => evOps E ops r σ' kb' K)
          | false, false => evOp E o σ kb (fun σ' kb' => evOps E ops r σ' kb' K)
          | _, _ => evOps E ops r (σ.putO o.dst (.tup [])) (kbPut kb o.dst none) K
        | none => match σ.t d with
          | .bit b => match want with
            | true => Brn b (evOp E o σ (kbPut kb (some d) (some true)) (fun σ' kb' => evOps E ops r σ' kb' K))
                (evOps E ops r (σ.putO o.dst (.tup [])) (kbPut (kbPut kb (some d) (some false)) o.dst none) K)
            | false => Brn b (evOps E ops r (σ.putO o.dst (.tup [])) (kbPut (kbPut kb (some d) (some true)) o.dst none) K)
                (evOp E o σ (kbPut kb (some d) (some false)) (fun σ' kb' => evOps E ops r σ' kb' K))
          | .tup [] => evOps E ops r (σ.putO o.dst (.tup [])) (kbPut kb o.dst none) K
          | _ => False

inductive Ex where
  | normal
  | exit (n : Nat)
  | ret


end Go.Proofs.Ytbhbjmneglkgnaa.AI
