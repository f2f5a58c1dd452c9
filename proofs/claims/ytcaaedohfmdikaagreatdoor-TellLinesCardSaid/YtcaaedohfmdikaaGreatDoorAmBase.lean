/- An abstract machine for the model's code, how an abstract heap stands in a real one: part of the proof of TellLines. Conditions: none. -/
import Derived.Orders
import Derived.Laws.CopyRow
import Derived.Laws.Append
import Derived.Laws.Slices
import Derived.Laws.MakeOwn
import Derived.Below
set_option linter.unusedVariables false
set_option linter.unusedSimpArgs false
noncomputable section
namespace Go.Am

/-- Abstract values: an address is an abstract block and an offset; a slice's capacity is known or not. -/
inductive AV where
  | undef
  | bool (b : Bool)
  | int (k : IntKind) (n : Int)
  | str (s : List UInt8)
  | ptr (a : Option (Nat × Nat))
  | slice (a : Option (Nat × Nat)) (len : Nat) (cap : Option Nat)
  | map (r : Option Nat)
  | func (fn : Fn) (first captured : List AV)
  | nilFunc
  | iface (t : TypeId) (v : AV)
  | nilIface
  | agg (cs : List AV)
  | tuple (vs : List AV)
  

def AV.cells : AV → List AV
  | .agg cs => cs
  | v => [v]

/-- What may stand in a cell. -/
def AV.cellOk : AV → Bool
  | .undef | .agg _ | .tuple _ => false
  | _ => true

def ofScalar : Value → AV
  | .bool b => .bool b
  | .int k n => .int k n
  | .string s => .str s.data.toList
  | .pointer none => .ptr none
  | .slice none 0 0 => .slice none 0 (some 0)
  | .map none => .map none
  | .nilFunc => .nilFunc
  | .nilIface => .nilIface
  | _ => .undef

def ofConst : Value → AV
  | .agg cs => .agg (cs.toList.map ofScalar)
  | .tuple cs => .tuple (cs.toList.map ofScalar)
  | v => ofScalar v

/-- Finite maps on numbers. -/
inductive Tr (α : Type) where
  | nil
  | node (o : Option α) (l r : Tr α)

/-- The way to a number's place. -/
inductive Path where
  | e
  | l (p : Path)
  | r (p : Path)
  deriving DecidableEq

def pathF (fuel : Nat) : Nat → Path :=
  Nat.rec (motive := fun _ => Nat → Path) (fun _ => .e)
    (fun _ ih i => cond (Nat.beq i 0) .e (cond (Nat.beq (i % 2) 1) (.l (ih (i / 2))) (.r (ih (i / 2 - 1))))) fuel
def pathOf (i : Nat) : Path := pathF (i + 1) i

namespace Tr
variable {α : Type}
def getP (p : Path) : Tr α → Option α :=
  Path.rec (motive := fun _ => Tr α → Option α)
    (fun t => Tr.rec (motive := fun _ => Option α) none (fun o _ _ _ _ => o) t)
    (fun _ ih t => Tr.rec (motive := fun _ => Option α) none (fun _ l _ _ _ => ih l) t)
    (fun _ ih t => Tr.rec (motive := fun _ => Option α) none (fun _ _ r _ _ => ih r) t) p

def setP (v : α) (p : Path) : Tr α → Tr α :=
  Path.rec (motive := fun _ => Tr α → Tr α)
    (fun t => Tr.rec (motive := fun _ => Tr α) (.node (some v) .nil .nil) (fun _ l r _ _ => .node (some v) l r) t)
    (fun _ ih t => Tr.rec (motive := fun _ => Tr α) (.node none (ih .nil) .nil) (fun o l r _ _ => .node o (ih l) r) t)
    (fun _ ih t => Tr.rec (motive := fun _ => Tr α) (.node none .nil (ih .nil)) (fun o l r _ _ => .node o l (ih r)) t) p

def get (t : Tr α) (i : Nat) : Option α := getP (pathOf i) t
def set (t : Tr α) (i : Nat) (v : α) : Tr α := setP v (pathOf i) t
end Tr

abbrev Env := Tr AV

inductive AObj where
  | cells (els : List (List AV)) (sz : Nat) (elem : TypeId) (ro : Bool) (fz : Nat)
  | map (es : List (AV × AV)) (ver : Nat)
  | siter (s : List UInt8) (pos : Nat)
  | miter (m : Option Nat) (left : List (AV × AV)) (ver : Nat) (last : Option (AV × AV))
  | key (v : AV) (t : TypeId)
  | dead

structure Heap where
  objs : Tr AObj
  next : Nat

inductive Res (α : Type) where
  | ok (a : α)
  | fail
  | choose (n : Nat) (k : Nat → Res α)

def Res.bind {α β : Type} (x : Res α) (f : α → Res β) : Res β :=
  Res.rec (motive := fun _ => Res β) (fun a => f a) .fail (fun n _ ih => .choose n ih) x

def Res.ofOpt {α : Type} : Option α → Res α
  | some a => .ok a
  | none => .fail

def Heap.get (h : Heap) (id : Nat) : Option AObj := h.objs.get id
def Heap.put (h : Heap) (id : Nat) (o : AObj) : Heap := { h with objs := h.objs.set id o }
def Heap.new (h : Heap) (o : AObj) : Heap := { objs := h.objs.set h.next o, next := h.next + 1 }

/-! ### Cells, in elements of one size -/

def chunkF (sz : Nat) : Nat → List AV → List (List AV)
  | 0, _ => []
  | f + 1, l => match l with
    | [] => []
    | _ => l.take sz :: chunkF sz f (l.drop sz)
def chunk (sz : Nat) (l : List AV) : List (List AV) := chunkF sz l.length l

def getC (els : List (List AV)) (sz off n : Nat) : Option (List AV) :=
  match els.drop (off / sz) with
  | [] => if n = 0 ∧ off = els.flatten.length then some [] else none
  | e :: rest =>
    if off % sz + n ≤ sz then some ((e.drop (off % sz)).take n)
    else
      let l := ((e :: rest).flatten.drop (off % sz)).take n
      if l.length = n then some l else none

def splice (l : List AV) (at_ : Nat) (new : List AV) : List AV := l.take at_ ++ new ++ l.drop (at_ + new.length)

def setC (els : List (List AV)) (sz off : Nat) (new : List AV) : Option (List (List AV)) :=
  if off % sz + new.length ≤ sz then
    match els[off / sz]? with
    | some e => some (els.set (off / sz) (splice e (off % sz) new))
    | none => none
  else if off + new.length ≤ sz * els.length then some (chunk sz (splice els.flatten off new))
  else none

/-! ### What the program's tables tell -/
section
variable (P : Program)
def szT (t : TypeId) : Nat := P.cellsOf t
def aggT (t : TypeId) : Option Bool :=
  match P.underlying t with
  | none => none
  | some (.struct _) | some (.array _ _) => some true
  | _ => some false
def zeroT (t : TypeId) : Option AV := ((P.info? t).bind (·.zero)).map ofConst
def sliceElem (t : TypeId) : Option TypeId :=
  match P.underlying t with
  | some (.slice e) => some e
  | _ => none
def okCells (t : TypeId) (v : AV) : Option (List AV) :=
  if v.cells.length = szT P t ∧ v.cells.all AV.cellOk then some v.cells else none
end

def opd (env : Env) : Operand → AV
  | .tmp t => (env.get t).getD .undef
  | .const v => ofConst v
  | .global _ => .undef
  | .func f => .func (.func f) [] []

def loadCellsA (h : Heap) (id off n : Nat) : Option (List AV) :=
  match h.get id with
  | some (.cells els sz _ _ _) => getC els sz off n
  | _ => none

def partA (P : Program) (t : TypeId) (cs : List AV) (off : Nat) : Option AV :=
  match aggT P t with
  | some true => if off + szT P t ≤ cs.length then some (.agg ((cs.drop off).take (szT P t))) else none
  | some false => cs[off]?
  | none => none

def loadA (P : Program) (t : TypeId) (a : AV) (h : Heap) : Option AV :=
  match a with
  | .ptr (some (id, off)) =>
    match aggT P t with
    | some true => (loadCellsA h id off (szT P t)).map .agg
    | some false => match loadCellsA h id off 1 with
      | some [v] => some v
      | _ => none
    | none => none
  | _ => none

def storeCellsA (h : Heap) (id off : Nat) (cs : List AV) : Option Heap :=
  match h.get id with
  | some (.cells els sz e false fz) =>
    if fz - 1 ≤ off then (setC els sz off cs).map fun els => h.put id (.cells els sz e false fz) else none
  | _ => none

def storeA (P : Program) (t : TypeId) (a v : AV) (h : Heap) : Option Heap :=
  match a, okCells P t v with
  | .ptr (some (id, off)), some cs => if szT P t = 0 then none else storeCellsA h id off cs
  | _, _ => none

/-! ### Integers -/
def wrapU (b : Nat) (n : Int) : Int := n % (b : Int)
def wrapS (b : Nat) (n : Int) : Int :=
  let m := n % (b : Int)
  if m ≥ ((b / 2 : Nat) : Int) then m - (b : Int) else m
def wrapA : IntKind → Int → Int
  | .i8, n => wrapS 256 n
  | .i16, n => wrapS 65536 n
  | .i32, n => wrapS 4294967296 n
  | .i64, n => wrapS 18446744073709551616 n
  | .u8, n => wrapU 256 n
  | .u16, n => wrapU 65536 n
  | .u32, n => wrapU 4294967296 n
  | .u64, n => wrapU 18446744073709551616 n

/-- Two's complement bits of a number. -/
def bitsA (k : IntKind) (n : Int) : Nat := (n % (2 ^ k.bits : Nat)).toNat

def cmpA (op : BinOp) (x y : Int) : Option AV :=
  match op with
  | .eql => some (.bool (x == y))
  | .neq => some (.bool (x != y))
  | .lss => some (.bool (decide (x < y)))
  | .leq => some (.bool (decide (x ≤ y)))
  | .gtr => some (.bool (decide (x > y)))
  | .geq => some (.bool (decide (x ≥ y)))
  | _ => none

def intA (op : BinOp) (k : IntKind) (x y : Int) : Option AV :=
  match op with
  | .add => some (.int k (wrapA k (x + y)))
  | .sub => some (.int k (wrapA k (x - y)))
  | .mul => some (.int k (wrapA k (x * y)))
  | .quo => if y = 0 then none else some (.int k (wrapA k (x.tdiv y)))
  | .rem => if y = 0 then none else some (.int k (x.tmod y))
  | .and => some (.int k (wrapA k (Nat.land (bitsA k x) (bitsA k y))))
  | .or => some (.int k (wrapA k (Nat.lor (bitsA k x) (bitsA k y))))
  | .xor => some (.int k (wrapA k (Nat.xor (bitsA k x) (bitsA k y))))
  | .eql | .neq | .lss | .leq | .gtr | .geq => cmpA op x y
  | _ => none

def shiftA (op : BinOp) (k : IntKind) (x y : Int) : Option AV :=
  if y < 0 then none else
  match op with
  | .shl => some (.int k (wrapA k (x * (2 ^ min y.toNat k.bits : Nat))))
  | .shr => some (.int k (x.fdiv (2 ^ min y.toNat k.bits : Nat)))
  | _ => none

def eqB : List UInt8 → List UInt8 → Bool
  | [], [] => true
  | a :: x, b :: y => Nat.beq a.toNat b.toNat && eqB x y
  | _, _ => false
def ltB : List UInt8 → List UInt8 → Bool
  | _, [] => false
  | [], _ :: _ => true
  | a :: x, b :: y => Nat.blt a.toNat b.toNat || (Nat.beq a.toNat b.toNat && ltB x y)

def strA (op : BinOp) (x y : List UInt8) : Option AV :=
  match op with
  | .add => if x.length + y.length < 2 ^ 62 then some (.str (x ++ y)) else none
  | .eql => some (.bool (eqB x y))
  | .neq => some (.bool (!eqB x y))
  | .lss => some (.bool (ltB x y))
  | .leq => some (.bool (ltB x y || eqB x y))
  | .gtr => some (.bool (!(ltB x y || eqB x y)))
  | .geq => some (.bool (!ltB x y))
  | _ => none

def alive (h : Heap) (id : Nat) : Bool :=
  match h.get id with
  | some (.cells _ _ _ false 0) => true
  | _ => false

/-- Two values of one type that are compared. -/
def eqA (P : Program) (h : Heap) : Nat → TypeId → AV → AV → Option Bool
  | 0, _, _, _ => none
  | d + 1, t, x, y =>
    match P.underlying t, x, y with
    | some .bool, .bool a, .bool b => some (a == b)
    | some (.int _), .int k a, .int k' b => if k = k' then some (a == b) else none
    | some .string, .str a, .str b => some (eqB a b)
    | some (.pointer _), .ptr none, .ptr b => some b.isNone
    | some (.pointer _), .ptr (some _), .ptr none => some false
    | some (.pointer e), .ptr (some (i, a)), .ptr (some (j, b)) =>
      if szT P e ≠ 0 ∧ alive h i ∧ alive h j then some (i == j && a == b) else none
    | some (.interface _), .nilIface, .nilIface => some true
    | some (.interface _), .nilIface, .iface _ _ => some false
    | some (.interface _), .iface _ _, .nilIface => some false
    | some (.struct fs), .agg xs, .agg ys =>
      if P.stoodInHeld t then none
      else fs.toList.foldr (fun f r =>
        if f.name ≠ "_" then
          match partA P f.type xs f.offset, partA P f.type ys f.offset with
          | some a, some b => match eqA P h d f.type a b with
            | some true => r
            | r' => r'
          | _, _ => none
        else r) (some true)
    | some (.array n e), .agg xs, .agg ys =>
      if (P.info? e).isSome then (List.range n).foldr (fun i r =>
        match partA P e xs (i * szT P e), partA P e ys (i * szT P e) with
        | some a, some b => match eqA P h d e a b with
          | some true => r
          | r' => r'
        | _, _ => none) (some true)
      else none
    | some (.slice _), .slice none _ _, .slice b _ _ => some b.isNone
    | some (.slice _), .slice (some _) _ _, .slice none _ _ => some false
    | some (.map _ _), .map none, .map b => some b.isNone
    | some (.map _ _), .map (some _), .map none => some false
    | some (.func _ _ _), .nilFunc, .nilFunc => some true
    | some (.func _ _ _), .nilFunc, .func _ _ _ => some false
    | some (.func _ _ _), .func _ _ _, .nilFunc => some false
    | _, _, _ => none

def isConstO : Operand → Bool
  | .const _ => true
  | _ => false

/-- Does a comparison need no look at two nil interface values? -/
def guardOk (P : Program) (t : TypeId) (x y : Operand) (a b : AV) : Bool :=
  match a, b with
  | .nilIface, .nilIface => isConstO x || isConstO y
  | .agg _, .agg _ => !P.eqGuardType P.depth t
  | _, _ => true

def binA (P : Program) (h : Heap) (op : BinOp) (t : TypeId) (xo yo : Operand) (x y : AV) : Option AV :=
  match x, y with
  | .int k a, .int k' b =>
    match op with
    | .shl | .shr => shiftA op k a b
    | _ => if k = k' then intA op k a b else none
  | .str a, .str b => strA op a b
  | x, y =>
    match op with
    | .eql => if guardOk P t xo yo x y then (eqA P h 8 t x y).map .bool else none
    | .neq => if guardOk P t xo yo x y then (eqA P h 8 t x y).map fun b => .bool (!b) else none
    | _ => none

def unA (op : UnOp) (x : AV) : Option AV :=
  match op, x with
  | .not, .bool b => some (.bool (!b))
  | .neg, .int k n => some (.int k (wrapA k (0 - n)))
  | .xor, .int k n => some (.int k (wrapA k (Nat.xor (bitsA k (if k.signed then -1 else k.max)) (bitsA k n))))
  | _, _ => none

def intOf? : AV → Option Int
  | .int _ n => some n
  | _ => none

/-! ### Slices -/
def bytesOfCells : List AV → Option (List UInt8)
  | [] => some []
  | .int .u8 n :: r => (bytesOfCells r).map (UInt8.ofNat n.toNat :: ·)
  | _ => none

def cellsOfBytes (s : List UInt8) : List AV := s.map fun b => .int .u8 b.toNat

/-- The first cells of a slice, or of a string's bytes. -/
def firstA (h : Heap) (size n : Nat) : AV → Option (List AV)
  | .slice (some (id, off)) _ _ => loadCellsA h id off (n * size)
  | .slice none _ _ => some []
  | .str s => some (cellsOfBytes (s.take n))
  | _ => none

def lenA : AV → Option Nat
  | .slice _ n _ => some n
  | .str s => some s.length
  | _ => none

/-- How far a slice may be cut: its capacity, or, where that isn't known, what is known to lie there. -/
def reach (h : Heap) (size : Nat) (a : Option (Nat × Nat)) (cap : Option Nat) : Option Nat :=
  match cap, a with
  | some c, _ => some c
  | none, some (id, off) =>
    match h.get id with
    | some (.cells els sz _ _ _) => if sz = size then some ((sz * els.length - off) / size) else none
    | _ => none
  | none, none => none

def boundsA (lim : Nat) (len : Nat) (lo hi : Option AV) : Option (Nat × Nat) :=
  match (match hi with | some v => intOf? v | none => some (len : Int)) with
  | some h' =>
    if 0 ≤ h' ∧ h' ≤ (lim : Int) then
      match (match lo with | some v => intOf? v | none => some 0) with
      | some l' => if 0 ≤ l' ∧ l' ≤ h' then some (l'.toNat, h'.toNat) else none
      | none => none
    else none
  | none => none

def sliceA (P : Program) (h : Heap) (t : TypeId) (x : AV) (lo hi mx : Option AV) : Option AV :=
  match P.underlying t, x with
  | some .string, .str s =>
    match mx, boundsA s.length s.length lo hi with
    | none, some (l, r) => some (.str ((s.take r).drop l))
    | _, _ => none
  | some (.slice e), .slice a len cap =>
    if (P.info? e).isNone then none else
    match reach h (szT P e) a cap, mx with
    | some lim, none =>
      match boundsA lim len lo hi with
      | some (l, r) =>
        let m := cap.map (· - l)
        some (.slice (if m = some 0 then a else a.map fun (id, off) => (id, off + l * szT P e)) (r - l) m)
      | none => none
    | some lim, some mv =>
      match intOf? mv with
      | some m' =>
        if 0 ≤ m' ∧ m' ≤ (lim : Int) ∧ hi.isSome then
          match boundsA m'.toNat len lo hi with
          | some (l, r) =>
            let m := m'.toNat - l
            some (.slice (if m = 0 then a else a.map fun (id, off) => (id, off + l * szT P e)) (r - l) (some m))
          | none => none
        else none
      | none => none
    | none, _ => none
  | some (.array n e), .ptr (some (id, off)) =>
    match mx, (if (P.info? e).isSome then boundsA n n lo hi else none) with
    | none, some (l, r) => some (.slice (some (if n = l then (id, off) else (id, off + l * szT P e))) (r - l) (some (n - l)))
    | _, _ => none
  | _, _ => none

def maxCells : Nat := 2 ^ 40

def appendA (P : Program) (h : Heap) (t : TypeId) (s x : AV) : Option (AV × Heap) :=
  match sliceElem P t, s, lenA x with
  | some e, .slice a len cap, some n =>
    match firstA h (szT P e) n x, zeroT P e with
    | some new, some z =>
      if szT P e = 0 ∨ 2 ^ 47 < (len + n) * P.bytesOf e ∨ 2 ^ 62 < len + n ∨ z.cells.length ≠ szT P e ∨ new.all AV.cellOk = false ∨ new.length ≠ n * szT P e then none else
      if n = 0 then some (s, h) else
      match a with
      | none => some (.slice (some (h.next, 0)) (len + n) none, h.new (.cells (chunk (szT P e) new) (szT P e) e false 0))
      | some (id, off) =>
        match reach h (szT P e) a cap with
        | none => none
        | some lim =>
          if len + n ≤ lim then (storeCellsA h id (off + len * szT P e) new).map fun h' => (.slice a (len + n) cap, h')
          else
            match loadCellsA h id off (len * szT P e), h.get id with
            | some old, some (.cells _ osz el ro fz) =>
              match cap with
              | some _ => some (.slice (some (h.next, 0)) (len + n) none, h.new (.cells (chunk (szT P e) (old ++ new)) (szT P e) e false 0))
              | none =>
                if ro = true ∨ osz ≠ szT P e ∨ el ≠ e ∨ off + len * szT P e < fz - 1 ∨ off % szT P e ≠ 0 then none
                else some (.slice (some (h.next, 0)) (len + n) none,
                  (h.put id .dead).new (.cells (chunk (szT P e) (old ++ new)) (szT P e) e false (if fz = 0 then 0 else fz - 1 - off + 1)))
            | _, _ => none
    | _, _ => none
  | _, _, _ => none

def copyA (P : Program) (h : Heap) (t : TypeId) (d x : AV) : Option (AV × Heap) :=
  match sliceElem P t, d, lenA x with
  | some e, .slice a dl _, some n =>
    let k := Nat.min n dl
    if szT P e = 0 then none else
    match firstA h (szT P e) k x, a with
    | some cs, some (id, off) =>
      if cs.isEmpty then some (.int .i64 k, h) else if cs.all AV.cellOk then (storeCellsA h id off cs).map fun h' => (.int .i64 k, h') else none
    | some _, none => some (.int .i64 k, h)
    | none, _ => none
  | _, _, _ => none

/-! ### Maps -/
def keyEq : AV → AV → Option Bool
  | .int j a, .int k b => if j = k then some (a == b) else none
  | .str a, .str b => some (eqB a b)
  | _, _ => none

def findK (k : AV) : List (AV × AV) → Option (Option AV)
  | [] => some none
  | (k', v) :: r => match keyEq k k' with
    | some true => some (some v)
    | some false => findK k r
    | none => none

def putK (k v : AV) : List (AV × AV) → List (AV × AV)
  | [] => [(k, v)]
  | (k', v') :: r => if keyEq k k' = some true then (k, v) :: r else (k', v') :: putK k v r

def delK (k : AV) : List (AV × AV) → List (AV × AV)
  | [] => []
  | (k', v') :: r => if keyEq k k' = some true then r else (k', v') :: delK k r

def keyFits (P : Program) (t : TypeId) (k : AV) : Bool :=
  match P.underlying t, k with
  | some (.int j), .int j' _ => j == j'
  | some .string, .str _ => true
  | _, _ => false

def entriesA (h : Heap) : Option Nat → Option (List (AV × AV))
  | none => some []
  | some r => match h.get r with
    | some (.map es _) => some es
    | _ => none

def lookupA (P : Program) (h : Heap) (t : TypeId) (m k : AV) (ok : Bool) : Option AV :=
  match P.underlying t, m with
  | some (.map kt e), .map r =>
    if keyFits P kt k then
      match entriesA h r with
      | some es =>
        match findK k es, zeroT P e with
        | some (some v), _ => some (if ok then .tuple [v, .bool true] else v)
        | some none, some z => some (if ok then .tuple [z, .bool false] else z)
        | _, _ => none
      | none => none
    else none
  | _, _ => none

def updateA (P : Program) (h : Heap) (t : TypeId) (m k v : AV) : Option Heap :=
  match P.underlying t, m with
  | some (.map kt _), .map (some r) =>
    match h.get r with
    | some (.map es ver) => if keyFits P kt k && (findK k es).isSome then some (h.put r (.map (putK k v es) (ver + 1))) else none
    | _ => none
  | _, _ => none

def deleteA (P : Program) (h : Heap) (t : TypeId) (m k : AV) : Option Heap :=
  match P.underlying t, m with
  | some (.map kt _), .map r =>
    if keyFits P kt k then
      match r with
      | none => some h
      | some r => match h.get r with
        | some (.map es ver) => if (findK k es).isSome then some (h.put r (.map (delK k es) (ver + 1))) else none
        | _ => none
    else none
  | _, _ => none

def rangeA (P : Program) (h : Heap) (t : TypeId) (x : AV) : Option (AV × Heap) :=
  let p : AV := .ptr (some (h.next, 0))
  match P.underlying t, x with
  | some .string, .str s => some (p, h.new (.siter s 0))
  | some (.map _ _), .map none => some (p, h.new (.miter none [] 0 none))
  | some (.map _ _), .map (some m) =>
    match h.get m with
    | some (.map es ver) => some (p, h.new (.miter (some m) es ver none))
    | _ => none
  | _, _ => none

def nextA (h : Heap) (it : AV) (isStr : Bool) : Res (AV × Heap) :=
  match it with
  | .ptr (some (r, 0)) =>
    match h.get r, isStr with
    | some (.siter s pos), true =>
      if pos < s.length then
        let c := Utf8.decode ⟨s.toArray⟩ pos
        .ok (.tuple [.bool true, .int .i64 pos, .int .i32 c.1], h.put r (.siter s (pos + c.2)))
      else .ok (.tuple [.bool false], h)
    | some (.miter none _ _ _), false => .ok (.tuple [.bool false], h)
    | some (.miter (some m) left ver _), false =>
      match h.get m with
      | some (.map _ ver') =>
        if ver = ver' then
          match left with
          | [] => .ok (.tuple [.bool false], h.put r .dead)
          | [(k, v)] => .ok (.tuple [.bool true, k, v], h.put r (.miter (some m) [] ver (some (k, v))))
          | left => .choose left.length fun i =>
              match left[i]? with
              | some (k, v) => .ok (.tuple [.bool true, k, v], h.put r (.miter (some m) (left.eraseIdx i) ver (some (k, v))))
              | none => .fail
        else .fail
      | _ => .fail
    | _, _ => .fail
  | _ => .fail

def entryA (h : Heap) (it : AV) : Option AV :=
  match it with
  | .ptr (some (r, 0)) =>
    match h.get r with
    | some (.miter (some m) _ ver (some (k, v))) =>
      match h.get m with
      | some (.map _ ver') => if ver = ver' then some (.tuple [k, v]) else none
      | _ => none
    | _ => none
  | _ => none

/-! ### Operations -/
def fillA (place : Nat → Option (Nat × Nat)) : List AV → List (Nat × AV) → Option (List AV)
  | cells, [] => some cells
  | cells, (i, v) :: rest =>
    match place i with
    | none => none
    | some (off, size) =>
      if v.cells.length = size ∧ off + v.cells.length ≤ cells.length ∧ v.cells.all AV.cellOk then fillA place (splice cells off v.cells) rest
      else none

def buildA (P : Program) (t : TypeId) (parts : List (Nat × AV)) : Option AV :=
  match zeroT P t, P.underlying t with
  | some z, some (.struct fs) =>
    if fs.toList.all fun f => (P.info? f.type).isSome then (fillA (fun i => (fs[i]?).map fun f => (f.offset, szT P f.type)) z.cells parts).map .agg else none
  | some z, some (.array _ e) => if (P.info? e).isSome then (fillA (fun i => some (i * szT P e, szT P e)) z.cells parts).map .agg else none
  | _, _ => none

def buildSliceA (P : Program) (t : TypeId) (n : Nat) (parts : List (Nat × AV)) : Option (AObj × (Nat → AV)) :=
  match sliceElem P t with
  | some e =>
    match zeroT P e with
    | some z =>
      if szT P e = 0 ∨ 2 ^ 20 < n * szT P e ∨ z.cells.length ≠ szT P e then none
      else (fillA (fun i => some (i * szT P e, szT P e)) (List.replicate n z.cells).flatten parts).map fun cs =>
        (.cells (chunk (szT P e) cs) (szT P e) e false 0, fun id => .slice (some (id, 0)) n (some n))
    | none => none
  | none => none

/-- Does a variable of one type lie there, inside one of another? -/
def inA (P : Program) (u : TypeId) : Nat → TypeId → Nat → Bool
  | 0, _, _ => false
  | d + 1, e, r => !Nat.beq (szT P e) 0 && ((Nat.beq r 0 && Nat.beq e u) ||
    match P.underlying e with
    | some (.struct fs) => !P.stoodInHeld e && fs.toList.any fun f => Nat.ble f.offset r && Nat.blt r (f.offset + szT P f.type) && inA P u d f.type (r - f.offset)
    | _ => false)

/-- A conversion that makes nothing. -/
def convA (P : Program) (h : Heap) (src dst : TypeId) (x : AV) : Option AV :=
  match P.underlying src, P.underlying dst, x with
  | some _, some (.int k), .int _ n => some (.int k (wrapA k n))
  | some _, some .string, .int _ n => some (.str (Utf8.encode n).data.toList)
  | some _, some .string, .str s => some (.str s)
  | some (.pointer _), some .unsafePointer, .ptr none => some (.ptr none)
  | some (.pointer t), some .unsafePointer, .ptr (some (id, off)) =>
    match h.get id with
    | some (.cells els sz _ _ _) => if szT P t ≠ 0 ∧ off < sz * els.length then some (.ptr (some (id, off))) else none
    | _ => none
  | some .unsafePointer, some (.pointer u), .ptr (some (id, off)) =>
    match h.get id with
    | some (.cells els sz el _ _) => if sz = szT P el ∧ szT P u ≠ 0 ∧ off < sz * els.length ∧ inA P u 4 el (off % sz) = true then some (.ptr (some (id, off))) else none
    | _ => none
  | some (.slice e), some .string, .slice a n c =>
    match P.underlying e with
    | some (.int .u8) => (firstA h 1 n (.slice a n c)).bind fun cs => (bytesOfCells cs).map .str
    | _ => none
  | _, _, _ => none

/-- Bytes out of a string. -/
def bytesA (P : Program) (src dst : TypeId) (x : AV) : Option (AObj × (Nat → AV)) :=
  match P.underlying src, sliceElem P dst, x with
  | some _, some e, .str s =>
    match P.underlying e with
    | some (.int .u8) =>
      if s.length ≤ maxCells then some (.cells ((cellsOfBytes s).map ([·])) 1 e false 1, fun id => .slice (some (id, 0)) s.length none) else none
    | _ => none
  | _, _, _ => none

def makeSliceA (P : Program) (t : TypeId) (l c : AV) : Option (AObj × (Nat → AV)) :=
  match sliceElem P t, l, c with
  | some e, .int _ l, .int _ c =>
    match zeroT P e with
    | some z =>
      if 0 ≤ l ∧ l ≤ c ∧ c ≤ (2 ^ 30 : Nat) ∧ szT P e ≠ 0 ∧ z.cells.length = szT P e ∧ P.bytesOf e ≤ 2 ^ 12 then
        some (.cells (List.replicate c.toNat z.cells) (szT P e) e false 0, fun id => .slice (some (id, 0)) l.toNat (some c.toNat))
      else none
    | none => none
  | _, _, _ => none

def indexAddrA (P : Program) (t : TypeId) (x i : AV) : Option AV :=
  match P.underlying t, x, intOf? i with
  | some (.array n e), .ptr (some (id, off)), some i =>
    if 0 ≤ i ∧ i < (n : Int) ∧ (P.info? e).isSome then some (.ptr (some (id, off + i.toNat * szT P e))) else none
  | some (.slice e), .slice (some (id, off)) n _, some i =>
    if 0 ≤ i ∧ i < (n : Int) ∧ (P.info? e).isSome then some (.ptr (some (id, off + i.toNat * szT P e))) else none
  | _, _, _ => none

def indexA (P : Program) (t : TypeId) (x i : AV) : Option AV :=
  match P.underlying t, x, intOf? i with
  | some (.array n e), .agg cs, some i => if 0 ≤ i ∧ i < (n : Int) ∧ (P.info? e).isSome then partA P e cs (i.toNat * szT P e) else none
  | some .string, .str s, some i => if 0 ≤ i then (s[i.toNat]?).map fun b => .int .u8 b.toNat else none
  | _, _, _ => none

def fieldAddrA (P : Program) (t : TypeId) (x : AV) (f : Nat) : Option AV :=
  match P.underlying t, x with
  | some (.struct fs), .ptr (some (id, off)) =>
    match fs[f]? with
    | some f => if szT P f.type = 0 then none else some (.ptr (some (id, off + f.offset)))
    | none => none
  | _, _ => none

def fieldA (P : Program) (t : TypeId) (x : AV) (f : Nat) : Option AV :=
  match P.underlying t, x with
  | some (.struct fs), .agg cs =>
    match fs[f]? with
    | some f => partA P f.type cs f.offset
    | none => none
  | _, _ => none

def lenOpA (P : Program) (h : Heap) (t : TypeId) (x : AV) : Option AV :=
  match P.underlying t, x with
  | some .string, .str s => some (.int .i64 s.length)
  | some (.array n _), _ => some (.int .i64 n)
  | some (.slice _), .slice _ n _ => some (.int .i64 n)
  | some (.map _ _), .map r => (entriesA h r).map fun es => .int .i64 es.length
  | some (.pointer a), _ => match P.underlying a with
    | some (.array n _) => some (.int .i64 n)
    | _ => none
  | _, _ => none

def clearA (P : Program) (h : Heap) (t : TypeId) (x : AV) : Option Heap :=
  match P.underlying t, x with
  | some (.map _ _), .map none => some h
  | some (.map _ _), .map (some r) => match h.get r with
    | some (.map _ ver) => some (h.put r (.map [] (ver + 1)))
    | _ => none
  | some (.slice _), .slice none _ _ => some h
  | some (.slice e), .slice (some (id, off)) n _ =>
    if n = 0 then some h else
    match zeroT P e with
    | some z => if szT P e ≠ 0 ∧ z.cells.length = szT P e ∧ z.cells.all AV.cellOk then storeCellsA h id off (List.replicate n z.cells).flatten else none
    | none => none
  | _, _ => none

def min2 (mx : Bool) : AV → AV → Option AV
  | .int k x, .int _ y => some (.int k (if mx then (if y > x then y else x) else (if y < x then y else x)))
  | _, _ => none

def minMaxA (mx : Bool) : AV → List AV → Option AV
  | x, [] => some x
  | x, y :: r => (min2 mx x y).bind fun z => minMaxA mx z r

/-- Where built-in functions only read. -/
def builtinReadA (P : Program) (h : Heap) (b : Builtin) (ts : Array TypeId) (args : List AV) : Option AV :=
  match b, args with
  | .len, [x] => (ts[0]?).bind fun t => lenOpA P h t x
  | .unsafeSliceData, [.slice none _ _] => some (.ptr none)
  | .unsafeSliceData, [.slice (some p) n c] => match c with
    | some c => if c = 0 then none else some (.ptr (some p))
    | none => if n = 0 then none else some (.ptr (some p))
  | .cap, [.slice _ _ (some c)] => match (ts[0]?).bind P.underlying with
    | some (.slice _) => some (.int .i64 c)
    | _ => none
  | .min, .int k n :: xs => minMaxA false (.int k n) xs
  | .max, .int k n :: xs => minMaxA true (.int k n) xs
  | _, _ => none

def builtinActA (P : Program) (h : Heap) (b : Builtin) (ts : Array TypeId) (args : List AV) : Option (AV × Heap) :=
  match b, args with
  | .append, [s, x] => match ts[0]?, (ts[1]?).map P.underlying with
    | some t, some (some (.slice _)) => appendA P h t s x
    | some t, some (some .string) => appendA P h t s x
    | _, _ => none
  | .copy, [d, x] => (ts[0]?).bind fun t => copyA P h t d x
  | .unsafeString, [.ptr p, .int .i64 n] => match (ts[0]?).map P.underlying with
    | some (some (.pointer e)) =>
      if n = 0 then some (.str [], h) else
      match p with
      | some (id, off) =>
        match h.get id, (loadCellsA h id off n.toNat).bind bytesOfCells with
        | some (.cells els sz el false fz), some s => if sz = 1 ∧ el = e ∧ szT P e = 1 ∧ 0 < n ∧ n ≤ (2 ^ 30 : Nat) then some (.str s, h.put id (if fz = 1 then .dead else .cells els sz el false (Nat.max fz (off + n.toNat + 1)))) else none
        | _, _ => none
      | none => none
    | _ => none
  | .delete, [m, k] => (ts[0]?).bind fun t => (deleteA P h t m k).map (.tuple [], ·)
  | .clear, [x] => (ts[0]?).bind fun t => (clearA P h t x).map (.tuple [], ·)
  | _, _ => none

/-- What a call calls, with which arguments. -/
def calleeA (P : Program) (env : Env) (c : Call) : Option (FuncId × List AV) :=
  let args := c.args.toList.map (opd env)
  match c.callee with
  | .value f => match opd env f with
    | .func (.func f) first cap => some (f, first ++ args ++ cap)
    | _ => none
  | .invoke r name => match opd env r with
    | .iface t v =>
      match ((P.info? t).map (·.methods)).bind (·.find? (·.name == name)), P.underlying t with
      | some m, some (.pointer _) => match m.func with
        | some (f, true) => if m.path.isEmpty then some (f, v :: args) else none
        | _ => none
      | _, _ => none
    | _ => none
  | .builtin _ => none

abbrev CallF := FuncId → List AV → Heap → Res (AV × Heap)

inductive Kind where
  | rd | nw | act
  deriving DecidableEq

def kindA (P : Program) : Op → Kind
  | .alloc _ | .box _ _ | .buildSlice _ _ _ | .makeMap _ _ | .makeSlice _ _ _ => .nw
  | .convert _ d _ => if (sliceElem P d).isSome then .nw else .rd
  | .move _ | .assign _ | .pick _ _ _ | .build _ _ | .load _ _ | .nilCheck _ | .binOp .. | .unOp .. | .makeInterface .. | .makeFunc .. | .slice ..
  | .fieldAddr .. | .field .. | .indexAddr .. | .index .. | .lookup .. | .extract .. | .entry .. | .typeAssert .. => .rd
  | .call c => match c.callee with
    | .builtin .len | .builtin .cap | .builtin .min | .builtin .max | .builtin .unsafeSliceData => .rd
    | _ => .act
  | _ => .act

/-- Operations that leave memory alone. -/
def readA (P : Program) (env : Env) (h : Heap) (op : Op) : Option AV :=
  match op with
  | .move x | .assign x => some (opd env x)
  | .pick c a b => match opd env c with
    | .bool true => some (opd env a)
    | .bool false => some (opd env b)
    | _ => none
  | .build t ps => buildA P t (ps.toList.map fun (i, x) => (i, opd env x))
  | .load t a => loadA P t (opd env a) h
  | .nilCheck x => match opd env x with
    | .ptr (some a) => some (.ptr (some a))
    | .iface t v => some (.iface t v)
    | .func (.func f) a b => some (.func (.func f) a b)
    | _ => none
  | .binOp op t x y _ => binA P h op t x y (opd env x) (opd env y)
  | .unOp op _ x => unA op (opd env x)
  | .convert s d x => convA P h s d (opd env x)
  | .makeInterface t x => match P.underlying t with
    | some (.interface _) => none
    | some _ => some (.iface t (opd env x))
    | none => none
  | .makeFunc fn first cap => some (.func fn (first.toList.map (opd env)) (cap.toList.map (opd env)))
  | .slice t x lo hi mx => sliceA P h t (opd env x) (lo.map (opd env)) (hi.map (opd env)) (mx.map (opd env))
  | .fieldAddr t x f => fieldAddrA P t (opd env x) f
  | .field t x f => fieldA P t (opd env x) f
  | .indexAddr t x i => indexAddrA P t (opd env x) (opd env i)
  | .index t x i => indexA P t (opd env x) (opd env i)
  | .lookup t m k ok => lookupA P h t (opd env m) (opd env k) ok
  | .extract t i => match opd env t with
    | .tuple vs => vs[i]?
    | _ => none
  | .entry it => entryA h (opd env it)
  | .typeAssert x _ t ok => match P.underlying t, opd env x with
    | some (.interface _), _ => none
    | some _, .iface t' v => if t' = t then some (if ok then .tuple [v, .bool true] else v) else none
    | _, _ => none
  | .call c => match c.callee with
    | .builtin b => builtinReadA P h b c.argTypes (c.args.toList.map (opd env))
    | _ => none
  | _ => none

/-- Operations that make something new, and look at no memory. -/
def newA (P : Program) (env : Env) (op : Op) : Option (AObj × (Nat → AV)) :=
  match op with
  | .alloc e => match zeroT P e with
    | some z => match okCells P e z with
      | some cs => if cs.isEmpty then none else some (.cells [cs] cs.length e false 0, fun id => .ptr (some (id, 0)))
      | none => none
    | none => none
  | .box e x => match okCells P e (opd env x) with
    | some cs => if cs.isEmpty then none else some (.cells [cs] cs.length e false 0, fun id => .ptr (some (id, 0)))
    | none => none
  | .buildSlice t n ps => buildSliceA P t n (ps.toList.map fun (i, x) => (i, opd env x))
  | .convert s d x => bytesA P s d (opd env x)
  | .makeMap _ none => some (.map [] 0, fun id => .map (some id))
  | .makeMap t (some r) => match P.underlying t, intOf? (opd env r) with
    | some (.map _ _), some _ => some (.map [] 0, fun id => .map (some id))
    | _, _ => none
  | .makeSlice t l c => makeSliceA P t (opd env l) (opd env c)
  | _ => none

def actO : Option Heap → Res (AV × Heap)
  | some h => .ok (.tuple [], h)
  | none => .fail

/-- Operations that turn memory, and calls. -/
def actA (P : Program) (call : CallF) (env : Env) (h : Heap) (op : Op) : Res (AV × Heap) :=
  match op with
  | .store t a x => actO (storeA P t (opd env a) (opd env x) h)
  | .mapUpdate t m k x | .insert t m k x => actO (updateA P h t (opd env m) (opd env k) (opd env x))
  | .range t x => Res.ofOpt (rangeA P h t (opd env x))
  | .next it s => nextA h (opd env it) s
  | .call c => match c.callee with
    | .builtin b => Res.ofOpt (builtinActA P h b c.argTypes (c.args.toList.map (opd env)))
    | _ => match calleeA P env c with
      | some (f, args) => call f args h
      | none => .fail
  | _ => .fail

def opA (P : Program) (call : CallF) (env : Env) (h : Heap) (op : Op) : Res (AV × Heap) :=
  match kindA P op with
  | .rd => match readA P env h op with
    | some v => .ok (v, h)
    | none => .fail
  | .nw => match newA P env op with
    | some (o, v) => .ok (v h.next, h.new o)
    | none => .fail
  | .act => actA P call env h op

inductive AExit where
  | norm
  | exit (id : Nat)
  | ret

/-- A slot is filled (of a frame of nt slots). -/
def putO (nt : Nat) (env : Env) (d : Option Tmp) (v : AV) : Option Env :=
  match d with
  | some d => if d < nt then some (env.set d v) else none
  | none => some env

/-- Is an operation wanted? (none: it can't be told) -/
def wantedA (ops : Array Oper) (env : Env) (o : Oper) : Option Bool :=
  match o.guard with
  | none => some true
  | some (j, want) =>
    match (ops[j]?).bind (·.dst) with
    | some d => match env.get d with
      | some (.bool b) => some (b == want)
      | some (.tuple []) => some false
      | _ => none
    | none => none

def opsA (P : Program) (call : CallF) (nt : Nat) (ops : Array Oper) : List Nat → Env → Heap → Res (Env × Heap)
  | [], env, h => .ok (env, h)
  | i :: rest, env, h =>
    match ops[i]? with
    | none => .fail
    | some o =>
      match wantedA ops env o with
      | none => .fail
      | some false => match putO nt env o.dst (.tuple []) with
        | some env => opsA P call nt ops rest env h
        | none => .fail
      | some true => (opA P call env h o.op).bind fun r => match putO nt env o.dst r.1 with
        | some env => opsA P call nt ops rest env r.2
        | none => .fail

/-! ### Regions whose order is drawn -/
def directs (o : Oper) : List Nat := (o.after.toList.filter (Region.binds .any)).map (·.on)

def maskOf (acc : List Nat) (o : Oper) : Nat := (directs o).foldl (fun s k => s ||| 2 ^ k ||| acc.getD k 0) 0

def masksGo : List Oper → List Nat → List Nat
  | [], acc => acc
  | o :: r, acc => masksGo r (acc ++ [maskOf acc o])

def lookO : Operand → Option Nat
  | .tmp t => some t
  | _ => none

structure Plan where
  ord : List Nat
  masks : List Nat

/-- In this order, what an operation waits for stands before it; before an operation that acts stands nothing else. -/
def planGo (P : Program) (ops : Array Oper) (M : List Nat) : List Nat → Nat → Bool
  | [], done => done == 2 ^ ops.size - 1
  | i :: rest, done =>
    match ops[i]? with
    | none => false
    | some o =>
      (!done.testBit i) && ((directs o).all fun k => done.testBit k) && (Nat.land (M.getD i 0) done == M.getD i 0) &&
      (match kindA P o.op with
      | .act => M.getD i 0 == done
      | _ => true) && planGo P ops M rest (done ||| 2 ^ i)

/-- Two operations of which neither has to wait for the other: they don't touch each other's slots; no two operations fill one slot. -/
def slotsOk (ops : Array Oper) (M : List Nat) : Bool :=
  ops.toList.zipIdx.all fun (x, i) =>
    match x.dst with
    | none => true
    | some d => ops.toList.zipIdx.all fun (y, j) =>
        (i == j) || (y.dst != some d && ((!(y.looksAt ops).contains d) || (M.getD i 0).testBit j || (M.getD j 0).testBit i))

def lazyOrd (n : Nat) (M acts : List Nat) : List Nat :=
  let a := acts.foldl (fun acc k => acc ++ ((List.range n).filter fun i => (M.getD k 0).testBit i && !acc.contains i) ++ [k]) []
  a ++ (List.range n).filter fun i => !a.contains i

def planOf (P : Program) (ops : Array Oper) : Option Plan :=
  let M := masksGo ops.toList []
  let acts := (List.range ops.size).filter fun i => (ops[i]?).any fun o => kindA P o.op = .act
  let ord := lazyOrd ops.size M acts
  if planGo P ops M ord 0 && slotsOk ops M then some ⟨ord, M⟩ else none

mutual
def AV.same : AV → AV → Bool
  | .undef, .undef => true
  | .bool a, .bool b => a == b
  | .int k a, .int j b => k == j && a == b
  | .str a, .str b => eqB a b
  | .ptr a, .ptr b => a == b
  | .slice a n c, .slice b m d => a == b && n == m && c == d
  | .map a, .map b => a == b
  | .func f x y, .func g z w => f == g && AV.sameL x z && AV.sameL y w
  | .nilFunc, .nilFunc => true
  | .iface t x, .iface u y => t == u && AV.same x y
  | .nilIface, .nilIface => true
  | .agg x, .agg y => AV.sameL x y
  | .tuple x, .tuple y => AV.sameL x y
  | _, _ => false
def AV.sameL : List AV → List AV → Bool
  | [], [] => true
  | a :: x, b :: y => AV.same a b && AV.sameL x y
  | _, _ => false
end

/-- What an operation that does not act comes to: its value, and what it makes. -/
def evalA (P : Program) (ops : Array Oper) (base : Nat) (env : Env) (s : Heap) (i : Nat) (o : Oper) : Option (AV × Option AObj) :=
  match wantedA ops env o with
  | none => none
  | some false => some (.tuple [], none)
  | some true =>
    match kindA P o.op with
    | .nw => match newA P env o.op with
      | some (ob, v) => some (v (base + i), some ob)
      | none => none
    | .rd => match readA P env s o.op with
      | some v => some (v, none)
      | none => none
    | .act => none

def sameV (r : Option (AV × Option AObj)) (v : AV) : Bool :=
  match r with
  | some (u, _) => AV.same u v
  | none => false

def checkSnaps (m : Nat) (f : Heap → Bool) : List (Nat × Heap) → Bool
  | [] => true
  | (a, s) :: r => f s && ((a != 0 && m.testBit (a - 1)) || checkSnaps m f r)

def olderOk (m : Nat) (f : Heap → Bool) : List (Nat × Heap) → Bool
  | [] => true
  | (a, _) :: r => (a != 0 && m.testBit (a - 1)) || checkSnaps m f r

def putOb (h : Heap) (id : Nat) : Option AObj → Heap
  | some ob => h.put id ob
  | none => h

def drawA (P : Program) (call : CallF) (nt : Nat) (ops : Array Oper) (M : List Nat) (base : Nat) : List Nat → Env → Heap → List (Nat × Heap) → Res (Env × Heap)
  | [], env, h, _ => .ok (env, h)
  | i :: rest, env, h, snaps =>
    match ops[i]? with
    | none => .fail
    | some o =>
      match kindA P o.op with
      | .act =>
        match wantedA ops env o with
        | none => .fail
        | some false => match putO nt env o.dst (.tuple []) with
          | some env => drawA P call nt ops M base rest env h ((i + 1, h) :: snaps)
          | none => .fail
        | some true => (actA P call env h o.op).bind fun r => match putO nt env o.dst r.1 with
          | some env => drawA P call nt ops M base rest env r.2 ((i + 1, r.2) :: snaps)
          | none => .fail
      | k =>
        match snaps with
        | [] => .fail
        | (a, s) :: older =>
          match evalA P ops base env s i o with
          | none => .fail
          | some (v, ob) =>
            if (k == .nw) || olderOk (M.getD i 0) (fun s' => sameV (evalA P ops base env s' i o) v) ((a, s) :: older) then
              match putO nt env o.dst v with
              | some env => drawA P call nt ops M base rest env (putOb h (base + i) ob) ((a, s) :: older)
              | none => .fail
            else .fail

def regionA (P : Program) (call : CallF) (nt : Nat) (ops : Array Oper) (draw : Bool) (env : Env) (h : Heap) : Res (Env × Heap) :=
  if draw then
    match planOf P ops with
    | some pl => drawA P call nt ops pl.masks h.next pl.ord env { h with next := h.next + ops.size } [(0, { h with next := h.next + ops.size })]
    | none => .fail
  else opsA P call nt ops (List.range ops.size) env h

abbrev Out := Res (AExit × Env × Heap)

def iterA (body : Env → Heap → Out) : Nat → Env → Heap → Out
  | 0, _, _ => .fail
  | n + 1, env, h => (body env h).bind fun r => match r.1 with
    | .norm => iterA body n r.2.1 r.2.2
    | _ => .ok r

def codeA (P : Program) (call : CallF) (nt n : Nat) : Code → Env → Heap → Out
  | .skip, env, h => .ok (.norm, env, h)
  | .region _ ops draw, env, h => (regionA P call nt ops draw env h).bind fun r => .ok (.norm, r.1, r.2)
  | .seq a b, env, h => (codeA P call nt n a env h).bind fun r => match r.1 with
    | .norm => codeA P call nt n b r.2.1 r.2.2
    | _ => .ok r
  | .cond c a b, env, h => match opd env c with
    | .bool true => codeA P call nt n a env h
    | .bool false => codeA P call nt n b env h
    | _ => .fail
  | .block id c, env, h => (codeA P call nt n c env h).bind fun r => match r.1 with
    | .exit id' => .ok (if id' = id then .norm else .exit id', r.2)
    | _ => .ok r
  | .loop c, env, h => iterA (fun env h => codeA P call nt n c env h) n env h
  | .exit id, env, h => .ok (.exit id, env, h)
  | .ret, env, h => .ok (.ret, env, h)
  | _, _, _ => .fail

def argsEnv : Nat → List AV → Env → Env
  | _, [], env => env
  | i, v :: r, env => argsEnv (i + 1) r (env.set i v)

def resA (P : Program) (env : Env) (h : Heap) : ResultVar → Option AV
  | .tmp t => some ((env.get t).getD .undef)
  | .cell a t => loadA P t ((env.get a).getD .undef) h

def resList (P : Program) (env : Env) (h : Heap) : List ResultVar → Option (List AV)
  | [] => some []
  | r :: rs => match resA P env h r, resList P env h rs with
    | some v, some vs => some (v :: vs)
    | _, _ => none

def resultsA (P : Program) (fn : Func) (env : Env) (h : Heap) : Option AV :=
  match resList P env h fn.results.toList with
  | some [v] => some v
  | some vs => some (.tuple vs)
  | none => none

/-- What certain functions do, by contracts. -/
abbrev Intr := FuncId → List AV → Heap → Option (Res (AV × Heap))

def bodyA (P : Program) (call : CallF) (n : Nat) (fn : Func) (c : Code) (args : List AV) (h : Heap) : Res (AV × Heap) :=
  if args.length ≤ fn.ntmps then
    (codeA P call fn.ntmps n c (argsEnv 0 args .nil) h).bind fun r => match r.1 with
      | .exit _ => .fail
      | _ => match resultsA P fn r.2.1 r.2.2 with
        | some v => .ok (v, r.2.2)
        | none => .fail
  else .fail

def callA (P : Program) (I : Intr) : Nat → FuncId → List AV → Heap → Res (AV × Heap)
  | 0, _, _, _ => .fail
  | n + 1, f, args, h =>
    match I f args h with
    | some r => r
    | none =>
      match P.funcs[f]? with
      | none => .fail
      | some fn => match fn.body with
        | none => .fail
        | some c => bodyA P (callA P I n) n fn c args h

end Go.Am
end
noncomputable section
namespace Go.Am
def Path.num : Path → Nat
  | .e => 0
  | .l p => 2 * p.num + 1
  | .r p => 2 * p.num + 2

theorem pathF_succ (f i : Nat) : pathF (f + 1) i = if i = 0 then .e else if i % 2 = 1 then .l (pathF f (i / 2)) else .r (pathF f (i / 2 - 1)) := by
  show cond (Nat.beq i 0) _ (cond (Nat.beq (i % 2) 1) _ _) = _
  cases h : Nat.beq i 0 with
  | true => have := Nat.eq_of_beq_eq_true h; simp [this]
  | false =>
    have hne := Nat.ne_of_beq_eq_false h
    cases h2 : Nat.beq (i % 2) 1 with
    | true => have := Nat.eq_of_beq_eq_true h2; simp [hne, this]; rfl
    | false => have := Nat.ne_of_beq_eq_false h2; simp [hne, this]; rfl

theorem num_pathF : ∀ (f i : Nat), i < f → (pathF f i).num = i := by
  intro f
  induction f with
  | zero => intro i h; omega
  | succ f ih =>
    intro i h
    rw [pathF_succ]
    by_cases h0 : i = 0
    · rw [if_pos h0, h0]; rfl
    · rw [if_neg h0]
      by_cases h1 : i % 2 = 1
      · rw [if_pos h1, Path.num, ih _ (by omega)]; omega
      · rw [if_neg h1, Path.num, ih _ (by omega)]; omega

theorem pathOf_inj {i j : Nat} (h : pathOf i = pathOf j) : i = j := by
  have h1 := num_pathF (i + 1) i (by omega)
  have h2 := num_pathF (j + 1) j (by omega)
  unfold pathOf at h
  rw [← h1, ← h2, h]

namespace Tr
variable {α : Type}
@[simp] theorem get_nil (i : Nat) : (Tr.nil : Tr α).get i = none := by
  show getP (pathOf i) .nil = none
  cases pathOf i <;> rfl

theorem getP_setP (v : α) : ∀ (p q : Path) (t : Tr α), getP p (setP v q t) = if p = q then some v else getP p t
  | .e, .e, t => by cases t <;> rfl
  | .e, .l q, t => by cases t <;> rfl
  | .e, .r q, t => by cases t <;> rfl
  | .l p, .e, t => by cases t <;> cases p <;> rfl
  | .r p, .e, t => by cases t <;> cases p <;> rfl
  | .l p, .l q, t => by
    cases t with
    | nil =>
      show getP p (setP v q .nil) = _
      rw [getP_setP v p q]
      by_cases h : p = q
      · simp [h]
      · simp only [h, if_false, Path.l.injEq] <;> (first | rfl | (cases p <;> rfl))
    | node o l r =>
      show getP p (setP v q l) = _
      rw [getP_setP v p q]
      by_cases h : p = q
      · simp [h]
      · simp only [h, if_false, Path.l.injEq] <;> rfl
  | .r p, .r q, t => by
    cases t with
    | nil =>
      show getP p (setP v q .nil) = _
      rw [getP_setP v p q]
      by_cases h : p = q
      · simp [h]
      · simp only [h, if_false, Path.r.injEq] <;> (first | rfl | (cases p <;> rfl))
    | node o l r =>
      show getP p (setP v q r) = _
      rw [getP_setP v p q]
      by_cases h : p = q
      · simp [h]
      · simp only [h, if_false, Path.r.injEq] <;> rfl
  | .l p, .r q, t => by cases t <;> (try rfl); cases p <;> rfl
  | .r p, .l q, t => by cases t <;> (try rfl); cases p <;> rfl

theorem setP_setP (v w : α) : ∀ (p : Path) (t : Tr α), setP w p (setP v p t) = setP w p t
  | .e, t => by cases t <;> rfl
  | .l p, t => by
    cases t with
    | nil => exact congrArg (fun x => Tr.node none x .nil) (setP_setP v w p .nil)
    | node o l r => exact congrArg (fun x => Tr.node o x r) (setP_setP v w p l)
  | .r p, t => by
    cases t with
    | nil => exact congrArg (fun x => Tr.node none .nil x) (setP_setP v w p .nil)
    | node o l r => exact congrArg (fun x => Tr.node o l x) (setP_setP v w p r)

theorem get_set (t : Tr α) (i j : Nat) (v : α) : (t.set i v).get j = if j = i then some v else t.get j := by
  show getP (pathOf j) (setP v (pathOf i) t) = _
  rw [getP_setP]
  by_cases h : j = i
  · subst h; simp
  · rw [if_neg h, if_neg (fun e => h (pathOf_inj e))]; rfl
@[simp] theorem get_set_same (t : Tr α) (i : Nat) (v : α) : (t.set i v).get i = some v := by simp [get_set]
theorem get_set_ne (t : Tr α) {i j : Nat} (v : α) (h : j ≠ i) : (t.set i v).get j = t.get j := by simp [get_set, h]
end Tr

section
variable (h : Heap) (id j : Nat) (o : AObj)
theorem Heap.get_put : (h.put id o).get j = if j = id then some o else h.get j := Tr.get_set _ _ _ _
@[simp] theorem Heap.get_put_same : (h.put id o).get id = some o := by simp [Heap.get_put]
theorem Heap.get_put_ne {h : Heap} {id j : Nat} {o : AObj} (hne : j ≠ id) : (h.put id o).get j = h.get j := by simp [Heap.get_put, hne]
@[simp] theorem Heap.next_put : (h.put id o).next = h.next := rfl
theorem Heap.get_new : (h.new o).get j = if j = h.next then some o else h.get j := Tr.get_set _ _ _ _
@[simp] theorem Heap.get_new_same : (h.new o).get h.next = some o := by simp [Heap.get_new]
theorem Heap.get_new_ne {h : Heap} {j : Nat} {o : AObj} (hne : j ≠ h.next) : (h.new o).get j = h.get j := by simp [Heap.get_new, hne]
@[simp] theorem Heap.next_new : (h.new o).next = h.next + 1 := rfl
theorem Heap.get_next_irrel (n : Nat) : ({ h with next := n } : Heap).get j = h.get j := rfl
end

/-! ### What all ways of a result have -/
def Res.all {α : Type} (Q : α → Prop) : Res α → Prop
  | .ok a => Q a
  | .fail => False
  | .choose n k => 0 < n ∧ ∀ i, i < n → (k i).all Q

@[simp] theorem Res.bind_ok {α β : Type} (a : α) (f : α → Res β) : (Res.ok a).bind f = f a := rfl
@[simp] theorem Res.bind_fail {α β : Type} (f : α → Res β) : (Res.fail : Res α).bind f = .fail := rfl
@[simp] theorem Res.bind_choose {α β : Type} (n : Nat) (k : Nat → Res α) (f : α → Res β) : (Res.choose n k).bind f = .choose n fun i => (k i).bind f := rfl
@[simp] theorem Res.all_ok {α : Type} (Q : α → Prop) (a : α) : (Res.ok a).all Q = Q a := rfl
@[simp] theorem Res.all_fail {α : Type} (Q : α → Prop) : (Res.fail : Res α).all Q = False := rfl

theorem Res.all_bind {α β : Type} (Q : β → Prop) (x : Res α) (f : α → Res β) : (x.bind f).all Q ↔ x.all fun a => (f a).all Q := by
  induction x with
  | ok a => rfl
  | fail => rfl
  | choose n k ih => simp [Res.all, ih]

theorem Res.all_mono {α : Type} {Q Q' : α → Prop} (hq : ∀ a, Q a → Q' a) : ∀ {x : Res α}, x.all Q → x.all Q'
  | .ok a, h => hq a h
  | .choose n k, h => ⟨h.1, fun i hi => Res.all_mono hq (h.2 i hi)⟩

theorem Res.all_exists {α : Type} {Q : α → Prop} : ∀ {x : Res α}, x.all Q → ∃ a, Q a
  | .ok a, h => ⟨a, h⟩
  | .choose n k, h => Res.all_exists (h.2 0 h.1)

end Go.Am
end
noncomputable section
namespace Go.Am
open Go.RowKit

/-- Where an abstract block lies: the real block, its first cell there, how many cells the real block has; how many the abstract one has, and an element of it. -/
structure Loc where
  block : Nat
  base : Nat
  tot : Nat
  ext : Nat
  sz : Nat

abbrev Inj := Nat → Option Loc

inductive F2 {α β : Type} (R : α → β → Prop) : List α → List β → Prop
  | nil : F2 R [] []
  | cons {a b x y} : R a b → F2 R x y → F2 R (a :: x) (b :: y)

mutual
def VRel (ι : Inj) : AV → Value → Prop
  | .undef, _ => True
  | .bool b, v => v = .bool b
  | .int k n, v => v = .int k n
  | .str s, v => v = .string ⟨s.toArray⟩
  | .ptr none, v => v = .pointer none
  | .ptr (some (id, off)), v => ∃ l, ι id = some l ∧ v = .pointer (some ⟨l.block, l.base + off, none⟩)
  | .slice none n c, v => n = 0 ∧ c = some 0 ∧ v = .slice none 0 0
  | .slice (some (id, off)) n (some c), v => ∃ l a, ι id = some l ∧ n ≤ c ∧ v = .slice (some a) n c ∧ (a = ⟨l.block, l.base + off, none⟩ ∨ c = 0)
  | .slice (some (id, off)) n none, v => ∃ l a c, ι id = some l ∧ v = .slice (some a) n c ∧ n ≤ c ∧
      ((a = ⟨l.block, l.base + off, none⟩ ∧ l.ext ≤ off + c * l.sz ∧ l.base + off + c * l.sz ≤ l.tot) ∨ (n = 0 ∧ c = 0 ∧ l.ext ≤ off ∧ a.spot = none))
  | .map none, v => v = .map none
  | .map (some r), v => ∃ l, ι r = some l ∧ v = .map (some l.block)
  | .func fn first cap, v => ∃ fs cs : List Value, v = .func fn fs.toArray cs.toArray ∧ VRelL ι first fs ∧ VRelL ι cap cs
  | .nilFunc, v => v = .nilFunc
  | .iface t x, v => ∃ y, v = .iface t y ∧ VRel ι x y
  | .nilIface, v => v = .nilIface
  | .agg cs, v => ∃ ys : List Value, v = .agg ys.toArray ∧ VRelL ι cs ys
  | .tuple cs, v => ∃ ys : List Value, v = .tuple ys.toArray ∧ VRelL ι cs ys
def VRelL (ι : Inj) : List AV → List Value → Prop
  | [], ys => ys = []
  | x :: xs, ys => ∃ y r, ys = y :: r ∧ VRel ι x y ∧ VRelL ι xs r
end

theorem VRelL_iff {ι : Inj} : ∀ {xs : List AV} {ys : List Value}, VRelL ι xs ys ↔ F2 (VRel ι) xs ys
  | [], ys => by
    simp only [VRelL]
    constructor
    · rintro rfl; exact .nil
    · intro h; cases h; rfl
  | x :: xs, ys => by
    simp only [VRelL]
    constructor
    · rintro ⟨y, r, rfl, h1, h2⟩; exact .cons h1 (VRelL_iff.1 h2)
    · intro h; cases h with
      | cons h1 h2 => exact ⟨_, _, rfl, h1, VRelL_iff.2 h2⟩

/-! ### Lists two by two -/
namespace F2
variable {α β : Type} {R : α → β → Prop}
theorem length {x : List α} {y : List β} (h : F2 R x y) : x.length = y.length := by induction h with | nil => rfl | cons _ _ ih => simp [ih]
theorem mono {S : α → β → Prop} (hs : ∀ a b, R a b → S a b) {x : List α} {y : List β} (h : F2 R x y) : F2 S x y := by
  induction h with | nil => exact .nil | cons h1 _ ih => exact .cons (hs _ _ h1) ih
theorem append {x x' : List α} {y y' : List β} (h : F2 R x y) (h' : F2 R x' y') : F2 R (x ++ x') (y ++ y') := by
  induction h with | nil => exact h' | cons h1 _ ih => exact .cons h1 ih
theorem take {x : List α} {y : List β} (h : F2 R x y) (n : Nat) : F2 R (x.take n) (y.take n) := by
  induction h generalizing n with
  | nil => simp; exact .nil
  | cons h1 _ ih => cases n with | zero => exact .nil | succ n => exact .cons h1 (ih n)
theorem drop {x : List α} {y : List β} (h : F2 R x y) (n : Nat) : F2 R (x.drop n) (y.drop n) := by
  induction h generalizing n with
  | nil => simp; exact .nil
  | cons h1 h2 ih => cases n with | zero => exact .cons h1 h2 | succ n => exact ih n
theorem get {x : List α} {y : List β} (h : F2 R x y) {i : Nat} {a : α} (ha : x[i]? = some a) : ∃ b, y[i]? = some b ∧ R a b := by
  induction h generalizing i with
  | nil => simp at ha
  | cons h1 _ ih => cases i with
    | zero => simp at ha; subst ha; exact ⟨_, rfl, h1⟩
    | succ i => simpa using ih (by simpa using ha)
theorem get' {x : List α} {y : List β} (h : F2 R x y) {i : Nat} {b : β} (hb : y[i]? = some b) : ∃ a, x[i]? = some a ∧ R a b := by
  induction h generalizing i with
  | nil => simp at hb
  | cons h1 _ ih => cases i with
    | zero => simp at hb; subst hb; exact ⟨_, rfl, h1⟩
    | succ i => simpa using ih (by simpa using hb)
theorem mem {x : List α} {y : List β} (h : F2 R x y) {a : α} (ha : a ∈ x) : ∃ b, b ∈ y ∧ R a b := by
  induction h with
  | nil => simp at ha
  | cons h1 _ ih => rcases List.mem_cons.1 ha with rfl | h2
                    · exact ⟨_, List.mem_cons_self .., h1⟩
                    · obtain ⟨b, hb, hr⟩ := ih h2; exact ⟨b, List.mem_cons_of_mem _ hb, hr⟩
theorem mem' {x : List α} {y : List β} (h : F2 R x y) {b : β} (hb : b ∈ y) : ∃ a, a ∈ x ∧ R a b := by
  induction h with
  | nil => simp at hb
  | cons h1 _ ih => rcases List.mem_cons.1 hb with rfl | h2
                    · exact ⟨_, List.mem_cons_self .., h1⟩
                    · obtain ⟨b, hb, hr⟩ := ih h2; exact ⟨b, List.mem_cons_of_mem _ hb, hr⟩
theorem map_left {γ : Type} {f : γ → α} {x : List γ} {y : List β} (h : F2 (fun c b => R (f c) b) x y) : F2 R (x.map f) y := by
  induction h with | nil => exact .nil | cons h1 _ ih => exact .cons h1 ih
theorem map_both {γ δ : Type} {f : γ → α} {g : δ → β} {x : List γ} {y : List δ} (h : F2 (fun c d => R (f c) (g d)) x y) : F2 R (x.map f) (y.map g) := by
  induction h with | nil => exact .nil | cons h1 _ ih => exact .cons h1 ih
theorem of_map {γ δ : Type} {f : γ → α} {g : δ → β} {x : List γ} {y : List δ} (h : F2 R (x.map f) (y.map g)) : F2 (fun c d => R (f c) (g d)) x y := by
  induction x generalizing y with
  | nil => cases y with | nil => exact .nil | cons _ _ => cases h
  | cons a x ih => cases y with
    | nil => cases h
    | cons b y => cases h with | cons h1 h2 => exact .cons h1 (ih h2)
theorem self (f : α → β) (hr : ∀ a, R a (f a)) : ∀ x : List α, F2 R x (x.map f)
  | [] => .nil
  | a :: x => .cons (hr a) (self f hr x)
theorem replicate {a : α} {b : β} (h : R a b) : ∀ n : Nat, F2 R (List.replicate n a) (List.replicate n b)
  | 0 => .nil
  | n + 1 => .cons h (replicate h n)
theorem append_inv {x x' : List α} {y : List β} (h : F2 R (x ++ x') y) : ∃ y1 y2, y = y1 ++ y2 ∧ F2 R x y1 ∧ F2 R x' y2 := by
  induction x generalizing y with
  | nil => exact ⟨[], y, rfl, .nil, h⟩
  | cons a x ih => cases h with
    | cons h1 h2 => obtain ⟨y1, y2, rfl, h3, h4⟩ := ih h2; exact ⟨_ :: y1, y2, rfl, .cons h1 h3, h4⟩
theorem flatten {x : List (List α)} {y : List (List β)} (h : F2 (F2 R) x y) : F2 R x.flatten y.flatten := by
  induction h with | nil => exact .nil | cons h1 _ ih => simpa using h1.append ih
theorem filter {p : α → Bool} {q : β → Bool} (hpq : ∀ a b, R a b → p a = q b) {x : List α} {y : List β} (h : F2 R x y) : F2 R (x.filter p) (y.filter q) := by
  induction h with
  | nil => exact .nil
  | cons h1 _ ih =>
    simp only [List.filter_cons]
    rw [hpq _ _ h1]
    split
    · exact .cons h1 ih
    · exact ih
theorem eraseIdx {x : List α} {y : List β} (h : F2 R x y) (n : Nat) : F2 R (x.eraseIdx n) (y.eraseIdx n) := by
  induction h generalizing n with
  | nil => simp; exact .nil
  | cons h1 h2 ih => cases n with | zero => exact h2 | succ n => exact .cons h1 (ih n)
end F2

def Inj.le (ι ι' : Inj) : Prop := ∀ id l, ι id = some l → ι' id = some l
theorem Inj.le_refl (ι : Inj) : ι.le ι := fun _ _ h => h
theorem Inj.le_trans {a b c : Inj} (h : a.le b) (h' : b.le c) : a.le c := fun id l hl => h' id l (h id l hl)

mutual
theorem VRel.mono {ι ι' : Inj} (hm : ι.le ι') : ∀ {x : AV} {v : Value}, VRel ι x v → VRel ι' x v
  | .undef, _, _ => trivial
  | .bool _, _, h => h
  | .int _ _, _, h => h
  | .str _, _, h => h
  | .ptr none, _, h => h
  | .ptr (some (_, _)), _, h => let ⟨l, h1, h2⟩ := h; ⟨l, hm _ _ h1, h2⟩
  | .slice none _ _, _, h => h
  | .slice (some (_, _)) _ (some _), _, h => let ⟨l, a, h1, h2⟩ := h; ⟨l, a, hm _ _ h1, h2⟩
  | .slice (some (_, _)) _ none, _, h => let ⟨l, a, c, h1, h2⟩ := h; ⟨l, a, c, hm _ _ h1, h2⟩
  | .map none, _, h => h
  | .map (some _), _, h => let ⟨l, h1, h2⟩ := h; ⟨l, hm _ _ h1, h2⟩
  | .func _ _ _, _, h => let ⟨f, c, h1, h2, h3⟩ := h; ⟨f, c, h1, VRelL.mono hm h2, VRelL.mono hm h3⟩
  | .nilFunc, _, h => h
  | .iface _ _, _, h => let ⟨y, h1, h2⟩ := h; ⟨y, h1, VRel.mono hm h2⟩
  | .nilIface, _, h => h
  | .agg _, _, h => let ⟨y, h1, h2⟩ := h; ⟨y, h1, VRelL.mono hm h2⟩
  | .tuple _, _, h => let ⟨y, h1, h2⟩ := h; ⟨y, h1, VRelL.mono hm h2⟩
theorem VRelL.mono {ι ι' : Inj} (hm : ι.le ι') : ∀ {x : List AV} {v : List Value}, VRelL ι x v → VRelL ι' x v
  | [], _, h => h
  | _ :: _, _, h => let ⟨y, r, h1, h2, h3⟩ := h; ⟨y, r, h1, VRel.mono hm h2, VRelL.mono hm h3⟩
end

/-- What may stand in a cell is one cell. -/
theorem VRel.oneCell {ι : Inj} {x : AV} {v : Value} (hx : x.cellOk = true) (h : VRel ι x v) : v.oneCell' = true := by
  cases x with
  | undef => simp [AV.cellOk] at hx
  | agg _ => simp [AV.cellOk] at hx
  | tuple _ => simp [AV.cellOk] at hx
  | bool b => rw [VRel] at h; subst h; rfl
  | int k n => rw [VRel] at h; subst h; rfl
  | str s => rw [VRel] at h; subst h; rfl
  | ptr a => cases a with
    | none => rw [VRel] at h; subst h; rfl
    | some p => obtain ⟨id, off⟩ := p; rw [VRel] at h; obtain ⟨l, _, rfl⟩ := h; rfl
  | slice a n c => cases a with
    | none => rw [VRel] at h; obtain ⟨_, _, rfl⟩ := h; rfl
    | some p =>
      obtain ⟨id, off⟩ := p
      cases c with
      | none => rw [VRel] at h; obtain ⟨l, a, c, _, rfl, _⟩ := h; rfl
      | some c => rw [VRel] at h; obtain ⟨l, _, _, _, rfl, _⟩ := h; rfl
  | map r => cases r with
    | none => rw [VRel] at h; subst h; rfl
    | some r => rw [VRel] at h; obtain ⟨l, _, rfl⟩ := h; rfl
  | func f a b => rw [VRel] at h; obtain ⟨_, _, rfl, _⟩ := h; rfl
  | nilFunc => rw [VRel] at h; subst h; rfl
  | iface t y => rw [VRel] at h; obtain ⟨_, rfl, _⟩ := h; rfl
  | nilIface => rw [VRel] at h; subst h; rfl

/-- Cells: a value's own. (An abstract value that is not known has none that are.) -/
theorem VRel.cells {ι : Inj} {x : AV} {v : Value} (hx : x.cells.all AV.cellOk = true) (h : VRel ι x v) : F2 (VRel ι) x.cells v.cells.toList := by
  cases x with
  | agg cs => rw [VRel] at h; obtain ⟨ys, rfl, h2⟩ := h; simpa [AV.cells, Value.cells] using VRelL_iff.1 h2
  | undef => simp [AV.cells, AV.cellOk] at hx
  | tuple cs => simp [AV.cells, AV.cellOk] at hx
  | _ =>
    have h1 := VRel.oneCell (by simpa [AV.cells] using hx) h
    have hv : v.cells = #[v] := by cases v <;> first | rfl | simp [Value.oneCell'] at h1
    rw [hv]
    exact .cons h .nil

theorem VRel_ofScalar (ι : Inj) (v : Value) : VRel ι (ofScalar v) v := by
  unfold ofScalar
  split <;> simp [VRel]

theorem F2_ofScalar (ι : Inj) : ∀ l : List Value, F2 (VRel ι) (l.map ofScalar) l
  | [] => .nil
  | v :: l => .cons (VRel_ofScalar ι v) (F2_ofScalar ι l)

theorem VRel_ofConst (ι : Inj) (v : Value) : VRel ι (ofConst v) v := by
  cases v with
  | agg cs => rw [ofConst, VRel]; exact ⟨cs.toList, by simp, VRelL_iff.2 (F2_ofScalar ι _)⟩
  | tuple cs => rw [ofConst, VRel]; exact ⟨cs.toList, by simp, VRelL_iff.2 (F2_ofScalar ι _)⟩
  | _ => simp only [ofConst]; exact VRel_ofScalar ι _

/-! ### Objects -/
def AObj.owns : AObj → Bool
  | .cells _ _ _ ro _ => !ro
  | .dead => false
  | _ => true

def AObj.isDead : AObj → Bool
  | .dead => true
  | _ => false

def ERel (ι : Inj) (p : AV × AV) (e : MapEntry) : Prop := VRel ι p.1 e.key ∧ VRel ι p.2 e.val

theorem ERel.mono {ι ι' : Inj} (hm : ι.le ι') {p : AV × AV} {e : MapEntry} (h : ERel ι p e) : ERel ι' p e := ⟨h.1.mono hm, h.2.mono hm⟩

def keyOk : AV → Bool
  | .int _ _ | .str _ => true
  | _ => false

structure MapRel (ι : Inj) (es : List (AV × AV)) (res : Array MapEntry) (clock : Nat) : Prop where
  perm : ∃ l : List MapEntry, l.Perm res.toList ∧ F2 (ERel ι) es l
  born : (res.toList.map (·.born)).Nodup
  lt : ∀ e ∈ res.toList, e.born < clock
  keys : es.Pairwise fun p q => keyEq p.1 q.1 = some false
  ok : ∀ p ∈ es, keyOk p.1 = true
  vals : ∀ p ∈ es, p.2.cells.all AV.cellOk = true ∨ True

/-- Nothing is frozen from a on. -/
def FrOk (fr : Nat × Nat) (a tot : Nat) : Prop := fr.1 = fr.2 ∨ fr.2 ≤ a ∨ tot ≤ fr.1
/-- .. nor behind the end, where some cells are. -/
def FrHi (fr : Nat × Nat) (fz a : Nat) : Prop := 2 ≤ fz → fr.1 = fr.2 ∨ fr.2 ≤ a
theorem FrOk.not {fr : Nat × Nat} {a t off : Nat} (h : FrOk fr a t) (h1 : a ≤ off) (h2 : off < t) : ¬ (fr.1 ≤ off ∧ off < fr.2) := by
  rcases h with h | h | h <;> omega
theorem FrOk.up {fr : Nat × Nat} {a a' t t' : Nat} (h : FrOk fr a t) (h1 : a ≤ a') (h2 : t' ≤ t) : FrOk fr a' t' := by
  rcases h with h | h | h
  · exact .inl h
  · exact .inr (.inl (by omega))
  · exact .inr (.inr (by omega))
theorem freeze_hi {lo hi a x n a' : Nat} (h : lo = hi ∨ hi ≤ a) (h1 : a ≤ a') (h2 : x + n ≤ a') : (if lo == hi then (x, x + n) else (min lo x, max hi (x + n))).2 ≤ a' := by
  by_cases e : lo = hi
  · subst e
    simp only [beq_self_eq_true, if_true]
    exact h2
  · rw [if_neg (by simpa using e)]
    rcases h with h | h
    · exact absurd h e
    · show max hi (x + n) ≤ a'
      omega

def ORel (ι : Inj) (h : Heap) (hp : Array Obj) (l : Loc) : AObj → Prop
  | .cells els sz elem ro fz => ∃ cs fr, hp[l.block]? = some (.cells cs elem fr) ∧ 0 < sz ∧ (∀ e ∈ els, e.length = sz) ∧ l.sz = sz ∧ l.ext = els.flatten.length ∧
      l.tot = cs.size ∧ l.base + l.ext ≤ l.tot ∧ F2 (VRel ι) els.flatten ((cs.toList.drop l.base).take l.ext) ∧ ((ro = false → FrOk fr (l.base + (fz - 1)) l.tot ∧ (fz = 0 → fr = (0, 0)) ∧ FrHi fr fz (l.base + (fz - 1))) ∧ l.base % sz = 0)
  | .map es _ => ∃ res clock, hp[l.block]? = some (.map res clock) ∧ MapRel ι es res clock
  | .siter s pos => l.base = 0 ∧ hp[l.block]? = some (.stringIter ⟨s.toArray⟩ pos)
  | .miter none _ _ _ => l.base = 0 ∧ ∃ a b c, hp[l.block]? = some (.mapIter none a b c)
  | .miter (some m) left ver last => l.base = 0 ∧ ∃ lm since seen stepped, ι m = some lm ∧ hp[l.block]? = some (.mapIter (some lm.block) since seen stepped) ∧
      ∃ es ver', h.get m = some (.map es ver') ∧ ver ≤ ver' ∧ (ver' = ver → ∃ res clock, hp[lm.block]? = some (.map res clock) ∧ since = clock ∧ stepped = clock ∧
        (∃ ll : List MapEntry, ll.Perm (res.toList.filter fun e => !seen.contains e.born) ∧ F2 (ERel ι) left ll) ∧
        (∀ p, last = some p → ∃ e ∈ res.toList, seen.back? = some e.born ∧ ERel ι p e))
  | .key v t => l.base = 0 ∧ ∃ u, VRel ι v u ∧ hp[l.block]? = some (.cells #[u] t (0, 0))
  | .dead => True

def Own (ι : Inj) (h : Heap) (b : Nat) : Prop := ∃ id o l, h.get id = some o ∧ o.owns = true ∧ ι id = some l ∧ l.block = b

/-- What lies below, and stays. -/
structure Floor where
  n : Nat
  at_ : Nat → Option Obj

/-- How an abstract heap stands in the real one: what is owned lies from block B on. -/
structure R (B : Floor) (ι : Inj) (h : Heap) (hp : Array Obj) : Prop where
  obj : ∀ id o, h.get id = some o → o.isDead = false → ∃ l, ι id = some l ∧ l.block < hp.size ∧ ORel ι h hp l o
  sep : ∀ i j oi oj li lj, i ≠ j → h.get i = some oi → h.get j = some oj → oi.owns = true → oj.isDead = false → ι i = some li → ι j = some lj → li.block ≠ lj.block
  fresh : ∀ id, h.next ≤ id → h.get id = none ∧ ι id = none
  base : ∀ b, Own ι h b → B.n ≤ b
  size : B.n ≤ hp.size
  low : ∀ b, b < B.n → hp[b]? = B.at_ b

/-- A step from one state to another. -/
structure Step (ι : Inj) (h : Heap) (w : World) (ι' : Inj) (h' : Heap) (w' : World) : Prop where
  same : ∀ id, id < h.next → ι' id = ι id
  next : h.next ≤ h'.next
  size : w.heap.size ≤ w'.heap.size
  frame : ∀ b, b < w.heap.size → ¬ Own ι h b → w'.heap[b]? = w.heap[b]?
  own : ∀ b, b < w.heap.size → Own ι' h' b → Own ι h b
  free : ∀ id, id < h.next → h.get id = none → h'.get id = none
  ro : ∀ id o, h'.get id = some o → o.isDead = false → o.owns = false → h.get id = some o
  os : w'.os = w.os
  tape : w'.tape = w.tape
  output : w'.output = w.output

theorem Step.refl (ι : Inj) (h : Heap) (w : World) : Step ι h w ι h w := ⟨fun _ _ => rfl, Nat.le_refl _, Nat.le_refl _, fun _ _ _ => rfl, fun _ _ h => h, fun _ _ h => h, fun _ _ h _ _ => h, rfl, rfl, rfl⟩

theorem Step.trans {ι h w ι1 h1 w1 ι2 h2 w2} (a : Step ι h w ι1 h1 w1) (b : Step ι1 h1 w1 ι2 h2 w2) : Step ι h w ι2 h2 w2 where
  same id hid := (b.same id (Nat.lt_of_lt_of_le hid a.next)).trans (a.same id hid)
  next := Nat.le_trans a.next b.next
  size := Nat.le_trans a.size b.size
  frame k hk hn := (b.frame k (Nat.lt_of_lt_of_le hk a.size) (fun ho => hn (a.own k hk ho))).trans (a.frame k hk hn)
  own k hk ho := a.own k hk (b.own k (Nat.lt_of_lt_of_le hk a.size) ho)
  free id hid hn := b.free id (Nat.lt_of_lt_of_le hid a.next) (a.free id hid hn)
  ro id o hg hd ho := a.ro id o (b.ro id o hg hd ho) hd ho
  os := b.os.trans a.os
  tape := b.tape.trans a.tape
  output := b.output.trans a.output

theorem Step.le {B ι h w ι' h' w'} (hR : R B ι h w.heap) (a : Step ι h w ι' h' w') : ι.le ι' := by
  intro id l hl
  rw [a.same id ?_, hl]
  rcases Nat.lt_or_ge id h.next with hlt | hge
  · exact hlt
  · rw [(hR.fresh id hge).2] at hl; cases hl

theorem Step.drew (ι : Inj) (h : Heap) (w : World) : Step ι h w ι h w.drew := ⟨fun _ _ => rfl, Nat.le_refl _, Nat.le_refl _, fun _ _ _ => rfl, fun _ _ h => h, fun _ _ h => h, fun _ _ h _ _ => h, rfl, rfl, rfl⟩

theorem ORel.mono {ι ι' : Inj} {h : Heap} {hp : Array Obj} {l : Loc} (hm : ι.le ι') {o : AObj} (ho : ORel ι h hp l o) : ORel ι' h hp l o := by
  cases o with
  | cells els sz elem ro fz =>
    obtain ⟨cs, fr, h1, h2, h3, h4, h5, h6, h7, h8, h9⟩ := ho
    exact ⟨cs, fr, h1, h2, h3, h4, h5, h6, h7, h8.mono fun _ _ => VRel.mono hm, h9⟩
  | map es ver =>
    obtain ⟨res, clock, h1, h2⟩ := ho
    obtain ⟨ll, hp1, hp2⟩ := h2.perm
    exact ⟨res, clock, h1, ⟨⟨ll, hp1, hp2.mono fun _ _ => ERel.mono hm⟩, h2.born, h2.lt, h2.keys, h2.ok, h2.vals⟩⟩
  | siter s pos => exact ho
  | miter m left ver last =>
    cases m with
    | none => exact ho
    | some m =>
      obtain ⟨h0, lm, since, seen, stepped, h1, h2, es, ver', h3, h4, h5⟩ := ho
      refine ⟨h0, lm, since, seen, stepped, hm _ _ h1, h2, es, ver', h3, h4, fun hv => ?_⟩
      obtain ⟨res, clock, g1, g2, g3, ⟨ll, g4, g5⟩, g6⟩ := h5 hv
      exact ⟨res, clock, g1, g2, g3, ⟨ll, g4, g5.mono fun _ _ => ERel.mono hm⟩, fun p hp => let ⟨e, a, b, c⟩ := g6 p hp; ⟨e, a, b, c.mono hm⟩⟩
  | key v t => obtain ⟨h0, u, h1, h2⟩ := ho; exact ⟨h0, u, h1.mono hm, h2⟩
  | dead => trivial

/-- The environment: what stands in the slots. -/
structure EnvRel (ι : Inj) (nt : Nat) (env : Env) (tmps : Array Value) : Prop where
  size : tmps.size = nt
  rel : ∀ t v, env.get t = some v → VRel ι v (tmps.getD t undef)

theorem EnvRel.mono {ι ι' : Inj} (hm : ι.le ι') {nt : Nat} {env : Env} {tmps : Array Value} (h : EnvRel ι nt env tmps) : EnvRel ι' nt env tmps :=
  ⟨h.size, fun t v hv => (h.rel t v hv).mono hm⟩

theorem EnvRel.opd {ι : Inj} {nt : Nat} {env : Env} {a : Act} (h : EnvRel ι nt env a.tmps) (x : Operand) : VRel ι (opd env x) (a.eval x) := by
  cases x with
  | tmp t =>
    simp only [Am.opd, Act.eval]
    cases hg : env.get t with
    | none => simp [VRel]
    | some v => simpa using h.rel t v hg
  | const v => exact VRel_ofConst ι v
  | global g => simp [Am.opd, VRel]
  | func f => simp only [Am.opd, Act.eval, VRel]; exact ⟨[], [], rfl, rfl, rfl⟩

theorem EnvRel.put {ι : Inj} {nt : Nat} {env env' : Env} {a : Act} (h : EnvRel ι nt env a.tmps) {d : Option Tmp} {x : AV} {v : Value} (hx : VRel ι x v)
    (hp : putO nt env d x = some env') : EnvRel ι nt env' (a.put d v).tmps := by
  cases d with
  | none => simp only [putO, Option.some.injEq] at hp; subst hp; exact h
  | some d =>
    simp only [putO] at hp
    split at hp
    · rename_i hd
      simp only [Option.some.injEq] at hp
      subst hp
      refine ⟨by simp [Act.put, h.size], fun t u ht => ?_⟩
      rw [Tr.get_set] at ht
      have hs := h.size
      by_cases htd : t = d
      · subst htd
        simp only [if_true, Option.some.injEq] at ht
        subst ht
        simp [Act.put, Array.getElem?_setIfInBounds, hs, hd]
        exact hx
      · rw [if_neg htd] at ht
        have := h.rel t u ht
        have hne : d ≠ t := fun e => htd e.symm
        simpa [Act.put, Array.getElem?_setIfInBounds_ne hne] using this
    · cases hp

theorem Act.put_defers' (a : Act) (d : Option Tmp) (v : Value) : (a.put d v).defers = a.defers := by cases d <;> rfl

end Go.Am
end
noncomputable section
namespace Go.Am
open Go.RowKit

/-! ### Cells in elements -/
theorem drop_flatten_mul {els : List (List AV)} {sz : Nat} (h : ∀ e ∈ els, e.length = sz) : ∀ k : Nat, els.flatten.drop (k * sz) = (els.drop k).flatten
  | 0 => by simp
  | k + 1 => by
    induction els generalizing k with
    | nil => simp
    | cons e els ih =>
      have he : e.length = sz := h e (by simp)
      have h' : ∀ e ∈ els, e.length = sz := fun x hx => h x (by simp [hx])
      simp only [List.flatten_cons, List.drop_succ_cons]
      rw [List.drop_append, Nat.succ_mul, List.drop_eq_nil_of_le (by omega), List.nil_append, show k * sz + sz - e.length = k * sz by omega]
      cases k with
      | zero => simp
      | succ k => exact ih h' k

theorem length_flatten_sz {els : List (List AV)} {sz : Nat} (h : ∀ e ∈ els, e.length = sz) : els.flatten.length = sz * els.length := by
  induction els with
  | nil => simp
  | cons e els ih =>
    rw [List.flatten_cons, List.length_append, ih (fun x hx => h x (by simp [hx])), h e (by simp), List.length_cons, Nat.mul_succ]; omega

theorem drop_flatten {els : List (List AV)} {sz : Nat} (hsz : 0 < sz) (h : ∀ e ∈ els, e.length = sz) (off : Nat) :
    els.flatten.drop off = (els.drop (off / sz)).flatten.drop (off % sz) := by
  rw [← drop_flatten_mul h, List.drop_drop]
  congr 1
  rw [Nat.mul_comm]
  exact (Nat.div_add_mod off sz).symm

theorem getC_spec {els : List (List AV)} {sz off n : Nat} {cs : List AV} (hsz : 0 < sz) (h : ∀ e ∈ els, e.length = sz) (hg : getC els sz off n = some cs) :
    off + n ≤ els.flatten.length ∧ cs = (els.flatten.drop off).take n := by
  have hd := drop_flatten hsz h off
  have hlen := length_flatten_sz h
  have hmod := Nat.div_add_mod off sz
  have hml := Nat.mod_lt off hsz
  unfold getC at hg
  split at hg
  · rename_i hnil
    split at hg
    · rename_i hc
      simp only [Option.some.injEq] at hg
      obtain ⟨rfl, ho⟩ := hc
      subst hg
      exact ⟨by omega, by simp⟩
    · cases hg
  · rename_i e rest hcons
    have hlt : off / sz < els.length := by
      rcases Nat.lt_or_ge (off / sz) els.length with hl | hl
      · exact hl
      · rw [List.drop_eq_nil_of_le hl] at hcons; cases hcons
    have he : e.length = sz := h e (List.mem_of_mem_drop (by rw [hcons]; simp))
    split at hg
    · rename_i hin
      simp only [Option.some.injEq] at hg
      subst hg
      refine ⟨?_, ?_⟩
      · rw [hlen]
        have : sz * (off / sz + 1) ≤ sz * els.length := Nat.mul_le_mul_left _ hlt
        rw [Nat.mul_succ] at this
        omega
      · rw [hd, hcons, List.flatten_cons, List.drop_append, List.take_append]
        have h0 : n - (e.drop (off % sz)).length = 0 := by simp; omega
        rw [h0]; simp
    · simp only at hg
      split at hg
      · rename_i hl
        simp only [Option.some.injEq] at hg
        subst hg
        rw [← hcons, ← hd] at hl ⊢
        refine ⟨?_, rfl⟩
        simp at hl
        have : off ≤ els.flatten.length := by
          rw [hlen]
          have h2 : sz * (off / sz + 1) ≤ sz * els.length := Nat.mul_le_mul_left _ hlt
          rw [Nat.mul_succ] at h2
          omega
        have e3 : els.flatten.length = (List.map List.length els).sum := List.length_flatten
        omega
      · cases hg

theorem chunkF_spec {sz : Nat} (hsz : 0 < sz) : ∀ (f : Nat) (l : List AV) (k : Nat), l.length = k * sz → l.length ≤ f →
    (chunkF sz f l).flatten = l ∧ ∀ e ∈ chunkF sz f l, e.length = sz := by
  intro f
  induction f with
  | zero => intro l k hk hf; have : l = [] := List.eq_nil_of_length_eq_zero (by omega); subst this; simp [chunkF]
  | succ f ih =>
    intro l k hk hf
    cases l with
    | nil => simp [chunkF]
    | cons a l =>
      cases k with
      | zero => simp at hk
      | succ k =>
        simp only [chunkF]
        have hd : ((a :: l).drop sz).length = k * sz := by rw [List.length_drop, hk, Nat.succ_mul]; omega
        obtain ⟨h1, h2⟩ := ih ((a :: l).drop sz) k hd (by rw [hd]; rw [Nat.succ_mul] at hk; omega)
        refine ⟨by rw [List.flatten_cons, h1, List.take_append_drop], ?_⟩
        intro e he
        rcases List.mem_cons.1 he with rfl | he
        · rw [List.length_take, hk, Nat.succ_mul]; omega
        · exact h2 e he

theorem chunk_spec {sz : Nat} (hsz : 0 < sz) {l : List AV} {k : Nat} (h : l.length = k * sz) : (chunk sz l).flatten = l ∧ ∀ e ∈ chunk sz l, e.length = sz :=
  chunkF_spec hsz _ l k h (Nat.le_refl _)

theorem length_splice {l new : List AV} {at_ : Nat} (h : at_ + new.length ≤ l.length) : (splice l at_ new).length = l.length := by
  simp [splice]; omega

theorem flatten_set {els : List (List AV)} {sz : Nat} (h : ∀ e ∈ els, e.length = sz) {k : Nat} {e new : List AV} (he : els[k]? = some e) {r : Nat} (hr : r + new.length ≤ sz) :
    (els.set k (splice e r new)).flatten = splice els.flatten (k * sz + r) new := by
  induction els generalizing k with
  | nil => simp at he
  | cons e0 els ih =>
    have h0 : e0.length = sz := h e0 (by simp)
    have h' : ∀ e ∈ els, e.length = sz := fun x hx => h x (by simp [hx])
    cases k with
    | zero =>
      simp at he
      subst he
      simp only [List.set_cons_zero, List.flatten_cons, splice, Nat.zero_mul, Nat.zero_add]
      rw [List.take_append, List.drop_append]
      rw [show r - e0.length = 0 by omega, show r + new.length - e0.length = 0 by omega]
      simp
    | succ k =>
      simp only [List.set_cons_succ, List.flatten_cons]
      rw [ih h' (by simpa using he)]
      simp only [splice]
      rw [List.take_append, List.drop_append, Nat.succ_mul]
      have e1 : e0.take (k * sz + sz + r) = e0 := List.take_of_length_le (by omega)
      have e2 : e0.drop (k * sz + sz + r + new.length) = [] := List.drop_eq_nil_of_le (by omega)
      rw [e1, e2]
      rw [show k * sz + sz + r - e0.length = k * sz + r by omega, show k * sz + sz + r + new.length - e0.length = k * sz + r + new.length by omega]
      simp

theorem setC_spec {els els' : List (List AV)} {sz off : Nat} {new : List AV} (hsz : 0 < sz) (h : ∀ e ∈ els, e.length = sz) (hs : setC els sz off new = some els') :
    off + new.length ≤ els.flatten.length ∧ els'.flatten = splice els.flatten off new ∧ (∀ e ∈ els', e.length = sz) := by
  have hlen := length_flatten_sz h
  have hmod := Nat.div_add_mod off sz
  unfold setC at hs
  split at hs
  · rename_i hin
    split at hs
    · rename_i e he
      simp only [Option.some.injEq] at hs
      subst hs
      have hk : off / sz < els.length := (List.getElem?_eq_some_iff.1 he).1
      have hb : off + new.length ≤ els.flatten.length := by
        rw [hlen]
        have h2 : sz * (off / sz + 1) ≤ sz * els.length := Nat.mul_le_mul_left _ hk
        rw [Nat.mul_succ] at h2
        omega
      refine ⟨hb, ?_, ?_⟩
      · rw [flatten_set h he hin]
        congr 1
        rw [Nat.mul_comm]; exact hmod
      · intro x hx
        rcases List.mem_or_eq_of_mem_set hx with hx | rfl
        · exact h x hx
        · have := h e (List.mem_of_getElem? he)
          rw [length_splice (by omega)]; exact this
    · cases hs
  · split at hs
    · rename_i hle
      simp only [Option.some.injEq] at hs
      subst hs
      have hb : off + new.length ≤ els.flatten.length := by omega
      have hc := chunk_spec hsz (l := splice els.flatten off new) (k := els.length) (by rw [length_splice hb, hlen, Nat.mul_comm])
      exact ⟨hb, hc.1, hc.2⟩
    · cases hs

/-! ### What turns where memory turns -/
theorem ORel.frame {ι : Inj} {h h' : Heap} {hp hp' : Array Obj} {l : Loc} {o : AObj} (ho : ORel ι h hp l o) (hb : hp'[l.block]? = hp[l.block]?)
    (hm : ∀ m left ver last, o = .miter (some m) left ver last → ∀ lm es ver0, ι m = some lm → h.get m = some (.map es ver0) →
      (h'.get m = some (.map es ver0) ∧ hp'[lm.block]? = hp[lm.block]?) ∨ (∃ es' ver', h'.get m = some (.map es' ver') ∧ ver0 < ver')) : ORel ι h' hp' l o := by
  cases o with
  | cells els sz elem ro fz => obtain ⟨cs, fr, h1, h2⟩ := ho; exact ⟨cs, fr, hb.trans h1, h2⟩
  | map es ver => obtain ⟨res, clock, h1, h2⟩ := ho; exact ⟨res, clock, hb.trans h1, h2⟩
  | siter s pos => exact ⟨ho.1, hb.trans ho.2⟩
  | miter m left ver last =>
    cases m with
    | none => obtain ⟨h0, a, b, c, h1⟩ := ho; exact ⟨h0, a, b, c, hb.trans h1⟩
    | some m =>
      obtain ⟨h0, lm, since, seen, stepped, h1, h2, es, ver', h3, h4, h5⟩ := ho
      rcases hm m left ver last rfl lm es ver' h1 h3 with ⟨g1, g2⟩ | ⟨es2, ver2, g1, g2⟩
      · refine ⟨h0, lm, since, seen, stepped, h1, hb.trans h2, es, ver', g1, h4, fun hv => ?_⟩
        obtain ⟨res, clock, k1, k2⟩ := h5 hv
        exact ⟨res, clock, g2.trans k1, k2⟩
      · exact ⟨h0, lm, since, seen, stepped, h1, hb.trans h2, es2, ver2, g1, by omega, fun hv => by omega⟩
  | key v t => obtain ⟨h0, u, h1, h2⟩ := ho; exact ⟨h0, u, h1, hb.trans h2⟩
  | dead => trivial

theorem AObj.dead_of {o : AObj} (h : o.isDead = true) : o = .dead := by cases o <;> simp [AObj.isDead] at h; rfl
theorem AObj.alive_of_owns {o : AObj} (h : o.owns = true) : o.isDead = false := by cases o <;> simp_all [AObj.owns, AObj.isDead]

section
variable {B : Floor} {ι : Inj} {h : Heap} {hp hp' : Array Obj}

/-- Real memory may turn where nothing of ours lies. -/
theorem R.frameHeap (hR : R B ι h hp) (hs : hp.size ≤ hp'.size) (hlow : ∀ b, b < B.n → hp'[b]? = hp[b]?)
    (hf : ∀ id o l, h.get id = some o → o.isDead = false → ι id = some l → hp'[l.block]? = hp[l.block]?) : R B ι h hp' where
  obj id o hg hd := by
    obtain ⟨l, h1, h2, h3⟩ := hR.obj id o hg hd
    refine ⟨l, h1, Nat.lt_of_lt_of_le h2 hs, h3.frame (hf id o l hg hd h1) ?_⟩
    intro m left ver last ho lm es ver0 hm hgm
    exact .inl ⟨hgm, hf m _ lm hgm rfl hm⟩
  sep := hR.sep
  fresh := hR.fresh
  base := hR.base
  size := Nat.le_trans hR.size hs
  low b hb := (hlow b hb).trans (hR.low b hb)

theorem R.push (hR : R B ι h hp) (o : Obj) : R B ι h (hp.push o) :=
  hR.frameHeap (by simp) (fun b hb => by have := hR.size; rw [Array.getElem?_push, if_neg (by omega)]) fun id ob l hg hd hl => by
    obtain ⟨l', h1, h2, _⟩ := hR.obj id ob hg hd
    rw [hl] at h1; cases h1
    rw [Array.getElem?_push, if_neg (by omega)]

/-- More numbers are given away. -/
theorem R.bump (hR : R B ι h hp) (n : Nat) (hn : h.next ≤ n) : R B ι { h with next := n } hp where
  obj id o hg hd := by
    obtain ⟨l, h1, h2, h3⟩ := hR.obj id o hg hd
    exact ⟨l, h1, h2, h3.frame rfl fun m left ver last ho lm es ver0 hm hgm => .inl ⟨hgm, rfl⟩⟩
  sep := hR.sep
  fresh id hid := hR.fresh id (Nat.le_trans hn hid)
  base := hR.base
  size := hR.size
  low := hR.low

def Inj.add (ι : Inj) (id : Nat) (l : Loc) : Inj := fun j => if j = id then some l else ι j

theorem Inj.add_same (ι : Inj) (id : Nat) (l : Loc) : ι.add id l id = some l := by simp [Inj.add]
theorem Inj.add_ne {ι : Inj} {id j : Nat} {l : Loc} (h : j ≠ id) : ι.add id l j = ι j := by simp [Inj.add, h]
theorem Inj.le_add {ι : Inj} {id : Nat} {l : Loc} (h : ι id = none) : ι.le (ι.add id l) := by
  intro j lj hj
  have : j ≠ id := by rintro rfl; rw [h] at hj; cases hj
  rw [Inj.add_ne this]; exact hj

/-- A number that was given away, but had no place, has one. -/
theorem R.place (hR : R B ι h hp) {id : Nat} {l : Loc} (hid : id < h.next) (hn : ι id = none) : R B (ι.add id l) h hp where
  obj j o hg hd := by
    obtain ⟨lj, h1, h2, h3⟩ := hR.obj j o hg hd
    exact ⟨lj, Inj.le_add hn _ _ h1, h2, h3.mono (Inj.le_add hn)⟩
  sep i j oi oj li lj hne hi hj ho hd hli hlj := by
    obtain ⟨l1, e1, _, _⟩ := hR.obj i oi hi (AObj.alive_of_owns ho)
    obtain ⟨l2, e2, _, _⟩ := hR.obj j oj hj hd
    have g1 := Inj.le_add (l := l) hn _ _ e1
    have g2 := Inj.le_add (l := l) hn _ _ e2
    rw [hli] at g1; rw [hlj] at g2
    cases g1; cases g2
    exact hR.sep i j oi oj _ _ hne hi hj ho hd e1 e2
  fresh j hj := by
    have := hR.fresh j hj
    exact ⟨this.1, by rw [Inj.add_ne (by omega)]; exact this.2⟩
  base b := by
    rintro ⟨j, o, lj, hg, ho, hl, rfl⟩
    obtain ⟨l1, e1, _, _⟩ := hR.obj j o hg (AObj.alive_of_owns ho)
    have g1 := Inj.le_add (l := l) hn _ _ e1
    rw [hl] at g1; cases g1
    exact hR.base _ ⟨j, o, _, hg, ho, e1, rfl⟩
  size := hR.size
  low := hR.low

theorem Own.place {b id : Nat} {l : Loc} (hR : R B ι h hp) (hn : ι id = none) (ho : Own (ι.add id l) h b) : Own ι h b := by
  obtain ⟨j, o, lj, hg, ho, hl, rfl⟩ := ho
  obtain ⟨l1, e1, _, _⟩ := hR.obj j o hg (AObj.alive_of_owns ho)
  have g1 := Inj.le_add (l := l) hn _ _ e1
  rw [hl] at g1; cases g1
  exact ⟨j, o, _, hg, ho, e1, rfl⟩

/-- An object comes to its number, whose place it has. -/
theorem R.commit (hR : R B ι h hp) {id : Nat} {l : Loc} {o : AObj} (hl : ι id = some l) (hfree : h.get id = none ∨ h.get id = some .dead)
    (hb : B.n ≤ l.block) (hlt : l.block < hp.size) (hid : id < h.next) (ho : ORel ι (h.put id o) hp l o)
    (hsep : ∀ j oj lj, j ≠ id → h.get j = some oj → oj.isDead = false → ι j = some lj → lj.block ≠ l.block) : R B ι (h.put id o) hp where
  obj j oj hg hd := by
    rw [Heap.get_put] at hg
    by_cases hj : j = id
    · subst hj
      simp only [if_true, Option.some.injEq] at hg
      subst hg
      exact ⟨l, hl, hlt, ho⟩
    · rw [if_neg hj] at hg
      obtain ⟨lj, h1, h2, h3⟩ := hR.obj j oj hg hd
      refine ⟨lj, h1, h2, h3.frame rfl ?_⟩
      intro m left ver last hoo lm es ver0 hm hgm
      have hne : m ≠ id := by rintro rfl; rcases hfree with e | e <;> rw [e] at hgm <;> cases hgm
      exact .inl ⟨by rw [Heap.get_put_ne hne]; exact hgm, rfl⟩
  sep i j oi oj li lj hne hi hj hoi hdj hli hlj := by
    rw [Heap.get_put] at hi hj
    by_cases e1 : i = id
    · subst e1
      rw [hl] at hli; cases hli
      rw [if_neg (fun e => hne e.symm)] at hj
      exact fun e => hsep j oj lj (fun e => hne e.symm) hj hdj hlj e.symm
    · rw [if_neg e1] at hi
      by_cases e2 : j = id
      · subst e2
        rw [hl] at hlj; cases hlj
        exact hsep i oi li e1 hi (AObj.alive_of_owns hoi) hli
      · rw [if_neg e2] at hj
        exact hR.sep i j oi oj li lj hne hi hj hoi hdj hli hlj
  fresh j hj := by
    have hj' : h.next ≤ j := hj
    have := hR.fresh j hj'
    exact ⟨by rw [Heap.get_put_ne (by omega)]; exact this.1, this.2⟩
  base b := by
    rintro ⟨j, oj, lj, hg, hoj, hlj, rfl⟩
    rw [Heap.get_put] at hg
    by_cases e : j = id
    · subst e; rw [hl] at hlj; cases hlj; exact hb
    · rw [if_neg e] at hg
      exact hR.base _ ⟨j, oj, lj, hg, hoj, hlj, rfl⟩
  size := hR.size
  low := hR.low

theorem Own.put {b id : Nat} {o : AObj} (ho : Own ι (h.put id o) b) : (∃ l, o.owns = true ∧ ι id = some l ∧ l.block = b) ∨ Own ι h b := by
  obtain ⟨j, oj, lj, hg, hoj, hlj, rfl⟩ := ho
  rw [Heap.get_put] at hg
  by_cases e : j = id
  · subst e
    simp only [if_true, Option.some.injEq] at hg
    subst hg
    exact .inl ⟨lj, hoj, hlj, rfl⟩
  · rw [if_neg e] at hg
    exact .inr ⟨j, oj, lj, hg, hoj, hlj, rfl⟩

/-- A row is dead. -/
theorem R.kill (hR : R B ι h hp) {id : Nat} (hc : ∀ es ver, h.get id ≠ some (.map es ver)) (hid : id < h.next) : R B ι (h.put id .dead) hp where
  obj j oj hg hd := by
    rw [Heap.get_put] at hg
    by_cases hj : j = id
    · subst hj; simp only [if_true, Option.some.injEq] at hg; subst hg; cases hd
    · rw [if_neg hj] at hg
      obtain ⟨lj, h1, h2, h3⟩ := hR.obj j oj hg hd
      refine ⟨lj, h1, h2, h3.frame rfl ?_⟩
      intro m left ver last hoo lm es ver0 hm hgm
      have hne : m ≠ id := by rintro rfl; exact hc _ _ hgm
      exact .inl ⟨by rw [Heap.get_put_ne hne]; exact hgm, rfl⟩
  sep i j oi oj li lj hne hi hj hoi hdj hli hlj := by
    rw [Heap.get_put] at hi hj
    by_cases e1 : i = id
    · subst e1; simp only [if_true, Option.some.injEq] at hi; subst hi; cases hoi
    · rw [if_neg e1] at hi
      by_cases e2 : j = id
      · subst e2; simp only [if_true, Option.some.injEq] at hj; subst hj; cases hdj
      · rw [if_neg e2] at hj
        exact hR.sep i j oi oj li lj hne hi hj hoi hdj hli hlj
  fresh j hj := by
    have hj' : h.next ≤ j := hj
    have := hR.fresh j hj'
    exact ⟨by rw [Heap.get_put_ne (by omega)]; exact this.1, this.2⟩
  base b ho := by
    rcases Own.put ho with ⟨l, e, _⟩ | ho
    · cases e
    · exact hR.base b ho
  size := hR.size
  low := hR.low

/-- An object of ours turns, in its place. -/
theorem R.put (hR : R B ι h hp) {id : Nat} {l : Loc} {o o' : AObj} (hg : h.get id = some o) (hown : o.owns = true) (hl : ι id = some l) (hs : hp'.size = hp.size)
    (hf : ∀ b, b ≠ l.block → hp'[b]? = hp[b]?) (ho : ORel ι (h.put id o') hp' l o') (hown' : o'.owns = true)
    (hver : ∀ es ver, o = .map es ver → ∃ es' ver', o' = .map es' ver' ∧ ver < ver') : R B ι (h.put id o') hp' where
  obj j oj hgj hd := by
    rw [Heap.get_put] at hgj
    by_cases hj : j = id
    · subst hj
      simp only [if_true, Option.some.injEq] at hgj
      subst hgj
      obtain ⟨l1, e1, e2, _⟩ := hR.obj j o hg (AObj.alive_of_owns hown)
      rw [hl] at e1; cases e1
      exact ⟨l, hl, by omega, ho⟩
    · rw [if_neg hj] at hgj
      obtain ⟨lj, h1, h2, h3⟩ := hR.obj j oj hgj hd
      have hne := hR.sep id j o oj l lj (fun e => hj e.symm) hg hgj hown hd hl h1
      refine ⟨lj, h1, by omega, h3.frame (hf _ (fun e => hne e.symm)) ?_⟩
      intro m left ver last hoo lm es ver0 hm hgm
      by_cases e : m = id
      · subst e
        rw [hg] at hgm
        simp only [Option.some.injEq] at hgm
        obtain ⟨es', ver', e1, e2⟩ := hver es ver0 hgm
        exact .inr ⟨es', ver', by rw [Heap.get_put_same, e1], e2⟩
      · have hne2 := hR.sep id m o _ l lm (fun x => e x.symm) hg hgm hown rfl hl hm
        exact .inl ⟨by rw [Heap.get_put_ne e]; exact hgm, hf _ (fun x => hne2 x.symm)⟩
  sep i j oi oj li lj hne hi hj hoi hdj hli hlj := by
    rw [Heap.get_put] at hi hj
    by_cases e1 : i = id
    · subst e1
      rw [if_neg (fun e => hne e.symm)] at hj
      exact hR.sep i j o oj li lj hne hg hj hown hdj hli hlj
    · rw [if_neg e1] at hi
      by_cases e2 : j = id
      · subst e2
        exact hR.sep i j oi o li lj hne hi hg hoi (AObj.alive_of_owns hown) hli hlj
      · rw [if_neg e2] at hj
        exact hR.sep i j oi oj li lj hne hi hj hoi hdj hli hlj
  fresh j hj := by
    have hj' : h.next ≤ j := hj
    have := hR.fresh j hj'
    have hne : j ≠ id := by rintro rfl; rw [this.1] at hg; cases hg
    exact ⟨by rw [Heap.get_put_ne hne]; exact this.1, this.2⟩
  base b hb := by
    rcases Own.put hb with ⟨l', _, e1, e2⟩ | hb
    · rw [hl] at e1; cases e1; subst e2; exact hR.base _ ⟨id, o, l, hg, hown, hl, rfl⟩
    · exact hR.base b hb
  size := by rw [hs]; exact hR.size
  low b hb := (hf b (by have := hR.base l.block ⟨id, o, l, hg, hown, hl, rfl⟩; omega)).trans (hR.low b hb)

theorem Step.put {w w' : World} (hR : R B ι h w.heap) {id : Nat} {l : Loc} {o o' : AObj} (hg : h.get id = some o) (hown : o.owns = true) (hown' : o'.owns = true) (hl : ι id = some l)
    (hs : w'.heap.size = w.heap.size) (hf : ∀ b, b ≠ l.block → w'.heap[b]? = w.heap[b]?) (hos : w'.os = w.os) (ht : w'.tape = w.tape) (hout : w'.output = w.output) :
    Step ι h w ι (h.put id o') w' where
  same _ _ := rfl
  next := Nat.le_refl _
  size := by omega
  frame b _ hn := hf b fun e => hn ⟨id, o, l, hg, hown, hl, e.symm⟩
  own b _ ho := by
    rcases Own.put ho with ⟨l', _, e1, e2⟩ | ho
    · rw [hl] at e1; cases e1; exact ⟨id, o, l, hg, hown, hl, e2⟩
    · exact ho
  free j _ hn := by
    have : j ≠ id := by rintro rfl; rw [hg] at hn; cases hn
    rw [Heap.get_put_ne this]; exact hn
  ro j oj hgj hd hoj := by
    rw [Heap.get_put] at hgj
    by_cases e : j = id
    · subst e; simp only [if_true, Option.some.injEq] at hgj; subst hgj; rw [hown'] at hoj; cases hoj
    · rw [if_neg e] at hgj; exact hgj
  os := hos
  tape := ht
  output := hout

/-- Something new is made. -/
theorem R.new {w : World} (hR : R B ι h w.heap) (ob : Obj) {l : Loc} {o : AObj} (hl : l.block = w.heap.size)
    (hown : o.owns = true) (ho : ORel (ι.add h.next l) (h.new o) (w.heap.push ob) l o) :
    R B (ι.add h.next l) (h.new o) (w.alloc ob).heap ∧ Step ι h w (ι.add h.next l) (h.new o) (w.alloc ob) ∧ ι.le (ι.add h.next l) := by
  have hn : ι h.next = none := (hR.fresh _ (Nat.le_refl _)).2
  have h1 := (hR.bump (h.next + 1) (by omega)).push ob
  have h2 := h1.place (id := h.next) (l := l) (by simp) hn
  have hput : h.new o = ({ h with next := h.next + 1 } : Heap).put h.next o := rfl
  have hget : ({ h with next := h.next + 1 } : Heap).get h.next = none := (hR.fresh _ (Nat.le_refl _)).1
  refine ⟨?_, ?_, Inj.le_add hn⟩
  · rw [hput]
    refine h2.commit (Inj.add_same _ _ _) (.inl hget) (by rw [hl]; exact hR.size) (by rw [hl]; simp) (by simp) (by rw [← hput]; exact ho) ?_
    intro j oj lj hj hgj hd hlj
    rw [Inj.add_ne hj] at hlj
    obtain ⟨l1, e1, e2, _⟩ := hR.obj j oj hgj hd
    rw [hlj] at e1; cases e1
    omega
  · refine ⟨fun id hid => Inj.add_ne (by omega), by simp, by simp, ?_, ?_, fun id hid hg => by rw [Heap.get_new_ne (by omega)]; exact hg, ?_, rfl, rfl, rfl⟩
    · intro b hb _
      show (w.heap.push ob)[b]? = _
      rw [Array.getElem?_push, if_neg (by omega)]
    · intro b hb hown
      rw [hput] at hown
      rcases Own.put hown with ⟨l', _, e1, e2⟩ | hown
      · rw [Inj.add_same] at e1; cases e1; omega
      · exact Own.place (h := h) hR hn hown
    · intro id oj hgj hd hoj
      rw [Heap.get_new] at hgj
      by_cases e : id = h.next
      · subst e; simp only [if_true, Option.some.injEq] at hgj; subst hgj; rw [hown] at hoj; cases hoj
      · rw [if_neg e] at hgj; exact hgj
end
end Go.Am
end
