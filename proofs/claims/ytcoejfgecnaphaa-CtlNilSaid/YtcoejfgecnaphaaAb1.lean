/-
  The abstract interpreter: values, heaps, operations, regions, code. Definitions alone.
-/
import GoSem.Step
import Derived.Control
namespace Go.Ab

inductive AV where
  | v (x : Value)
  | b (x : Bool)
  | ptr (i r o : Nat)
  | sl (i r e n k : Nat)
  | sla (i o e n : Nat)
  | sle
  | map (i : Nat)
  | fn (f : Fn) (first cap : List AV)
  | iface (t : TypeId) (x : AV)
  | agg (l : List AV)
  | tup (l : List AV)
  | junk
  deriving Inhabited

inductive AKey where
  | i (n : Int)
  | s (b : ByteArray)

def AKey.str : AKey → Bool
  | .i _ => false
  | .s _ => true

inductive AObj where
  | cells (c : List AV) (rw : Bool)
  | rows (e n : Nat) (f : Nat → List AV) (rw : Bool)
  | map (strs : Bool) (sz : Nat) (has : AKey → Bool) (get : AKey → AV)

abbrev Heap := List (Option AObj)

def hget : Heap → Nat → Option AObj
  | [], _ => none
  | o :: _, 0 => o
  | _ :: H, i + 1 => hget H i

def hset : Heap → Nat → Option AObj → Heap
  | [], _, _ => []
  | _ :: H, 0, x => x :: H
  | o :: H, i + 1, x => o :: hset H i x

def mem (x : Nat) : List Nat → Bool
  | [] => false
  | y :: l => match Nat.beq x y with
    | true => true
    | false => mem x l

/-- The heap with the blocks of 'fp' alone ('i': the number of the first block). -/
def rst (fp : List Nat) : Nat → Heap → Heap
  | _, [] => []
  | i, o :: H => (match mem i fp with
    | true => o
    | false => none) :: rst fp (i + 1) H

/-- Behind an operation that saw 'rst fp 0 H' and left H': the old blocks of 'wr' and the new ones out of H'. -/
def mrg (wr : List Nat) : Nat → Heap → Heap → Heap
  | _, [], H' => H'
  | i, o :: H, [] => o :: mrg wr (i + 1) H []
  | i, o :: H, o' :: H' => (match mem i wr with
    | true => o'
    | false => o) :: mrg wr (i + 1) H H'

/-- What is said ahead of tests: 'a n': n + 1 tests are decided by their values; 't', 'f': one is taken to be true, false; 'stop': for tools. Behind the last all are decided by their values. -/
inductive Dec where
  | a (n : Nat)
  | t
  | f
  | stop

structure TT where
  und : Nat → Option TypeDesc
  inf : Nat → Option TypeInfo
  fn : Nat → Option Func
  plain : Nat → Bool

structure OR where
  v : AV
  H : Heap
  wr : List Nat
  c : Bool
  orc : List Dec

abbrev CallF := Nat → List AV → Heap → List Dec → Option OR

def AV.cells : AV → List AV
  | .agg l => l
  | .v (.agg cs) => cs.toList.map .v
  | x => [x]

/-- Values that lie in one cell. -/
def AV.one : AV → Bool
  | .v (.agg _) => false
  | .v (.tuple _) => false
  | .agg _ => false
  | .tup _ => false
  | .junk => false
  | _ => true

def AV.real : AV → Bool
  | .junk => false
  | _ => true

def AV.flat? : AV → Option Value
  | .v x => some x
  | .b x => some (.bool x)
  | _ => none

def pureRun (P : Program) {α : Type} : Sem α → Option α
  | .pure a => some a
  | .program k => pureRun P (k P)
  | .mark _ k => pureRun P k
  | _ => none

def ask (x : Bool) : List Dec → Option (Bool × Bool × List Dec)
  | [] => some (x, true, [])
  | .a 0 :: l => some (x, true, l)
  | .a (n + 1) :: l => some (x, true, .a n :: l)
  | .t :: l => some (true, x, l)
  | .f :: l => some (false, !x, l)
  | .stop :: _ => none

def asB : AV → List Dec → Option (Bool × Bool × List Dec)
  | .b x, l => some (x, true, l)
  | .v (.bool x), l => ask x l
  | _, _ => none

def nth {α : Type} : List α → Nat → Option α
  | [], _ => none
  | x :: _, 0 => some x
  | _ :: l, i + 1 => nth l i

def cut {α : Type} (l : List α) (o n : Nat) : List α := (l.drop o).take n

def put {α : Type} : List α → Nat → List α → List α
  | [], _, _ => []
  | x :: l, 0, [] => x :: l
  | _ :: l, 0, y :: ys => y :: put l 0 ys
  | x :: l, i + 1, ys => x :: put l i ys

section
variable (P : Program) (T : TT)

def isAggT (t : Nat) : Option Bool :=
  match T.und t with
  | some (.struct _) => some true
  | some (.array _ _) => some true
  | some _ => some false
  | none => none

def sizeT (t : Nat) : Option Nat := (T.inf t).map (·.size)

def zeroT (t : Nat) : Option Value := (T.inf t).bind (·.zero)

def partA (t : Nat) (cs : List AV) (off : Nat) : Option AV :=
  match isAggT T t with
  | some true => match sizeT T t with
    | some n => match Nat.ble (off + n) cs.length with
      | true => some (.agg (cut cs off n))
      | false => none
    | none => none
  | some false => nth cs off
  | none => none

def seq (a b : ByteArray) : Bool := a.data.toList == b.data.toList

def AV.agg? : AV → Option (List AV)
  | .agg l => some l
  | .v (.agg cs) => some (cs.toList.map .v)
  | _ => none

def eqFl (eq : Nat → AV → AV → Option Bool) (xs ys : List AV) : List Field → Option Bool
  | [] => some true
  | f :: fs => match partA T f.type xs f.offset, partA T f.type ys f.offset with
    | some a, some b => match eq f.type a b, eqFl eq xs ys fs with
      | some r, some s => some (r && s)
      | _, _ => none
    | _, _ => none

def eqAr (eq : AV → AV → Option Bool) (e m : Nat) (xs ys : List AV) : Nat → Nat → Option Bool
  | 0, _ => some true
  | n + 1, i => match partA T e xs (i * m), partA T e ys (i * m) with
    | some a, some b => match eq a b, eqAr eq e m xs ys n (i + 1) with
      | some r, some s => some (r && s)
      | _, _ => none
    | _, _ => none

/-- Equality of values of types of ints, strings, bools, structs and arrays. -/
def eqAt : Nat → Nat → AV → AV → Option Bool
  | 0, _, _, _ => none
  | d + 1, t, x, y => match T.und t with
    | some (.int _) => match x, y with
      | .v (.int k a), .v (.int k' b) => if k = k' then some (a == b) else none
      | _, _ => none
    | some .string => match x, y with
      | .v (.string a), .v (.string b) => some (seq a b)
      | _, _ => none
    | some .bool => match x.flat?, y.flat? with
      | some (.bool a), some (.bool b) => some (a == b)
      | _, _ => none
    | some (.struct fs) => match T.plain t, x.agg?, y.agg? with
      | true, some xs, some ys => eqFl T (eqAt d) xs ys fs.toList
      | _, _, _ => none
    | some (.array n e) => match sizeT T e, x.agg?, y.agg? with
      | some m, some xs, some ys => eqAr T (eqAt d e) e m xs ys n 0
      | _, _, _ => none
    | _ => none

def arith (op : BinOp) (k : IntKind) (a b : Int) : Option (AV × Bool) :=
  match op with
  | .add => some (.v (.int k (k.wrap (a + b))), true)
  | .sub => some (.v (.int k (k.wrap (a - b))), true)
  | .mul => some (.v (.int k (k.wrap (a * b))), true)
  | .quo => some (.v (.int k (k.wrap (a.tdiv b))), !(b == 0))
  | .rem => some (.v (.int k (a.tmod b)), !(b == 0))
  | .eql => some (.v (.bool (a == b)), true)
  | .neq => some (.v (.bool (a != b)), true)
  | .lss => some (.v (.bool (decide (a < b))), true)
  | .leq => some (.v (.bool (decide (a ≤ b))), true)
  | .gtr => some (.v (.bool (decide (a > b))), true)
  | .geq => some (.v (.bool (decide (a ≥ b))), true)
  | _ => none

def isSliceT (t : Nat) : Bool := match T.und t with
  | some (.slice _) => true
  | _ => false

def isPtrT (t : Nat) : Bool := match T.und t with
  | some (.pointer _) => true
  | _ => false

def isIfaceT (t : Nat) : Bool := match T.und t with
  | some (.interface _) => true
  | _ => false

/-- Is a value nil or not, if this is known. -/
def nilP (t : Nat) : AV → Option Bool
  | .ptr _ _ _ => if isPtrT T t then some false else none
  | .v (.pointer none) => if isPtrT T t then some true else none
  | .sl _ _ _ _ _ => if isSliceT T t then some false else none
  | .sla _ _ _ _ => if isSliceT T t then some false else none
  | .sle => if isSliceT T t then some false else none
  | .v (.slice none _ _) => if isSliceT T t then some true else none
  | .iface _ _ => if isIfaceT T t then some false else none
  | .v .nilIface => if isIfaceT T t then some true else none
  | _ => none

/-- Structs, arrays, bools. -/
def wide : AV → Bool
  | .agg _ => true
  | .v (.agg _) => true
  | .b _ => true
  | .v (.bool _) => true
  | _ => false

def eqlA (t : Nat) (x y : AV) : Option AV :=
  match nilP T t x, nilP T t y, isIfaceT T t with
  | some true, some true, true => none
  | some a, some true, _ => some (.b a)
  | some true, some b, _ => some (.b b)
  | _, _, _ => match T.plain t, wide x, eqAt T 20 t x y with
    | true, true, some c => some (.v (.bool c))
    | _, _, _ => none

def notA : AV → AV
  | .b x => .b (!x)
  | .v (.bool x) => .v (.bool (!x))
  | x => x

def constOp : Operand → Bool
  | .const _ => true
  | _ => false

def abin (op : BinOp) (t : Nat) (ox oy : Operand) (x y : AV) : Option (AV × Bool) :=
  match x, y with
  | .v (.int k a), .v (.int k' b) => match op with
    | .shl => some (.v (.int k (k.wrap (a * 2 ^ (min b.toNat k.bits)))), decide (0 ≤ b))
    | .shr => some (.v (.int k (a.fdiv (2 ^ (min b.toNat k.bits)))), decide (0 ≤ b))
    | .and | .or | .xor | .andNot => if k = k' then (pureRun P (Op.intBits op k a b)).map fun v => (.v v, true) else none
    | op => if k = k' then arith op k a b else none
  | .v (.string a), .v (.string b) => match op with
    | .add => some (.v (.string (a ++ b)), decide (((a.size + b.size : Nat) : Int) ≤ IntKind.i64.max))
    | .eql => some (.v (.bool (seq a b)), true)
    | .neq => some (.v (.bool (!seq a b)), true)
    | op => (pureRun P (Op.stringOp op a b)).map fun v => (.v v, true)
  | .v (.float k a), .v (.float k' b) => (pureRun P (binOp op t (.float k a) (.float k' b))).map fun v => (.v v, true)
  | .v (.complex k a b), .v (.complex k' c d) => (pureRun P (binOp op t (.complex k a b) (.complex k' c d))).map fun v => (.v v, true)
  | .v .nilIface, .v .nilIface => match constOp ox || constOp oy, isIfaceT T t, op with
    | true, true, .eql => some (.b true, true)
    | true, true, .neq => some (.b false, true)
    | _, _, _ => none
  | x, y => match op with
    | .eql => (eqlA T t x y).map fun v => (v, true)
    | .neq => (eqlA T t x y).map fun v => (notA v, true)
    | _ => none

def fillA (place : Nat → Option (Nat × Nat)) : List AV → List (Nat × AV) → Option (List AV)
  | cells, [] => some cells
  | cells, (i, v) :: rest => match place i with
    | none => none
    | some (off, size) => match Nat.beq v.cells.length size && v.real, Nat.ble (off + size) cells.length with
      | true, true => fillA place (put cells off v.cells) rest
      | _, _ => none

def placesT (fs : List Field) : List (Option (Nat × Nat)) := fs.map fun f => (sizeT T f.type).map fun s => (f.offset, s)

def repl {α : Type} : Nat → List α → List α
  | 0, _ => []
  | n + 1, l => l ++ repl n l

def asI : AV → Option Int
  | .v (.int _ n) => some n
  | _ => none

def key? : AV → Option AKey
  | .v (.int .i64 n) => some (.i n)
  | .v (.string b) => some (.s b)
  | _ => none

def keyEq : AKey → AKey → Bool
  | .i a, .i b => a == b
  | .s a, .s b => seq a b
  | _, _ => false

/-- Does a key fit a map's type. -/
def keyOk (kt : Nat) (strs : Bool) : AKey → Bool
  | .i _ => !strs && (match T.und kt with
    | some (.int _) => true
    | _ => false)
  | .s _ => strs && (match T.und kt with
    | some .string => true
    | _ => false)

/-- The elements that a slice bears: how many, and each. -/
def elems (H : Heap) (e : Nat) : AV → Option (Nat × (Nat → List AV))
  | .v (.slice none 0 _) => some (0, fun _ => [])
  | .sle => some (0, fun _ => [])
  | .sl i r e' n _ => match hget H i, Nat.beq e e' with
    | some (.rows e'' N f _), true => match Nat.beq e' e'' with
      | true => some (n, fun j => f (r + j))
      | false => none
    | _, _ => none
  | .sla i o e' n => match hget H i, Nat.beq e e' with
    | some (.cells c _), true => match Nat.ble (o + n * e') c.length with
      | true => some (n, fun j => cut c (o + j * e') e')
      | false => none
    | _, _ => none
  | .v (.string s) => match Nat.beq e 1 with
    | true => some (s.size, fun j => [.v (.int .u8 (s.get! j).toNat)])
    | false => none
  | _ => none

/-- Does a slice lie in its row (a bound that is asserted). -/
def elemsOk (H : Heap) : AV → Bool
  | .sl i r _ n _ => match hget H i with
    | some (.rows _ N _ _) => Nat.ble (r + n) N
    | _ => false
  | _ => true

def lenA (t : Nat) (H : Heap) (x : AV) : Option Nat :=
  match T.und t, x with
  | some (.slice _), .v (.slice none 0 0) => some 0
  | some (.slice _), .sle => some 0
  | some (.slice _), .sl _ _ _ n _ => some n
  | some (.slice _), .sla _ _ _ n => some n
  | some .string, .v (.string s) => some s.size
  | some (.map _ _), .v (.map none) => some 0
  | some (.map _ _), .map i => match hget H i with
    | some (.map _ sz _ _) => some sz
    | _ => none
  | some (.array n _), _ => some n
  | _, _ => none

def int64 (n : Int) : AV := .v (.int .i64 n)

def foldI (pick : Int → Int → Int) (k : IntKind) : Int → List AV → Option AV
  | a, [] => some (.v (.int k a))
  | a, .v (.int _ b) :: l => foldI pick k (pick a b) l
  | _, _ => none

def zerosA (t : Nat) : Option (List AV) := (zeroT T t).map fun z => (AV.v z).cells

/-- The rows behind an append that grows: the old ones, then the new ones. -/
def both (f g : Nat → List AV) (n : Nat) : Nat → List AV := fun j => match Nat.blt j n with
  | true => f j
  | false => g (j - n)

/-- The rows with m of them, from a on, written over. -/
def over (f g : Nat → List AV) (a m : Nat) : Nat → List AV := fun j => match Nat.ble a j && Nat.blt j (a + m) with
  | true => g (j - a)
  | false => f j

def appendA (t : Nat) (s x : AV) (H : Heap) (orc : List Dec) : Option OR :=
  match T.und t with
  | some (.slice el) => match T.inf el, zerosA T el with
    | some i, some z =>
      let e := i.size
      match elems H e x, elemsOk H x && Nat.beq z.length e && z.all AV.one && Nat.blt 0 i.bytes with
      | some (m, g), okx => match s with
        | .v (.slice none 0 0) => match ask (Nat.beq m 0) orc with
          | some (true, c, orc) => some ⟨s, H, [], c && okx, orc⟩
          | some (false, c, orc) => some ⟨.sl H.length 0 e m m, H ++ [some (.rows e m g true)], [], c && okx && Nat.ble (m * i.bytes) (2 ^ 47), orc⟩
          | none => none
        | .sle => match ask (Nat.beq m 0) orc with
          | some (true, c, orc) => some ⟨s, H, [], c && okx, orc⟩
          | some (false, c, orc) => some ⟨.sl H.length 0 e m m, H ++ [some (.rows e m g true)], [], c && okx && Nat.ble (m * i.bytes) (2 ^ 47), orc⟩
          | none => none
        | .sl b r e' n k => match hget H b, Nat.beq e e' with
          | some (.rows e'' N f true), true => match ask (Nat.ble (n + m) k) orc with
            | some (true, c, orc) =>
              some ⟨.sl b r e (n + m) k, hset H b (some (.rows e'' N (over f g (r + n) m) true)), [b], c && okx && Nat.beq e e'' && Nat.ble (r + n + m) N, orc⟩
            | some (false, c, orc) =>
              some ⟨.sl H.length 0 e (n + m) (n + m), hset H b none ++ [some (.rows e (n + m) (both (fun j => f (r + j)) g n) true)], [b], c && okx && Nat.beq e e'' && Nat.beq (r + n) N && Nat.ble ((n + m) * i.bytes) (2 ^ 47), orc⟩
            | none => none
          | _, _ => none
        | _ => none
      | _, _ => none
    | _, _ => none
  | _ => none

def clearA (t : Nat) (x : AV) (H : Heap) (orc : List Dec) : Option OR :=
  match T.und t, x with
  | some (.slice _), .v (.slice none _ _) => some ⟨.v (.tuple #[]), H, [], true, orc⟩
  | some (.slice _), .sle => some ⟨.v (.tuple #[]), H, [], true, orc⟩
  | some (.slice el), .sl b r e n _ => match hget H b, zerosA T el with
    | some (.rows e' N f true), some z => match z.all AV.one with
      | false => none
      | true => some ⟨.v (.tuple #[]), hset H b (some (.rows e' N (over f (fun _ => z) r n) true)), [b], Nat.beq e e' && Nat.beq z.length e && Nat.ble (r + n) N, orc⟩
    | _, _ => none
  | _, _ => none

def builtinA (b : Builtin) (at_ : List TypeId) (args : List AV) (H : Heap) (orc : List Dec) : Option OR :=
  match b, at_, args with
  | .len, t :: _, [x] => (lenA T t H x).map fun n => ⟨int64 n, H, [], true, orc⟩
  | .append, [t, t'], [s, x] => match T.und t' with
    | some (.int _) => none
    | some _ => appendA T t s x H orc
    | none => none
  | .min, _, .v (.int k a) :: l => (foldI (fun x y => if y < x then y else x) k a l).map fun v => ⟨v, H, [], true, orc⟩
  | .max, _, .v (.int k a) :: l => (foldI (fun x y => if y > x then y else x) k a l).map fun v => ⟨v, H, [], true, orc⟩
  | .clear, t :: _, [x] => clearA T t x H orc
  | .real, _, [.v (.complex k a _)] => some ⟨.v (.float k a), H, [], true, orc⟩
  | .imag, _, [.v (.complex k _ a)] => some ⟨.v (.float k a), H, [], true, orc⟩
  | _, _, _ => none

def bound (lo : Int) (hi : Nat) : Bool := decide (0 ≤ lo) && decide (lo ≤ (hi : Int))

def optI : Option AV → Int → Option Int
  | none, d => some d
  | some x, _ => asI x

def sliceA (t : Nat) (x : AV) (lo hi mx : Option AV) (H : Heap) (orc : List Dec) : Option OR :=
  match T.und t, x, mx with
  | some .string, .v (.string s), none => match optI lo 0, optI hi s.size with
    | some l, some h => some ⟨.v (.string (s.extract l.toNat h.toNat)), H, [], bound h s.size && bound l h.toNat, orc⟩
    | _, _ => none
  | some (.slice el), .v (.slice none 0 0), none => match optI lo 0, optI hi 0, sizeT T el with
    | some l, some h, some _ => some ⟨x, H, [], bound h 0 && bound l h.toNat, orc⟩
    | _, _, _ => none
  | some (.slice el), .sl i r e n k, none => match optI lo 0, optI hi n with
    | some l, some h => some ⟨.sl i (r + l.toNat) e (h.toNat - l.toNat) (k - l.toNat), H, [], bound h k && bound l h.toNat && (match sizeT T el with | some s => Nat.beq s e | none => false), orc⟩
    | _, _ => none
  | some (.slice el), .sle, none => match optI lo 0, optI hi 0, sizeT T el with
    | some l, some h, some _ => some ⟨.sle, H, [], bound h 0 && bound l h.toNat, orc⟩
    | _, _, _ => none
  | some (.array n el), .ptr i 0 o, none => match optI lo 0, optI hi n, sizeT T el with
    | some l, some h, some e => some ⟨.sla i (o + l.toNat * e) e (h.toNat - l.toNat), H, [], bound h n && bound l h.toNat, orc⟩
    | _, _, _ => none
  | _, _, _ => none

def indexAddrA (t : Nat) (x ix : AV) (H : Heap) (orc : List Dec) : Option OR :=
  match T.und t, x, asI ix with
  | some (.array len el), .ptr i 0 o, some j => match sizeT T el with
    | some e => some ⟨.ptr i 0 (o + j.toNat * e), H, [], decide (0 ≤ j) && decide (j < (len : Int)), orc⟩
    | none => none
  | some (.slice el), .sl i r e n _, some j => match sizeT T el with
    | some s => some ⟨.ptr i (r + j.toNat) 0, H, [], decide (0 ≤ j) && decide (j < (n : Int)) && Nat.beq s e, orc⟩
    | none => none
  | some (.slice el), .sla i o e n, some j => match sizeT T el with
    | some s => some ⟨.ptr i 0 (o + j.toNat * e), H, [], decide (0 ≤ j) && decide (j < (n : Int)) && Nat.beq s e, orc⟩
    | none => none
  | _, _, _ => none

def indexA (t : Nat) (x ix : AV) (H : Heap) (orc : List Dec) : Option OR :=
  match T.und t, x, asI ix with
  | some (.array len el), .agg cs, some j => match sizeT T el with
    | some e => (partA T el cs (j.toNat * e)).map fun v => ⟨v, H, [], decide (0 ≤ j) && decide (j < (len : Int)), orc⟩
    | none => none
  | some .string, .v (.string s), some j => some ⟨.v (.int .u8 (s.get! j.toNat).toNat), H, [], decide (0 ≤ j) && decide (j < (s.size : Int)), orc⟩
  | _, _, _ => none

def loadA (t : Nat) (x : AV) (H : Heap) (orc : List Dec) : Option OR :=
  match x with
  | .ptr i r o => match hget H i with
    | some (.cells c _) => match Nat.beq r 0 with
      | true => (partA T t c o).map fun v => ⟨v, H, [], true, orc⟩
      | false => none
    | some (.rows _ n f _) => (partA T t (f r) o).map fun v => ⟨v, H, [], Nat.blt r n, orc⟩
    | _ => none
  | _ => none

def storeA (t : Nat) (x y : AV) (H : Heap) (orc : List Dec) : Option OR :=
  match x, sizeT T t with
  | .ptr i r o, some s => match hget H i, Nat.beq y.cells.length s && y.cells.all AV.one && Nat.blt 0 s with
    | some (.cells c true), true => match Nat.beq r 0, Nat.ble (o + s) c.length with
      | true, true => some ⟨.v (.tuple #[]), hset H i (some (.cells (put c o y.cells) true)), [i], true, orc⟩
      | _, _ => none
    | some (.rows e n f true), true => some ⟨.v (.tuple #[]), hset H i (some (.rows e n (fun j => match Nat.beq j r with
        | true => put (f r) o y.cells
        | false => f j) true)), [i], Nat.blt r n && Nat.ble (o + s) e, orc⟩
    | _, _ => none
  | _, _ => none

def fieldOf (t f : Nat) : Option Field :=
  match T.und t with
  | some (.struct fs) => fs[f]?
  | _ => none

def outA (ok : Bool) (v : AV) (x : Bool) : AV := match ok with
  | true => .tup [v, .b x]
  | false => v

def lookupA (t : Nat) (m k : AV) (ok : Bool) (H : Heap) (orc : List Dec) : Option OR :=
  match T.und t, m, key? k with
  | some (.map kt el), .v (.map none), some k => match keyOk T kt k.str k, zeroT T el with
    | true, some z => some ⟨outA ok (.v z) false, H, [], true, orc⟩
    | _, _ => none
  | some (.map kt el), .map i, some k => match hget H i with
    | some (.map strs _ has get) => match keyOk T kt strs k, ask (has k) orc, zeroT T el with
      | true, some (true, c, orc), some _ => some ⟨outA ok (get k) true, H, [], c, orc⟩
      | true, some (false, c, orc), some z => some ⟨outA ok (.v z) false, H, [], c, orc⟩
      | _, _, _ => none
    | _ => none
  | _, _, _ => none

def updateA (t : Nat) (m k x : AV) (H : Heap) (orc : List Dec) : Option OR :=
  match T.und t, m, key? k with
  | some (.map kt _), .map i, some k => match hget H i with
    | some (.map strs sz has get) => match keyOk T kt strs k, ask (has k) orc with
      | true, some (y, c, orc) => some ⟨.v (.tuple #[]), hset H i (some (.map strs (if y then sz else sz + 1) (fun j => keyEq j k || has j) (fun j => if keyEq j k then x else get j))), [i], c, orc⟩
      | _, _ => none
    | _ => none
  | _, _, _ => none

def buildSliceA (t len : Nat) (parts : List (Nat × AV)) (H : Heap) (orc : List Dec) : Option OR :=
  match T.und t with
  | some (.slice el) => match sizeT T el, zerosA T el with
    | some s, some z => match Nat.beq len 0 with
      | true => match parts with
        | [] => some ⟨.sle, H, [], true, orc⟩
        | _ => none
      | false => match fillA (fun i => some (i * s, s)) (repl len z) parts, Nat.beq z.length s, Nat.blt 0 (len * s), Nat.ble (len * s) (2 ^ 24) with
        | some l, true, true, true => match l.all AV.one with
          | false => none
          | true => some ⟨.sl H.length 0 s len len, H ++ [some (.rows s len (fun j => cut l (j * s) s) true)], [], true, orc⟩
        | _, _, _, _ => none
    | _, _ => none
  | _ => none

/-- An operation that is no call of a function. -/
def opA (ev : Operand → AV) (o : Oper) (H : Heap) (orc : List Dec) : Option OR :=
  let ret (v : AV) : Option OR := some ⟨v, H, [], true, orc⟩
  match o.op with
  | .move x | .assign x => ret (ev x)
  | .pick c a b => match asB (ev c) orc with
    | some (true, k, orc) => some ⟨ev a, H, [], k, orc⟩
    | some (false, k, orc) => some ⟨ev b, H, [], k, orc⟩
    | none => none
  | .alloc el => match zerosA T el with
    | some z => match z.all AV.one with
      | true => some ⟨.ptr H.length 0 0, H ++ [some (.cells z true)], [], true, orc⟩
      | false => none
    | none => none
  | .box _ x => match (ev x).cells.all AV.one with
    | true => some ⟨.ptr H.length 0 0, H ++ [some (.cells (ev x).cells true)], [], true, orc⟩
    | false => none
  | .build t parts => match T.und t, zerosA T t with
    | some (.struct fs), some z => match (placesT T fs.toList).all Option.isSome with
     | false => none
     | true => match fillA (fun i => (nth (placesT T fs.toList) i).join) z (parts.toList.map fun (i, x) => (i, ev x)) with
      | some l => ret (.agg l)
      | none => none
    | some (.array _ el), some z => match sizeT T el with
      | some s => match fillA (fun i => some (i * s, s)) z (parts.toList.map fun (i, x) => (i, ev x)) with
        | some l => ret (.agg l)
        | none => none
      | none => none
    | _, _ => none
  | .buildSlice t len parts => buildSliceA T t len (parts.toList.map fun (i, x) => (i, ev x)) H orc
  | .load t a => loadA T t (ev a) H orc
  | .store t a x => storeA T t (ev a) (ev x) H orc
  | .nilCheck x => match ev x with
    | .ptr i r o => ret (.ptr i r o)
    | .fn (.func f) a b => ret (.fn (.func f) a b)
    | _ => none
  | .binOp op t x y _ => (abin P T op t x y (ev x) (ev y)).map fun (v, c) => ⟨v, H, [], c, orc⟩
  | .unOp op _ x => match op, ev x with
    | .not, .b x => ret (.b (!x))
    | .not, .v (.bool x) => ret (.v (.bool (!x)))
    | op, .v x => (pureRun P (Op.unary op x)).map fun v => ⟨.v v, H, [], true, orc⟩
    | _, _ => none
  | .convert s t x => match T.und s, T.und t, ev x with
    | some _, some (.int k), .v (.int _ n) => ret (.v (.int k (k.wrap n)))
    | some _, some .string, .v (.string b) => ret (.v (.string b))
    | some (.struct _), some (.struct _), _ => none
    | some _, some (.int _), .v (.float a b) => (pureRun P (convert s t (.float a b))).map fun v => ⟨.v v, H, [], true, orc⟩
    | some _, some (.float _), .v (.int a b) => (pureRun P (convert s t (.int a b))).map fun v => ⟨.v v, H, [], true, orc⟩
    | _, _, _ => none
  | .makeInterface t x => match T.und t with
    | some (.interface _) => none
    | some _ => ret (.iface t (ev x))
    | none => none
  | .makeFunc f a b => ret (.fn f (a.toList.map ev) (b.toList.map ev))
  | .makeMap t none => match T.und t with
    | some (.map k _) => match T.und k with
      | some (.int _) => some ⟨.map H.length, H ++ [some (.map false 0 (fun _ => false) (fun _ => .junk))], [], true, orc⟩
      | some .string => some ⟨.map H.length, H ++ [some (.map true 0 (fun _ => false) (fun _ => .junk))], [], true, orc⟩
      | _ => none
    | _ => none
  | .slice t x lo hi mx => sliceA T t (ev x) (lo.map ev) (hi.map ev) (mx.map ev) H orc
  | .fieldAddr t x f => match fieldOf T t f, ev x with
    | some fd, .ptr i r o => match sizeT T fd.type with
      | some (_ + 1) => ret (.ptr i r (o + fd.offset))
      | _ => none
    | _, _ => none
  | .field t x f => match fieldOf T t f, (ev x).agg? with
    | some fd, some cs => match partA T fd.type cs fd.offset with
      | some v => ret v
      | none => none
    | _, _ => none
  | .indexAddr t x ix => indexAddrA T t (ev x) (ev ix) H orc
  | .index t x ix => indexA T t (ev x) (ev ix) H orc
  | .lookup t m k ok => lookupA T t (ev m) (ev k) ok H orc
  | .mapUpdate t m k x | .insert t m k x => updateA T t (ev m) (ev k) (ev x) H orc
  | .extract x i => match ev x with
    | .tup l => (nth l i).map fun v => ⟨v, H, [], true, orc⟩
    | .v (.tuple vs) => (nth vs.toList i).map fun v => ⟨.v v, H, [], true, orc⟩
    | _ => none
  | .call c => match c.callee with
    | .builtin b => builtinA T b c.argTypes.toList (c.args.toList.map ev) H orc
    | _ => none
  | _ => none
end

mutual
def ids : AV → List Nat
  | .ptr i _ _ => [i]
  | .sl i _ _ _ _ => [i]
  | .sla i _ _ _ => [i]
  | .map i => [i]
  | .fn _ a b => idsL a ++ idsL b
  | .iface _ x => ids x
  | .agg l => idsL l
  | .tup l => idsL l
  | _ => []
def idsL : List AV → List Nat
  | [] => []
  | x :: l => ids x ++ idsL l
end

/-- What a call sees: the blocks behind its arguments, round by round. Rows are looked at in their first place alone; maps not at all: a callee that comes to more finds nothing there. -/
def idsO : AObj → List Nat
  | .cells c _ => idsL c
  | .rows _ n f _ => match n with
    | 0 => []
    | _ => idsL (f 0)
  | .map _ _ _ _ => []

def addNew : List Nat → List Nat → List Nat
  | [], acc => acc
  | x :: l, acc => match mem x acc with
    | true => addNew l acc
    | false => addNew l (x :: acc)

def reach (H : Heap) : Nat → List Nat → List Nat → List Nat
  | 0, _, acc => acc
  | _, [], acc => acc
  | d + 1, x :: l, acc => match mem x acc with
    | true => reach H d l acc
    | false => reach H d ((match hget H x with
      | some o => idsO o
      | none => []) ++ l) (x :: acc)

def calleeOf (ev : Operand → AV) (o : Oper) : Option (Nat × List AV) :=
  match o.op with
  | .call { callee := .value f, args, .. } => match ev f with
    | .fn (.func f) first cap => some (f, first ++ args.toList.map ev ++ cap)
    | _ => none
  | _ => none

/-- The old blocks that an operation looks at. -/
def fpA (ev : Operand → AV) (o : Oper) (H : Heap) : List Nat :=
  match o.op with
  | .load _ a => ids (ev a)
  | .store _ a _ => ids (ev a)
  | .lookup _ m _ _ => ids (ev m)
  | .mapUpdate _ m _ _ | .insert _ m _ _ => ids (ev m)
  | .call c => match c.callee with
    | .builtin .append => idsL (c.args.toList.map ev)
    | .builtin .clear => idsL (c.args.toList.map ev)
    | .builtin .delete => idsL (c.args.toList.map ev)
    | .builtin .len => match c.args.toList.map ev with
      | [.map i] => [i]
      | _ => []
    | .builtin _ => []
    | _ => match calleeOf ev o with
      | some (_, args) => reach H 400 (idsL args) []
      | none => []
  | _ => []

structure TE where
  o : Oper
  v : AV
  fp : List Nat
  wr : List Nat
  n : Nat
  H : Heap
  H' : Heap
  ran : Bool

structure RS where
  σ : Nat → AV
  H : Heap
  wr : List Nat
  c : Bool
  orc : List Dec

def evS (σ : Nat → AV) : Operand → AV
  | .tmp t => σ t
  | .const x => .v x
  | .global _ => .junk
  | .func f => .fn (.func f) [] []

def upd (σ : Nat → AV) (t : Nat) (x : AV) : Nat → AV := fun u => match Nat.beq u t with
  | true => x
  | false => σ u

def updO (σ : Nat → AV) : Option Nat → AV → Nat → AV
  | some t, x => upd σ t x
  | none, _ => σ

def guards (k : Nat) (ops : List Oper) : Bool := ops.any fun o => match o.guard with
  | some (j, _) => Nat.beq j k
  | none => false

/-- A test's answer that guards others is decided at once. -/
def refine (g : Bool) (x : AV) (orc : List Dec) : Option (AV × Bool × List Dec) :=
  match g with
  | false => some (x, true, orc)
  | true => match asB x orc with
    | some (y, c, orc) => some (.b y, c, orc)
    | none => some (x, true, orc)

def wantA (N : Nat) (ops : List Oper) (σ : Nat → AV) (o : Oper) : Option Bool :=
  match o.guard with
  | none => some true
  | some (j, want) => match (nth ops j).bind (·.dst) with
    | some t => match Nat.blt t N, σ t with
      | true, .b x => some (x == want)
      | true, .v (.tuple _) => some false
      | _, _ => none
    | none => none

section
variable (P : Program) (T : TT) (call : CallF) (N : Nat)

def opC (ev : Operand → AV) (o : Oper) (H : Heap) (orc : List Dec) : Option OR :=
  match calleeOf ev o with
  | some (f, args) => call f args H orc
  | none => opA P T ev o H orc

def regGo (all : List Oper) : List Oper → Nat → RS → Option (RS × List TE)
  | [], _, s => some (s, [])
  | o :: rest, k, s =>
    match (match o.dst with | some d => Nat.blt d N | none => true), wantA N all s.σ o with
    | true, some false => match regGo all rest (k + 1) { s with σ := updO s.σ o.dst (.v undef) } with
      | some (s', l) => some (s', ⟨o, .v undef, [], [], s.H.length, [], [], false⟩ :: l)
      | none => none
    | true, some true =>
      let ev := evS s.σ
      let fp := fpA ev o s.H
      let Hr := rst fp 0 s.H
      match opC P T call ev o Hr s.orc with
      | none => none
      | some r => match Nat.ble s.H.length r.H.length && r.wr.all (fun i => Nat.blt i r.H.length && (mem i fp || Nat.ble s.H.length i)), refine (guards k rest) r.v r.orc with
        | false, _ => none
        | _, none => none
        | true, some (v, c, orc) => match regGo all rest (k + 1) ⟨updO s.σ o.dst v, mrg r.wr 0 s.H r.H, r.wr ++ s.wr, s.c && r.c && c, orc⟩ with
          | some (s', l) => some (s', ⟨o, v, fp, r.wr, s.H.length, Hr, r.H, true⟩ :: l)
          | none => none
    | _, _ => none

def preds (o : Oper) : List Nat := o.after.toList.filterMap fun e => if Region.binds .any e then some e.on else none

/-- The ancestors of each operation. -/
def ancs : List Oper → List (List Nat) → List (List Nat)
  | [], acc => acc
  | o :: l, acc => ancs l (acc ++ [(preds o).foldl (fun s j => addNew (j :: (nth acc j).getD []) s) []])

def disj : List Nat → List Nat → Bool
  | [], _ => true
  | x :: l, m => match mem x m with
    | true => false
    | false => disj l m

def rng (a : Nat) : Nat → List Nat
  | 0 => []
  | n + 1 => a :: rng (a + 1) n

def TE.ws (t : TE) : List Nat := t.wr ++ rng t.n (t.H'.length - t.n)

def looks (all : List Oper) (o : Oper) : List Nat :=
  (o.op.operands.toList.filterMap fun | .tmp t => some t | _ => none) ++
  (match o.guard with
   | some (g, _) => ((nth all g).bind (·.dst)).toList
   | none => [])

def free (all : List Oper) (x y : TE) : Bool :=
  (match x.o.dst with
   | some d => !mem d (looks all y.o) && (match y.o.dst with | some e => !(Nat.beq d e) | none => true)
   | none => true) &&
  (match y.o.dst with
   | some d => !mem d (looks all x.o)
   | none => true) &&
  disj x.ws y.fp && disj y.ws x.fp

def indepFrom (all : List Oper) (y : TE) (anc : List Nat) : List TE → Nat → Bool
  | [], _ => true
  | x :: l, j => (match mem j anc with
    | true => true
    | false => free all x y) && indepFrom all y anc l (j + 1)

def indepAll (all : List Oper) (as : List (List Nat)) : List TE → List TE → Nat → Bool
  | [], _, _ => true
  | y :: l, before, k => (preds y.o).all (fun j => Nat.blt j k) && indepFrom all y ((nth as k).getD []) before 0 && indepAll all as l (before ++ [y]) (k + 1)

def indep (all : List Oper) (tr : List TE) : Bool := indepAll all (ancs all []) tr [] 0

def region (ops : Array Oper) (draw : Bool) (s : RS) : Option RS :=
  match regGo P T call N ops.toList ops.toList 0 s with
  | none => none
  | some (s', tr) => match draw with
    | false => some s'
    | true => match indep ops.toList tr with
      | true => some s'
      | false => none

structure FS where
  s : RS
  todo : List Item
  st : Nat

def stepF (S : FS) : FS :=
  match S.todo with
  | [] => { S with st := 1 }
  | .code .ret :: _ => { S with st := 1 }
  | .code .skip :: k | .code (.label _) :: k | .inBlock _ :: k | .inScope _ :: k => { S with todo := k }
  | .code (.seq a b) :: k => { S with todo := .code a :: .code b :: k }
  | .code (.cond c a b) :: k => match asB (evS S.s.σ c) S.s.orc with
    | some (true, x, orc) => ⟨{ S.s with c := S.s.c && x, orc }, .code a :: k, 0⟩
    | some (false, x, orc) => ⟨{ S.s with c := S.s.c && x, orc }, .code b :: k, 0⟩
    | none => { S with st := 2 }
  | .code (.block id body) :: k => { S with todo := .code body :: .inBlock id :: k }
  | .code (.loop body) :: k | .inLoop body :: k => { S with todo := .code body :: .inLoop body :: k }
  | .code (.scope body) :: k => { S with todo := .code body :: .inScope body :: k }
  | .code (.exit id) :: k => match exitTo id k with
    | some k => { S with todo := k }
    | none => { S with st := 2 }
  | .code (.goto l) :: k => match gotoIn l k with
    | some k => { S with todo := k }
    | none => { S with st := 2 }
  | .code (.region _ ops draw) :: k => match region P T call N ops draw S.s with
    | some s => ⟨s, k, 0⟩
    | none => { S with st := 2 }
  | _ => { S with st := 2 }

def runF : Nat → FS → FS
  | 0, S => S
  | n + 1, S => match S.st with
    | 0 => runF n (stepF P T call N S)
    | _ => S

def resultA (s : RS) : ResultVar → Option AV
  | .tmp t => some (s.σ t)
  | .cell a t => (loadA T t (s.σ a) s.H []).bind fun r => match r.c with
    | true => some r.v
    | false => none

def mapO {α β : Type} (f : α → Option β) : List α → Option (List β)
  | [] => some []
  | x :: l => match f x, mapO f l with
    | some y, some m => some (y :: m)
    | _, _ => none

def resultsA (fn : Func) (s : RS) : Option AV :=
  match mapO (resultA T s) fn.results.toList with
  | some [x] => some x
  | some l => some (.tup l)
  | none => none

def slots (args : List AV) : Nat → AV := fun t => (nth args t).getD (.v undef)
end

/-- A function's frame at its begin. -/
def enterA (fn : Func) (args : List AV) (H : Heap) (orc : List Dec) : FS :=
  ⟨⟨slots args, H, [], true, orc⟩, [.code (fn.body.getD (.refuse ""))], 0⟩

/-- More steps than any frame makes. -/
def bigN : Nat := 1000000

/-- What a frame answers at its end. -/
def finishA (T : TT) (fn : Func) : FS → Option OR
  | ⟨s, _, 1⟩ => match resultsA T fn s with
    | some v => some ⟨v, s.H, s.wr, s.c, s.orc⟩
    | none => none
  | _ => none

/-- A call, by the texts: 'X' first (contracts), else the body; 'd' calls deep. -/
def callA (P : Program) (T : TT) (X : CallF) : Nat → CallF
  | 0, f, args, H, orc => X f args H orc
  | d + 1, f, args, H, orc => match X f args H orc with
    | some r => some r
    | none => match T.fn f with
      | none => none
      | some fn => match Nat.ble args.length fn.ntmps with
        | false => none
        | true => match fn.body.isSome with
          | true => finishA T fn (runF P T (callA P T X d) fn.ntmps bigN (enterA fn args H orc))
          | false => none

def ofP (P : Program) : TT := ⟨P.underlying, P.info?, fun f => P.funcs[f]?, fun _ => false⟩
end Go.Ab
