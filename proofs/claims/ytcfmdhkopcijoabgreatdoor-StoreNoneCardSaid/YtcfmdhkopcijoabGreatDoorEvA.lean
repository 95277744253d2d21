import Derived.Orders
import Derived.Laws.IdiomCopy
import Derived.Laws.Cells
import Derived.Laws.CopyRow
import Derived.Laws.StructEq
import Derived.Laws.IdiomStrings
import Derived.Laws.Concat
import Derived.Laws.Strings2
import Derived.Laws.Strings3
set_option linter.all false
/-
  THE EVALUATOR: a big-step evaluator of the model's Code on an abstract heap, run by the kernel on closed calls (and on calls with opaque arguments).
  No program stands in this text. (Its soundness: EvSound*.lean.)
-/
noncomputable section
namespace Go.Ev
open Go

inductive D8 where
  | d0
  | d1
  | d2
  | d3
  | d4
  | d5
  | d6
  | d7
inductive N8 (β : Type) where
  | nil
  | mk (x0 x1 x2 x3 x4 x5 x6 x7 : β)
inductive Path where
  | p1 (d : D8)
  | p2 (d e : D8)
  | p3 (d e f : D8)
  | p5 (d e f g i : D8)
  | big (n : Nat)
inductive BT (α : Type) where
  | nil
  | node (l : BT α) (v : Option α) (r : BT α)
inductive PT (α : Type) where
  | nil
  | mk (a : N8 (Option α)) (b : N8 (N8 (Option α))) (c : N8 (N8 (N8 (Option α)))) (d : N8 (N8 (N8 (N8 (N8 (Option α)))))) (z : BT α)
instance {α : Type} : Inhabited (PT α) := ⟨.nil⟩
noncomputable section
def sel {β : Type} (d : D8) : β → β → β → β → β → β → β → β → β :=
  D8.rec (motive := fun _ => β → β → β → β → β → β → β → β → β) (fun x0 _ _ _ _ _ _ _ => x0) (fun _ x1 _ _ _ _ _ _ => x1) (fun _ _ x2 _ _ _ _ _ => x2) (fun _ _ _ x3 _ _ _ _ => x3) (fun _ _ _ _ x4 _ _ _ => x4) (fun _ _ _ _ _ x5 _ _ => x5) (fun _ _ _ _ _ _ x6 _ => x6) (fun _ _ _ _ _ _ _ x7 => x7) d
def upd {β : Type} (d : D8) : β → β → β → β → β → β → β → β → β → N8 β :=
  D8.rec (motive := fun _ => β → β → β → β → β → β → β → β → β → N8 β) (fun v _ x1 x2 x3 x4 x5 x6 x7 => .mk v x1 x2 x3 x4 x5 x6 x7) (fun v x0 _ x2 x3 x4 x5 x6 x7 => .mk x0 v x2 x3 x4 x5 x6 x7) (fun v x0 x1 _ x3 x4 x5 x6 x7 => .mk x0 x1 v x3 x4 x5 x6 x7) (fun v x0 x1 x2 _ x4 x5 x6 x7 => .mk x0 x1 x2 v x4 x5 x6 x7) (fun v x0 x1 x2 x3 _ x5 x6 x7 => .mk x0 x1 x2 x3 v x5 x6 x7) (fun v x0 x1 x2 x3 x4 _ x6 x7 => .mk x0 x1 x2 x3 x4 v x6 x7) (fun v x0 x1 x2 x3 x4 x5 _ x7 => .mk x0 x1 x2 x3 x4 x5 v x7) (fun v x0 x1 x2 x3 x4 x5 x6 _ => .mk x0 x1 x2 x3 x4 x5 x6 v) d
def digit (n : Nat) : D8 := Nat.rec (motive := fun _ => D8) .d0 (fun m0 _ => Nat.rec (motive := fun _ => D8) .d1 (fun m1 _ => Nat.rec (motive := fun _ => D8) .d2 (fun m2 _ => Nat.rec (motive := fun _ => D8) .d3 (fun m3 _ => Nat.rec (motive := fun _ => D8) .d4 (fun m4 _ => Nat.rec (motive := fun _ => D8) .d5 (fun m5 _ => Nat.rec (motive := fun _ => D8) .d6 (fun m6 _ => .d7) m5) m4) m3) m2) m1) m0) n
def path (n : Nat) : Path :=
  (Bool.rec (motive := fun _ => Path) (Bool.rec (motive := fun _ => Path) (Bool.rec (motive := fun _ => Path) (Bool.rec (motive := fun _ => Path) (.big n) (.p5 (digit (Nat.div (Nat.sub n 584) 4096)) (digit (Nat.mod (Nat.div (Nat.sub n 584) 512) 8)) (digit (Nat.mod (Nat.div (Nat.sub n 584) 64) 8)) (digit (Nat.mod (Nat.div (Nat.sub n 584) 8) 8)) (digit (Nat.mod (Nat.sub n 584) 8))) (Nat.blt n 33352)) (.p3 (digit (Nat.div (Nat.sub n 72) 64)) (digit (Nat.mod (Nat.div (Nat.sub n 72) 8) 8)) (digit (Nat.mod (Nat.sub n 72) 8))) (Nat.blt n 584)) (.p2 (digit (Nat.div (Nat.sub n 8) 8)) (digit (Nat.mod (Nat.sub n 8) 8))) (Nat.blt n 72)) (.p1 (digit n)) (Nat.blt n 8))
inductive Pa where
  | e
  | l (p : Pa)
  | r (p : Pa)
def pa (f : Nat) : Nat → Pa :=
  Nat.rec (motive := fun _ => Nat → Pa) (fun _ => .e) (fun _ ih n => Nat.rec (motive := fun _ => Pa) .e (fun m _ => Nat.rec (motive := fun _ => Pa) (.l (ih (Nat.div m 2))) (fun _ _ => .r (ih (Nat.div m 2))) (Nat.mod m 2)) n) f
def BT.getP {α : Type} (p : Pa) (t : BT α) : Option α :=
  Pa.rec (motive := fun _ => BT α → Option α)
    (fun t => BT.rec (motive := fun _ => Option α) none (fun _ v _ _ _ => v) t)
    (fun _ ih t => ih (BT.rec (motive := fun _ => BT α) .nil (fun l _ _ _ _ => l) t))
    (fun _ ih t => ih (BT.rec (motive := fun _ => BT α) .nil (fun _ _ r _ _ => r) t)) p t
def BT.putP {α : Type} (v : Option α) (p : Pa) (t : BT α) : BT α :=
  Pa.rec (motive := fun _ => BT α → BT α)
    (fun t => BT.rec (motive := fun _ => BT α) (.node .nil v .nil) (fun l _ r _ _ => .node l v r) t)
    (fun _ ih t => BT.rec (motive := fun _ => BT α) (.node (ih .nil) none .nil) (fun l x r _ _ => .node (ih l) x r) t)
    (fun _ ih t => BT.rec (motive := fun _ => BT α) (.node .nil none (ih .nil)) (fun l x r _ _ => .node l x (ih r)) t) p t
namespace N8
variable {β : Type}
def get (e : β) (d : D8) (t : N8 β) : β := N8.rec (motive := fun _ => β) e (sel d) t
def put (e : β) (d : D8) (v : β) (t : N8 β) : N8 β := N8.rec (motive := fun _ => N8 β) (upd d v e e e e e e e e) (upd d v) t
end N8
namespace PT
variable {α : Type}
def pA (t : PT α) : N8 (Option α) := PT.rec (motive := fun _ => N8 (Option α)) .nil (fun x _ _ _ _ => x) t
def pB (t : PT α) : N8 (N8 (Option α)) := PT.rec (motive := fun _ => N8 (N8 (Option α))) .nil (fun _ x _ _ _ => x) t
def pC (t : PT α) : N8 (N8 (N8 (Option α))) := PT.rec (motive := fun _ => N8 (N8 (N8 (Option α)))) .nil (fun _ _ x _ _ => x) t
def pD (t : PT α) : N8 (N8 (N8 (N8 (N8 (Option α))))) := PT.rec (motive := fun _ => N8 (N8 (N8 (N8 (N8 (Option α)))))) .nil (fun _ _ _ x _ => x) t
def pZ (t : PT α) : BT α := PT.rec (motive := fun _ => BT α) .nil (fun _ _ _ _ x => x) t
def getP (p : Path) (t : PT α) : Option α :=
  Path.rec (motive := fun _ => PT α → Option α)
    (fun d t => ((pA t).get none d))
    (fun d e t => (((pB t).get .nil d).get none e))
    (fun d e f t => ((((pC t).get .nil d).get .nil e).get none f))
    (fun d e f g i t => ((((((pD t).get .nil d).get .nil e).get .nil f).get .nil g).get none i))
    (fun n t => BT.getP (pa (Nat.succ n) n) (pZ t)) p t
def putP (v : Option α) (p : Path) (t : PT α) : PT α :=
  Path.rec (motive := fun _ => PT α → PT α)
    (fun d t => .mk ((pA t).put none d v) (pB t) (pC t) (pD t) (pZ t))
    (fun d e t => .mk (pA t) ((pB t).put .nil d (((pB t).get .nil d).put none e v)) (pC t) (pD t) (pZ t))
    (fun d e f t => .mk (pA t) (pB t) ((pC t).put .nil d (((pC t).get .nil d).put .nil e ((((pC t).get .nil d).get .nil e).put none f v))) (pD t) (pZ t))
    (fun d e f g i t => .mk (pA t) (pB t) (pC t) ((pD t).put .nil d (((pD t).get .nil d).put .nil e ((((pD t).get .nil d).get .nil e).put .nil f (((((pD t).get .nil d).get .nil e).get .nil f).put .nil g ((((((pD t).get .nil d).get .nil e).get .nil f).get .nil g).put none i v))))) (pZ t))
    (fun n t => .mk (pA t) (pB t) (pC t) (pD t) (BT.putP v (pa (Nat.succ n) n) (pZ t))) p t
def get (t : PT α) (n : Nat) : Option α := getP (path n) t
def put (v : Option α) (t : PT α) (n : Nat) : PT α := putP v (path n) t
end PT
end
noncomputable def nth {α : Type} (l : List α) : Nat → Option α :=
  List.rec (motive := fun _ => Nat → Option α) (fun _ => none) (fun x _ ih n => Nat.rec (motive := fun _ => Option α) (some x) (fun m _ => ih m) n) l
noncomputable def len {α : Type} (l : List α) : Nat := List.rec (motive := fun _ => Nat) 0 (fun _ _ ih => Nat.succ ih) l

namespace PT
variable {α : Type}
def set (t : PT α) (n : Nat) (v : α) : PT α := put (some v) t n
def del (t : PT α) (n : Nat) : PT α := put none t n
def ofListFrom : Nat → List α → PT α → PT α
  | _, [], t => t
  | i, x :: l, t => ofListFrom (Nat.succ i) l (t.set i x)
def ofList (l : List α) : PT α := ofListFrom 0 l .nil
end PT

/-- Abstract values. Strings: how many bytes, and the bytes as one number, the first byte lowest. 'sliceU': a slice whose capacity reaches to the end of its block; z: cells of an element. 'sliceZ': such a slice's empty rest [len:]. -/
inductive AV where
  | bool (b : Bool)
  | int (k : IntKind) (n : Int)
  | str (len : Nat) (n : Nat)
  | ptr (b off : Nat)
  | nilPtr
  | slice (b off len cap : Nat)
  | sliceU (b off len z : Nat)
  | sliceZ (b off len z : Nat)
  | nilSlice
  | map (r : Nat)
  | nilMap
  | func (f : Nat) (first captured : List AV)
  | nilFunc
  | iface (t : Nat) (v : AV)
  | nilIface
  | agg (cs : List AV)
  | tuple (vs : List AV)
  | sym (i : Nat)
  deriving Inhabited

def AV.undef : AV := .tuple []

structure ADef where
  f : Nat
  args : List AV
  deriving Inhabited

/-- Abstract blocks. 'cells n dz t fz e': n cells; cell i is t's, or else dz's at i % size; 'fz': some k: no cell from k on is frozen; none: no cell is frozen, and none may be frozen any more; e: the row's type. -/
inductive AO where
  | cells (n : Nat) (dz : List AV) (t : PT AV) (fz : Option Nat) (e : Nat)
  | map (es : List (AV × AV × Nat)) (clock : Nat)
  | strIter (len n pos : Nat)
  | mapIter (m : Option Nat) (since : Nat) (seen : List Nat) (stepped : Nat)
  deriving Inhabited

inductive X where
  | normal
  | exit (id : Nat)
  | goto (l : Nat)
  | ret
  deriving Inhabited, DecidableEq

inductive R where
  | fail (why : String)
  | code (x : X) (tm : PT AV) (df : List ADef) (hp : PT AO) (nx : Nat)
  | val (v : AV) (hp : PT AO) (nx : Nat)
  deriving Inhabited

/-- A block of what a call left: cells as pairs, or a map. -/
inductive MB where
  | cells (n : Nat) (dz : List AV) (ps : List (Nat × AV)) (fz : Option Nat) (e : Nat)
  | map (es : List (AV × AV × Nat)) (clock : Nat)
/-- A call with closed arguments that was run ahead: key: a number of the arguments; its value; the blocks that it left; the next block. -/
structure ME where
  key : Nat
  args : List AV
  v : AV
  bs : List (Nat × MB)
  m : Nat

/-- What is known of the program. -/
structure Env where
  funcs : PT Func
  types : PT TypeInfo
  /-- struct types whose '==' is the parts' -/
  eqOk : List Nat
  ext : PT Nat
  u8 : Nat
  /-- deferred functions that do nothing where nothing panics -/
  dq : List Nat
  /-- calls that were run ahead -/
  memo : PT (List ME) := .nil
  /-- rows of e, a place, the type that lies there -/
  lies : List (Nat × Nat × Nat) := []

def obind {α β : Type} (x : Option α) (f : α → Option β) : Option β :=
  Option.rec (motive := fun _ => Option β) none (fun a => f a) x

section types
variable (E : Env)
def Env.und (t : Nat) : Option TypeDesc :=
  match E.types.get t with
  | some i => match i.desc with
    | .named _ u => match E.types.get u with
      | some j => some j.desc
      | none => none
    | d => some d
  | none => none
def Env.size (t : Nat) : Option Nat := match E.types.get t with | some i => some i.size | none => none
def Env.isAgg (t : Nat) : Option Bool := match E.und t with
  | some (.struct _) => some true
  | some (.array _ _) => some true
  | some _ => some false
  | none => none
end types

def bytesNat : List UInt8 → Nat
  | [] => 0
  | b :: l => Nat.add b.toNat (Nat.mul 256 (bytesNat l))

mutual
def ofV : Nat → Value → Option AV
  | 0, _ => none
  | f + 1, v => match v with
    | .bool b => some (.bool b)
    | .int k n => some (.int k n)
    | .string s => some (.str s.data.toList.length (bytesNat s.data.toList))
    | .pointer none => some .nilPtr
    | .slice none 0 0 => some .nilSlice
    | .map none => some .nilMap
    | .nilFunc => some .nilFunc
    | .nilIface => some .nilIface
    | .agg cs => match ofVs f cs.toList with | some l => some (.agg l) | none => none
    | .tuple cs => match ofVs f cs.toList with | some l => some (.tuple l) | none => none
    | _ => none
def ofVs : Nat → List Value → Option (List AV)
  | 0, _ => none
  | _ + 1, [] => some []
  | f + 1, v :: l => match ofV f v with
    | some x => match ofVs f l with
      | some r => some (x :: r)
      | none => none
    | none => none
end

def AV.cells : AV → List AV
  | .agg cs => cs
  | v => [v]

/-! Heap -/
abbrev Hp := PT AO
def cellAt (dz : List AV) (t : PT AV) (i : Nat) : Option AV :=
  match t.get i with
  | some v => some v
  | none => nth dz (Nat.mod i (len dz))
def hcell (h : Hp) (b i : Nat) : Option AV :=
  match h.get b with
  | some o => match o with
    | .cells n dz t _ _ => match Nat.blt i n with
      | true => cellAt dz t i
      | false => none
    | _ => none
  | none => none
def readFrom (dz : List AV) (t : PT AV) : Nat → Nat → Option (List AV)
  | _, 0 => some []
  | i, k + 1 => match cellAt dz t i with
    | some v => match readFrom dz t (Nat.succ i) k with
      | some l => some (v :: l)
      | none => none
    | none => none
def hcells (h : Hp) (b i k : Nat) : Option (List AV) :=
  match h.get b with
  | some o => match o with
    | .cells n dz t _ _ => match Nat.ble (Nat.add i k) n with
      | true => readFrom dz t i k
      | false => none
    | _ => none
  | none => none
def writeFrom : PT AV → Nat → List AV → PT AV
  | t, _, [] => t
  | t, i, v :: l => writeFrom (t.set i v) (Nat.succ i) l
def fzOk (fz : Option Nat) (i : Nat) : Bool := match fz with | some k => Nat.ble k i | none => true
def allOne : List AV → Bool
  | [] => true
  | v :: l => match v with
    | .agg _ => false
    | .tuple _ => false
    | _ => allOne l
def hstore (h : Hp) (b i : Nat) (vs : List AV) : Option Hp :=
  match h.get b with
  | some o => match o with
    | .cells n dz t fz e => match Nat.ble (Nat.add i (len vs)) n with
      | true => match fzOk fz i with
        | true => match allOne vs with
          | true => some (h.set b (.cells n dz (writeFrom t i vs) fz e))
          | false => none
        | false => none
      | false => none
    | _ => none
  | none => none
def newObj (e : Nat) (l : List AV) : AO := .cells (len l) [] (writeFrom .nil 0 l) (some 0) e

/-! Strings as numbers -/
def pow256 (n : Nat) : Nat := Nat.pow 256 n
def byteAt (n i : Nat) : Nat := Nat.mod (Nat.div n (pow256 i)) 256
def strCut (n lo hi : Nat) : Nat := Nat.mod (Nat.div n (pow256 lo)) (pow256 (Nat.sub hi lo))
def strCat (l1 n1 n2 : Nat) : Nat := Nat.add (Nat.mod n1 (pow256 l1)) (Nat.mul n2 (pow256 l1))
/-- less: byte by byte -/
def strLess : Nat → Nat → Nat → Nat → Nat → Bool
  | 0, _, _, _, _ => false
  | f + 1, l1, n1, l2, n2 => match l2 with
    | 0 => false
    | k2 + 1 => match l1 with
      | 0 => true
      | k1 + 1 => match Nat.blt (Nat.mod n1 256) (Nat.mod n2 256) with
        | true => true
        | false => match Nat.beq (Nat.mod n1 256) (Nat.mod n2 256) with
          | true => strLess f k1 (Nat.div n1 256) k2 (Nat.div n2 256)
          | false => false
def bytesOf : Nat → Nat → List AV
  | 0, _ => []
  | k + 1, n => .int .u8 (Int.ofNat (Nat.mod n 256)) :: bytesOf k (Nat.div n 256)
def natOfBytes : List AV → Option Nat
  | [] => some 0
  | v :: l => match v with
    | .int k z => match k with
      | .u8 => match z with
        | .ofNat b => match natOfBytes l with
          | some n => match Nat.blt b 256 with
            | true => some (Nat.add b (Nat.mul 256 n))
            | false => none
          | none => none
        | _ => none
      | _ => none
    | _ => none

/-! Integers -/
def kmax (k : IntKind) : Nat := IntKind.rec (motive := fun _ => Nat) 127 32767 2147483647 9223372036854775807 255 65535 4294967295 18446744073709551615 k
def wrapN (k : IntKind) (n : Nat) : AV := match Nat.ble n (kmax k) with
  | true => .int k (.ofNat n)
  | false => .int k (k.wrap (.ofNat n))
def wrapZ (k : IntKind) (n : Int) : AV := match n with
  | .ofNat m => wrapN k m
  | .negSucc m => .int k (k.wrap (.negSucc m))
def kno (k : IntKind) : Nat := IntKind.rec (motive := fun _ => Nat) 0 1 2 3 4 5 6 7 k
def beqK (j k : IntKind) : Bool := Nat.beq (kno j) (kno k)
def ieq (a b : Int) : Bool :=
  match a with
  | .ofNat x => match b with | .ofNat y => Nat.beq x y | .negSucc _ => false
  | .negSucc x => match b with | .ofNat _ => false | .negSucc y => Nat.beq x y
def ilt (a b : Int) : Bool :=
  match a with
  | .ofNat x => match b with | .ofNat y => Nat.blt x y | .negSucc _ => false
  | .negSucc x => match b with | .ofNat _ => true | .negSucc y => Nat.blt y x
def nat2 (x y : Int) (k : Nat → Nat → Option AV) (e : Option AV) : Option AV :=
  match x with
  | .ofNat a => match y with
    | .ofNat b => k a b
    | .negSucc _ => e
  | .negSucc _ => e
def intBin (op : BinOp) (k : IntKind) (x y : Int) : Option AV :=
  match op with
  | .add => nat2 x y (fun a b => some (wrapN k (Nat.add a b))) (some (wrapZ k (x + y)))
  | .sub => nat2 x y (fun a b => match Nat.ble b a with
      | true => some (wrapN k (Nat.sub a b))
      | false => some (wrapZ k (x - y))) (some (wrapZ k (x - y)))
  | .mul => nat2 x y (fun a b => some (wrapN k (Nat.mul a b))) (some (wrapZ k (x * y)))
  | .quo => nat2 x y (fun a b => match b with | 0 => none | b + 1 => some (wrapN k (Nat.div a (Nat.succ b)))) none
  | .rem => nat2 x y (fun a b => match b with | 0 => none | b + 1 => some (.int k (.ofNat (Nat.mod a (Nat.succ b))))) none
  | .and => nat2 x y (fun a b => some (wrapN k (Nat.land a b))) none
  | .or => nat2 x y (fun a b => some (wrapN k (Nat.lor a b))) none
  | .xor => nat2 x y (fun a b => some (wrapN k (Nat.xor a b))) none
  | .eql => some (.bool (ieq x y))
  | .neq => some (.bool (not (ieq x y)))
  | .lss => some (.bool (ilt x y))
  | .leq => some (.bool (not (ilt y x)))
  | .gtr => some (.bool (ilt y x))
  | .geq => some (.bool (not (ilt x y)))
  | _ => none
def kbits (k : IntKind) : Nat := IntKind.rec (motive := fun _ => Nat) 8 16 32 64 8 16 32 64 k
def shiftBin (left : Bool) (k : IntKind) (x y : Int) : Option AV :=
  nat2 x y (fun a n => match Nat.ble n (kbits k) with
    | true => match left with
      | true => some (wrapN k (Nat.mul a (Nat.pow 2 n)))
      | false => some (.int k (.ofNat (Nat.div a (Nat.pow 2 n))))
    | false => none) none
def pairEq (l1 n1 l2 n2 : Nat) : Bool := match Nat.beq l1 l2 with | true => Nat.beq n1 n2 | false => false
def strEq (l1 n1 l2 n2 : Nat) : Bool := match Nat.beq l1 l2 with | true => Nat.beq (Nat.mod n1 (pow256 l1)) (Nat.mod n2 (pow256 l1)) | false => false
def strBin (op : BinOp) (l1 n1 l2 n2 : Nat) : Option AV :=
  match op with
  | .add => match Nat.ble (Nat.add l1 l2) 4611686018427387904 with | true => some (.str (Nat.add l1 l2) (strCat l1 n1 n2)) | false => none
  | .eql => some (.bool (strEq l1 n1 l2 n2))
  | .neq => some (.bool (not (strEq l1 n1 l2 n2)))
  | .lss => some (.bool (strLess (Nat.succ l1) l1 n1 l2 n2))
  | .gtr => some (.bool (strLess (Nat.succ l2) l2 n2 l1 n1))
  | .geq => some (.bool (not (strLess (Nat.succ l1) l1 n1 l2 n2)))
  | .leq => some (.bool (not (strLess (Nat.succ l2) l2 n2 l1 n1)))
  | _ => none

/-- '==' -/
def beqB (a b : Bool) : Bool := match a with | true => b | false => not b
def memN (n : Nat) : List Nat → Bool
  | [] => false
  | x :: l => match Nat.beq n x with | true => true | false => memN n l
/-- cells of which none is frozen, and some there are -/
def plain (h : Hp) (b : Nat) : Bool := match h.get b with
  | some o => match o with
    | .cells _ _ _ fz _ => match fz with
      | some k => match k with | 0 => true | _ + 1 => false
      | none => false
    | _ => false
  | none => false
def eqPtr (h : Hp) (b o b' o' : Nat) : Option Bool :=
  match Nat.beq b b' with
  | true => some (Nat.beq o o')
  | false => match plain h b with
    | true => match plain h b' with
      | true => some false
      | false => none
    | false => none
def nonzero (E : Env) (t : Nat) : Bool := match E.size t with
  | some n => match n with | 0 => false | _ + 1 => true
  | none => false
def eqAt (E : Env) (h : Hp) (d : TypeDesc) (x y : AV) : Option Bool :=
  match d with
  | .int _ => match x with
    | .int k a => match y with | .int k' b => (match beqK k k' with | true => some (ieq a b) | false => none) | _ => none
    | _ => none
  | .string => match x with
    | .str l1 n1 => match y with | .str l2 n2 => some (strEq l1 n1 l2 n2) | _ => none
    | _ => none
  | .bool => match x with
    | .bool a => match y with | .bool b => some (beqB a b) | _ => none
    | _ => none
  | .pointer e => match x with
    | .ptr b o => match y with | .ptr b' o' => (match nonzero E e with | true => eqPtr h b o b' o' | false => none) | .nilPtr => some false | _ => none
    | .nilPtr => match y with | .ptr .. => some false | .nilPtr => some true | _ => none
    | _ => none
  | .interface ms => match x with
    | .nilIface => match y with | .nilIface => (match ms.toList with | [] => some true | _ :: _ => none) | .iface .. => some false | _ => none
    | .iface .. => match y with | .nilIface => some false | _ => none
    | _ => none
  | .slice _ => match x with
    | .slice .. => match y with | .nilSlice => some false | _ => none
    | .sliceU .. => match y with | .nilSlice => some false | _ => none
    | .sliceZ .. => match y with | .nilSlice => some false | _ => none
    | .nilSlice => match y with | .nilSlice => some true | .slice .. => some false | .sliceU .. => some false | .sliceZ .. => some false | _ => none
    | _ => none
  | .map _ _ => match x with
    | .map _ => match y with | .nilMap => some false | _ => none
    | .nilMap => match y with | .nilMap => some true | .map _ => some false | _ => none
    | _ => none
  | .func _ _ _ => match x with
    | .func .. => match y with | .nilFunc => some false | _ => none
    | .nilFunc => match y with | .nilFunc => some true | .func .. => some false | _ => none
    | _ => none
  | _ => none
def eq1 (E : Env) (h : Hp) (t : Nat) (x y : AV) : Option Bool := match E.und t with
  | some d => eqAt E h d x y
  | none => none
def eqFields (E : Env) (h : Hp) : List Field → List AV → List AV → Option Bool
  | [], _, _ => some true
  | f :: fs, xs, ys => match E.isAgg f.type with
    | some g => match g with
      | false => match nth xs f.offset with
        | some x => match nth ys f.offset with
          | some y => match eq1 E h f.type x y with
            | some b => match b with
              | true => eqFields E h fs xs ys
              | false => some false
            | none => none
          | none => none
        | none => none
      | true => none
    | none => none
def eqV (E : Env) (h : Hp) (t : Nat) (x y : AV) : Option Bool :=
  match x with
  | .agg xs => match y with
    | .agg ys => match E.und t with
      | some d => match d with
        | .struct fs => match memN t E.eqOk with
          | true => eqFields E h fs.toList xs ys
          | false => none
        | _ => none
      | none => none
    | _ => none
  | x => eq1 E h t x y

/-! Operations -/
/-- What an operation comes to. -/
inductive O where
  | fail
  | pv (v : AV)
  | val (v : AV) (h : Hp) (nx : Nat)
  | skip (h : Hp)
  | enter (f : Nat) (args : List AV)
  | defer (d : ADef)

def evalOp (s : PT AV) (x : Operand) : Option AV :=
  Operand.rec (motive := fun _ => Option AV) (fun t => s.get t) (fun v => ofV 70 v) (fun _ => none) (fun f => some (.func f [] [])) x
def evalOps (s : PT AV) : List Operand → Option (List AV)
  | [] => some []
  | x :: l => match evalOp s x with
    | some v => match evalOps s l with
      | some r => some (v :: r)
      | none => none
    | none => none
def oV (x : Option AV) : O := Option.rec (motive := fun _ => O) .fail (fun v => .pv v) x
def zero (E : Env) (t : Nat) : Option AV := match E.types.get t with
  | some i => match i.zero with
    | some z => ofV 5000 z
    | none => none
  | none => none
/-- lay cells over cells, from a place on -/
def over : List AV → Nat → List AV → Option (List AV)
  | cs, 0, [] => some cs
  | _ :: cs, 0, v :: vs => match over cs 0 vs with | some r => some (v :: r) | none => none
  | c :: cs, n + 1, vs => match over cs n vs with | some r => some (c :: r) | none => none
  | [], _, _ => none
def fill (place : Nat → Option (Nat × Nat)) (s : PT AV) : List AV → List (Nat × Operand) → Option (List AV)
  | cells, [] => some cells
  | cells, (i, x) :: rest => match evalOp s x with
    | some v => match place i with
      | some (off, size) => match Nat.beq (len v.cells) size with
        | true => match over cells off v.cells with
          | some c => fill place s c rest
          | none => none
        | false => none
      | none => none
    | none => none
def placesOf (E : Env) : List Field → Option (List (Nat × Nat))
  | [] => some []
  | f :: fs => match E.size f.type with
    | some n => match placesOf E fs with
      | some l => some ((f.offset, n) :: l)
      | none => none
    | none => none
def buildV (E : Env) (s : PT AV) (t : Nat) (parts : List (Nat × Operand)) : Option AV :=
  match zero E t with
  | some z => match E.und t with
    | some (.struct fs) => match placesOf E fs.toList with
      | some ps => match fill (fun i => nth ps i) s z.cells parts with
        | some c => some (.agg c)
        | none => none
      | none => none
    | some (.array _ e) => match E.size e with
      | some n => match fill (fun i => some (Nat.mul i n, n)) s z.cells parts with
        | some c => some (.agg c)
        | none => none
      | none => none
    | _ => none
  | none => none
def repList : Nat → List AV → List AV
  | 0, _ => []
  | n + 1, l => l ++ repList n l
def buildSliceV (E : Env) (s : PT AV) (h : Hp) (nx : Nat) (t n : Nat) (parts : List (Nat × Operand)) : O :=
  match E.und t with
  | some (.slice e) => match E.size e with
    | some z => match zero E e with
      | some zv => match Nat.beq (len zv.cells) z with
        | true => match Nat.ble (Nat.mul n z) 16777216 with
          | true => match fill (fun i => some (Nat.mul i z, z)) s (repList n zv.cells) parts with
            | some c => .val (.slice nx 0 n n) (h.set nx (newObj e c)) (Nat.succ nx)
            | none => .fail
          | false => .fail
        | false => .fail
      | none => .fail
    | none => .fail
  | _ => .fail
def loadV (E : Env) (h : Hp) (t : Nat) (a : AV) : Option AV :=
  match a with
  | .ptr b o => match E.isAgg t with
    | some g => match g with
      | true => match E.size t with
        | some n => match hcells h b o n with | some l => some (.agg l) | none => none
        | none => none
      | false => hcell h b o
    | none => none
  | _ => none
def storeV (E : Env) (h : Hp) (t : Nat) (a v : AV) : O :=
  match a with
  | .ptr b o => match E.size t with
    | some n => match Nat.beq (len v.cells) n with
      | true => match hstore h b o v.cells with
        | some h => .skip h
        | none => .fail
      | false => .fail
    | none => .fail
  | _ => .fail
def field (E : Env) (t i : Nat) : Option Field := match E.und t with
  | some (.struct fs) => nth fs.toList i
  | _ => none
def part (E : Env) (t : Nat) (cs : List AV) (off : Nat) : Option AV := match E.isAgg t with
  | some true => match E.size t with | some n => some (.agg ((cs.drop off).take n)) | none => none
  | some false => nth cs off
  | none => none
def asNat (v : AV) : Option Nat :=
  match v with
  | .int _ z => match z with | .ofNat n => some n | .negSucc _ => none
  | _ => none
def placeV (b o i z : Nat) : Option AV := some (.ptr b (Nat.add o (Nat.mul i z)))
def sliceElem (E : Env) (t : Nat) : Option Nat := match E.und t with
  | some (.slice e) => E.size e
  | _ => none
def indexAddrV (E : Env) (t : Nat) (x ix : AV) : Option AV :=
  match asNat ix with
  | some i => match x with
    | .slice b o n _ => match Nat.blt i n with
      | true => match sliceElem E t with | some z => placeV b o i z | none => none
      | false => none
    | .sliceU b o n _ => match Nat.blt i n with
      | true => match sliceElem E t with | some z => placeV b o i z | none => none
      | false => none
    | .ptr b o => match E.und t with
      | some (.array n e) => match Nat.blt i n with
        | true => match E.size e with | some z => placeV b o i z | none => none
        | false => none
      | _ => none
    | _ => none
  | none => none
def indexV (E : Env) (t : Nat) (x ix : AV) : Option AV :=
  match asNat ix with
  | some i => match x with
    | .str l n => match Nat.blt i l with
      | true => match E.und t with
        | some .string => some (.int .u8 (.ofNat (byteAt n i)))
        | _ => none
      | false => none
    | .agg cs => match E.und t with
      | some (.array n e) => match Nat.blt i n with
        | true => match E.size e with | some z => part E e cs (Nat.mul i z) | none => none
        | false => none
      | _ => none
    | _ => none
  | none => none
def bound (s : PT AV) (d : Nat) (x : Option Operand) : Option Nat :=
  match x with
  | none => some d
  | some x => match evalOp s x with | some v => asNat v | none => none
def sliceStr (s : PT AV) (l n : Nat) (lo hi : Option Operand) : Option AV :=
  match bound s 0 lo with
  | some a => match bound s l hi with
    | some b => match Nat.ble a b with
      | true => match Nat.ble b l with
        | true => some (.str (Nat.sub b a) (strCut n a b))
        | false => none
      | false => none
    | none => none
  | none => none
/-- a slice of known capacity: [p:q:m], m at most c -/
def cutKnown (z b o p q m c : Nat) : Option AV :=
  match Nat.ble p q with
  | true => match Nat.ble q m with
    | true => match Nat.ble m c with
      | true => match Nat.beq m p with
        | true => some (.slice b o (Nat.sub q p) (Nat.sub m p))
        | false => some (.slice b (Nat.add o (Nat.mul p z)) (Nat.sub q p) (Nat.sub m p))
      | false => none
    | false => none
  | false => none
def hasCells (h : Hp) (b n : Nat) : Bool := match h.get b with
  | some o => match o with
    | .cells m _ _ _ _ => Nat.ble n m
    | _ => false
  | none => false
def mxOk (hi mx : Option Operand) : Bool := match mx with
  | none => true
  | some _ => match hi with | some _ => true | none => false
def sliceKnown (s : PT AV) (z b o l c : Nat) (lo hi mx : Option Operand) : Option AV :=
  match mxOk hi mx with
  | true => match bound s 0 lo with
    | some p => match bound s l hi with
      | some q => match bound s c mx with
        | some m => cutKnown z b o p q m c
        | none => none
      | none => none
    | none => none
  | false => none
def cutU (h : Hp) (b o l z p q : Nat) : Option AV :=
  match Nat.ble p q with
  | true => match Nat.ble q l with
    | true => match hasCells h b (Nat.add o (Nat.mul l z)) with
      | true => match p with
        | 0 => some (.sliceU b o q z)
        | _ + 1 => match Nat.blt p l with
          | true => some (.sliceU b (Nat.add o (Nat.mul p z)) (Nat.sub q p) z)
          | false => some (.sliceZ b o l z)
      | false => none
    | false => none
  | false => none
def noBounds (s : PT AV) (lo hi mx : Option Operand) : Bool :=
  match bound s 0 lo with
  | some p => match p with
    | 0 => match bound s 0 hi with
      | some q => match q with
        | 0 => match mx with | none => true | some _ => false
        | _ + 1 => false
      | none => false
    | _ + 1 => false
  | none => false
def sliceV (E : Env) (s : PT AV) (h : Hp) (t : Nat) (x : AV) (lo hi mx : Option Operand) : Option AV :=
  match x with
  | .str l n => match mx with
    | none => match E.und t with
      | some .string => sliceStr s l n lo hi
      | _ => none
    | some _ => none
  | .nilSlice => match sliceElem E t with
    | some _ => match noBounds s lo hi mx with
      | true => some .nilSlice
      | false => none
    | none => none
  | .slice b o l c => match sliceElem E t with
    | some z => sliceKnown s z b o l c lo hi mx
    | none => none
  | .sliceU b o l z => match sliceElem E t with
    | some z' => match Nat.beq z z' with
      | true => match z with
        | 0 => none
        | _ + 1 => match mx with
          | some _ => none
          | none => match bound s 0 lo with
            | some p => match bound s l hi with
              | some q => cutU h b o l z p q
              | none => none
            | none => none
      | false => none
    | none => none
  | .sliceZ b o l z => match sliceElem E t with
    | some _ => match noBounds s lo hi mx with
      | true => some (.sliceZ b o l z)
      | false => none
    | none => none
  | .ptr b o => match E.und t with
    | some d => match d with
      | .array n e => match E.size e with
        | some z => sliceKnown s z b o n n lo hi mx
        | none => none
      | _ => none
    | none => none
  | _ => none
mutual
def beqV : AV → AV → Bool
  | x, y => match x with
    | .bool a => match y with | .bool b => beqB a b | _ => false
    | .int k a => match y with | .int j b => (match beqK k j with | true => ieq a b | false => false) | _ => false
    | .str l n => match y with | .str l' n' => pairEq l n l' n' | _ => false
    | .ptr b o => match y with | .ptr b' o' => pairEq b o b' o' | _ => false
    | .nilPtr => match y with | .nilPtr => true | _ => false
    | .slice b o l c => match y with | .slice b' o' l' c' => (match pairEq b o b' o' with | true => pairEq l c l' c' | false => false) | _ => false
    | .sliceU b o l c => match y with | .sliceU b' o' l' c' => (match pairEq b o b' o' with | true => pairEq l c l' c' | false => false) | _ => false
    | .sliceZ b o l c => match y with | .sliceZ b' o' l' c' => (match pairEq b o b' o' with | true => pairEq l c l' c' | false => false) | _ => false
    | .nilSlice => match y with | .nilSlice => true | _ => false
    | .map r => match y with | .map r' => Nat.beq r r' | _ => false
    | .nilMap => match y with | .nilMap => true | _ => false
    | .func f a b => match y with | .func f' a' b' => (match Nat.beq f f' with | true => (match beqVs a a' with | true => beqVs b b' | false => false) | false => false) | _ => false
    | .nilFunc => match y with | .nilFunc => true | _ => false
    | .iface t v => match y with | .iface t' v' => (match Nat.beq t t' with | true => beqV v v' | false => false) | _ => false
    | .nilIface => match y with | .nilIface => true | _ => false
    | .agg a => match y with | .agg b => beqVs a b | _ => false
    | .tuple a => match y with | .tuple b => beqVs a b | _ => false
    | .sym i => match y with | .sym j => Nat.beq i j | _ => false
def beqVs : List AV → List AV → Bool
  | [], [] => true
  | x :: a, y :: b => match beqV x y with | true => beqVs a b | false => false
  | _, _ => false
end
def keyFields (E : Env) (cs : List AV) : List Field → Bool
  | [] => true
  | f :: fs => match E.und f.type with
    | some d => match d with
      | .interface _ => false
      | .array _ _ => false
      | .struct _ => false
      | _ => match nth cs f.offset with
        | some _ => keyFields E cs fs
        | none => false
    | none => false
def keyOk (E : Env) (kt : Nat) (k : AV) : Bool := match E.und kt with
  | some d => match d with
    | .interface _ => false
    | .array _ _ => false
    | .struct fs => match k with
      | .agg cs => match memN kt E.eqOk with
        | true => keyFields E cs fs.toList
        | false => false
      | _ => false
    | _ => true
  | none => false
def findKey (E : Env) (h : Hp) (kt : Nat) (k : AV) : List (AV × AV × Nat) → Nat → Option (Option (Nat × AV × Nat))
  | [], _ => match keyOk E kt k with | true => some none | false => none
  | (a, v, b) :: es, i => match eqV E h kt k a with
    | some c => match c with
      | true => match keyOk E kt k with
        | true => match beqV k a with
          | true => some (some (i, v, b))
          | false => none
        | false => none
      | false => findKey E h kt k es (Nat.succ i)
    | none => none
def mapOf (h : Hp) (r : Nat) : Option (List (AV × AV × Nat) × Nat) :=
  match h.get r with
  | some o => match o with
    | .map es c => some (es, c)
    | _ => none
  | none => none
def okTuple (ok : Bool) (v : AV) (b : Bool) : AV := match ok with | true => .tuple [v, .bool b] | false => v
def lookupIn (E : Env) (h : Hp) (kt et : Nat) (es : List (AV × AV × Nat)) (k : AV) (ok : Bool) : Option AV :=
  match findKey E h kt k es 0 with
  | some r => match r with
    | some (_, v, _) => some (okTuple ok v true)
    | none => match zero E et with
      | some z => some (okTuple ok z false)
      | none => none
  | none => none
def lookupV (E : Env) (h : Hp) (t : Nat) (m k : AV) (ok : Bool) : Option AV :=
  match E.und t with
  | some (.map kt et) => match m with
    | .nilMap => lookupIn E h kt et [] k ok
    | .map r => match mapOf h r with
      | some (es, _) => lookupIn E h kt et es k ok
      | none => none
    | _ => none
  | _ => none
def modAt {α : Type} (f : α → α) : List α → Nat → List α
  | [], _ => []
  | x :: l, n => match n with | 0 => f x :: l | m + 1 => x :: modAt f l m
def remAt {α : Type} : List α → Nat → List α
  | [], _ => []
  | x :: l, n => match n with | 0 => l | m + 1 => x :: remAt l m
def mapUpdateV (E : Env) (h : Hp) (t : Nat) (m k v : AV) : O :=
  match E.und t with
  | some (.map kt _) => match m with
    | .map r => match mapOf h r with
      | some (es, c) => match findKey E h kt k es 0 with
        | some f => match f with
          | some (i, _, _) => .skip (h.set r (.map (modAt (fun e => (k, v, e.2.2)) es i) c))
          | none => .skip (h.set r (.map (es ++ [(k, v, c)]) (Nat.succ c)))
        | none => .fail
      | none => .fail
    | _ => .fail
  | _ => .fail
def mapEntryV (E : Env) (h : Hp) (nx : Nat) (t : Nat) (m k : AV) : O :=
  match E.und t with
  | some (.map kt et) => match m with
    | .map r => match mapOf h r with
      | some (es, c) => match findKey E h kt k es 0 with
        | some f => match f with
          | some (i, v, b) => .val (.tuple [v, .int .i64 (.ofNat b)]) (h.set r (.map (modAt (fun e => (k, e.2)) es i) c)) nx
          | none => match zero E et with
            | some z => .val (.tuple [z, .int .i64 (.ofNat c)]) (h.set r (.map (es ++ [(k, z, c)]) (Nat.succ c))) nx
            | none => .fail
        | none => .fail
      | none => .fail
    | _ => .fail
  | _ => .fail
def findBorn (n : Nat) : List (AV × AV × Nat) → Nat → Option Nat
  | [], _ => none
  | e :: es, i => match Nat.beq e.2.2 n with | true => some i | false => findBorn n es (Nat.succ i)
def entryStoreV (h : Hp) (m st v : AV) : O :=
  match m with
  | .map r => match mapOf h r with
    | some (es, c) => match asNat st with
      | some b => match findBorn b es 0 with
        | some i => .skip (h.set r (.map (modAt (fun e => (e.1, v, e.2.2)) es i) c))
        | none => .fail
      | none => .fail
    | none => .fail
  | _ => .fail
def deleteV (E : Env) (h : Hp) (nx : Nat) (t : Nat) (m k : AV) : O :=
  match E.und t with
  | some (.map kt _) => match m with
    | .map r => match mapOf h r with
      | some (es, c) => match findKey E h kt k es 0 with
        | some f => match f with
          | some (i, _, _) => .val .undef (h.set r (.map (remAt es i) c)) nx
          | none => .pv .undef
        | none => .fail
      | none => .fail
    | .nilMap => match keyOk E kt k with | true => .pv .undef | false => .fail
    | _ => .fail
  | _ => .fail
def nextStr (h : Hp) (nx r l n p : Nat) : O :=
  match Nat.blt p l with
  | true => match Nat.blt (byteAt n p) 128 with
    | true => .val (.tuple [.bool true, .int .i64 (.ofNat p), .int .i32 (.ofNat (byteAt n p))]) (h.set r (.strIter l n (Nat.succ p))) nx
    | false => .fail
  | false => .pv (.tuple [.bool false])
def nextMap (h : Hp) (nx r m since : Nat) (seen : List Nat) (es : List (AV × AV × Nat)) (c : Nat) : O :=
  match es.filter fun e => not (memN e.2.2 seen) with
  | [] => .pv (.tuple [.bool false])
  | [e] => match Nat.blt e.2.2 since with
    | true => .val (.tuple [.bool true, e.1, e.2.1]) (h.set r (.mapIter (some m) since (seen ++ [e.2.2]) c)) nx
    | false => .fail
  | _ => .fail
def goneM (seen : List Nat) (es : List (AV × AV × Nat)) (last : Nat) : Bool := match seen with
  | [] => false
  | _ => match es with
    | [] => false
    | _ => es.all fun e => Nat.ble last e.2.2
def nextV (h : Hp) (nx : Nat) (it : AV) (isString : Bool) : O :=
  match it with
  | .ptr r o => match o with
    | 0 => match h.get r with
      | some b => match b with
        | .strIter l n p => match isString with | true => nextStr h nx r l n p | false => .fail
        | .mapIter m since seen last => match isString with
          | true => .fail
          | false => match m with
            | none => .pv (.tuple [.bool false])
            | some m => match mapOf h m with
              | some (es, c) => match goneM seen es last with
                | true => .fail
                | false => nextMap h nx r m since seen es c
              | none => .fail
        | _ => .fail
      | none => .fail
    | _ + 1 => .fail
  | _ => .fail
def entryV (h : Hp) (it : AV) : Option AV :=
  match it with
  | .ptr r o => match o with
    | 0 => match h.get r with
      | some b => match b with
        | .mapIter m _ seen stepped => match m with
          | some m => match seen.getLast? with
            | some st => match mapOf h m with
              | some (es, c) => match Nat.beq c stepped with
                | true => match findBorn st es 0 with
                  | some i => match nth es i with | some e => some (.tuple [e.1, e.2.1]) | none => none
                  | none => none
                | false => none
              | none => none
            | none => none
          | none => none
        | _ => none
      | none => none
    | _ + 1 => none
  | _ => none
def rangeV (E : Env) (h : Hp) (nx : Nat) (t : Nat) (x : AV) : O :=
  match E.und t with
  | some .string => match x with
    | .str l n => .val (.ptr nx 0) (h.set nx (.strIter l n 0)) (Nat.succ nx)
    | _ => .fail
  | some (.map _ _) => match x with
    | .nilMap => .val (.ptr nx 0) (h.set nx (.mapIter none 0 [] 0)) (Nat.succ nx)
    | .map m => match mapOf h m with
      | some (_, c) => .val (.ptr nx 0) (h.set nx (.mapIter (some m) c [] c)) (Nat.succ nx)
      | none => .fail
    | _ => .fail
  | _ => .fail
def isU8 (E : Env) (e : Nat) : Bool := match E.und e with
  | some (.int .u8) => true
  | _ => false
def bytesToStr (h : Hp) (b o l : Nat) : O :=
  match hcells h b o l with
  | some cs => match natOfBytes cs with
    | some n => .pv (.str l n)
    | none => .fail
  | none => .fail
def toStrV (E : Env) (h : Hp) (u : TypeDesc) (x : AV) : O :=
  match u with
  | .slice e => match isU8 E e with
    | true => match x with
      | .nilSlice => .pv (.str 0 0)
      | .slice b o l _ => bytesToStr h b o l
      | .sliceU b o l _ => bytesToStr h b o l
      | _ => .fail
    | false => .fail
  | _ => .fail
def toUnsafeV (E : Env) (h : Hp) (u : TypeDesc) (x : AV) : O := match u with
  | .pointer t => match x with
    | .ptr b o => match nonzero E t with
      | true => match hasCells h b (Nat.succ o) with | true => .pv (.ptr b o) | false => .fail
      | false => .fail
    | _ => .fail
  | _ => .fail
def memL (e o u : Nat) : List (Nat × Nat × Nat) → Bool
  | [] => false
  | x :: l => match Nat.beq x.1 e with
    | true => match Nat.beq x.2.1 o with
      | true => match Nat.beq x.2.2 u with
        | true => true
        | false => memL e o u l
      | false => memL e o u l
    | false => memL e o u l
def rowIs (E : Env) (h : Hp) (b i t : Nat) : Bool := match h.get b with
  | some o => match o with
    | .cells n _ _ _ e => match memL e i t E.lies with
      | true => match E.size e with
        | some z => match z with | 0 => false | z + 1 => Nat.ble (Nat.mul (Nat.succ (Nat.div i (Nat.succ z))) (Nat.succ z)) n
        | none => false
      | false => false
    | _ => false
  | none => false
def fromUnsafeV (E : Env) (h : Hp) (u : TypeDesc) (t : Nat) (x : AV) : O := match u with
  | .unsafePointer => match x with
    | .ptr b o => match E.size t with
      | some _ => match rowIs E h b o t with | true => .pv (.ptr b o) | false => .fail
      | none => .fail
    | _ => .fail
  | _ => .fail
def convertTo (E : Env) (h : Hp) (nx : Nat) (u d : TypeDesc) (x : AV) : O :=
  match d with
  | .int k => match x with
    | .int _ n => .pv (wrapZ k n)
    | _ => .fail
  | .string => match x with
    | .str l n => .pv (.str l n)
    | .int _ z => match z with
      | .ofNat n => match Nat.blt n 128 with
        | true => .pv (.str 1 n)
        | false => .fail
      | .negSucc _ => .fail
    | x => toStrV E h u x
  | .slice e => match u with
    | .string => match x with
      | .str l n => match isU8 E e with
        | true => .val (.sliceU nx 0 l 1) (h.set nx (.cells l [] (writeFrom .nil 0 (bytesOf l n)) none e)) (Nat.succ nx)
        | false => .fail
      | _ => .fail
    | _ => .fail
  | .unsafePointer => toUnsafeV E h u x
  | .pointer t => fromUnsafeV E h u t x
  | _ => .fail
def convertV (E : Env) (h : Hp) (nx : Nat) (src dst : Nat) (x : AV) : O :=
  match E.und src with
  | some u => match E.und dst with
    | some d => convertTo E h nx u d x
    | none => .fail
  | none => .fail
def rI (n : Nat) : AV := .int .i64 (.ofNat n)
def lenD (h : Hp) (d : TypeDesc) (x : AV) : Option AV :=
  match d with
  | .string => match x with | .str l _ => some (rI l) | _ => none
  | .slice _ => match x with
    | .slice _ _ l _ => some (rI l)
    | .sliceU _ _ l _ => some (rI l)
    | .sliceZ .. => some (rI 0)
    | .nilSlice => some (rI 0)
    | _ => none
  | .map _ _ => match x with
    | .nilMap => some (rI 0)
    | .map m => match mapOf h m with | some (es, _) => some (rI (len es)) | none => none
    | _ => none
  | .array n _ => some (rI n)
  | _ => none
def lenV (E : Env) (h : Hp) (t : Nat) (x : AV) : Option AV := match E.und t with
  | some d => lenD h d x
  | none => none
def capD (d : TypeDesc) (x : AV) : Option AV :=
  match d with
  | .slice _ => match x with
    | .slice _ _ _ c => some (rI c)
    | .nilSlice => some (rI 0)
    | _ => none
  | .array n _ => some (rI n)
  | _ => none
def capV (E : Env) (t : Nat) (x : AV) : Option AV := match E.und t with
  | some d => capD d x
  | none => none
def firstCells (h : Hp) (size n : Nat) (x : AV) : Option (List AV) :=
  match x with
  | .nilSlice => some []
  | .sliceZ .. => some []
  | .slice b o _ _ => hcells h b o (Nat.mul n size)
  | .sliceU b o _ _ => hcells h b o (Nat.mul n size)
  | .str _ x => match size with
    | 0 => none
    | s + 1 => match s with | 0 => some (bytesOf n x) | _ + 1 => none
  | _ => none
def lenOf (x : AV) : Option Nat :=
  match x with
  | .nilSlice => some 0
  | .sliceZ .. => some 0
  | .slice _ _ l _ => some l
  | .sliceU _ _ l _ => some l
  | .str l _ => some l
  | _ => none
/-- append of the new cells (n elements) to s -/
def appendNew (h : Hp) (nx e z n : Nat) (s : AV) (new : List AV) : O :=
  match s with
  | .nilSlice => match n with
    | 0 => .pv .nilSlice
    | _ + 1 => .val (.sliceU nx 0 n z) (h.set nx (newObj e new)) (Nat.succ nx)
  | .slice b o l c => match Nat.ble (Nat.add l n) c with
    | true => match n with
      | 0 => .pv (.slice b o l c)
      | _ + 1 => match hstore h b (Nat.add o (Nat.mul l z)) new with
        | some h => .val (.slice b o (Nat.add l n) c) h nx
        | none => .fail
    | false => match hcells h b o (Nat.mul l z) with
      | some old => .val (.sliceU nx 0 (Nat.add l n) z) (h.set nx (newObj e (old ++ new))) (Nat.succ nx)
      | none => .fail
  | .sliceU b o l z' => match Nat.beq z z' with
    | true => match h.get b with
      | some q => match q with
        | .cells m dz tr fz e' => match o with
          | 0 => match dz with
            | [] => match Nat.ble (Nat.mul l z) m with
              | true => match Nat.beq e e' with
                | true => match n with
                  | 0 => .pv (.sliceU b 0 l z)
                  | _ + 1 => match fzOk fz (Nat.mul l z) with
                    | true => .val (.sliceU nx 0 (Nat.add l n) z) ((h.del b).set nx (.cells (Nat.add (Nat.mul l z) (len new)) [] (writeFrom tr (Nat.mul l z) new) fz e)) (Nat.succ nx)
                    | false => .fail
                | false => .fail
              | false => .fail
            | _ => .fail
          | _ + 1 => .fail
        | _ => .fail
      | none => .fail
    | false => .fail
  | _ => .fail
def isSeq (E : Env) (ts : List Nat) : Bool := match ts with
  | [] => false
  | t :: r => match r with
    | [] => match E.und t with
      | some d => match d with | .slice _ => true | .string => true | _ => false
      | none => false
    | _ :: _ => false
def appendAt (E : Env) (h : Hp) (nx e : Nat) (i : TypeInfo) (s x : AV) : O :=
  match i.zero with
  | none => .fail
  | some _ => match lenOf x with
    | some n => match firstCells h i.size n x with
      | some new => match allOne new with
        | true => match lenOf s with
          | some l => match Nat.ble (Nat.mul (Nat.add l n) (Nat.succ i.bytes)) 100000000 with
            | true => match i.size with
              | 0 => .fail
              | z + 1 => appendNew h nx e (Nat.succ z) n s new
            | false => .fail
          | none => .fail
        | false => .fail
      | none => .fail
    | none => .fail
def appendV (E : Env) (h : Hp) (nx : Nat) (types : List Nat) (s x : AV) : O :=
  match types with
  | t :: rest => match E.und t with
    | some (.slice e) => match E.types.get e with
      | some i => match isSeq E rest with
        | true => appendAt E h nx e i s x
        | false => .fail
      | none => .fail
    | _ => .fail
  | [] => .fail
def leastN (a b : Nat) : Nat := match Nat.ble a b with | true => a | false => b
def copyV (E : Env) (h : Hp) (nx : Nat) (t : Nat) (d s : AV) : O :=
  match sliceElem E t with
  | some z => match lenOf d with
    | some dl => match lenOf s with
      | some sl => match firstCells h z (leastN sl dl) s with
        | some cs => match d with
          | .nilSlice => .pv (rI 0)
          | .slice b o _ _ => match hstore h b o cs with
            | some h => .val (rI (leastN sl dl)) h nx
            | none => .fail
          | .sliceU b o _ _ => match hstore h b o cs with
            | some h => .val (rI (leastN sl dl)) h nx
            | none => .fail
          | _ => .fail
        | none => .fail
      | none => .fail
    | none => .fail
  | none => .fail
def clearS (E : Env) (h : Hp) (nx t b o l : Nat) : O := match E.und t with
  | some (.slice e) => match zero E e with
    | some z => match hstore h b o (repList l z.cells) with | some h => .val .undef h nx | none => .fail
    | none => .fail
  | _ => .fail
def clearX (E : Env) (h : Hp) (nx : Nat) (t : Nat) (x : AV) : O :=
  match x with
  | .nilMap => .pv .undef
  | .nilSlice => .pv .undef
  | .map r => match mapOf h r with | some (_, c) => .val .undef (h.set r (.map [] c)) nx | none => .fail
  | .slice b o l _ => match l with
    | 0 => .pv .undef
    | l + 1 => clearS E h nx t b o (Nat.succ l)
  | .sliceU b o l _ => match l with
    | 0 => .pv .undef
    | l + 1 => clearS E h nx t b o (Nat.succ l)
  | _ => .fail
def clearV (E : Env) (h : Hp) (nx : Nat) (t : Nat) (x : AV) : O := match E.und t with
  | some _ => clearX E h nx t x
  | none => .fail
def minV : AV → List AV → Option AV
  | x, [] => some x
  | .int k a, .int _ b :: l => minV (.int k (match ilt b a with | true => b | false => a)) l
  | _, _ => none
def maxV : AV → List AV → Option AV
  | x, [] => some x
  | .int k a, .int _ b :: l => maxV (.int k (match ilt a b with | true => b | false => a)) l
  | _, _ => none
def freezeV (h : Hp) (b k : Nat) : Option Hp := match h.get b with
  | some o => match o with
    | .cells n dz t fz e => match fz with
      | some j => some (h.set b (.cells n dz t (some (match Nat.ble k j with | true => j | false => k)) e))
      | none => none
    | _ => none
  | none => none
def elemIs (E : Env) (h : Hp) (b pt : Nat) : Bool := match h.get b with
  | some o => match o with
    | .cells _ _ _ _ e => match E.und pt with
      | some (.pointer u) => match Nat.beq e u with
        | true => match E.size u with | some n => Nat.beq n 1 | none => false
        | false => false
      | _ => false
    | _ => false
  | none => false
def unsafeStringAt (E : Env) (h : Hp) (nx : Nat) (ts : List Nat) (b o n : Nat) : O :=
  match hcells h b o n with
  | some cs => match natOfBytes cs with
    | some x => match freezeV h b (Nat.add o n) with
      | some h' => match ts with
        | pt :: _ => match elemIs E h b pt with
          | true => .val (.str n x) h' nx
          | false => .fail
        | [] => .fail
      | none => .fail
    | none => .fail
  | none => .fail
def unsafeStringV (E : Env) (h : Hp) (nx : Nat) (ts : List Nat) (p l : AV) : O :=
  match asNat l with
  | some n => match n with
    | 0 => match p with | .nilPtr => .pv (.str 0 0) | .ptr .. => .pv (.str 0 0) | _ => .fail
    | n + 1 => match p with
      | .ptr b o => match Nat.ble (Nat.succ n) 4611686018427387904 with
        | true => unsafeStringAt E h nx ts b o (Nat.succ n)
        | false => .fail
      | _ => .fail
  | none => .fail
def makeSliceV (E : Env) (h : Hp) (nx : Nat) (t : Nat) (l c : AV) : O :=
  match E.und t with
  | some (.slice e) => match asNat l with
    | some l => match asNat c with
      | some c => match E.types.get e with
        | some i => match zero E e with
          | some zv => match Nat.ble l c with
            | true => match Nat.ble (Nat.mul c (Nat.succ i.bytes)) 100000000 with
              | true => .val (.slice nx 0 l c) (h.set nx (.cells (Nat.mul c i.size) zv.cells .nil (some 0) e)) (Nat.succ nx)
              | false => .fail
            | false => .fail
          | none => .fail
        | none => .fail
      | none => .fail
    | none => .fail
  | _ => .fail
def callV (f : AV) (args : List AV) : O :=
  match f with
  | .func g first captured => .enter g (first ++ (args ++ captured))
  | _ => .fail
def head (l : List Nat) : Option Nat := match l with | t :: _ => some t | [] => none
def sliceDataV (h : Hp) (x : AV) : O := match x with
  | .nilSlice => .pv .nilPtr
  | .slice b o _ c => match c with | 0 => .fail | _ + 1 => .pv (.ptr b o)
  | .sliceU b o l z => match l with
    | 0 => .fail
    | l + 1 => match z with
      | 0 => .fail
      | z + 1 => match hasCells h b (Nat.add o (Nat.mul (Nat.succ l) (Nat.succ z))) with | true => .pv (.ptr b o) | false => .fail
  | _ => .fail
def builtinV (E : Env) (h : Hp) (nx : Nat) (b : Builtin) (ts : List Nat) (args : List AV) : O :=
  match args with
  | [x] => match ts with
    | t :: _ => match b with
      | .len => oV (lenV E h t x)
      | .cap => oV (capV E t x)
      | .clear => clearV E h nx t x
      | .unsafeSliceData => sliceDataV h x
      | .min => .pv x
      | .max => .pv x
      | _ => .fail
    | [] => .fail
  | [x, y] => match b with
    | .append => appendV E h nx ts x y
    | .copy => (match ts with | t :: _ => copyV E h nx t x y | [] => .fail)
    | .delete => (match ts with | t :: _ => deleteV E h nx t x y | [] => .fail)
    | .min => oV (minV x [y])
    | .max => oV (maxV x [y])
    | .unsafeString => (match ts with | _ :: _ => unsafeStringV E h nx ts x y | [] => .fail)
    | _ => .fail
  | [] => .fail
  | x :: l => match b with
    | .min => oV (minV x l)
    | .max => oV (maxV x l)
    | _ => .fail
def op1 (s : PT AV) (x : Operand) (k : AV → O) : O := Option.rec (motive := fun _ => O) .fail (fun v => k v) (evalOp s x)
def pickV (s : PT AV) (c a b : Operand) : O := op1 s c fun c => match c with
  | .bool t => match t with
    | true => oV (evalOp s a)
    | false => oV (evalOp s b)
  | _ => .fail
def nilCheckV (v : AV) : O := match v with
  | .nilPtr => .fail
  | .nilIface => .fail
  | .nilFunc => .fail
  | .ptr b o => .pv (.ptr b o)
  | .func f a b => .pv (.func f a b)
  | .iface t v => .pv (.iface t v)
  | _ => .fail
def eqO (r : Option Bool) (neg : Bool) : O := match r with
  | some b => match neg with | true => .pv (.bool (not b)) | false => .pv (.bool b)
  | none => .fail
def binV (E : Env) (h : Hp) (b : BinOp) (t : Nat) (x y : AV) : O :=
  match x with
  | .int k a => match y with
    | .int k' c => match b with
      | .shl => oV (shiftBin true k a c)
      | .shr => oV (shiftBin false k a c)
      | b => match beqK k k' with | true => oV (intBin b k a c) | false => .fail
    | _ => .fail
  | .str l n => match y with
    | .str l' n' => oV (strBin b l n l' n')
    | _ => .fail
  | x => match b with
    | .eql => eqO (eqV E h t x y) false
    | .neq => eqO (eqV E h t x y) true
    | _ => .fail
def unV (u : UnOp) (x : AV) : O := match u with
  | .not => match x with | .bool b => .pv (.bool (not b)) | _ => .fail
  | .neg => match x with | .int k n => .pv (wrapZ k (0 - n)) | _ => .fail
  | _ => .fail
def makeFuncV (s : PT AV) (fn : Fn) (first cap : List Operand) : O := match fn with
  | .func f => match evalOps s first with
    | some a => match evalOps s cap with
      | some b => .pv (.func f a b)
      | none => .fail
    | none => .fail
  | _ => .fail
def fieldAddrV (E : Env) (t : Nat) (x : AV) (i : Nat) : O := match x with
  | .ptr b o => match field E t i with
    | some f => match nonzero E f.type with
      | true => .pv (.ptr b (Nat.add o f.offset))
      | false => .fail
    | none => .fail
  | _ => .fail
def fieldV (E : Env) (t : Nat) (x : AV) (i : Nat) : O := match x with
  | .agg cs => match field E t i with
    | some f => oV (part E f.type cs f.offset)
    | none => .fail
  | _ => .fail
def typeAssertTo (E : Env) (x : AV) (a : Nat) (ok : Bool) : O := match x with
  | .iface t v => match Nat.beq t a with
    | true => .pv (okTuple ok v true)
    | false => match ok with
      | true => (match zero E a with | some z => .pv (.tuple [z, .bool false]) | none => .fail)
      | false => .fail
  | .nilIface => match ok with
    | true => (match zero E a with | some z => .pv (.tuple [z, .bool false]) | none => .fail)
    | false => .fail
  | _ => .fail
def typeAssertV (E : Env) (x : AV) (a : Nat) (ok : Bool) : O := match E.und a with
  | some d => match d with
    | .interface _ => .fail
    | _ => typeAssertTo E x a ok
  | none => .fail
def makeMapV (E : Env) (s : PT AV) (h : Hp) (nx t : Nat) (r : Option Operand) : O := match r with
  | none => .val (.map nx) (h.set nx (.map [] 0)) (Nat.succ nx)
  | some x => match evalOp s x with
    | some v => match v with
      | .int _ _ => match E.und t with
        | some (.map _ _) => .val (.map nx) (h.set nx (.map [] 0)) (Nat.succ nx)
        | _ => .fail
      | _ => .fail
    | none => .fail
def makeIfaceV (E : Env) (t : Nat) (x : AV) : O := match E.und t with
  | some d => match d with
    | .interface _ => .fail
    | _ => .pv (.iface t x)
  | none => .fail
def extractV (t : AV) (i : Nat) : O := match t with
  | .tuple vs => oV (nth vs i)
  | _ => .fail
def callOp (E : Env) (s : PT AV) (h : Hp) (nx : Nat) (c : Call) : O :=
  match evalOps s c.args.toList with
  | some args => match c.callee with
    | .builtin b => builtinV E h nx b c.argTypes.toList args
    | .value f => op1 s f fun f => callV f args
    | .invoke _ _ => .fail
  | none => .fail
def deferOp (s : PT AV) (c : Call) : O :=
  match evalOps s c.args.toList with
  | some args => match c.callee with
    | .value f => op1 s f fun f => match f with
      | .func g first captured => .defer ⟨g, first ++ (args ++ captured)⟩
      | _ => .fail
    | _ => .fail
  | none => .fail
def op (E : Env) (s : PT AV) (h : Hp) (nx : Nat) (o : Op) : O :=
  Op.rec (motive := fun _ => O)
    (fun x => oV (evalOp s x))                                       -- move
    (fun x => oV (evalOp s x))                                       -- assign
    (fun c a b => pickV s c a b)                                     -- pick
    (fun t => Option.rec (motive := fun _ => O) .fail (fun z => .val (.ptr nx 0) (h.set nx (newObj t z.cells)) (Nat.succ nx)) (zero E t))  -- alloc
    (fun t x => op1 s x fun v => .val (.ptr nx 0) (h.set nx (newObj t v.cells)) (Nat.succ nx))   -- box
    (fun t ps => oV (buildV E s t ps.toList))                        -- build
    (fun t n ps => buildSliceV E s h nx t n ps.toList)               -- buildSlice
    (fun t m k x => op1 s m fun m => op1 s k fun k => op1 s x fun x => mapUpdateV E h t m k x)   -- insert
    (fun t a => op1 s a fun a => oV (loadV E h t a))                 -- load
    (fun t a x => op1 s a fun a => op1 s x fun v => storeV E h t a v)    -- store
    (fun _ => .fail) (fun _ => .fail)                                -- ready, waits
    (fun x => op1 s x fun v => nilCheckV v)                          -- nilCheck
    (fun b t x y _ => op1 s x fun x => op1 s y fun y => binV E h b t x y)  -- binOp
    (fun u _ x => op1 s x fun x => unV u x)                          -- unOp
    (fun a b x => op1 s x fun x => convertV E h nx a b x)            -- convert
    (fun _ _ => .fail)                                               -- sliceToArrayPointer
    (fun t x => op1 s x fun x => makeIfaceV E t x)                   -- makeInterface
    (fun fn first cap => makeFuncV s fn first.toList cap.toList)     -- makeFunc
    (fun t r => makeMapV E s h nx t r)                               -- makeMap
    (fun _ _ => .fail)                                               -- makeChan
    (fun t l c => op1 s l fun l => op1 s c fun c => makeSliceV E h nx t l c)   -- makeSlice
    (fun t x lo hi mx => op1 s x fun x => oV (sliceV E s h t x lo hi mx))      -- slice
    (fun t x i => op1 s x fun x => fieldAddrV E t x i)               -- fieldAddr
    (fun t x i => op1 s x fun x => fieldV E t x i)                   -- field
    (fun t x ix => op1 s x fun x => op1 s ix fun ix => oV (indexAddrV E t x ix))   -- indexAddr
    (fun t x ix => op1 s x fun x => op1 s ix fun ix => oV (indexV E t x ix))       -- index
    (fun t m k ok => op1 s m fun m => op1 s k fun k => oV (lookupV E h t m k ok))  -- lookup
    (fun t m k x => op1 s m fun m => op1 s k fun k => op1 s x fun x => mapUpdateV E h t m k x)   -- mapUpdate
    (fun t m k => op1 s m fun m => op1 s k fun k => mapEntryV E h nx t m k)        -- mapEntry
    (fun _ m st x => op1 s m fun m => op1 s st fun st => op1 s x fun x => entryStoreV h m st x)  -- entryStore
    (fun t x => op1 s x fun x => rangeV E h nx t x)                  -- range
    (fun it b => op1 s it fun it => nextV h nx it b)                 -- next
    (fun it => op1 s it fun it => oV (entryV h it))                  -- entry
    (fun x _ a ok => op1 s x fun x => typeAssertV E x a ok)          -- typeAssert
    (fun t i => op1 s t fun t => extractV t i)                       -- extract
    (fun c => callOp E s h nx c)                                     -- call
    (fun _ => .fail)                                                 -- go
    (fun c => deferOp s c)                                           -- defer
    (fun _ => .fail) (fun _ _ => .fail) (fun _ _ _ => .fail) (fun _ _ => .fail)   -- panic, send, recv, select
    o

/-! The evaluator -/
inductive Task where
  | code (c : Code)
  | scope (cur body : Code)
  | call (f : Nat) (args : List AV)

abbrev Rec := Task → PT AV → List ADef → Hp → Nat → R

def putT (s : PT AV) (d : Option Nat) (v : AV) : PT AV := Option.rec (motive := fun _ => PT AV) s (fun d => s.set d v) d
def wantedG (ops : List Oper) (s : PT AV) (g : Nat × Bool) : Option Bool :=
  match nth ops g.1 with
  | some o => match o.dst with
    | some d => match s.get d with
      | some v => match v with
        | .bool b => some (beqB b g.2)
        | .tuple _ => some false
        | _ => none
      | none => none
    | none => none
  | none => none
def doOp (rec : Rec) (pos : String) (dst : Option Nat) (k : PT AV → List ADef → Hp → Nat → R) (tm : PT AV) (df : List ADef) (h : Hp) (nx : Nat) (r : O) : R :=
  O.rec (motive := fun _ => R) (.fail pos)
    (fun v => k (putT tm dst v) df h nx)
    (fun v h nx => k (putT tm dst v) df h nx)
    (fun h => k (putT tm dst .undef) df h nx)
    (fun f args => R.rec (motive := fun _ => R) (fun w => .fail (pos ++ " < " ++ w)) (fun _ _ _ _ _ => .fail "?")
      (fun v h nx => k (putT tm dst v) df h nx) (rec (.call f args) .nil [] h nx))
    (fun d => k (putT tm dst .undef) (d :: df) h nx) r
def runOps (E : Env) (rec : Rec) (ops : List Oper) (l : List Oper) : PT AV → List ADef → Hp → Nat → R :=
  List.rec (motive := fun _ => PT AV → List ADef → Hp → Nat → R)
    (fun tm df h nx => .code .normal tm df h nx)
    (fun o _ ih tm df h nx => Oper.rec (motive := fun _ => R) (fun dst op' _ pos _ g =>
      Option.rec (motive := fun _ => Unit → R)
        (fun _ => doOp rec pos dst ih tm df h nx (op E tm h nx op'))
        (fun g _ => match wantedG ops tm g with
          | some b => match b with
            | true => doOp rec pos dst ih tm df h nx (op E tm h nx op')
            | false => ih (putT tm dst .undef) df h nx
          | none => .fail pos) g ()) o) l
/-! A region that draws its order: the text's order, and beside it: what only reads answers the same wherever it may come up between those that act. -/
/-- 0: looks at no memory; 1: may look at memory; 2: makes a block out of its operands alone; 3: acts -/
def cls (o : Op) : Nat :=
  Op.rec (motive := fun _ => Nat) (fun _ => 0) (fun _ => 0) (fun _ _ _ => 0) (fun _ => 2) (fun _ _ => 2) (fun _ _ => 0) (fun _ _ _ => 2)
    (fun _ _ _ _ => 3) (fun _ _ => 1) (fun _ _ _ => 3) (fun _ => 3) (fun _ => 3) (fun _ => 0) (fun _ _ _ _ _ => 1) (fun _ _ _ => 0) (fun _ _ _ => 1)
    (fun _ _ => 3) (fun _ _ => 0) (fun _ _ _ => 0) (fun _ _ => 2) (fun _ _ => 3) (fun _ _ _ => 2) (fun _ _ _ _ _ => 1) (fun _ _ _ => 0) (fun _ _ _ => 0)
    (fun _ _ _ => 0) (fun _ _ _ => 0) (fun _ _ _ _ => 1) (fun _ _ _ _ => 3) (fun _ _ _ => 3) (fun _ _ _ _ => 3) (fun _ _ => 3) (fun _ _ => 3) (fun _ => 3)
    (fun _ _ _ _ => 0) (fun _ _ => 0)
    (fun c => match c.callee with
      | .builtin b => match b with | .len => 1 | .cap => 0 | .min => 0 | .max => 0 | _ => 3
      | _ => 3)
    (fun _ => 3) (fun _ => 3) (fun _ => 3) (fun _ _ => 3) (fun _ _ _ => 3) (fun _ _ => 3) o
def bit (n i : Nat) : Bool := Nat.beq (Nat.mod (Nat.div n (Nat.pow 2 i)) 2) 1
/-- who comes ahead of each, by its edges and theirs (newest first in 'acc') -/
def edgesOr (acc : List Nat) (k : Nat) : List Edge → Nat → Nat
  | [], n => n
  | e :: es, n => match Region.binds .any e with
    | true => match Nat.blt e.on k with
      | true => match nth acc (Nat.sub (Nat.sub k 1) e.on) with
        | some m => edgesOr acc k es (Nat.lor (Nat.lor n m) (Nat.pow 2 e.on))
        | none => edgesOr acc k es n
      | false => edgesOr acc k es n
    | false => edgesOr acc k es n
def befs : List Oper → Nat → List Nat → List Nat
  | [], _, acc => acc
  | o :: l, k, acc => befs l (Nat.succ k) (edgesOr acc k o.after.toList 0 :: acc)
def clsOf (o : Oper) : Nat := cls o.op
/-- may the later one 'oj' (number j, ahead of it 'bj') stand so with the earlier 'oi' (number i)? -/
def pairOk (arr : Array Oper) (oi oj : Oper) (i bj : Nat) : Bool :=
  match bit bj i with
  | true => true
  | false => match oi.apart arr oj with
    | true => match clsOf oi with
      | 3 => match clsOf oj with | 3 => false | 2 => true | 1 => true | 0 => true | _ => false
      | 2 => match clsOf oj with | 1 => true | 0 => true | _ => false
      | 1 => true
      | 0 => true
      | _ => false
    | false => false
def pairsOk (arr : Array Oper) (oj : Oper) (bj : Nat) : List Oper → Nat → Bool
  | [], _ => true
  | oi :: l, i => match pairOk arr oi oj i bj with | true => pairsOk arr oj bj l (Nat.succ i) | false => false
/-- does number f (what comes ahead of it: bf) come behind all that act ahead of it? -/
def settled (bf : Nat) : List Oper → Nat → Bool
  | [], _ => true
  | o :: l, i => match clsOf o with
    | 3 => match bit bf i with | true => settled bf l (Nat.succ i) | false => false
    | _ => settled bf l (Nat.succ i)
/-- all behind number f that wait for it act -/
def onlyActs (f : Nat) : List Oper → List Nat → Bool
  | [], _ => true
  | o :: l, bs => match bs with
    | [] => false
    | b :: bs => match bit b f with
      | true => match clsOf o with
        | 3 => match o.guard with | none => onlyActs f l bs | some _ => false
        | _ => false
      | false => onlyActs f l bs
/-- none writes there -/
def noDst (d : Option Nat) : List Oper → Bool
  | [] => true
  | o :: l => match d with
    | none => true
    | some x => match o.dst with
      | none => noDst d l
      | some y => match Nat.beq x y with | true => false | false => noDst d l
def floatOk (all : List Oper) (o : Oper) (f bf : Nat) (l : List Oper) (bs : List Nat) : Bool :=
  match clsOf o with
  | 2 => match settled bf (all.take f) 0 with
    | true => true
    | false => match o.op with
      | .alloc _ => match onlyActs f l bs with
        | true => match noDst o.dst (all.take f) with
          | true => noDst o.dst l
          | false => false
        | false => false
      | _ => false
  | _ => true
def backOk (k : Nat) (l : List Edge) : Bool := l.all fun e => match Region.binds .any e with | true => Nat.blt e.on k | false => true
/-- all pairs: 'l': those from number j on; 'bs': their befs -/
def allOk (arr : Array Oper) (all : List Oper) : List Oper → List Nat → Nat → Bool
  | [], _, _ => true
  | oj :: l, bs, j => match bs with
    | b :: bs => match backOk j oj.after.toList with
      | true => match pairsOk arr oj b (all.take j) 0 with
        | true => match floatOk all oj j b l bs with
          | true => allOk arr all l bs (Nat.succ j)
          | false => false
        | false => false
      | false => false
    | [] => false
def revOnto : List Nat → List Nat → List Nat
  | [], acc => acc
  | x :: l, acc => revOnto l (x :: acc)
def befsOf (l : List Oper) : List Nat := revOnto (befs l 0 []) []
def drawOk (arr : Array Oper) : Bool := allOk arr arr.toList arr.toList (befsOf arr.toList) 0
/-- What became of an operation: the temporaries ahead of it, whether it was wanted, its value, how many had acted. -/
structure Tr where
  tm : PT AV
  run : Bool
  v : AV
  k : Nat
structure Sg where
  h : Hp
  nx : Nat
  df : List ADef
inductive P1 where
  | bad (why : String)
  | ok (trs : List Tr) (sts : List Sg) (tm : PT AV) (df : List ADef) (h : Hp) (nx : Nat)
def P1.cons (t : Tr) (p : P1) : P1 := match p with
  | .bad w => .bad w
  | .ok trs sts tm df h nx => .ok (t :: trs) sts tm df h nx
def P1.stage (g : Sg) (p : P1) : P1 := match p with
  | .bad w => .bad w
  | .ok trs sts tm df h' nx' => .ok trs (g :: sts) tm df h' nx'
def valR (df : List ADef) (r : R) : Option (AV × List ADef × Hp × Nat) :=
  R.rec (motive := fun _ => Option (AV × List ADef × Hp × Nat)) (fun _ => none) (fun _ _ _ _ _ => none) (fun v h nx => some (v, df, h, nx)) r
def actR (rec : Rec) (df : List ADef) (h : Hp) (nx : Nat) (r : O) : Option (AV × List ADef × Hp × Nat) :=
  match r with
  | .fail => none
  | .pv v => some (v, df, h, nx)
  | .val v h nx => some (v, df, h, nx)
  | .skip h => some (.undef, df, h, nx)
  | .enter f args => valR df (rec (.call f args) .nil [] h nx)
  | .defer d => some (.undef, d :: df, h, nx)
def wantO (ops : List Oper) (tm : PT AV) (o : Oper) : Option Bool := match o.guard with
  | none => some true
  | some g => wantedG ops tm g
def pvOf (r : O) : Option AV := match r with | .pv v => some v | _ => none
def phase1 (E : Env) (rec : Rec) (ops : List Oper) : List Oper → Nat → PT AV → List ADef → Hp → Nat → P1
  | [], _, tm, df, h, nx => .ok [] [⟨h, nx, df⟩] tm df h nx
  | o :: l, k, tm, df, h, nx => match wantO ops tm o with
    | none => .bad o.pos
    | some w => match w with
      | false => P1.cons ⟨tm, false, .undef, k⟩ (phase1 E rec ops l k (putT tm o.dst .undef) df h nx)
      | true => match clsOf o with
        | 0 => match pvOf (op E tm .nil nx o.op) with
          | some v => P1.cons ⟨tm, true, v, k⟩ (phase1 E rec ops l k (putT tm o.dst v) df h nx)
          | none => .bad o.pos
        | 1 => match pvOf (op E tm h nx o.op) with
          | some v => P1.cons ⟨tm, true, v, k⟩ (phase1 E rec ops l k (putT tm o.dst v) df h nx)
          | none => .bad o.pos
        | _ => match actR rec df h nx (op E tm h nx o.op) with
          | some (v, df', h', nx') => P1.cons ⟨tm, true, v, k⟩ (P1.stage ⟨h, nx, df⟩ (phase1 E rec ops l (Nat.succ k) (putT tm o.dst v) df' h' nx'))
          | none => .bad o.pos
/-- the stages at which number i (what comes ahead of it: bi) may come up -/
def spanOf (i bi : Nat) : List Oper → List Tr → List Nat → Nat → Nat → Nat → Nat × Nat
  | [], _, _, _, lo, hi => (lo, hi)
  | o :: l, ts, bs, j, lo, hi => match ts with
    | [] => (lo, hi)
    | t :: ts => match bs with
      | [] => (lo, hi)
      | b :: bs => match clsOf o with
        | 0 => spanOf i bi l ts bs (Nat.succ j) lo hi
        | 1 => spanOf i bi l ts bs (Nat.succ j) lo hi
        | _ => match t.run with
          | false => spanOf i bi l ts bs (Nat.succ j) lo hi
          | true => match bit bi j with
            | true => spanOf i bi l ts bs (Nat.succ j) (Nat.succ t.k) hi
            | false => match bit b i with
              | true => spanOf i bi l ts bs (Nat.succ j) lo (match Nat.ble t.k hi with | true => t.k | false => hi)
              | false => spanOf i bi l ts bs (Nat.succ j) lo hi
def isPv (v : AV) (r : O) : Bool := match r with | .pv u => beqV v u | _ => false
def sameAt (E : Env) (o : Op) (tm : PT AV) (v : AV) (lo hi : Nat) : List Sg → Nat → Bool
  | [], _ => true
  | g :: l, s => match Nat.ble lo s with
    | false => sameAt E o tm v lo hi l (Nat.succ s)
    | true => match Nat.ble s hi with
      | false => true
      | true => match isPv v (op E tm g.h g.nx o) with
        | true => sameAt E o tm v lo hi l (Nat.succ s)
        | false => false
def readOk (E : Env) (all : List Oper) (trs : List Tr) (bs : List Nat) (sts : List Sg) (o : Oper) (t : Tr) (b i : Nat) : Bool :=
  match clsOf o with
  | 1 => match t.run with
    | true => match spanOf i b all trs bs 0 0 (len sts) with
      | (lo, hi) => sameAt E o.op t.tm t.v lo hi sts 0
    | false => true
  | _ => true
def phase2 (E : Env) (all : List Oper) (trs : List Tr) (bs : List Nat) (sts : List Sg) : List Oper → List Tr → List Nat → Nat → Bool
  | [], _, _, _ => true
  | o :: l, ts, ks, i => match ts with
    | [] => false
    | t :: ts => match ks with
      | [] => false
      | b :: ks => match readOk E all trs bs sts o t b i with
        | true => phase2 E all trs bs sts l ts ks (Nat.succ i)
        | false => false
def drawEnd (E : Env) (all : List Oper) (p : P1) : R := match p with
  | .bad w => .fail w
  | .ok trs sts tm df h nx => match phase2 E all trs (befsOf all) sts all trs (befsOf all) 0 with
    | true => .code .normal tm df h nx
    | false => .fail "draw: read"
def region (E : Env) (rec : Rec) (ops : Array Oper) (draw : Bool) (tm : PT AV) (df : List ADef) (h : Hp) (nx : Nat) : R :=
  match draw with
  | false => runOps E rec ops.toList ops.toList tm df h nx
  | true => match drawOk ops with
    | true => drawEnd E ops.toList (phase1 E rec ops.toList ops.toList 0 tm df h nx)
    | false => .fail "draw"
def resultOf (E : Env) (h : Hp) (s : PT AV) (r : ResultVar) : Option AV :=
  match r with
  | .tmp t => s.get t
  | .cell a t => match s.get a with | some p => loadV E h t p | none => none
def resultsOf (E : Env) (h : Hp) (s : PT AV) : List ResultVar → Option (List AV)
  | [] => some []
  | r :: l => match resultOf E h s r with
    | some v => match resultsOf E h s l with
      | some x => some (v :: x)
      | none => none
    | none => none
def one (l : List AV) : AV :=
  match l with
  | [] => .tuple []
  | v :: r => match r with
    | [] => v
    | _ :: _ => .tuple l
def findByte (n c : Nat) : Nat → Nat → Option Nat
  | 0, _ => none
  | f + 1, i => match Nat.beq (byteAt n i) c with
    | true => some i
    | false => findByte n c f (Nat.succ i)
def countByte (n c : Nat) : Nat → Nat → Nat
  | 0, k => k
  | f + 1, k => match Nat.beq (Nat.mod n 256) c with
    | true => countByte (Nat.div n 256) c f (Nat.succ k)
    | false => countByte (Nat.div n 256) c f k
def findStr (n n' l' : Nat) : Nat → Nat → Option Nat
  | 0, _ => none
  | f + 1, i => match Nat.beq (strCut n i (Nat.add i l')) (Nat.mod n' (pow256 l')) with
    | true => some i
    | false => findStr n n' l' f (Nat.succ i)
def iOpt (x : Option Nat) : AV := match x with | some i => rI i | none => .int .i64 (.negSucc 0)
def extern (E : Env) (k : Nat) (args : List AV) (h : Hp) (nx : Nat) : R :=
  match k, args with
  | 1, [.str l n, .int .u8 (.ofNat c)] => match Nat.blt c 256 with | true => .val (iOpt (findByte n c l 0)) h nx | false => .fail "IndexByteString"
  | 2, [.str l n, .str l' n'] => -- compare
    .val (.int .i64 (match strLess (Nat.succ l) l n l' n' with | true => .negSucc 0 | false => match strLess (Nat.succ l') l' n' l n with | true => .ofNat 1 | false => .ofNat 0)) h nx
  | 3, [x] => .val x h nx -- NoEscape
  | 4, [.int .i64 (.ofNat n)] => match Nat.ble n 100000000 with | false => .fail "MakeNoZero" | true => .val (.sliceU nx 0 n 1) (h.set nx (.cells n [] .nil (some 0) E.u8)) (Nat.succ nx) -- MakeNoZero
  | 5, [.str l n, .int .u8 (.ofNat c)] => match Nat.blt c 256 with | true => .val (rI (countByte n c l 0)) h nx | false => .fail "CountString"
  | 6, [.iface t (.map r)] => match mapOf h r with -- maps.clone
    | some (es, c) => .val (.iface t (.map nx)) (h.set nx (.map es c)) (Nat.succ nx)
    | _ => .fail "maps.clone"
  | 7, [.str l n, .str l' n'] => match Nat.blt l 4294967281 with | true => .val (iOpt (findStr n n' l' (Nat.sub (Nat.succ l) l') 0)) h nx | false => .fail "Index" -- stringslite.Index
  | _, _ => .fail "extern"
def onCode (f : X → PT AV → List ADef → Hp → Nat → R) (r : R) : R :=
  R.rec (motive := fun _ => R) (fun w => .fail w) (fun x tm df h nx => f x tm df h nx) (fun _ _ _ => .fail "?") r
def seqK (rec : Rec) (b : Code) (x : X) (tm : PT AV) (df : List ADef) (h : Hp) (nx : Nat) : R :=
  X.rec (motive := fun _ => Unit → R) (fun _ => rec (.code b) tm df h nx) (fun i _ => .code (.exit i) tm df h nx) (fun l _ => .code (.goto l) tm df h nx) (fun _ => .code .ret tm df h nx) x ()
def blockK (id : Nat) (x : X) (tm : PT AV) (df : List ADef) (h : Hp) (nx : Nat) : R :=
  X.rec (motive := fun _ => R) (.code .normal tm df h nx) (fun i => Bool.rec (motive := fun _ => R) (.code (.exit i) tm df h nx) (.code .normal tm df h nx) (Nat.beq i id)) (fun l => .code (.goto l) tm df h nx) (.code .ret tm df h nx) x
def condK (rec : Rec) (a b : Code) (tm : PT AV) (df : List ADef) (h : Hp) (nx : Nat) (c : Option AV) : R :=
  match c with
  | some v => match v with
    | .bool t => Bool.rec (motive := fun _ => Unit → R) (fun _ => rec (.code b) tm df h nx) (fun _ => rec (.code a) tm df h nx) t ()
    | _ => .fail "cond"
  | none => .fail "cond"
def scopeK (rec : Rec) (b : Code) (x : X) (tm : PT AV) (df : List ADef) (h : Hp) (nx : Nat) : R :=
  match x with
  | .goto l => match findLabel b l with
    | some c => rec (.scope c b) tm df h nx
    | none => .code (.goto l) tm df h nx
  | x => .code x tm df h nx
def stepCode (E : Env) (rec : Rec) (c : Code) (tm : PT AV) (df : List ADef) (h : Hp) (nx : Nat) : R :=
  Code.rec (motive := fun _ => R)
    (.code .normal tm df h nx)
    (fun _ ops draw => region E rec ops draw tm df h nx)
    (fun a b _ _ => onCode (seqK rec b) (rec (.code a) tm df h nx))
    (fun c a b _ _ => condK rec a b tm df h nx (evalOp tm c))
    (fun id b _ => onCode (blockK id) (rec (.code b) tm df h nx))
    (fun b _ => onCode (seqK rec (.loop b)) (rec (.code b) tm df h nx))
    (fun _ _ _ _ _ _ => .fail "rangeFunc")
    (fun id => .code (.exit id) tm df h nx)
    (fun b _ => rec (.scope b b) tm df h nx)
    (fun _ => .code .normal tm df h nx)
    (fun l => .code (.goto l) tm df h nx)
    (.code .ret tm df h nx)
    (fun w => .fail w) c
def finish (E : Env) (rec : Rec) (fn : Func) (x : X) (tm : PT AV) (df : List ADef) (h : Hp) (nx : Nat) : R :=
  match x with
  | .goto _ => .fail "goto"
  | .exit _ => .fail "exit"
  | _ => match df with
    | [] => match resultsOf E h tm fn.results.toList with
      | some l => .val (one l) h nx
      | none => .fail ("results " ++ fn.name)
    | _ :: _ => match df.all (fun d => memN d.f E.dq) with
      | true => match resultsOf E h tm fn.results.toList with
        | some l => .val (one l) h nx
        | none => .fail ("results " ++ fn.name)
      | false => .fail "deferred"
/-! calls that were run ahead -/
mutual
def shV (k : Nat) : AV → AV
  | .ptr b o => .ptr (Nat.add b k) o
  | .slice b o l c => .slice (Nat.add b k) o l c
  | .sliceU b o l z => .sliceU (Nat.add b k) o l z
  | .sliceZ b o l z => .sliceZ (Nat.add b k) o l z
  | .map r => .map (Nat.add r k)
  | .func f a b => .func f (shVs k a) (shVs k b)
  | .iface t v => .iface t (shV k v)
  | .agg cs => .agg (shVs k cs)
  | .tuple vs => .tuple (shVs k vs)
  | .bool b => .bool b
  | .int t n => .int t n
  | .str l n => .str l n
  | .nilPtr => .nilPtr
  | .nilSlice => .nilSlice
  | .nilMap => .nilMap
  | .nilFunc => .nilFunc
  | .nilIface => .nilIface
  | .sym i => .sym i
def shVs (k : Nat) : List AV → List AV
  | [] => []
  | x :: l => shV k x :: shVs k l
end
def pairsT (k : Nat) : List (Nat × AV) → PT AV
  | [] => .nil
  | x :: l => (pairsT k l).set x.1 (shV k x.2)
def shEs (k : Nat) : List (AV × AV × Nat) → List (AV × AV × Nat)
  | [] => []
  | e :: l => (shV k e.1, shV k e.2.1, e.2.2) :: shEs k l
def mbO (k : Nat) : MB → AO
  | .cells n dz ps fz e => .cells n (shVs k dz) (pairsT k ps) fz e
  | .map es c => .map (shEs k es) c
def addBs (k : Nat) (h : Hp) : List (Nat × MB) → Hp
  | [] => h
  | x :: l => (addBs k h l).set (Nat.add x.1 k) (mbO k x.2)
def keyV (v : AV) : Nat :=
  match v with
  | .bool b => match b with | true => 1 | false => 2
  | .int _ z => match z with | .ofNat n => Nat.add 3 n | .negSucc n => Nat.add 7 n
  | .str _ n => n
  | _ => 5
def keyVs : List AV → Nat
  | [] => 0
  | v :: l => Nat.add (keyV v) (Nat.mul 31 (keyVs l))
def findM (key : Nat) (args : List AV) (l : List ME) : Option ME :=
  List.rec (motive := fun _ => Option ME) none (fun e _ ih => Bool.rec (motive := fun _ => Option ME) ih (Bool.rec (motive := fun _ => Option ME) ih (some e) (beqVs e.args args)) (Nat.beq e.key key)) l
def memoGet (E : Env) (f : Nat) (args : List AV) : Option ME :=
  Option.rec (motive := fun _ => Option ME) none (fun l => findM (keyVs args) args l) (E.memo.get f)
def stepCall (E : Env) (rec : Rec) (f : Nat) (args : List AV) (h : Hp) (nx : Nat) : R :=
  match memoGet E f args with
  | some e => .val (shV nx e.v) (addBs nx h e.bs) (Nat.add nx e.m)
  | none => match E.ext.get f with
    | some k => extern E k args h nx
    | none => match E.funcs.get f with
      | some fn => match fn.body with
        | some body => onCode (finish E rec fn) (rec (.code body) (PT.ofList args) [] h nx)
        | none => .fail ("no body " ++ fn.name)
      | none => .fail "no such function"
def step (E : Env) (rec : Rec) (t : Task) (tm : PT AV) (df : List ADef) (h : Hp) (nx : Nat) : R :=
  Task.rec (motive := fun _ => R)
    (fun c => stepCode E rec c tm df h nx)
    (fun cur b => onCode (scopeK rec b) (rec (.code cur) tm df h nx))
    (fun f args => stepCall E rec f args h nx) t

noncomputable def ev (E : Env) (n : Nat) : Rec := Nat.rec (motive := fun _ => Rec) (fun _ _ _ _ _ => .fail "fuel") (fun _ ih => step E ih) n


end Go.Ev
end
/-! THE EVALUATOR's SOUNDNESS, 1: trees, values, blocks. -/
namespace Go.Ev
open Go

/-! trees -/
namespace Pa
def dec : Pa → Nat
  | .e => 0
  | .l p => 2 * dec p + 1
  | .r p => 2 * dec p + 2
theorem dec_pa : ∀ (f n : Nat), n ≤ f → dec (pa f n) = n := by
  intro f
  induction f with
  | zero => intro n h; have : n = 0 := by omega
            subst this; rfl
  | succ f ih =>
    intro n h
    cases n with
    | zero => rfl
    | succ m =>
      have hd : m / 2 ≤ f := by omega
      show dec (Nat.rec (motive := fun _ => Pa) (.l (pa f (m / 2))) (fun _ _ => .r (pa f (m / 2))) (m % 2)) = m + 1
      rcases Nat.mod_two_eq_zero_or_one m with h2 | h2
      · rw [h2]; show 2 * dec (pa f (m / 2)) + 1 = m + 1; rw [ih _ hd]; omega
      · rw [h2]; show 2 * dec (pa f (m / 2)) + 2 = m + 1; rw [ih _ hd]; omega
end Pa
theorem pa_inj {f g n m : Nat} (hn : n ≤ f) (hm : m ≤ g) (h : pa f n = pa g m) : n = m := by
  rw [← Pa.dec_pa f n hn, ← Pa.dec_pa g m hm, h]
namespace BT
variable {α : Type}
theorem getP_nil (p : Pa) : getP p (BT.nil : BT α) = none := by
  induction p with
  | e => rfl
  | l p ih => exact ih
  | r p ih => exact ih
theorem getP_putP_same (v : Option α) (p : Pa) : ∀ t : BT α, getP p (putP v p t) = v := by
  induction p with
  | e => intro t; cases t <;> rfl
  | l p ih => intro t; cases t with
    | nil => exact ih .nil
    | node l x r => exact ih l
  | r p ih => intro t; cases t with
    | nil => exact ih .nil
    | node l x r => exact ih r
theorem getP_putP_ne (v : Option α) (p : Pa) : ∀ (q : Pa) (t : BT α), p ≠ q → getP q (putP v p t) = getP q t := by
  induction p with
  | e =>
    intro q t h
    cases q with
    | e => exact absurd rfl h
    | l q => cases t <;> rfl
    | r q => cases t <;> rfl
  | l p ih =>
    intro q t h
    cases q with
    | e => cases t <;> rfl
    | l q =>
      have hne : p ≠ q := fun e => h (by rw [e])
      cases t with
      | nil => exact ih q .nil hne
      | node l x r => exact ih q l hne
    | r q => cases t with
      | nil => rfl
      | node l x r => rfl
  | r p ih =>
    intro q t h
    cases q with
    | e => cases t <;> rfl
    | r q =>
      have hne : p ≠ q := fun e => h (by rw [e])
      cases t with
      | nil => exact ih q .nil hne
      | node l x r => exact ih q r hne
    | l q => cases t with
      | nil => rfl
      | node l x r => rfl
end BT
namespace D8
def toN : D8 → Nat
  | .d0 => 0
  | .d1 => 1
  | .d2 => 2
  | .d3 => 3
  | .d4 => 4
  | .d5 => 5
  | .d6 => 6
  | .d7 => 7
end D8
theorem digit_toN {n : Nat} (h : n < 8) : (digit n).toN = n := by
  have all : ∀ n : Fin 8, (digit n.1).toN = n.1 := by decide
  exact all ⟨n, h⟩
namespace N8
variable {β : Type}
theorem get_nil (e : β) (d : D8) : get e d N8.nil = e := rfl
theorem get_put_same (e : β) (d : D8) (v : β) (t : N8 β) : (t.put e d v).get e d = v := by
  cases t <;> cases d <;> rfl
theorem get_put_ne (e : β) {d d' : D8} (h : d ≠ d') (v : β) (t : N8 β) : (t.put e d v).get e d' = t.get e d' := by
  cases t <;> cases d <;> cases d' <;> first | rfl | exact absurd rfl h
end N8
namespace Path
def dec : Path → Nat
  | .p1 d => 0 + d.toN
  | .p2 d e => 8 + (d.toN * 8 + e.toN)
  | .p3 d e f => 72 + ((d.toN * 8 + e.toN) * 8 + f.toN)
  | .p5 d e f g i => 584 + ((((d.toN * 8 + e.toN) * 8 + f.toN) * 8 + g.toN) * 8 + i.toN)
  | .big n => n
end Path
theorem path_dec (n : Nat) : (path n).dec = n := by
  show (Bool.rec (motive := fun _ => Path) _ _ (Nat.blt n 8) : Path).dec = n
  cases h1 : Nat.blt n 8 with
  | true =>
    have h : n < 8 := Nat.le_of_ble_eq_true h1
    show 0 + (digit n).toN = n
    rw [digit_toN (by omega)]; omega
  | false =>
    have g1 : ¬ n < 8 := fun h => by rw [show Nat.blt n 8 = true from Nat.ble_eq_true_of_le h] at h1; cases h1
    show (Bool.rec (motive := fun _ => Path) _ _ (Nat.blt n 72) : Path).dec = n
    cases h2 : Nat.blt n 72 with
    | true =>
      have h : n < 72 := Nat.le_of_ble_eq_true h2
      show 8 + ((digit ((n - 8) / 8)).toN * 8 + (digit ((n - 8) % 8)).toN) = n
      rw [digit_toN (by omega), digit_toN (by omega)]; omega
    | false =>
      have g2 : ¬ n < 72 := fun h => by rw [show Nat.blt n 72 = true from Nat.ble_eq_true_of_le h] at h2; cases h2
      show (Bool.rec (motive := fun _ => Path) _ _ (Nat.blt n 584) : Path).dec = n
      cases h3 : Nat.blt n 584 with
      | true =>
        have h : n < 584 := Nat.le_of_ble_eq_true h3
        show 72 + (((digit ((n - 72) / 64)).toN * 8 + (digit (((n - 72) / 8) % 8)).toN) * 8 + (digit ((n - 72) % 8)).toN) = n
        rw [digit_toN (by omega), digit_toN (by omega), digit_toN (by omega)]; omega
      | false =>
        have g3 : ¬ n < 584 := fun h => by rw [show Nat.blt n 584 = true from Nat.ble_eq_true_of_le h] at h3; cases h3
        show (Bool.rec (motive := fun _ => Path) _ _ (Nat.blt n 33352) : Path).dec = n
        cases h5 : Nat.blt n 33352 with
        | true =>
          have h : n < 33352 := Nat.le_of_ble_eq_true h5
          show 584 + (((((digit ((n - 584) / 4096)).toN * 8 + (digit (((n - 584) / 512) % 8)).toN) * 8 + (digit (((n - 584) / 64) % 8)).toN) * 8 + (digit (((n - 584) / 8) % 8)).toN) * 8 + (digit ((n - 584) % 8)).toN) = n
          rw [digit_toN (by omega), digit_toN (by omega), digit_toN (by omega), digit_toN (by omega), digit_toN (by omega)]; omega
        | false =>
          have g5 : ¬ n < 33352 := fun h => by rw [show Nat.blt n 33352 = true from Nat.ble_eq_true_of_le h] at h5; cases h5
          rfl
theorem path_inj {n m : Nat} (h : path n = path m) : n = m := by rw [← path_dec n, ← path_dec m, h]
theorem path_big {n k : Nat} (h : path n = .big k) : k = n := by have := path_dec n; rw [h] at this; exact this
namespace PT
variable {α : Type}
theorem get_nil' (p : Path) : getP p (PT.nil : PT α) = none := by
  cases p with
  | p1 d => rfl
  | p2 d e => rfl
  | p3 d e f => rfl
  | p5 d e f g i => rfl
  | big n => exact BT.getP_nil _
@[simp] theorem get_nil (n : Nat) : (PT.nil : PT α).get n = none := get_nil' _
theorem get_put_same (v : Option α) (t : PT α) (n : Nat) : (put v t n).get n = v := by
  unfold get put
  generalize path n = p
  cases p with
  | p1 d =>
    show ((((pA t).put none d _).get none d) : Option α) = v
    rw [N8.get_put_same]
  | p2 d e =>
    show (((((pB t).put .nil d _).get .nil d).get none e) : Option α) = v
    rw [N8.get_put_same, N8.get_put_same]
  | p3 d e f =>
    show ((((((pC t).put .nil d _).get .nil d).get .nil e).get none f) : Option α) = v
    rw [N8.get_put_same, N8.get_put_same, N8.get_put_same]
  | p5 d e f g i =>
    show ((((((((pD t).put .nil d _).get .nil d).get .nil e).get .nil f).get .nil g).get none i) : Option α) = v
    rw [N8.get_put_same, N8.get_put_same, N8.get_put_same, N8.get_put_same, N8.get_put_same]
  | big n => exact BT.getP_putP_same ..
theorem get_put_ne (v : Option α) (t : PT α) {n m : Nat} (h : n ≠ m) : (put v t n).get m = t.get m := by
  unfold get put
  have hp : path n ≠ path m := fun e => h (path_inj e)
  generalize hn : path n = p at hp
  generalize hm : path m = q at hp
  cases p with
  | p1 d =>
    cases q with
    | p1 d' =>
      show ((((pA t).put none d _).get none d') : Option α) = ((pA t).get none d')
      rw [N8.get_put_ne _ (fun e => hp (by rw [e]))]
    | _ => rfl
  | p2 d e =>
    cases q with
    | p2 d' e' =>
      show (((((pB t).put .nil d _).get .nil d').get none e') : Option α) = (((pB t).get .nil d').get none e')
      by_cases h0 : d = d'
      case neg => rw [N8.get_put_ne _ h0]
      subst h0
      rw [N8.get_put_same]
      rw [N8.get_put_ne _ (fun e => hp (by rw [e]))]
    | _ => rfl
  | p3 d e f =>
    cases q with
    | p3 d' e' f' =>
      show ((((((pC t).put .nil d _).get .nil d').get .nil e').get none f') : Option α) = ((((pC t).get .nil d').get .nil e').get none f')
      by_cases h0 : d = d'
      case neg => rw [N8.get_put_ne _ h0]
      subst h0
      rw [N8.get_put_same]
      by_cases h1 : e = e'
      case neg => rw [N8.get_put_ne _ h1]
      subst h1
      rw [N8.get_put_same]
      rw [N8.get_put_ne _ (fun e => hp (by rw [e]))]
    | _ => rfl
  | p5 d e f g i =>
    cases q with
    | p5 d' e' f' g' i' =>
      show ((((((((pD t).put .nil d _).get .nil d').get .nil e').get .nil f').get .nil g').get none i') : Option α) = ((((((pD t).get .nil d').get .nil e').get .nil f').get .nil g').get none i')
      by_cases h0 : d = d'
      case neg => rw [N8.get_put_ne _ h0]
      subst h0
      rw [N8.get_put_same]
      by_cases h1 : e = e'
      case neg => rw [N8.get_put_ne _ h1]
      subst h1
      rw [N8.get_put_same]
      by_cases h2 : f = f'
      case neg => rw [N8.get_put_ne _ h2]
      subst h2
      rw [N8.get_put_same]
      by_cases h3 : g = g'
      case neg => rw [N8.get_put_ne _ h3]
      subst h3
      rw [N8.get_put_same]
      rw [N8.get_put_ne _ (fun e => hp (by rw [e]))]
    | _ => rfl
  | big k =>
    cases q with
    | big k' =>
      have e1 := path_big hn
      have e2 := path_big hm
      subst e1 e2
      exact BT.getP_putP_ne _ _ _ _ fun e => h (pa_inj (Nat.le_succ k) (Nat.le_succ k') e)
    | _ => rfl
@[simp] theorem get_set_same (t : PT α) (n : Nat) (v : α) : (t.set n v).get n = some v := get_put_same _ _ _
theorem get_set_ne (t : PT α) {n m : Nat} (v : α) (h : n ≠ m) : (t.set n v).get m = t.get m := get_put_ne _ _ h
theorem get_set (t : PT α) (n m : Nat) (v : α) : (t.set n v).get m = if n = m then some v else t.get m := by
  by_cases h : n = m
  · subst h; simp
  · rw [if_neg h]; exact get_set_ne t v h
@[simp] theorem get_del_same (t : PT α) (n : Nat) : (t.del n).get n = none := get_put_same _ _ _
theorem get_del_ne (t : PT α) {n m : Nat} (h : n ≠ m) : (t.del n).get m = t.get m := get_put_ne _ _ h
theorem get_del (t : PT α) (n m : Nat) : (t.del n).get m = if n = m then none else t.get m := by
  by_cases h : n = m
  · subst h; simp
  · rw [if_neg h]; exact get_del_ne t h
theorem get_ofListFrom : ∀ (l : List α) (i : Nat) (t : PT α) (m : Nat),
    (ofListFrom i l t).get m = if i ≤ m ∧ m < i + l.length then l[m - i]? else t.get m := by
  intro l
  induction l with
  | nil => intro i t m; show t.get m = _; rw [if_neg (by simp only [List.length_nil]; omega)]
  | cons x l ih =>
    intro i t m
    show (ofListFrom (i + 1) l (t.set i x)).get m = _
    rw [ih, get_set]
    by_cases h : i = m
    · subst h
      rw [if_neg (by omega), if_pos rfl, if_pos (by simp), Nat.sub_self]; rfl
    · by_cases h2 : i + 1 ≤ m ∧ m < i + 1 + l.length
      · rw [if_pos h2, if_pos (by simp; omega)]
        obtain ⟨k, rfl⟩ : ∃ k, m = i + 1 + k := ⟨m - (i + 1), by omega⟩
        rw [show i + 1 + k - i = k + 1 from by omega, show i + 1 + k - (i + 1) = k from by omega]; rfl
      · rw [if_neg h2, if_neg h, if_neg (by simp; omega)]
theorem get_ofList (l : List α) (m : Nat) : (ofList l).get m = l[m]? := by
  unfold ofList
  rw [get_ofListFrom]
  by_cases h : m < l.length
  · rw [if_pos (by omega)]; simp
  · rw [if_neg (by omega), get_nil, List.getElem?_eq_none (by omega)]
end PT
@[simp] theorem nth_eq {α : Type} (l : List α) : ∀ n, nth l n = l[n]? := by
  induction l with
  | nil => intro n; rfl
  | cons x l ih => intro n; cases n with
    | zero => rfl
    | succ n => exact ih n
@[simp] theorem len_eq {α : Type} (l : List α) : len l = l.length := by
  induction l with
  | nil => rfl
  | cons x l ih => show Nat.succ (len l) = _; rw [ih]; rfl

/-! bytes -/
def bytesL : Nat → Nat → List UInt8
  | 0, _ => []
  | k + 1, n => UInt8.ofNat (n % 256) :: bytesL k (n / 256)
def toBA (l n : Nat) : ByteArray := ⟨(bytesL l n).toArray⟩
@[simp] theorem bytesL_length : ∀ (l n : Nat), (bytesL l n).length = l
  | 0, _ => rfl
  | k + 1, n => by simp [bytesL, bytesL_length k]
@[simp] theorem toBA_size (l n : Nat) : (toBA l n).size = l := by simp [toBA, ByteArray.size]
theorem bytesL_get : ∀ (l n i : Nat), i < l → (bytesL l n)[i]? = some (UInt8.ofNat (n / 256 ^ i % 256))
  | 0, _, _, h => by omega
  | k + 1, n, 0, _ => by simp [bytesL]
  | k + 1, n, i + 1, h => by
    have := bytesL_get k (n / 256) i (by omega)
    simp only [bytesL, List.getElem?_cons_succ, this]
    rw [Nat.div_div_eq_div_mul, Nat.pow_succ, Nat.mul_comm (256 ^ i) 256]

/-! values -/
structure Rho where
  ι : Nat → Nat
  β : Nat → Nat
  sz : Nat → Nat
  sym : Nat → Value
  one : ∀ i, (sym i).oneCell' = true
  zero : ∀ b, β b = 0
def Rho.at (ρ : Rho) (b o : Nat) : Addr := ⟨ρ.ι b, ρ.β b + o, none⟩
def Rho.cap (ρ : Rho) (b o z : Nat) : Nat := (ρ.sz b - (ρ.β b + o)) / z
mutual
def conc (ρ : Rho) : AV → Value
  | .bool b => .bool b
  | .int k n => .int k n
  | .str l n => .string (toBA l n)
  | .ptr b o => .pointer (some (ρ.at b o))
  | .nilPtr => .pointer none
  | .slice b o l c => .slice (some (ρ.at b o)) l c
  | .sliceU b o l z => .slice (some (ρ.at b o)) l (ρ.cap b o z)
  | .sliceZ b o l z => .slice (some (if ρ.cap b o z = l then ρ.at b o else ρ.at b (o + l * z))) 0 (ρ.cap b o z - l)
  | .nilSlice => .slice none 0 0
  | .map r => .map (some (ρ.ι r))
  | .nilMap => .map none
  | .func f a b => .func (.func f) (concs ρ a).toArray (concs ρ b).toArray
  | .nilFunc => .nilFunc
  | .iface t v => .iface t (conc ρ v)
  | .nilIface => .nilIface
  | .agg cs => .agg (concs ρ cs).toArray
  | .tuple vs => .tuple (concs ρ vs).toArray
  | .sym i => ρ.sym i
def concs (ρ : Rho) : List AV → List Value
  | [] => []
  | x :: l => conc ρ x :: concs ρ l
end
theorem concs_eq (ρ : Rho) (l : List AV) : concs ρ l = l.map (conc ρ) := by
  induction l with
  | nil => simp [concs]
  | cons x l ih => simp [concs, ih]
@[simp] theorem conc_undef (ρ : Rho) : conc ρ .undef = undef := by simp [AV.undef, conc, concs, undef]
mutual
def Sc (nx : Nat) : AV → Prop
  | .ptr b _ => b < nx  -- all blocks that a value names are below nx
  | .slice b _ _ _ => b < nx
  | .sliceU b _ _ _ => b < nx
  | .sliceZ b _ _ _ => b < nx
  | .map r => r < nx
  | .func _ a b => Scs nx a ∧ Scs nx b
  | .iface _ v => Sc nx v
  | .agg cs => Scs nx cs
  | .tuple vs => Scs nx vs
  | _ => True
def Scs (nx : Nat) : List AV → Prop
  | [] => True
  | x :: l => Sc nx x ∧ Scs nx l
end
theorem Scs_iff {nx : Nat} {l : List AV} : Scs nx l ↔ ∀ x ∈ l, Sc nx x := by
  induction l with
  | nil => simp [Scs]
  | cons x l ih => simp [Scs, ih]
mutual
theorem Sc.mono {nx nx' : Nat} (h : nx ≤ nx') : ∀ v, Sc nx v → Sc nx' v
  | .ptr b _, hv => Nat.lt_of_lt_of_le hv h
  | .slice b _ _ _, hv => Nat.lt_of_lt_of_le hv h
  | .sliceU b _ _ _, hv => Nat.lt_of_lt_of_le hv h
  | .sliceZ b _ _ _, hv => Nat.lt_of_lt_of_le hv h
  | .map r, hv => Nat.lt_of_lt_of_le hv h
  | .func _ a b, hv => ⟨Scs.mono h a hv.1, Scs.mono h b hv.2⟩
  | .iface _ v, hv => Sc.mono h v hv
  | .agg cs, hv => Scs.mono h cs hv
  | .tuple vs, hv => Scs.mono h vs hv
  | .bool _, _ => trivial
  | .int _ _, _ => trivial
  | .str _ _, _ => trivial
  | .nilPtr, _ => trivial
  | .nilSlice, _ => trivial
  | .nilMap, _ => trivial
  | .nilFunc, _ => trivial
  | .nilIface, _ => trivial
  | .sym _, _ => trivial
theorem Scs.mono {nx nx' : Nat} (h : nx ≤ nx') : ∀ l, Scs nx l → Scs nx' l
  | [], _ => trivial
  | x :: l, hv => ⟨Sc.mono h x hv.1, Scs.mono h l hv.2⟩
end
structure Ext (nx : Nat) (ρ ρ' : Rho) : Prop where
  ι : ∀ b, b < nx → ρ'.ι b = ρ.ι b
  β : ∀ b, b < nx → ρ'.β b = ρ.β b
  sz : ∀ b, b < nx → ρ'.sz b = ρ.sz b
  sym : ρ'.sym = ρ.sym
theorem Ext.refl (nx : Nat) (ρ : Rho) : Ext nx ρ ρ := ⟨fun _ _ => rfl, fun _ _ => rfl, fun _ _ => rfl, rfl⟩
theorem Ext.trans {nx nx' : Nat} {ρ ρ' ρ'' : Rho} (h : Ext nx ρ ρ') (hn : nx ≤ nx') (h' : Ext nx' ρ' ρ'') : Ext nx ρ ρ'' :=
  ⟨fun b hb => (h'.ι b (by omega)).trans (h.ι b hb), fun b hb => (h'.β b (by omega)).trans (h.β b hb), fun b hb => (h'.sz b (by omega)).trans (h.sz b hb), h'.sym.trans h.sym⟩
theorem Ext.at {nx : Nat} {ρ ρ' : Rho} (h : Ext nx ρ ρ') {b o : Nat} (hb : b < nx) : ρ'.at b o = ρ.at b o := by
  unfold Rho.at; rw [h.ι b hb, h.β b hb]
theorem Ext.cap {nx : Nat} {ρ ρ' : Rho} (h : Ext nx ρ ρ') {b o z : Nat} (hb : b < nx) : ρ'.cap b o z = ρ.cap b o z := by
  unfold Rho.cap; rw [h.sz b hb, h.β b hb]
mutual
theorem conc_ext {nx : Nat} {ρ ρ' : Rho} (h : Ext nx ρ ρ') : ∀ v, Sc nx v → conc ρ' v = conc ρ v
  | .ptr b _, hv => by simp only [conc, h.at (show b < nx from hv)]
  | .slice b _ _ _, hv => by simp only [conc, h.at (show b < nx from hv)]
  | .sliceU b _ _ _, hv => by simp only [conc, h.at (show b < nx from hv), h.cap (show b < nx from hv)]
  | .sliceZ b _ _ _, hv => by simp only [conc, h.at (show b < nx from hv), h.cap (show b < nx from hv)]
  | .map r, hv => by simp only [conc, h.ι r hv]
  | .func _ a b, hv => by simp only [conc, concs_ext h a hv.1, concs_ext h b hv.2]
  | .iface _ v, hv => by simp only [conc, conc_ext h v hv]
  | .agg cs, hv => by simp only [conc, concs_ext h cs hv]
  | .tuple vs, hv => by simp only [conc, concs_ext h vs hv]
  | .bool _, _ => by simp only [conc]
  | .int _ _, _ => by simp only [conc]
  | .str _ _, _ => by simp only [conc]
  | .nilPtr, _ => by simp only [conc]
  | .nilSlice, _ => by simp only [conc]
  | .nilMap, _ => by simp only [conc]
  | .nilFunc, _ => by simp only [conc]
  | .nilIface, _ => by simp only [conc]
  | .sym _, _ => by simp only [conc, h.sym]
theorem concs_ext {nx : Nat} {ρ ρ' : Rho} (h : Ext nx ρ ρ') : ∀ l, Scs nx l → concs ρ' l = concs ρ l
  | [], _ => by simp only [concs]
  | x :: l, hv => by simp only [concs, conc_ext h x hv.1, concs_ext h l hv.2]
end
theorem cells_conc (ρ : Rho) (v : AV) : (conc ρ v).cells = (concs ρ v.cells).toArray := by
  cases v <;> simp [AV.cells, conc, Value.cells, concs]
  rename_i i
  have := ρ.one i
  cases h : ρ.sym i <;> simp [h, Value.oneCell'] at this ⊢
theorem oneCell_conc (ρ : Rho) : ∀ l : List AV, allOne l = true → ∀ v ∈ concs ρ l, v.oneCell' = true
  | [], _, v, hv => by simp [concs] at hv
  | x :: l, h, v, hv => by
    simp only [concs, List.mem_cons] at hv
    have hl : allOne l = true := by cases x <;> simp_all [allOne]
    rcases hv with rfl | hv
    · cases x <;> simp_all [allOne, conc, Value.oneCell']
      exact ρ.one _
    · exact oneCell_conc ρ l hl v hv
end Go.Ev
/-! THE EVALUATOR's SOUNDNESS, 2: heaps. -/
namespace Go.Ev
open Go

def FzOk (β sz : Nat) (fz : Option Nat) (fr : Nat × Nat) : Prop :=
  match fz with
  | some k => fr.1 = fr.2 ∨ fr.2 ≤ β + k
  | none => fr.1 = fr.2 ∨ sz ≤ fr.1
def centry (ρ : Rho) (e : AV × AV × Nat) : MapEntry := ⟨conc ρ e.1, conc ρ e.2.1, e.2.2⟩
def Ses (nx : Nat) (es : List (AV × AV × Nat)) : Prop := ∀ e ∈ es, Sc nx e.1 ∧ Sc nx e.2.1
def ORel (ρ : Rho) (nx b : Nat) (o : AO) (w : World) : Prop :=
  match o with
  | .cells n dz t fz e => ∃ c fr, w.heap[ρ.ι b]? = some (.cells c e fr) ∧ c.size = ρ.sz b ∧ ρ.β b + n ≤ c.size ∧ FzOk (ρ.β b) c.size fz fr ∧
      ∀ i v, i < n → cellAt dz t i = some v → Sc nx v ∧ c[ρ.β b + i]? = some (conc ρ v)
  | .map es clock => Ses nx es ∧ w.heap[ρ.ι b]? = some (.map (es.map (centry ρ)).toArray clock)
  | .strIter l n p => ρ.β b = 0 ∧ w.heap[ρ.ι b]? = some (.stringIter (toBA l n) p)
  | .mapIter m since seen st => ρ.β b = 0 ∧ (∀ r, m = some r → r < nx) ∧ w.heap[ρ.ι b]? = some (.mapIter (m.map ρ.ι) since seen.toArray st)
/-- The block of internal/bytealg.MaxLen. -/
def gB0 : Nat := 0
def GlobW (w : World) : Prop := ∃ m e fr, w.heap[gB0]? = some (.cells #[.int .i64 m] e fr)
theorem GlobW.lt {w : World} (h : GlobW w) : gB0 < w.heap.size := let ⟨_, _, _, h⟩ := h; (Array.getElem?_eq_some_iff.1 h).1
theorem GlobW.keep {w w' : World} (h : GlobW w) (e : w'.heap[gB0]? = w.heap[gB0]?) : GlobW w' := let ⟨m, t, fr, h⟩ := h; ⟨m, t, fr, e.trans h⟩
structure HR (ρ : Rho) (h : Hp) (nx : Nat) (w : World) : Prop where
  glob : GlobW w
  away : ∀ b o, h.get b = some o → ρ.ι b ≠ gB0
  obj : ∀ b o, h.get b = some o → b < nx ∧ ORel ρ nx b o w
  inj : ∀ b b' o o', h.get b = some o → h.get b' = some o' → ρ.ι b = ρ.ι b' → b = b'
def Live (h : Hp) (b : Nat) : Prop := ∃ o, h.get b = some o
/-- What is outside stays. -/
def SameOut (w w' : World) : Prop := w'.os = w.os ∧ w'.output = w.output
theorem SameOut.refl (w : World) : SameOut w w := ⟨rfl, rfl⟩
theorem SameOut.trans {w w' w'' : World} (a : SameOut w w') (b : SameOut w' w'') : SameOut w w'' := ⟨b.1.trans a.1, b.2.trans a.2⟩
structure Step (ρ : Rho) (h : Hp) (nx : Nat) (w : World) (ρ' : Rho) (h' : Hp) (nx' : Nat) (w' : World) : Prop where
  le : nx ≤ nx'
  ext : Ext nx ρ ρ'
  hr : HR ρ' h' nx' w'
  size : w.heap.size ≤ w'.heap.size
  old : ∀ B, B < w.heap.size → (∀ b, Live h b → ρ.ι b ≠ B) → w'.heap[B]? = w.heap[B]?
  new : ∀ b, Live h' b → w.heap.size ≤ ρ'.ι b ∨ ∃ b', Live h b' ∧ ρ'.ι b = ρ.ι b'
  out : SameOut w w'
theorem ORel.lt {ρ : Rho} {nx b : Nat} {o : AO} {w : World} (h : ORel ρ nx b o w) : ρ.ι b < w.heap.size := by
  have key : ∀ x, w.heap[ρ.ι b]? = some x → ρ.ι b < w.heap.size := fun x hx => (Array.getElem?_eq_some_iff.1 hx).1
  cases o with
  | cells n dz t fz e => obtain ⟨c, fr, h1, _⟩ := h; exact key _ h1
  | map es clock => exact key _ h.2
  | strIter l n p => exact key _ h.2
  | mapIter m since seen st => exact key _ h.2.2
theorem HR.lt {ρ : Rho} {h : Hp} {nx : Nat} {w : World} (H : HR ρ h nx w) {b : Nat} (hb : Live h b) : ρ.ι b < w.heap.size :=
  let ⟨_, ho⟩ := hb; ((H.obj _ _ ho).2).lt
theorem Ses.ext {nx nx' : Nat} {ρ ρ' : Rho} {es : List (AV × AV × Nat)} (he : Ext nx ρ ρ') (h : Ses nx es) : es.map (centry ρ') = es.map (centry ρ) := by
  refine List.map_congr_left fun e hm => ?_
  obtain ⟨h1, h2⟩ := h e hm
  unfold centry
  rw [conc_ext he _ h1, conc_ext he _ h2]
theorem Ses.mono {nx nx' : Nat} (hle : nx ≤ nx') {es : List (AV × AV × Nat)} (h : Ses nx es) : Ses nx' es :=
  fun e hm => ⟨Sc.mono hle _ (h e hm).1, Sc.mono hle _ (h e hm).2⟩
theorem ORel.keep {ρ ρ' : Rho} {nx nx' b : Nat} {o : AO} {w w' : World} (hb : b < nx) (hle : nx ≤ nx') (he : Ext nx ρ ρ')
    (hw : w'.heap[ρ.ι b]? = w.heap[ρ.ι b]?) (h : ORel ρ nx b o w) : ORel ρ' nx' b o w' := by
  cases o with
  | cells n dz t fz e =>
    obtain ⟨c, fr, h1, h2, h3, h4, h5⟩ := h
    refine ⟨c, fr, ?_, ?_, ?_, ?_, fun i v hi hv => ?_⟩
    · rw [he.ι b hb, hw, h1]
    · rw [h2, he.sz b hb]
    · rw [he.β b hb]; exact h3
    · rw [he.β b hb]; exact h4
    · obtain ⟨h6, h7⟩ := h5 i v hi hv
      exact ⟨Sc.mono hle v h6, by rw [he.β b hb, conc_ext he v h6]; exact h7⟩
  | map es clock =>
    refine ⟨h.1.mono hle, ?_⟩
    rw [he.ι b hb, hw, h.2, Ses.ext (nx' := nx') he h.1]
  | strIter l n p => refine ⟨by rw [he.β b hb]; exact h.1, ?_⟩; rw [he.ι b hb, hw]; exact h.2
  | mapIter m since seen st =>
    refine ⟨by rw [he.β b hb]; exact h.1, fun r hr => Nat.lt_of_lt_of_le (h.2.1 r hr) hle, ?_⟩
    rw [he.ι b hb, hw, h.2.2]
    cases m with
    | none => rfl
    | some r => simp only [Option.map_some]; rw [he.ι r (h.2.1 r rfl)]
theorem Step.refl {ρ : Rho} {h : Hp} {nx : Nat} {w : World} (H : HR ρ h nx w) : Step ρ h nx w ρ h nx w :=
  ⟨Nat.le_refl _, Ext.refl _ _, H, Nat.le_refl _, fun _ _ _ => rfl, fun b hb => .inr ⟨b, hb, rfl⟩, SameOut.refl w⟩
theorem Step.trans {ρ ρ' ρ'' : Rho} {h h' h'' : Hp} {nx nx' nx'' : Nat} {w w' w'' : World}
    (a : Step ρ h nx w ρ' h' nx' w') (b : Step ρ' h' nx' w' ρ'' h'' nx'' w'') : Step ρ h nx w ρ'' h'' nx'' w'' := by
  refine ⟨Nat.le_trans a.le b.le, a.ext.trans a.le b.ext, b.hr, Nat.le_trans a.size b.size, fun B hB hn => ?_, fun c hc => ?_, a.out.trans b.out⟩
  · rw [b.old B (Nat.lt_of_lt_of_le hB a.size) fun c hc e => ?_, a.old B hB hn]
    rcases a.new c hc with h1 | ⟨c', h1, h2⟩
    · omega
    · exact hn c' h1 (h2 ▸ e)
  · rcases b.new c hc with h1 | ⟨c', h1, h2⟩
    · exact .inl (Nat.le_trans a.size h1)
    · rcases a.new c' h1 with h3 | ⟨c'', h3, h4⟩
      · exact .inl (by omega)
      · exact .inr ⟨c'', h3, h2.trans h4⟩
/-- The world's other parts do not count. -/
theorem HR.heapEq {ρ : Rho} {h : Hp} {nx : Nat} {w w' : World} (H : HR ρ h nx w) (e : w'.heap = w.heap) : HR ρ h nx w' :=
  ⟨H.glob.keep (by rw [e]), H.away, fun b o ho => ⟨(H.obj b o ho).1, (H.obj b o ho).2.keep (H.obj b o ho).1 (Nat.le_refl _) (Ext.refl _ _) (by rw [e])⟩, H.inj⟩
theorem Step.heapEq {ρ ρ' : Rho} {h h' : Hp} {nx nx' : Nat} {w w' w'' : World} (a : Step ρ h nx w ρ' h' nx' w') (e : w''.heap = w'.heap) (eo : SameOut w' w'' := by exact ⟨rfl, rfl⟩) : Step ρ h nx w ρ' h' nx' w'' :=
  ⟨a.le, a.ext, a.hr.heapEq e, by rw [e]; exact a.size, fun B hB hn => by rw [e]; exact a.old B hB hn, a.new, a.out.trans eo⟩
theorem Step.from {ρ ρ' : Rho} {h h' : Hp} {nx nx' : Nat} {w w₀ w' : World} (a : Step ρ h nx w₀ ρ' h' nx' w') (e : w₀.heap = w.heap) (eo : SameOut w w₀ := by exact ⟨rfl, rfl⟩) : Step ρ h nx w ρ' h' nx' w' :=
  ⟨a.le, a.ext, a.hr, by rw [← e]; exact a.size, fun B hB hn => by rw [← e]; exact a.old B (by rw [e]; exact hB) hn, fun b hb => by rw [← e]; exact a.new b hb, eo.trans a.out⟩
def Rho.upd (ρ : Rho) (b i be s : Nat) (hz : be = 0 := by first | rfl | exact Rho.zero _ _) : Rho :=
  ⟨fun x => if x = b then i else ρ.ι x, fun x => if x = b then be else ρ.β x, fun x => if x = b then s else ρ.sz x, ρ.sym, ρ.one, fun x => by show (if x = b then be else ρ.β x) = 0; split; exact hz; exact ρ.zero x⟩
theorem Ext.upd (ρ : Rho) (nx i be s : Nat) {hz : be = 0} : Ext nx ρ (ρ.upd nx i be s hz) :=
  ⟨fun b hb => by simp [Rho.upd, Nat.ne_of_lt hb], fun b hb => by simp [Rho.upd, Nat.ne_of_lt hb], fun b hb => by simp [Rho.upd, Nat.ne_of_lt hb], rfl⟩
@[simp] theorem Rho.upd_ι (ρ : Rho) (b i be s : Nat) {hz : be = 0} : (ρ.upd b i be s hz).ι b = i := by simp [Rho.upd]
@[simp] theorem Rho.upd_β (ρ : Rho) (b i be s : Nat) {hz : be = 0} : (ρ.upd b i be s hz).β b = be := by simp [Rho.upd]
@[simp] theorem Rho.upd_sz (ρ : Rho) (b i be s : Nat) {hz : be = 0} : (ρ.upd b i be s hz).sz b = s := by simp [Rho.upd]
/-- A new block. -/
theorem HR.new {ρ : Rho} {h : Hp} {nx : Nat} {w : World} (H : HR ρ h nx w) (ob : Obj) (ao : AO) (be s : Nat) {hz : be = 0}
    (ho : ORel (ρ.upd nx w.heap.size be s hz) (nx + 1) nx ao { w with heap := w.heap.push ob }) :
    Step ρ h nx w (ρ.upd nx w.heap.size be s hz) (h.set nx ao) (nx + 1) { w with heap := w.heap.push ob } := by
  have he := Ext.upd ρ nx w.heap.size be s (hz := hz)
  refine ⟨Nat.le_succ _, he, ⟨H.glob.keep (by have := H.glob.lt; simp only [Array.getElem?_push]; rw [if_neg (by omega)]), fun b o hb => ?_, fun b o hb => ?_, fun b b' o o' hb hb' e => ?_⟩, by simp, fun B hB hn => ?_, fun b hb => ?_, ⟨rfl, rfl⟩⟩
  · rw [PT.get_set] at hb
    by_cases hx : nx = b
    · subst hx; rw [Rho.upd_ι]; have := H.glob.lt; omega
    · rw [if_neg hx] at hb
      rw [he.ι b (H.obj b o hb).1]; exact H.away b o hb
  · rw [PT.get_set] at hb
    by_cases hx : nx = b
    · subst hx; simp only [if_true, Option.some.injEq] at hb; subst hb; exact ⟨Nat.lt_succ_self _, ho⟩
    · rw [if_neg hx] at hb
      obtain ⟨h1, h2⟩ := H.obj b o hb
      refine ⟨Nat.lt_succ_of_lt h1, h2.keep h1 (Nat.le_succ _) he ?_⟩
      have := h2.lt
      simp only [Array.getElem?_push]
      rw [if_neg (by omega)]
  · rw [PT.get_set] at hb hb'
    have key : ∀ c oc, h.get c = some oc → (ρ.upd nx w.heap.size be s hz).ι c ≠ w.heap.size := fun c oc hc => by
      obtain ⟨h1, h2⟩ := H.obj c oc hc
      rw [he.ι c h1]; have := h2.lt; omega
    by_cases hx : nx = b <;> by_cases hx' : nx = b'
    · omega
    · rw [if_neg hx'] at hb'
      subst hx; rw [Rho.upd_ι] at e
      exact absurd e.symm (key b' o' hb')
    · rw [if_neg hx] at hb
      subst hx'; rw [Rho.upd_ι] at e
      exact absurd e (key b o hb)
    · rw [if_neg hx] at hb; rw [if_neg hx'] at hb'
      rw [he.ι b (H.obj b o hb).1, he.ι b' (H.obj b' o' hb').1] at e
      exact H.inj b b' o o' hb hb' e
  · simp only [Array.getElem?_push]
    rw [if_neg (by omega)]
  · by_cases hx : nx = b
    · subst hx; left; simp
    · obtain ⟨o, hb⟩ := hb
      rw [PT.get_set, if_neg hx] at hb
      exact .inr ⟨b, ⟨o, hb⟩, he.ι b (H.obj b o hb).1⟩
/-- A block's object turned. -/
theorem HR.put {ρ : Rho} {h : Hp} {nx : Nat} {w w' : World} (H : HR ρ h nx w) {b : Nat} {o : AO} (hb : h.get b = some o) (ao : AO)
    (hsz : w'.heap.size = w.heap.size) (hother : ∀ B, B ≠ ρ.ι b → w'.heap[B]? = w.heap[B]?) (ho : ORel ρ nx b ao w') (eo : SameOut w w' := by exact ⟨rfl, rfl⟩) :
    Step ρ h nx w ρ (h.set b ao) nx w' := by
  obtain ⟨hlt, hob⟩ := H.obj b o hb
  have live : ∀ c, Live (h.set b ao) c → Live h c := fun c ⟨oc, hc⟩ => by
    rw [PT.get_set] at hc
    by_cases hx : b = c
    · subst hx; exact ⟨o, hb⟩
    · rw [if_neg hx] at hc; exact ⟨oc, hc⟩
  refine ⟨Nat.le_refl _, Ext.refl _ _, ⟨H.glob.keep (hother _ (Ne.symm (H.away b o hb))), fun c oc hc => (let ⟨o1, h1⟩ := live c ⟨oc, hc⟩; H.away c o1 h1), fun c oc hc => ?_, fun c c' oc oc' hc hc' e => ?_⟩, by omega, fun B hB hn => hother B fun e => hn b ⟨o, hb⟩ e.symm, fun c hc => .inr ⟨c, live c hc, rfl⟩, eo⟩
  · rw [PT.get_set] at hc
    by_cases hx : b = c
    · subst hx; simp only [if_true, Option.some.injEq] at hc; subst hc; exact ⟨hlt, ho⟩
    · rw [if_neg hx] at hc
      obtain ⟨h1, h2⟩ := H.obj c oc hc
      exact ⟨h1, h2.keep h1 (Nat.le_refl _) (Ext.refl _ _) (hother _ fun e => hx (H.inj b c o oc hb hc e.symm))⟩
  · obtain ⟨o1, h1⟩ := live c ⟨oc, hc⟩
    obtain ⟨o2, h2⟩ := live c' ⟨oc', hc'⟩
    exact H.inj c c' o1 o2 h1 h2 e
/-- A block taken over by a new name; its object turned. -/
theorem HR.move {ρ : Rho} {h : Hp} {nx : Nat} {w w' : World} (H : HR ρ h nx w) {b : Nat} {o : AO} (hb : h.get b = some o) (ao : AO)
    (hsz : w'.heap.size = w.heap.size) (hother : ∀ B, B ≠ ρ.ι b → w'.heap[B]? = w.heap[B]?)
    (ho : ORel (ρ.upd nx (ρ.ι b) (ρ.β b) (ρ.sz b)) (nx + 1) nx ao w') (eo : SameOut w w' := by exact ⟨rfl, rfl⟩) :
    Step ρ h nx w (ρ.upd nx (ρ.ι b) (ρ.β b) (ρ.sz b)) ((h.del b).set nx ao) (nx + 1) w' := by
  obtain ⟨hlt, hob⟩ := H.obj b o hb
  have he := Ext.upd ρ nx (ρ.ι b) (ρ.β b) (ρ.sz b) (hz := ρ.zero b)
  have old : ∀ c oc, c ≠ nx → ((h.del b).set nx ao).get c = some oc → c ≠ b ∧ h.get c = some oc := fun c oc hne hc => by
    rw [PT.get_set, if_neg (Ne.symm hne), PT.get_del] at hc
    by_cases hx : b = c
    · rw [if_pos hx] at hc; cases hc
    · rw [if_neg hx] at hc; exact ⟨Ne.symm hx, hc⟩
  refine ⟨Nat.le_succ _, he, ⟨H.glob.keep (hother _ (Ne.symm (H.away b o hb))), fun c oc hc => ?_, fun c oc hc => ?_, fun c c' oc oc' hc hc' e => ?_⟩, by omega, fun B hB hn => hother B fun e => hn b ⟨o, hb⟩ e.symm, fun c hc => ?_, eo⟩
  · by_cases hx : c = nx
    · subst hx; rw [Rho.upd_ι]; exact H.away b o hb
    · obtain ⟨_, h1⟩ := old c oc hx hc
      rw [he.ι c (H.obj c oc h1).1]; exact H.away c oc h1
  · by_cases hx : c = nx
    · subst hx; rw [PT.get_set_same, Option.some.injEq] at hc; subst hc; exact ⟨Nat.lt_succ_self _, ho⟩
    · obtain ⟨hne, hc⟩ := old c oc hx hc
      obtain ⟨h1, h2⟩ := H.obj c oc hc
      exact ⟨Nat.lt_succ_of_lt h1, h2.keep h1 (Nat.le_succ _) he (hother _ fun e => hne (H.inj c b oc o hc hb e))⟩
  · have key : ∀ c oc, c ≠ nx → ((h.del b).set nx ao).get c = some oc → (ρ.upd nx (ρ.ι b) (ρ.β b) (ρ.sz b)).ι c ≠ ρ.ι b := fun c oc hne hc e => by
      obtain ⟨h1, h2⟩ := old c oc hne hc
      rw [he.ι c (H.obj c oc h2).1] at e
      exact h1 (H.inj c b oc o h2 hb e)
    by_cases hx : c = nx <;> by_cases hx' : c' = nx
    · omega
    · subst hx; rw [Rho.upd_ι] at e; exact absurd e.symm (key c' oc' hx' hc')
    · subst hx'; rw [Rho.upd_ι] at e; exact absurd e (key c oc hx hc)
    · obtain ⟨_, h1⟩ := old c oc hx hc
      obtain ⟨_, h2⟩ := old c' oc' hx' hc'
      rw [he.ι c (H.obj c oc h1).1, he.ι c' (H.obj c' oc' h2).1] at e
      exact H.inj c c' oc oc' h1 h2 e
  · by_cases hx : c = nx
    · subst hx; exact .inr ⟨b, ⟨o, hb⟩, by simp⟩
    · obtain ⟨oc, hc⟩ := hc
      obtain ⟨_, h1⟩ := old c oc hx hc
      exact .inr ⟨c, ⟨oc, h1⟩, he.ι c (H.obj c oc h1).1⟩
/-- Fewer blocks. -/
theorem HR.sub {ρ : Rho} {h h' : Hp} {nx : Nat} {w : World} (H : HR ρ h nx w) (hs : ∀ b o, h'.get b = some o → h.get b = some o) : HR ρ h' nx w :=
  ⟨H.glob, fun b o ho => H.away b o (hs b o ho), fun b o ho => H.obj b o (hs b o ho), fun b b' o o' hb hb' e => H.inj b b' o o' (hs b o hb) (hs b' o' hb') e⟩

/-! frames -/
def TR (ρ : Rho) (nx : Nat) (tm : PT AV) (tmps : Array Value) : Prop := ∀ t v, tm.get t = some v → Sc nx v ∧ tmps[t]? = some (conc ρ v)
theorem TR.ext {ρ ρ' : Rho} {nx nx' : Nat} {tm : PT AV} {tmps : Array Value} (h : TR ρ nx tm tmps) (he : Ext nx ρ ρ') (hle : nx ≤ nx') : TR ρ' nx' tm tmps :=
  fun t v ht => let ⟨h1, h2⟩ := h t v ht; ⟨Sc.mono hle v h1, by rw [conc_ext he v h1]; exact h2⟩
theorem TR.step {ρ ρ' : Rho} {h h' : Hp} {nx nx' : Nat} {w w' : World} {tm : PT AV} {tmps : Array Value} (ht : TR ρ nx tm tmps) (s : Step ρ h nx w ρ' h' nx' w') : TR ρ' nx' tm tmps :=
  ht.ext s.ext s.le
theorem TR.nil (ρ : Rho) (nx : Nat) (tmps : Array Value) : TR ρ nx .nil tmps := fun t v h => by rw [PT.get_nil] at h; cases h
theorem TR.put {ρ : Rho} {nx : Nat} {tm : PT AV} {a : Act} (h : TR ρ nx tm a.tmps) (d : Option Nat) (v : AV) (hv : Sc nx v) (hd : ∀ t, d = some t → t < a.tmps.size) :
    TR ρ nx (putT tm d v) (a.put d (conc ρ v)).tmps := by
  cases d with
  | none => exact h
  | some t =>
    intro t' v' h'
    have h' : (tm.set t v).get t' = some v' := h'
    rw [PT.get_set] at h'
    by_cases hx : t = t'
    · subst hx
      simp only [if_true, Option.some.injEq] at h'
      subst h'
      exact ⟨hv, by simp [Act.put, hd t rfl]⟩
    · rw [if_neg hx] at h'
      obtain ⟨h1, h2⟩ := h t' v' h'
      exact ⟨h1, by simp [Act.put, Array.getElem?_setIfInBounds_ne hx, h2]⟩
end Go.Ev
/-! THE EVALUATOR's SOUNDNESS, 3: types, constants, cells. -/
namespace Go.Ev
open Go

structure EnvOk (E : Env) (P : Program) : Prop where
  types : ∀ t i, E.types.get t = some i → P.info? t = some i
  funcs : ∀ f fn, E.funcs.get f = some fn → P.funcs[f]? = some fn
  eqOk : ∀ t, memN t E.eqOk = true → P.stoodInHeld t = false ∧ P.eqGuardType P.depth t = false ∧ ∀ f ∈ (P.fieldsOf t).toList, f.name ≠ "_"
  u8 : E.und E.u8 = some (.int .u8)
  lies : ∀ e o u, memL e o u E.lies = true → liesAt P P.depth e (o / P.cellsOf e + 1) o u 1 = true
  zsize : ∀ t i z, E.types.get t = some i → i.zero = some z → z.cells.size = i.size

theorem memN_iff (n : Nat) : ∀ l, memN n l = true ↔ n ∈ l
  | [] => by simp [memN]
  | x :: l => by
    have ih := memN_iff n l
    unfold memN
    cases h : Nat.beq n x
    · have hne : n ≠ x := fun e => by subst e; simp at h
      simp [ih, hne]
    · have he : n = x := Nat.eq_of_beq_eq_true h
      simp [he]

section
variable {E : Env} {P : Program} (hE : EnvOk E P)
include hE
theorem EnvOk.und {t : Nat} {d : TypeDesc} (h : E.und t = some d) : P.underlying t = some d := by
  unfold Env.und at h
  split at h
  · rename_i i hi
    have hi' := hE.types t i hi
    split at h
    · rename_i n u hd
      split at h
      · rename_i j hj
        have hj' := hE.types u j hj
        cases h
        unfold Program.underlying
        rw [hi']
        cases i
        simp only at hd
        subst hd
        simp only [hj', Option.map_some]
      · cases h
    · rename_i hd
      cases h
      unfold Program.underlying
      rw [hi']
      cases i
      rename_i desc _ _ _ _ _ _ _ _ _
      cases desc <;> first | rfl | exact absurd rfl (hd _ _)
  · cases h
theorem EnvOk.run_und {t : Nat} {d : TypeDesc} (h : E.und t = some d) (w : World) : (underlying t).run P w = .ok d w := by
  simp [underlying, hE.und h]
theorem EnvOk.run_info {t : Nat} {i : TypeInfo} (h : E.types.get t = some i) (w : World) : (typeInfo t).run P w = .ok i w := by
  simp [typeInfo, hE.types t i h]
theorem EnvOk.run_size {t n : Nat} (h : E.size t = some n) (w : World) : (sizeOf t).run P w = .ok n w := by
  unfold Env.size at h
  split at h
  · rename_i i hi
    cases h
    simp [sizeOf, hE.run_info hi]
  · cases h
theorem EnvOk.run_isAgg {t : Nat} {b : Bool} (h : E.isAgg t = some b) (w : World) : (isAgg t).run P w = .ok b w := by
  unfold Env.isAgg at h
  split at h
  · rename_i fs hu; cases h; simp [isAgg, hE.run_und hu]
  · rename_i n e hu; cases h; simp [isAgg, hE.run_und hu]
  · rename_i d h1 h2 hu
    cases h
    cases d <;> first
      | (simp [isAgg, hE.run_und hu]; done)
      | exact absurd rfl (h1 _)
      | exact absurd rfl (h2 _ _)
  · cases h
end

/-! constants -/
theorem bytesL_bytesNat : ∀ l : List UInt8, bytesL l.length (bytesNat l) = l
  | [] => rfl
  | b :: l => by
    have hb : b.toNat < 256 := UInt8.toNat_lt b
    have h1 : (bytesNat (b :: l)) % 256 = b.toNat := by show (b.toNat + 256 * bytesNat l) % 256 = _; omega
    have h2 : (bytesNat (b :: l)) / 256 = bytesNat l := by show (b.toNat + 256 * bytesNat l) / 256 = _; omega
    simp only [List.length_cons, bytesL, h1, h2, bytesL_bytesNat l]
    simp
mutual
theorem ofV_ok (ρ : Rho) (nx : Nat) : ∀ (f : Nat) (v : Value) (a : AV), ofV f v = some a → conc ρ a = v ∧ Sc nx a
  | 0, v, a, h => by simp [ofV] at h
  | f + 1, v, a, h => by
    cases v with
    | agg cs =>
      simp only [ofV] at h
      split at h
      · rename_i l hl
        cases h
        obtain ⟨h1, h2⟩ := ofVs_ok ρ nx f _ _ hl
        exact ⟨by simp [conc, h1], h2⟩
      · cases h
    | tuple cs =>
      simp only [ofV] at h
      split at h
      · rename_i l hl
        cases h
        obtain ⟨h1, h2⟩ := ofVs_ok ρ nx f _ _ hl
        exact ⟨by simp [conc, h1], h2⟩
      · cases h
    | string s =>
      simp only [ofV, Option.some.injEq] at h
      subst h
      refine ⟨?_, trivial⟩
      simp only [conc, toBA, bytesL_bytesNat]
    | pointer a => cases a <;> simp only [ofV, Option.some.injEq] at h <;> first | (subst h; exact ⟨rfl, trivial⟩) | cases h
    | slice a n c =>
      cases a with
      | some a => simp [ofV] at h
      | none =>
        cases n with
        | succ n => simp [ofV] at h
        | zero => cases c with
          | succ c => simp [ofV] at h
          | zero => simp only [ofV, Option.some.injEq] at h; subst h; exact ⟨rfl, trivial⟩
    | map a => cases a <;> simp only [ofV, Option.some.injEq] at h <;> first | (subst h; exact ⟨rfl, trivial⟩) | cases h
    | bool b => simp only [ofV, Option.some.injEq] at h; subst h; exact ⟨rfl, trivial⟩
    | int k n => simp only [ofV, Option.some.injEq] at h; subst h; exact ⟨rfl, trivial⟩
    | nilFunc => simp only [ofV, Option.some.injEq] at h; subst h; exact ⟨rfl, trivial⟩
    | nilIface => simp only [ofV, Option.some.injEq] at h; subst h; exact ⟨rfl, trivial⟩
    | float => simp [ofV] at h
    | complex => simp [ofV] at h
    | chan => simp [ofV] at h
    | func => simp [ofV] at h
    | iface => simp [ofV] at h
theorem ofVs_ok (ρ : Rho) (nx : Nat) : ∀ (f : Nat) (l : List Value) (r : List AV), ofVs f l = some r → concs ρ r = l ∧ Scs nx r
  | 0, l, r, h => by simp [ofVs] at h
  | f + 1, [], r, h => by simp only [ofVs, Option.some.injEq] at h; subst h; exact ⟨rfl, trivial⟩
  | f + 1, v :: l, r, h => by
    simp only [ofVs] at h
    split at h
    · rename_i x hx
      split at h
      · rename_i r' hr
        cases h
        obtain ⟨h1, h2⟩ := ofV_ok ρ nx f _ _ hx
        obtain ⟨h3, h4⟩ := ofVs_ok ρ nx f _ _ hr
        exact ⟨by simp [concs, h1, h3], h2, h4⟩
      · cases h
    · cases h
end
theorem EnvOk.run_zero {E : Env} {P : Program} (hE : EnvOk E P) (ρ : Rho) (nx : Nat) {t : Nat} {z : AV} (h : zero E t = some z) (w : World) :
    (zeroValue t).run P w = .ok (conc ρ z) w ∧ Sc nx z := by
  unfold zero at h
  split at h
  · rename_i i hi
    split at h
    · rename_i zv hz
      obtain ⟨h1, h2⟩ := ofV_ok ρ nx _ _ _ h
      refine ⟨?_, h2⟩
      simp [zeroValue, hE.run_info hi, hz, h1]
    · cases h
  · cases h

/-! operands -/
theorem evalOp_ok {ρ : Rho} {nx : Nat} {tm : PT AV} {a : Act} (hT : TR ρ nx tm a.tmps) : ∀ {x : Operand} {v : AV}, evalOp tm x = some v → Sc nx v ∧ a.eval x = conc ρ v
  | .tmp t, v, h => by
    obtain ⟨h1, h2⟩ := hT t v h
    exact ⟨h1, by simp [Act.eval, Array.getD_eq_getD_getElem?, h2]⟩
  | .const c, v, h => by
    obtain ⟨h1, h2⟩ := ofV_ok ρ nx _ _ _ h
    exact ⟨h2, by simp [Act.eval, h1]⟩
  | .global g, v, h => by cases h
  | .func f, v, h => by
    cases h
    exact ⟨⟨trivial, trivial⟩, by simp [Act.eval, conc, concs]⟩
theorem evalOps_ok {ρ : Rho} {nx : Nat} {tm : PT AV} {a : Act} (hT : TR ρ nx tm a.tmps) : ∀ {l : List Operand} {vs : List AV}, evalOps tm l = some vs → Scs nx vs ∧ l.map a.eval = concs ρ vs
  | [], vs, h => by simp only [evalOps, Option.some.injEq] at h; subst h; exact ⟨trivial, rfl⟩
  | x :: l, vs, h => by
    simp only [evalOps] at h
    split at h
    · rename_i v hv
      split at h
      · rename_i r hr
        cases h
        obtain ⟨h1, h2⟩ := evalOp_ok hT hv
        obtain ⟨h3, h4⟩ := evalOps_ok hT hr
        exact ⟨⟨h1, h3⟩, by simp [concs, h2, h4]⟩
      · cases h
    · cases h

/-! cells -/
theorem at_add (ρ : Rho) (b o n : Nat) : (ρ.at b o).add n = ρ.at b (o + n) := by
  unfold Addr.add Rho.at
  split
  · subst_vars; simp
  · simp [Nat.add_assoc]
theorem cell_of {ρ : Rho} {h : Hp} {nx : Nat} {w : World} (H : HR ρ h nx w) {b i : Nat} {v : AV} (hc : hcell h b i = some v) :
    w.cell? (ρ.at b i) = some (conc ρ v) ∧ Sc nx v := by
  unfold hcell at hc
  split at hc
  · rename_i o ho
    split at hc
    · rename_i n dz t fz e
      split at hc
      · rename_i hlt
        obtain ⟨_, c, fr, h1, h2, h3, h4, h5⟩ := H.obj _ _ ho
        obtain ⟨h6, h7⟩ := h5 i v (Nat.le_of_ble_eq_true hlt) hc
        exact ⟨by simp [World.cell?, Rho.at, h1, h7], h6⟩
      · cases hc
    · cases hc
  · cases hc
theorem readFrom_spec {dz : List AV} {t : PT AV} : ∀ {k i : Nat} {l : List AV}, readFrom dz t i k = some l → l.length = k ∧ ∀ j, j < k → cellAt dz t (i + j) = l[j]?
  | 0, i, l, h => by simp only [readFrom, Option.some.injEq] at h; subst h; exact ⟨rfl, fun j hj => by omega⟩
  | k + 1, i, l, h => by
    simp only [readFrom] at h
    split at h
    · rename_i v hv
      split at h
      · rename_i r hr
        cases h
        obtain ⟨h1, h2⟩ := readFrom_spec hr
        refine ⟨by simp [h1], fun j hj => ?_⟩
        cases j with
        | zero => simpa using hv
        | succ j => have := h2 j (by omega); rw [List.getElem?_cons_succ, ← this]; congr 1; omega
      · cases h
    · cases h
theorem cells_of {ρ : Rho} {h : Hp} {nx : Nat} {w : World} (H : HR ρ h nx w) {b i k : Nat} {l : List AV} (hc : hcells h b i k = some l) :
    l.length = k ∧ Scs nx l ∧ ∀ j v, (concs ρ l)[j]? = some v → w.cell? (ρ.at b (i + j)) = some v := by
  unfold hcells at hc
  split at hc
  · rename_i o ho
    split at hc
    · rename_i n dz t fz e
      split at hc
      · rename_i hle
        have hle : i + k ≤ n := Nat.le_of_ble_eq_true hle
        obtain ⟨_, c, fr, h1, h2, h3, h4, h5⟩ := H.obj _ _ ho
        obtain ⟨hlen, hat⟩ := readFrom_spec hc
        have key : ∀ j v, l[j]? = some v → Sc nx v ∧ w.cell? (ρ.at b (i + j)) = some (conc ρ v) := fun j v hj => by
          have hjk : j < k := by have := (List.getElem?_eq_some_iff.1 hj).1; omega
          obtain ⟨h6, h7⟩ := h5 (i + j) v (by omega) ((hat j hjk).trans hj)
          exact ⟨h6, by simp [World.cell?, Rho.at, h1, h7]⟩
        refine ⟨hlen, Scs_iff.2 fun x hx => ?_, fun j v hj => ?_⟩
        · obtain ⟨j, hj⟩ := List.getElem?_of_mem hx
          exact (key j x hj).1
        · rw [concs_eq, List.getElem?_map] at hj
          cases hl : l[j]? with
          | none => rw [hl] at hj; cases hj
          | some x => rw [hl] at hj; cases hj; exact (key j x hl).2
      · cases hc
    · cases hc
  · cases hc
theorem run_cells_of {P : Program} {ρ : Rho} {h : Hp} {nx : Nat} {w : World} (H : HR ρ h nx w) {b i k : Nat} {l : List AV} (hc : hcells h b i k = some l) :
    (loadCells (ρ.at b i) k).run P w = .ok (concs ρ l).toArray w := by
  obtain ⟨h1, h2, h3⟩ := cells_of H hc
  have := run_loadCells_list (P := P) w (ρ.at b i) (concs ρ l) (fun j v hj => by rw [at_add]; exact h3 j v hj)
  rw [concs_eq, List.length_map, h1] at this
  rw [concs_eq]; exact this

/-! storing -/
def setR : Array Value → Nat → List Value → Array Value
  | c, _, [] => c
  | c, o, v :: r => setR (c.setIfInBounds o v) (o + 1) r
@[simp] theorem setR_size : ∀ (vs : List Value) (c : Array Value) (o : Nat), (setR c o vs).size = c.size
  | [], _, _ => rfl
  | v :: r, c, o => by simp [setR, setR_size r]
theorem setR_get : ∀ (vs : List Value) (c : Array Value) (o i : Nat), o + vs.length ≤ c.size → (setR c o vs)[i]? = if o ≤ i ∧ i < o + vs.length then vs[i - o]? else c[i]?
  | [], c, o, i, _ => by rw [if_neg (by simp only [List.length_nil]; omega)]; rfl
  | v :: r, c, o, i, hb => by
    simp only [List.length_cons] at hb
    simp only [setR]
    rw [setR_get r _ _ _ (by simp; omega)]
    by_cases h : o + 1 ≤ i ∧ i < o + 1 + r.length
    · rw [if_pos h, if_pos (by simp only [List.length_cons]; omega)]
      obtain ⟨k, rfl⟩ : ∃ k, i = o + 1 + k := ⟨i - (o + 1), by omega⟩
      rw [show o + 1 + k - (o + 1) = k from by omega, show o + 1 + k - o = k + 1 from by omega, List.getElem?_cons_succ]
    · rw [if_neg h]
      by_cases h2 : o = i
      · subst h2
        rw [if_pos (by simp only [List.length_cons]; omega), Nat.sub_self, List.getElem?_cons_zero]
        simp [Array.getElem?_setIfInBounds]; omega
      · rw [if_neg (by simp only [List.length_cons]; omega), Array.getElem?_setIfInBounds_ne h2]
theorem heap_setCells (b : Nat) : ∀ (vs : List Value) (o : Nat) (w : World) (c : Array Value) (e : Nat) (fr : Nat × Nat), w.heap[b]? = some (.cells c e fr) →
    (w.setCells b o vs).heap[b]? = some (.cells (setR c o vs) e fr) ∧ (w.setCells b o vs).heap.size = w.heap.size ∧ ∀ B, B ≠ b → (w.setCells b o vs).heap[B]? = w.heap[B]?
  | [], o, w, c, e, fr, h => ⟨h, rfl, fun _ _ => rfl⟩
  | v :: r, o, w, c, e, fr, h => by
    have h1 : (w.setCell ⟨b, o, none⟩ v).heap[b]? = some (.cells (c.setIfInBounds o v) e fr) := by
      simp [World.setCell, Array.getElem?_modify, h]
    obtain ⟨h2, h3, h4⟩ := heap_setCells b r (o + 1) _ _ e fr h1
    refine ⟨h2, by rw [World.setCells, h3]; simp, fun B hB => ?_⟩
    rw [World.setCells, h4 B hB]
    simp [World.setCell, Array.getElem?_modify, Ne.symm hB]
theorem writeFrom_get : ∀ (vs : List AV) (t : PT AV) (i m : Nat), (writeFrom t i vs).get m = if i ≤ m ∧ m < i + vs.length then vs[m - i]? else t.get m
  | [], t, i, m => by rw [if_neg (by simp only [List.length_nil]; omega)]; rfl
  | v :: r, t, i, m => by
    show (writeFrom (t.set i v) (i + 1) r).get m = _
    rw [writeFrom_get r, PT.get_set]
    by_cases h : i + 1 ≤ m ∧ m < i + 1 + r.length
    · rw [if_pos h, if_pos (by simp only [List.length_cons]; omega)]
      obtain ⟨k, rfl⟩ : ∃ k, m = i + 1 + k := ⟨m - (i + 1), by omega⟩
      rw [show i + 1 + k - (i + 1) = k from by omega, show i + 1 + k - i = k + 1 from by omega, List.getElem?_cons_succ]
    · rw [if_neg h]
      by_cases h2 : i = m
      · subst h2; rw [if_pos rfl, if_pos (by simp only [List.length_cons]; omega), Nat.sub_self, List.getElem?_cons_zero]
      · rw [if_neg h2, if_neg (by simp only [List.length_cons]; omega)]
theorem cellAt_write {dz : List AV} {t : PT AV} {vs : List AV} {i m : Nat} : cellAt dz (writeFrom t i vs) m = if i ≤ m ∧ m < i + vs.length then vs[m - i]? else cellAt dz t m := by
  unfold cellAt
  rw [writeFrom_get]
  by_cases h : i ≤ m ∧ m < i + vs.length
  · rw [if_pos h, if_pos h, List.getElem?_eq_getElem (by omega)]
  · rw [if_neg h, if_neg h]
@[simp] theorem concs_length (ρ : Rho) (l : List AV) : (concs ρ l).length = l.length := by rw [concs_eq, List.length_map]
theorem concs_get (ρ : Rho) (l : List AV) (i : Nat) : (concs ρ l)[i]? = l[i]?.map (conc ρ) := by rw [concs_eq, List.getElem?_map]
theorem FzOk.free {β sz i : Nat} {fz : Option Nat} {fr : Nat × Nat} (h : FzOk β sz fz fr) (hf : fzOk fz i = true) (hlt : β + i < sz) : (fr.1 ≤ β + i && β + i < fr.2) = false := by
  cases fz with
  | none =>
    rcases h with h | h <;> (simp only [Bool.and_eq_false_iff, decide_eq_false_iff_not]; omega)
  | some k =>
    have hk : k ≤ i := Nat.le_of_ble_eq_true hf
    rcases h with h | h <;> (simp only [Bool.and_eq_false_iff, decide_eq_false_iff_not]; omega)
/-- The block with cells written: the world behind is any that has them. -/
theorem out_setCells (b : Nat) : ∀ (vs : List Value) (i : Nat) (w : World), SameOut w (w.setCells b i vs)
  | [], _, w => SameOut.refl w
  | v :: r, i, w => SameOut.trans (w' := w.setCell ⟨b, i, none⟩ v) ⟨rfl, rfl⟩ (out_setCells b r (i + 1) (w.setCell ⟨b, i, none⟩ v))
theorem ORel.written {ρ : Rho} {nx b n : Nat} {dz : List AV} {t : PT AV} {fz : Option Nat} {e i : Nat} {vs : List AV} {w w' : World} {c : Array Value} {fr : Nat × Nat}
    (hc : w.heap[ρ.ι b]? = some (.cells c e fr)) (h2 : c.size = ρ.sz b) (h3 : ρ.β b + n ≤ c.size) (h4 : FzOk (ρ.β b) c.size fz fr)
    (h5 : ∀ i v, i < n → cellAt dz t i = some v → Sc nx v ∧ c[ρ.β b + i]? = some (conc ρ v)) (hvs : Scs nx vs) (hin : i + vs.length ≤ n)
    (hw : w'.heap[ρ.ι b]? = some (.cells (setR c (ρ.β b + i) (concs ρ vs)) e fr)) : ORel ρ nx b (.cells n dz (writeFrom t i vs) fz e) w' := by
  refine ⟨_, fr, hw, by simp [h2], by simpa using h3, by simpa using h4, fun m v hm hv => ?_⟩
  rw [setR_get _ _ _ _ (by simp; omega)]
  rw [cellAt_write] at hv
  by_cases hx : i ≤ m ∧ m < i + vs.length
  · rw [if_pos hx] at hv
    rw [if_pos (by simp; omega), concs_get, show ρ.β b + m - (ρ.β b + i) = m - i from by omega, hv]
    exact ⟨Scs_iff.1 hvs _ (List.mem_of_getElem? hv), rfl⟩
  · rw [if_neg hx] at hv
    rw [if_neg (by simp; omega)]
    exact h5 m v hm hv
theorem store_ok {P : Program} {ρ : Rho} {h h' : Hp} {nx : Nat} {w : World} (H : HR ρ h nx w) {b i : Nat} {vs : List AV} (hs : hstore h b i vs = some h') (hv : Scs nx vs) :
    ∃ w', (storeCells (ρ.at b i) (concs ρ vs)).run P w = .ok () w' ∧ Step ρ h nx w ρ h' nx w' := by
  unfold hstore at hs
  split at hs
  · rename_i o ho
    split at hs
    · rename_i n dz t fz e
      split at hs
      · rename_i hle
        have hle : i + vs.length ≤ n := by have := Nat.le_of_ble_eq_true hle; simpa using this
        split at hs
        · rename_i hfz
          split at hs
          · rename_i hone
            cases hs
            obtain ⟨hlt, c, fr, h1, h2, h3, h4, h5⟩ := H.obj _ _ ho
            have hrun := run_storeCells_cells (P := P) (ρ.ι b) (ρ.β b + i) (concs ρ vs) 0 w (fun j hj => by
                simp only [concs_length] at hj
                have hb : ρ.β b + i + 0 + j < c.size := by omega
                simp only [World.cell?, h1, Array.getElem?_eq_getElem hb]; rfl)
              (fun j hj => by
                simp only [concs_length] at hj
                have hfz' : fzOk fz (i + j) = true := by
                  cases fz with
                  | none => rfl
                  | some k => have : k ≤ i := Nat.le_of_ble_eq_true hfz; exact Nat.ble_eq_true_of_le (by omega)
                have := h4.free hfz' (i := i + j) (by omega)
                simp only [World.frozen?, h1]
                rw [show ρ.β b + i + 0 + j = ρ.β b + (i + j) from by omega]
                exact this)
              (oneCell_conc ρ vs hone)
            obtain ⟨g1, g2, g3⟩ := heap_setCells (ρ.ι b) (concs ρ vs) (ρ.β b + i) w c e fr h1
            refine ⟨w.setCells (ρ.ι b) (ρ.β b + i) (concs ρ vs), ?_, H.put ho _ g2 g3 (ORel.written h1 h2 h3 h4 h5 hv hle g1) (out_setCells _ _ _ _)⟩
            simpa [Rho.at] using hrun
          · cases hs
        · cases hs
      · cases hs
    · cases hs
  · cases hs
/-- A new row of cells. -/
theorem new_ok {ρ : Rho} {h : Hp} {nx : Nat} {w : World} (H : HR ρ h nx w) (n : Nat) (dz : List AV) (t : PT AV) (fz : Option Nat) (e : Nat) (c : Array Value) (fr : Nat × Nat) (be : Nat) {hz : be = 0}
    (hn : be + n ≤ c.size) (hfz : FzOk be c.size fz fr)
    (hc : ∀ i v, i < n → cellAt dz t i = some v → Sc nx v ∧ c[be + i]? = some (conc ρ v)) :
    Step ρ h nx w (ρ.upd nx w.heap.size be c.size hz) (h.set nx (.cells n dz t fz e)) (nx + 1) { w with heap := w.heap.push (.cells c e fr) } := by
  refine H.new _ _ _ _ ⟨c, fr, by simp, by simp, by simpa using hn, by simpa using hfz, fun i v hi hv => ?_⟩
  obtain ⟨h1, h2⟩ := hc i v hi hv
  exact ⟨Sc.mono (Nat.le_succ _) v h1, by rw [Rho.upd_β, conc_ext (Ext.upd ρ nx _ _ _) v h1]; exact h2⟩
theorem newObj_ok {ρ : Rho} {h : Hp} {nx : Nat} {w : World} (H : HR ρ h nx w) (e : Nat) (l : List AV) (hl : Scs nx l) (more : Array Value) :
    Step ρ h nx w (ρ.upd nx w.heap.size 0 ((concs ρ l).toArray ++ more).size) (h.set nx (Ev.newObj e l)) (nx + 1) { w with heap := w.heap.push (.cells ((concs ρ l).toArray ++ more) e) } := by
  refine new_ok H _ _ _ _ _ _ (0, 0) 0 (by simp) (.inl rfl) fun i v hi hv => ?_
  rw [cellAt_write] at hv
  simp only [len_eq] at hi
  rw [if_pos (by omega), Nat.sub_zero] at hv
  refine ⟨Scs_iff.1 hl _ (List.mem_of_getElem? hv), ?_⟩
  rw [Nat.zero_add, Array.getElem?_append_left (by simpa using hi)]
  simp [concs_get, hv]
end Go.Ev
/-! THE EVALUATOR's SOUNDNESS: strings as numbers. -/
namespace Go.Ev
open Go

theorem bytesL_mod : ∀ (l n : Nat), bytesL l (n % 256 ^ l) = bytesL l n
  | 0, _ => rfl
  | l + 1, n => by
    have h1 : n % 256 ^ (l + 1) % 256 = n % 256 := by rw [Nat.pow_succ]; exact Nat.mod_mul_left_mod n (256 ^ l) 256
    have h2 : n % 256 ^ (l + 1) / 256 = n / 256 % 256 ^ l := by rw [Nat.pow_succ, Nat.mul_comm, Nat.mod_mul_right_div_self]
    simp only [bytesL, h1, h2, bytesL_mod l]
theorem bytesNat_bytesL : ∀ (l n : Nat), bytesNat (bytesL l n) = n % 256 ^ l
  | 0, n => by simp [bytesL, bytesNat, Nat.mod_one]
  | l + 1, n => by
    show (UInt8.ofNat (n % 256)).toNat + 256 * bytesNat (bytesL l (n / 256)) = _
    rw [bytesNat_bytesL l, UInt8.toNat_ofNat', Nat.mod_eq_of_lt (show n % 256 < 2 ^ 8 from Nat.mod_lt _ (by decide)), Nat.pow_succ, Nat.mul_comm (256 ^ l) 256, Nat.mod_mul]
theorem bytesL_inj {l1 n1 l2 n2 : Nat} : bytesL l1 n1 = bytesL l2 n2 ↔ l1 = l2 ∧ n1 % 256 ^ l1 = n2 % 256 ^ l1 := by
  constructor
  · intro h
    have hl : l1 = l2 := by have := congrArg List.length h; simpa using this
    subst hl
    exact ⟨rfl, by rw [← bytesNat_bytesL, ← bytesNat_bytesL, h]⟩
  · rintro ⟨rfl, h⟩
    rw [← bytesL_mod l1 n1, h, bytesL_mod]
theorem bytesL_drop : ∀ (k l n : Nat), (bytesL l n).drop k = bytesL (l - k) (n / 256 ^ k)
  | 0, l, n => by simp
  | k + 1, 0, n => by simp [bytesL]
  | k + 1, l + 1, n => by
    simp only [bytesL, List.drop_succ_cons]
    rw [bytesL_drop k l, Nat.div_div_eq_div_mul, Nat.pow_succ, Nat.mul_comm 256, show l + 1 - (k + 1) = l - k from by omega]
theorem bytesL_take : ∀ (k l n : Nat), k ≤ l → (bytesL l n).take k = bytesL k n
  | 0, l, n, _ => by simp [bytesL]
  | k + 1, 0, n, h => by omega
  | k + 1, l + 1, n, h => by simp only [bytesL, List.take_succ_cons]; rw [bytesL_take k l _ (by omega)]
theorem bytesL_append : ∀ (l1 n1 l2 n2 : Nat), bytesL l1 n1 ++ bytesL l2 n2 = bytesL (l1 + l2) (strCat l1 n1 n2)
  | 0, n1, l2, n2 => by
    have e : strCat 0 n1 n2 = n2 := by show n1 % 1 + n2 * 1 = n2; omega
    rw [e, Nat.zero_add]; rfl
  | l1 + 1, n1, l2, n2 => by
    have hp : strCat (l1 + 1) n1 n2 = n1 % 256 ^ (l1 + 1) + n2 * 256 ^ (l1 + 1) := rfl
    have e1 : n1 % 256 ^ (l1 + 1) = n1 % 256 + 256 * (n1 / 256 % 256 ^ l1) := by rw [Nat.pow_succ, Nat.mul_comm (256 ^ l1) 256, Nat.mod_mul]
    have h1 : strCat (l1 + 1) n1 n2 % 256 = n1 % 256 := by
      rw [hp, e1, Nat.pow_succ, ← Nat.mul_assoc]; omega
    have h2 : strCat (l1 + 1) n1 n2 / 256 = strCat l1 (n1 / 256) n2 := by
      show _ = n1 / 256 % 256 ^ l1 + n2 * 256 ^ l1
      rw [hp, e1, Nat.pow_succ, ← Nat.mul_assoc]; omega
    rw [show l1 + 1 + l2 = (l1 + l2) + 1 from by omega]
    simp only [bytesL, List.cons_append, h1, h2]
    rw [bytesL_append l1]
@[simp] theorem toBA_data (l n : Nat) : (toBA l n).data.toList = bytesL l n := by simp [toBA]
@[simp] theorem toBA_toList (l n : Nat) : (toBA l n).toList = bytesL l n := by rw [ByteArray.toList_eq]; simp
theorem toBA_append (l1 n1 l2 n2 : Nat) : toBA l1 n1 ++ toBA l2 n2 = toBA (l1 + l2) (strCat l1 n1 n2) := by
  unfold toBA
  rw [ByteArray.mk_append_mk, bytesL_append]
theorem toBA_extract (l n a b : Nat) (h1 : a ≤ b) (h2 : b ≤ l) : (toBA l n).extract a b = toBA (b - a) (strCut n a b) := by
  have e : strCut n a b = n / 256 ^ a % 256 ^ (b - a) := rfl
  have : (toBA l n).extract a b = ⟨((bytesL l n).toArray).extract a b⟩ := by
    apply ByteArray.ext
    simp [toBA, ByteArray.data_extract]
  rw [this, e]
  unfold toBA
  rw [bytesL_mod]
  congr 1
  apply Array.ext'
  simp [bytesL_drop, bytesL_take _ _ _ (show b - a ≤ l - a by omega)]
theorem toBA_get {l n i : Nat} (h : i < l) : (toBA l n)[i]? = some (UInt8.ofNat (byteAt n i)) := by
  have hs : i < (toBA l n).size := by simpa using h
  rw [ByteArray.getElem?_lt' _ _ hs]
  have := bytesL_get l n i h
  have h3 : (toBA l n)[i] = (bytesL l n)[i]'(by simpa using h) := by
    show (toBA l n).data[i] = _
    simp [toBA]
  rw [h3]
  rw [List.getElem?_eq_getElem (by simpa using h)] at this
  exact this
theorem byteAt_toNat (n i : Nat) : (UInt8.ofNat (byteAt n i)).toNat = byteAt n i := by
  rw [UInt8.toNat_ofNat']
  exact Nat.mod_mod _ _
theorem bytesOf_conc (ρ : Rho) : ∀ l n, concs ρ (bytesOf l n) = (bytesL l n).map fun b => Value.int .u8 (b.toNat : Int)
  | 0, _ => rfl
  | l + 1, n => by
    simp only [bytesOf, bytesL, concs, conc, List.map_cons, bytesOf_conc ρ l]
    congr 2
    rw [UInt8.toNat_ofNat', Nat.mod_eq_of_lt (show n % 256 < 2 ^ 8 from Nat.mod_lt _ (by decide))]; rfl
theorem bytesOf_Scs (nx : Nat) : ∀ l n, Scs nx (bytesOf l n)
  | 0, _ => trivial
  | l + 1, n => ⟨trivial, bytesOf_Scs nx l _⟩
theorem bytesOf_length : ∀ l n, (bytesOf l n).length = l
  | 0, _ => rfl
  | l + 1, n => by simp [bytesOf, bytesOf_length l]
theorem natOfBytes_conc (ρ : Rho) : ∀ (cs : List AV) (n : Nat), natOfBytes cs = some n → concs ρ cs = (bytesL cs.length n).map fun b => Value.int .u8 (b.toNat : Int)
  | [], n, h => rfl
  | v :: l, n, h => by
    cases v <;> try (simp [natOfBytes] at h; done)
    rename_i k z
    cases k <;> try (simp [natOfBytes] at h; done)
    cases z with
    | negSucc m => simp [natOfBytes] at h
    | ofNat b =>
      simp only [natOfBytes] at h
      split at h
      · rename_i m hm
        split at h
        · rename_i hb
          have hb : b < 256 := Nat.le_of_ble_eq_true hb
          cases h
          have ih := natOfBytes_conc ρ l m hm
          have e : Nat.add b (Nat.mul 256 m) = b + 256 * m := rfl
          simp only [concs, conc, List.length_cons, bytesL, List.map_cons, ih, e]
          rw [show (b + 256 * m) % 256 = b from by omega, show (b + 256 * m) / 256 = m from by omega]
          congr 2
          rw [UInt8.toNat_ofNat', Nat.mod_eq_of_lt hb]; rfl
        · cases h
      · cases h
theorem strEq_iff (l1 n1 l2 n2 : Nat) : strEq l1 n1 l2 n2 = true ↔ bytesL l1 n1 = bytesL l2 n2 := by
  rw [bytesL_inj]
  unfold strEq
  cases h : Nat.beq l1 l2
  · have : l1 ≠ l2 := fun e => by subst e; simp at h
    simp [this]
  · have : l1 = l2 := Nat.eq_of_beq_eq_true h
    subst this
    simp only [true_and]
    constructor
    · intro h2; exact Nat.eq_of_beq_eq_true h2
    · intro h2
      show Nat.beq (n1 % 256 ^ l1) (n2 % 256 ^ l1) = true
      rw [h2]; simp
theorem strEq_ok (l1 n1 l2 n2 : Nat) : strEq l1 n1 l2 n2 = (bytesL l1 n1 == bytesL l2 n2) := by
  rw [Bool.eq_iff_iff, strEq_iff]; simp
theorem strLess_ok : ∀ (f l1 n1 l2 n2 : Nat), l1 < f → strLess f l1 n1 l2 n2 = Op.bytesLess (bytesL l1 n1) (bytesL l2 n2)
  | 0, _, _, _, _, h => by omega
  | f + 1, l1, n1, 0, n2, h => by cases l1 <;> simp [strLess, bytesL, Op.bytesLess]
  | f + 1, 0, n1, l2 + 1, n2, h => by simp [strLess, bytesL, Op.bytesLess]
  | f + 1, l1 + 1, n1, l2 + 1, n2, h => by
    have ih := strLess_ok f l1 (n1 / 256) l2 (n2 / 256) (by omega)
    simp only [strLess, bytesL, Op.bytesLess]
    have e1 : (UInt8.ofNat (n1 % 256) < UInt8.ofNat (n2 % 256)) ↔ n1 % 256 < n2 % 256 := by
      rw [UInt8.lt_iff_toNat_lt, UInt8.toNat_ofNat', UInt8.toNat_ofNat', Nat.mod_mod, Nat.mod_mod]
    have e2 : (UInt8.ofNat (n1 % 256) = UInt8.ofNat (n2 % 256)) ↔ n1 % 256 = n2 % 256 := by
      rw [← UInt8.toNat_inj, UInt8.toNat_ofNat', UInt8.toNat_ofNat', Nat.mod_mod, Nat.mod_mod]
    cases h1 : Nat.blt (Nat.mod n1 256) (Nat.mod n2 256)
    · have hn : ¬ (n1 % 256 < n2 % 256) := fun hlt => by
        have : Nat.blt (n1 % 256) (n2 % 256) = true := Nat.ble_eq_true_of_le hlt
        rw [show Nat.blt (Nat.mod n1 256) (Nat.mod n2 256) = Nat.blt (n1 % 256) (n2 % 256) from rfl, this] at h1; cases h1
      simp only [decide_eq_false (fun h => hn (e1.1 h)), Bool.false_or]
      cases h2 : Nat.beq (Nat.mod n1 256) (Nat.mod n2 256)
      · have hne : ¬ (n1 % 256 = n2 % 256) := fun e => by
          rw [show Nat.beq (Nat.mod n1 256) (Nat.mod n2 256) = Nat.beq (n1 % 256) (n2 % 256) from rfl, e] at h2; simp at h2
        have hb : (UInt8.ofNat (n1 % 256) == UInt8.ofNat (n2 % 256)) = false := by
          rw [beq_eq_false_iff_ne]; exact fun h => hne (e2.1 h)
        simp [hb]
      · have he : n1 % 256 = n2 % 256 := Nat.eq_of_beq_eq_true h2
        have hb : (UInt8.ofNat (n1 % 256) == UInt8.ofNat (n2 % 256)) = true := by rw [he]; simp
        simp only [hb, Bool.true_and]
        exact ih
    · have hlt : n1 % 256 < n2 % 256 := Nat.le_of_ble_eq_true h1
      simp only [decide_eq_true (e1.2 hlt), Bool.true_or]
end Go.Ev
