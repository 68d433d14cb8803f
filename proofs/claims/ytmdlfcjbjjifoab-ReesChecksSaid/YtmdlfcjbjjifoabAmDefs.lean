/- The abstract machine: values, stores and the executor that turns Go code into plain obligations. Nothing is proved here. -/
import Derived.Calls
import Derived.Orders
namespace Go.AM
open Go

inductive BE where
  | lit (b : Bool) | v (b : Bool) | lt (x y : Int) | le (x y : Int) | eq (x y : Int) | ne (x y : Int)

def BE.val : BE → Bool
  | .lit b => b | .v b => b | .lt x y => decide (x < y) | .le x y => decide (x ≤ y) | .eq x y => decide (x = y) | .ne x y => decide (x ≠ y)

/-- The contents of a slice, as a plain list. -/
inductive RO where
  | ints (k : IntKind) (l : List Int) | bools (l : List Bool) | rows (k : IntKind) (l : List (List Int)) | brows (l : List (List Bool))
  | rows3 (l : List (List (List Int))) | pairs (l : List (Int × Int))

inductive AV where
  | int (k : IntKind) (n : Int) | bool (e : BE) | ro (r : RO) | vec (k : Nat) | ptr (k off : Nat) | rptr (r : RO) (i : Int) | vptr (k : Nat) (i : Int)
  | agg (l : List AV) | tup (l : List AV) | nils | any | fn (f : FuncId) (cap : List AV) | new (r : RO)

/-- The keys of a map: integers, or arrays of n integers. -/
inductive KeyD where
  | int (k : IntKind) | arr (n : Nat) (k : IntKind)

/-- A map's contents: keys and values in the order in which they came; a value is an integer of the kind vk, or (none) a bool as 0 or 1.
    'deep': rows that are owned one by one; hole: the row there is not in its place. -/
inductive Blk where
  | vec (wm : Nat) (r : RO) (ov : List (Int × Nat))
  | box (l : List AV)
  | map (kd : KeyD) (vk : Option IntKind) (m : List (List Int × Int))
  | deep (r : RO) (hole : Option Int)

abbrev Store := List (Nat × Blk)

/-- A key of this kind keeps what it stands for as long as it is there. -/
def loc (k : Nat) : Bool := match Nat.ble 1000 k with | true => false | false => true

/-- Are the kinds the same? (By cases, so that it computes.) -/
def kq : IntKind → IntKind → Bool
  | .i8, .i8 => true | .i16, .i16 => true | .i32, .i32 => true | .i64, .i64 => true | .u8, .u8 => true | .u16, .u16 => true | .u32, .u32 => true | .u64, .u64 => true | _, _ => false

def ifK (b : Bool) (p : Prop) : Prop := match b with | true => p | false => False

inductive TyD where
  | int (k : IntKind) | bool | str | slice (e : Nat) | arr (n e : Nat) | struct (fs : List (Nat × Nat)) | map (k e : Nat) | other

structure TyE where
  d : TyD
  sz : Nat
  bytes : Nat
  zero : List AV

def nthT : List TyE → Nat → TyE
  | [], _ => ⟨.other, 0, 0, []⟩ | a :: _, 0 => a | _ :: l, n + 1 => nthT l n

def RO.len : RO → Nat
  | .ints _ l => l.length | .bools l => l.length | .rows _ l => l.length | .brows l => l.length | .rows3 l => l.length | .pairs l => l.length

def lenK (r : RO) (K : Nat → Prop) : Prop :=
  match r with
  | .ints _ l => K l.length | .bools l => K l.length | .rows _ l => K l.length | .brows l => K l.length | .rows3 l => K l.length | .pairs l => K l.length

def RO.get : RO → Nat → AV
  | .ints k l, i => .int k (l.getD i 0) | .bools l, i => .bool (.v (l.getD i false)) | .rows k l, i => .ro (.ints k (l.getD i []))
  | .brows l, i => .ro (.bools (l.getD i [])) | .rows3 l, i => .ro (.rows .i64 (l.getD i [])) | .pairs l, i => .agg [.int .i64 (l.getD i (0, 0)).1, .int .i64 (l.getD i (0, 0)).2]

def getK (r : RO) (i : Int) (K : AV → Prop) : Prop :=
  match r with
  | .ints k l => K (.int k (l.getD i.toNat 0)) | .bools l => K (.bool (.v (l.getD i.toNat false))) | .rows k l => K (.ro (.ints k (l.getD i.toNat [])))
  | .brows l => K (.ro (.bools (l.getD i.toNat []))) | .rows3 l => K (.ro (.rows .i64 (l.getD i.toNat [])))
  | .pairs l => K (.agg [.int .i64 (l.getD i.toNat (0, 0)).1, .int .i64 (l.getD i.toNat (0, 0)).2])

/-- The element at i replaced. A row that is still owned is not put in here (see 'ov'). -/
def setK (r : RO) (i : Int) (v : AV) (K : RO → Prop) : Prop :=
  match r, v with
  | .ints k l, .int k' n => ifK (kq k k') <| K (.ints k (l.set i.toNat n))
  | .bools l, .bool e => (match e with | .lit b => K (.bools (l.set i.toNat b)) | .v b => K (.bools (l.set i.toNat b)) | e => K (.bools (l.set i.toNat e.val)))
  | .rows k l, .ro (.ints k' m) => ifK (kq k k') <| K (.rows k (l.set i.toNat m))
  | .rows k l, .nils => K (.rows k (l.set i.toNat []))
  | .brows l, .ro (.bools m) => K (.brows (l.set i.toNat m))
  | .brows l, .nils => K (.brows (l.set i.toNat []))
  | .rows3 l, .ro (.rows .i64 m) => K (.rows3 (l.set i.toNat m))
  | .rows3 l, .nils => K (.rows3 (l.set i.toNat []))
  | .pairs l, .agg [.int .i64 a, .int .i64 b] => K (.pairs (l.set i.toNat (a, b)))
  | _, _ => False

def catK (r s : RO) (K : RO → Prop) : Prop :=
  match r, s with
  | .ints k l, .ints k' m => ifK (kq k k') <| K (.ints k (l ++ m))
  | .bools l, .bools m => K (.bools (l ++ m))
  | .rows k l, .rows k' m => ifK (kq k k') <| K (.rows k (l ++ m))
  | .brows l, .brows m => K (.brows (l ++ m))
  | .rows3 l, .rows3 m => K (.rows3 (l ++ m))
  | .pairs l, .pairs m => K (.pairs (l ++ m))
  | _, _ => False

/-- The part from a to b. -/
def cutK (r : RO) (a b : Nat) (K : RO → Prop) : Prop :=
  match r with
  | .ints k l => K (.ints k ((l.take b).drop a)) | .bools l => K (.bools ((l.take b).drop a)) | .rows k l => K (.rows k ((l.take b).drop a))
  | .brows l => K (.brows ((l.take b).drop a)) | .rows3 l => K (.rows3 ((l.take b).drop a)) | .pairs l => K (.pairs ((l.take b).drop a))

/-- Is it a pair of zeros? -/
def zeroPair : List AV → Bool
  | [.int .i64 (.ofNat 0), .int .i64 (.ofNat 0)] => true | _ => false

/-- n elements of type e, each its zero. -/
def zerosG (TY : List TyE) (e : Nat) (fr : (α : Type) → α → List α) (K : RO → Prop) : Prop :=
  match (nthT TY e).d with
  | .int k => K (.ints k (fr _ 0))
  | .bool => K (.bools (fr _ false))
  | .slice f => (match (nthT TY f).d with
    | .int k => K (.rows k (fr _ []))
    | .bool => K (.brows (fr _ []))
    | .slice g => (match (nthT TY g).d with | .int .i64 => K (.rows3 (fr _ [])) | _ => False)
    | _ => False)
  | .arr 2 f => (match (nthT TY f).d with | .int .i64 => ifK (zeroPair (nthT TY e).zero) <| K (.pairs (fr _ (0, 0))) | _ => False)
  | _ => False

def zerosK (TY : List TyE) (e : Nat) (n : Nat) (K : RO → Prop) : Prop := zerosG TY e (fun _ a => List.replicate n a) K
def emptyK (TY : List TyE) (e : Nat) (K : RO → Prop) : Prop := zerosG TY e (fun _ _ => []) K

/-- n elements of b bytes each are no more than memory holds. -/
def capP (b : Nat) (n : Int) (K : Prop) : Prop :=
  match Nat.ble b 8 with
  | true => n ≤ 17592186044416 ∧ K
  | false => ifK (Nat.ble b 64) (n ≤ 2199023255552 ∧ K)

/-- One more at the end, of a list that is written out. -/
def snocK {α : Type} : List α → α → (List α → Prop) → Prop
  | [], x, K => K [x] | a :: l, x, K => snocK l x fun m => K (a :: m)

def dN (d : Option Nat) (K : Nat → Prop) : Prop := match d with | some d => K d | none => K 999

def nth : List AV → Nat → AV
  | [], _ => .any | a :: _, 0 => a | _ :: l, n + 1 => nth l n

def forceA (a : AV) (K : AV → Prop) : Prop :=
  match a with
  | .int k n => K (.int k n) | .bool e => (match e with | .lit b => K (.bool (.lit b)) | .v b => K (.bool (.v b)) | .lt x y => K (.bool (.lt x y)) | .le x y => K (.bool (.le x y)) | .eq x y => K (.bool (.eq x y)) | .ne x y => K (.bool (.ne x y)))
  | .ro r => K (.ro r) | .vec k => K (.vec k) | .ptr k o => K (.ptr k o) | .rptr r i => K (.rptr r i) | .vptr k i => K (.vptr k i)
  | .agg l => K (.agg l) | .tup l => K (.tup l) | .nils => K .nils | .any => K .any | .fn f c => K (.fn f c) | .new r => K (.new r)

def putK : List AV → Nat → AV → (List AV → Prop) → Prop
  | [], _, _, k => k []
  | _ :: l, 0, v, k => k (v :: l)
  | a :: l, n + 1, v, k => putK l n v fun l' => k (a :: l')

def dstK (d : Option Nat) (T : List AV) (v : AV) (K : List AV → Prop) : Prop :=
  match d with | none => K T | some d => putK T d v K

/-- Does the numeral fit the kind? (By cases, so that it computes.) -/
def fitB (k : IntKind) (n : Int) : Bool :=
  match n with
  | .ofNat m => (match k with
    | .i64 => Nat.ble m 9223372036854775807 | .u64 => Nat.ble m 18446744073709551615 | .i32 => Nat.ble m 2147483647 | .u8 => Nat.ble m 255 | _ => Nat.ble m 127)
  | .negSucc m => (match k with
    | .i64 => Nat.ble m 9223372036854775807 | .i32 => Nat.ble m 2147483647 | .i16 => Nat.ble m 127 | .i8 => Nat.ble m 127 | _ => false)

def constA : Value → AV
  | .int k n => (match fitB k n with | true => .int k n | false => .any) | .bool b => .bool (.lit b) | .slice none 0 0 => .nils | _ => .any

def evalK (T : List AV) (x : Operand) (K : AV → Prop) : Prop :=
  match x with
  | .tmp t => forceA (nth T t) K
  | .const v => forceA (constA v) K
  | .func f => K (.fn f [])
  | .global _ => K .any

def evalsK (T : List AV) : List Operand → (List AV → Prop) → Prop
  | [], K => K []
  | x :: l, K => evalK T x fun a => evalsK T l fun m => K (a :: m)

def findS : Store → Nat → Option Blk
  | [], _ => none
  | (j, b) :: S, k => match Nat.beq j k with | true => some b | false => findS S k

def setS : Store → Nat → Blk → (Store → Prop) → Prop
  | [], _, _, K => K []
  | (j, b) :: S, k, c, K => match Nat.beq j k with | true => K ((j, c) :: S) | false => setS S k c fun S' => K ((j, b) :: S')

def delS : Store → Nat → (Store → Prop) → Prop
  | [], _, K => K []
  | (j, b) :: S, k, K => match Nat.beq j k with | true => delS S k K | false => delS S k fun S' => K ((j, b) :: S')

/-- A value that names the key k replaced: an owned slice by 'to', all else by 'any'. Of one cell: what holds parts is given up. -/
def sweepA (k : Nat) (to : AV) (a : AV) (K : AV → Prop) : Prop :=
  match a with
  | .vec j => (match Nat.beq j k with | true => K to | false => K (.vec j))
  | .ptr j o => (match Nat.beq j k with | true => K .any | false => K (.ptr j o))
  | .vptr j o => (match Nat.beq j k with | true => K .any | false => K (.vptr j o))
  | .int k n => K (.int k n) | .bool e => K (.bool e) | .ro r => K (.ro r) | .rptr r i => K (.rptr r i) | .nils => K .nils
  | .fn f [] => K (.fn f [])
  | _ => K .any

def sweepL (k : Nat) (to : AV) : List AV → (List AV → Prop) → Prop
  | [], K => K []
  | a :: l, K => sweepA k to a fun a' => sweepL k to l fun l' => K (a' :: l')

def sweepG (k : Nat) (to : AV) : List AV → (List AV → Prop) → Prop
  | [], K => K []
  | a :: l, K =>
    match a with
    | .agg m => sweepL k to m fun m' => sweepG k to l fun l' => K (.agg m' :: l')
    | a => sweepA k to a fun a' => sweepG k to l fun l' => K (a' :: l')

/-- The same in every slot: also inside a struct, a tuple and what a closure has captured. -/
def sweepT (k : Nat) (to : AV) : List AV → (List AV → Prop) → Prop
  | [], K => K []
  | a :: l, K =>
    match a with
    | .agg m => sweepL k to m fun m' => sweepT k to l fun l' => K (.agg m' :: l')
    | .tup m => sweepG k to m fun m' => sweepT k to l fun l' => K (.tup m' :: l')
    | .fn f m => sweepL k to m fun m' => sweepT k to l fun l' => K (.fn f m' :: l')
    | a => sweepA k to a fun a' => sweepT k to l fun l' => K (a' :: l')

def setRow (r : RO) (i : Int) (s : RO) (K : RO → Prop) : Prop :=
  match r, s with
  | .rows k l, .ints k' m => ifK (kq k k') <| K (.rows k (l.set i.toNat m))
  | .brows l, .bools m => K (.brows (l.set i.toNat m))
  | .rows3 l, .rows .i64 m => K (.rows3 (l.set i.toNat m))
  | _, _ => False

def sweepS (k : Nat) (to : AV) : Store → (Store → Prop) → Prop
  | [], K => K []
  | (j, b) :: S, K =>
    match b with
    | .box m => sweepL k to m fun m' => sweepS k to S fun S' => K ((j, .box m') :: S')
    | .vec wm r [] => sweepS k to S fun S' => K ((j, .vec wm r []) :: S')
    | .vec wm r [(i, h)] => (match Nat.beq h k with
      | false => sweepS k to S fun S' => K ((j, .vec wm r [(i, h)]) :: S')
      | true => (match to with
        | .ro s => setRow r i s fun r' => sweepS k to S fun S' => K ((j, .vec wm r' []) :: S')
        | _ => False))
    | .map kd vk m => sweepS k to S fun S' => K ((j, .map kd vk m) :: S')
    | .deep r h => sweepS k to S fun S' => K ((j, .deep r h) :: S')
    | _ => False

/-- The key k is forgotten: nothing names it any more. -/
def killK (k : Nat) (T : List AV) (S : Store) (K : List AV → Store → Prop) : Prop :=
  ifK (loc k) <| delS S k fun S => sweepT k .any T fun T => sweepS k .any S fun S => K T S

/-- The owned slice k is read only from here on. -/
def freezeK (k : Nat) (T : List AV) (S : Store) (K : List AV → Store → Prop) : Prop :=
  match findS S k with
  | some (.vec _ r []) => delS S k fun S => sweepT k (.ro r) T fun T => sweepS k (.ro r) S fun S => K T S
  | some (.deep r none) => delS S k fun S => sweepT k (.ro r) T fun T => sweepS k (.ro r) S fun S => K T S
  | _ => False

/-- What the block's slice reads as, once nobody owns it. -/
def frzB : Blk → Option RO
  | .vec _ r [] => some r | .deep r none => some r | _ => none

def splitB : BE → (Bool → Prop) → Prop
  | .lit true, K => K true | .lit false, K => K false
  | .v b, K => (b = true → K true) ∧ (b = false → K false)
  | .lt x y, K => (x < y → K true) ∧ (y ≤ x → K false)
  | .le x y, K => (x ≤ y → K true) ∧ (y < x → K false)
  | .eq x y, K => (x = y → K true) ∧ (x ≠ y → K false)
  | .ne x y, K => (x ≠ y → K true) ∧ (x = y → K false)

def notK (e : BE) (K : BE → Prop) : Prop :=
  match e with
  | .lit true => K (.lit false) | .lit false => K (.lit true) | .v b => K (.v (!b)) | .lt x y => K (.le y x) | .le x y => K (.lt y x) | .eq x y => K (.ne x y) | .ne x y => K (.eq x y)

def inK (k : IntKind) (n : Int) : Prop := k.min ≤ n ∧ n ≤ k.max

def rangeK (k : IntKind) (n : Int) : Prop :=
  match k with
  | .i64 => -9223372036854775808 ≤ n ∧ n ≤ 9223372036854775807
  | k => k.min ≤ n ∧ n ≤ k.max

/-- The same, as what must be shown first. -/
def rangeP (k : IntKind) (n : Int) (K : Prop) : Prop :=
  match k with
  | .i64 => (-9223372036854775808 ≤ n ∧ n ≤ 9223372036854775807) ∧ K
  | .u64 => (0 ≤ n ∧ n ≤ 18446744073709551615) ∧ K
  | k => (k.min ≤ n ∧ n ≤ k.max) ∧ K

def andI (k : IntKind) (a b : Int) : Int := k.wrap (BitVec.ofInt k.bits a &&& BitVec.ofInt k.bits b).toNat
def orI (k : IntKind) (a b : Int) : Int := k.wrap (BitVec.ofInt k.bits a ||| BitVec.ofInt k.bits b).toNat
def shlI (k : IntKind) (a b : Int) : Int := k.wrap (a * 2 ^ (min b.toNat k.bits))
def shrI (k : IntKind) (a b : Int) : Int := a.fdiv (2 ^ (min b.toNat k.bits))

def boolT (TY : List TyE) (t : Nat) : Bool := match (nthT TY t).d with | .bool => true | _ => false

def binK (TY : List TyE) (op : BinOp) (t : Nat) (x y : AV) (K : AV → Prop) : Prop :=
  match x, y with
  | .int k a, .int k' b =>
    match op with
    | .shl => 0 ≤ b ∧ K (.int k (shlI k a b))
    | .shr => 0 ≤ b ∧ K (.int k (shrI k a b))
    | _ => ifK (kq k k') <|
      match op with
      | .lss => K (.bool (.lt a b)) | .gtr => K (.bool (.lt b a)) | .leq => K (.bool (.le a b)) | .geq => K (.bool (.le b a))
      | .eql => K (.bool (.eq a b)) | .neq => K (.bool (.ne a b))
      | .add => rangeP k (a + b) (K (.int k (a + b)))
      | .sub => rangeP k (a - b) (K (.int k (a - b)))
      | .mul => rangeP k (a * b) (K (.int k (a * b)))
      | .quo => (0 ≤ a ∧ 0 < b) ∧ K (.int k (a / b))
      | .rem => (0 ≤ a ∧ 0 < b) ∧ K (.int k (a % b))
      | .and => K (.int k (andI k a b))
      | .or => K (.int k (orI k a b))
      | _ => False
  | .bool a, .bool b =>
    match op with
    | .eql => ifK (boolT TY t) <| K (.bool (.v (a.val == b.val)))
    | .neq => ifK (boolT TY t) <| K (.bool (.v (!(a.val == b.val))))
    | _ => False
  | _, _ => False

def fieldOff : List (Nat × Nat) → Nat → Option (Nat × Nat)
  | [], _ => none | a :: _, 0 => some a | _ :: l, n + 1 => fieldOff l n

def takeK : List AV → Nat → (List AV → Prop) → Prop
  | _, 0, K => K []
  | [], _ + 1, _ => False
  | a :: l, n + 1, K => takeK l n fun m => K (a :: m)

def dropK : List AV → Nat → (List AV → Prop) → Prop
  | l, 0, K => K l
  | [], _ + 1, _ => False
  | _ :: l, n + 1, K => dropK l n K

/-- A variable of type t out of cells. -/
def partK (TY : List TyE) (t : Nat) (l : List AV) (off : Nat) (K : AV → Prop) : Prop :=
  match (nthT TY t).d with
  | .struct _ => dropK l off fun l => takeK l (nthT TY t).sz fun m => K (.agg m)
  | .arr _ _ => dropK l off fun l => takeK l (nthT TY t).sz fun m => K (.agg m)
  | _ => ifK (Nat.beq (nthT TY t).sz 1) (dropK l off fun l => match l with | a :: _ => forceA a K | [] => False)

/-- The cells m in the place of those from the first on. -/
def overK : List AV → List AV → (List AV → Prop) → Prop
  | l, [], K => K l
  | [], _ :: _, _ => False
  | _ :: l, b :: m, K => overK l m fun l' => K (b :: l')

def spliceK : List AV → Nat → List AV → (List AV → Prop) → Prop
  | l, 0, m, K => overK l m K
  | [], _ + 1, _, _ => False
  | a :: l, n + 1, m, K => spliceK l n m fun l' => K (a :: l')

def sameLenO : List Operand → Nat → Bool
  | [], 0 => true | _ :: l, n + 1 => sameLenO l n | _, _ => false

def sameLen : List AV → Nat → Bool
  | [], 0 => true | _ :: l, n + 1 => sameLen l n | _, _ => false

def cellOK : AV → Bool
  | .agg _ => false | .tup _ => false | .new _ => false | .any => false | .fn _ (_ :: _) => false | .rptr _ _ => false | .vptr _ _ => false | _ => true

def cellsOK : List AV → Bool
  | [] => true | a :: l => match cellOK a with | true => cellsOK l | false => false

/-- A value of type t as cells. -/
def asCellsK (TY : List TyE) (t : Nat) (v : AV) (K : List AV → Prop) : Prop :=
  match (nthT TY t).d with
  | .struct _ => (match v with | .agg m => (match sameLen m (nthT TY t).sz with | true => K m | false => False) | _ => False)
  | .arr _ _ => (match v with | .agg m => (match sameLen m (nthT TY t).sz with | true => K m | false => False) | _ => False)
  | _ => match cellOK v with | true => (match sameLen [v] (nthT TY t).sz with | true => K [v] | false => False) | false => False

/-- Elements out of a literal. -/
def elemsK (r : RO) : List AV → (RO → Prop) → Prop
  | [], K => K r
  | a :: l, K =>
    match r, a with
    | .ints k m, .int k' n => ifK (kq k k') <| snocK m n fun m => elemsK (.ints k m) l K
    | .bools m, .bool e => snocK m (e.val) fun m => elemsK (.bools m) l K
    | .rows k m, .ro (.ints k' x) => ifK (kq k k') <| snocK m x fun m => elemsK (.rows k m) l K
    | .rows k m, .nils => snocK m [] fun m => elemsK (.rows k m) l K
    | .brows m, .ro (.bools x) => snocK m x fun m => elemsK (.brows m) l K
    | .brows m, .nils => snocK m [] fun m => elemsK (.brows m) l K
    | .rows3 m, .ro (.rows .i64 x) => snocK m x fun m => elemsK (.rows3 m) l K
    | .rows3 m, .nils => snocK m [] fun m => elemsK (.rows3 m) l K
    | .pairs m, .agg [.int .i64 x, .int .i64 y] => snocK m (x, y) fun m => elemsK (.pairs m) l K
    | _, _ => False

def intsA : List AV → Bool
  | [] => true | .int _ _ :: l => intsA l | _ :: _ => false

/-- Names no key. -/
def plainA : AV → Bool
  | .int _ _ => true | .bool _ => true | .ro _ => true | .nils => true | .agg l => intsA l | _ => false

def plainsA : List AV → Bool
  | [] => true | a :: l => match plainA a with | true => plainsA l | false => false

/-- Each owned slice among the values is read only from here on. -/
def thawK : List AV → List AV → Store → (List AV → List AV → Store → Prop) → Prop
  | [], T, S, K => K [] T S
  | a :: l, T, S, K =>
    match a with
    | .vec k => (match findS S k with
      | some (.vec _ r []) => freezeK k T S fun T S => thawK l T S fun m T S => K (.ro r :: m) T S
      | _ => False)
    | a => ifK (plainA a) <| thawK l T S fun m T S => K (a :: m) T S

/-- The parts of a literal come in order and without a gap. -/
def partsK : Nat → List (Nat × Operand) → (List Operand → Prop) → Prop
  | _, [], K => K []
  | n, (i, x) :: l, K => match Nat.beq i n with | true => partsK (n + 1) l fun m => K (x :: m) | false => False

/-- A struct's or an array's cells, the parts filled in. -/
def fillK (T : List AV) (place : Nat → Option (Nat × Nat)) : List (Nat × Operand) → List AV → (List AV → Prop) → Prop
  | [], l, K => K l
  | (i, x) :: ps, l, K => evalK T x fun a =>
    match place i with
    | some (off, sz) => (match a with
      | .agg m => (match sameLen m sz with | true => spliceK l off m fun l' => fillK T place ps l' K | false => False)
      | a => match cellOK a with | true => (match sameLen [a] sz with | true => spliceK l off [a] fun l' => fillK T place ps l' K | false => False) | false => False)
    | none => False

def liveB (S : Store) (k : Nat) : Prop := match findS S k with | some _ => True | none => False
def deadB (S : Store) (k : Nat) : Prop := match findS S k with | some _ => False | none => True

/-- What stands (under S) serves as what is wanted (under S'). -/
def leA (S S' : Store) (a b : AV) : Prop :=
  match b with
  | .any => True
  | .int k' n' => (match a with | .int k n => ifK (kq k k') (n = n') | _ => False)
  | .bool e' => (match a with | .bool e => e.val = e'.val | _ => False)
  | .ro r' => (match a with
    | .ro r => r = r'
    | .nils => r'.len = 0
    | .vec k => (match findS S k with | some (.vec _ r []) => deadB S' k ∧ r = r' | some (.deep r none) => deadB S' k ∧ r = r' | _ => False)
    | _ => False)
  | .vec k' => (match a with
    | .vec k => k = k' ∧ liveB S' k' ∧ liveB S k'
    | .nils => (match findS S k', findS S' k' with | none, some (.vec _ _ _) => True | _, _ => False)
    | _ => False)
  | .ptr k' o' => (match a with | .ptr k o => k = k' ∧ o = o' ∧ liveB S' k' ∧ liveB S k' | _ => False)
  | .nils => (match a with | .nils => True | _ => False)
  | _ => False

def leL (S S' : Store) : List AV → List AV → Prop
  | [], [] => True
  | a :: l, b :: m => leA S S' a b ∧ leL S S' l m
  | _, _ => False

def leG (S S' : Store) : List AV → List AV → Prop
  | [], [] => True
  | a :: l, b :: m => (match b with
    | .agg y => (match a with | .agg x => leL S S' x y | _ => False)
    | b => leA S S' a b) ∧ leG S S' l m
  | _, _ => False

def leT (S S' : Store) (a b : AV) : Prop :=
  match b with
  | .agg m => (match a with | .agg l => leL S S' l m | _ => False)
  | .tup m => (match a with | .tup l => leG S S' l m | _ => False)
  | .fn f m => (match a with | .fn g l => g = f ∧ leL S S' l m | _ => False)
  | b => leA S S' a b

def appN : List Nat → List Nat → List Nat
  | [], m => m | a :: l, m => a :: appN l m

/-- What is handed to a callee: each owned slice as its content; 'ks': the keys that were looked at. -/
def lendC (S : Store) (a : AV) (K : AV → List Nat → Prop) : Prop :=
  match a with
  | .vec k => (match findS S k with
    | some (.vec _ r []) => K (.ro r) [k]
    | some (.deep r none) => K (.ro r) [k]
    | _ => False)
  | .int k n => K (.int k n) [] | .bool e => K (.bool e) [] | .ro r => K (.ro r) [] | .nils => K .nils [] | .any => K .any [] | .fn f [] => K (.fn f []) []
  | _ => False

def lendL (S : Store) : List AV → (List AV → List Nat → Prop) → Prop
  | [], K => K [] []
  | a :: l, K => lendC S a fun a' ks => lendL S l fun l' ks' => K (a' :: l') (appN ks ks')

def lendK (S : Store) : List AV → (List AV → List Nat → Prop) → Prop
  | [], K => K [] []
  | a :: l, K => match a with
    | .agg m => lendL S m fun m' ks => lendK S l fun l' ks' => K (.agg m' :: l') (appN ks ks')
    | a => lendC S a fun a' ks => lendK S l fun l' ks' => K (a' :: l') (appN ks ks')

/-- The arguments serve as those of the contract. -/
def argsK : List AV → List AV → Prop
  | [], [] => True
  | a :: l, b :: m => leT [] [] a b ∧ argsK l m
  | _, _ => False

def freezesK : List Nat → List AV → Store → (List AV → Store → Prop) → Prop
  | [], T, S, K => K T S
  | k :: ks, T, S, K => match findS S k with
    | none => freezesK ks T S K
    | some _ => freezeK k T S fun T S => freezesK ks T S K

/-- Holds nothing of memory that was there before. -/
def safeA : AV → Bool
  | .int _ _ => true | .bool _ => true | .nils => true | .any => true | .new (.ints _ _) => true | .new (.bools _) => true | .new (.pairs _) => true | _ => false
def safeL : List AV → Bool
  | [] => true | a :: l => match safeA a with | true => safeL l | false => false
def safe : AV → Bool
  | .tup l => safeL l | .agg l => safeL l | a => safeA a

def newA : AV → Nat
  | .new _ => 1 | _ => 0
def newL : List AV → Nat
  | [] => 0 | a :: l => match newA a with | 0 => newL l | _ => newL l + 1
/-- How many slices are handed over whole. -/
def news : AV → Nat
  | .tup l => newL l | a => newA a
def noNew (a : AV) : Bool := Nat.beq (news a) 0

/-- What a call has made is owned by the caller, under the key d (in a tuple: one of its parts at most). -/
def bindL (d : Nat) : List AV → List AV → Store → (List AV → List AV → Store → Prop) → Prop
  | [], T, S, K => K [] T S
  | a :: l, T, S, K =>
    match a with
    | .new r => killK d T S fun T S => K (.vec d :: l) T ((d, .vec 0 r []) :: S)
    | a => bindL d l T S fun m T S => K (a :: m) T S

def bindK (d : Nat) (v : AV) (T : List AV) (S : Store) (K : AV → List AV → Store → Prop) : Prop :=
  match v with
  | .new r => killK d T S fun T S => K (.vec d) T ((d, .vec 0 r []) :: S)
  | .tup l => bindL d l T S fun m T S => K (.tup m) T S
  | a => forceA a fun a => K a T S

/-- Everything that the machine is asked of a callee: args, what it hands back. 'Fn' is put in by the caller. -/
structure Spec where
  q : FuncId → List AV → AV → Prop
  m : FuncId → List AV → Store → AV → Store → Prop
  e : FuncId → List AV → (X : Type) → (X → AV) → (X → Prop) → Prop

/-- What is done with what a callee hands back. -/
def backK (d : Nat) (ks : List Nat) (ret : AV) (T : List AV) (S : Store) (K : AV → List AV → Store → Prop) : Prop :=
  ifK (Nat.ble (news ret) 1) (match ks, safe ret with
    | _, true => bindK d ret T S K
    | [], _ => bindK d ret T S K
    | ks, false => freezesK ks T S fun T S => bindK d ret T S K)

/-- A callee of which only a property of what it hands back is known. -/
def callEK (F : Spec) (d : Nat) (f : FuncId) (args : List AV) (T : List AV) (S : Store) (K : AV → List AV → Store → Prop) : Prop :=
  lendK S args fun args' ks => ∃ (X : Type) (args2 : List AV) (out : X → AV) (ok : X → Prop), F.e f args2 X out ok ∧ argsK args' args2 ∧ ∀ x, ok x → backK d ks (out x) T S K

def callK (F : Spec) (d : Nat) (f : FuncId) (args : List AV) (T : List AV) (S : Store) (K : AV → List AV → Store → Prop) : Prop :=
  lendK S args fun args' ks => ∃ args2 ret, F.q f args2 ret ∧ argsK args' args2 ∧
    ifK (Nat.ble (news ret) 1) (match ks, safe ret with
    | _, true => bindK d ret T S K
    | [], _ => bindK d ret T S K
    | ks, false => freezesK ks T S fun T S => bindK d ret T S K)

def appA : List AV → List AV → List AV
  | [], m => m | a :: l, m => a :: appA l m

/-- The store of a loop's head: what the loop's user says, in the place of what was there. -/
def updS : Store → Store → (Store → Prop) → Prop
  | [], S, K => K S
  | (k, b) :: u, S, K => match findS S k with
    | some _ => setS S k b fun S' => updS u S' K
    | none => updS u ((k, b) :: S) K

def leB (S S' : Store) (b b' : Blk) : Prop :=
  match b, b' with
  | .box l, .box m => leL S S' l m
  | .vec wm r [], .vec wm' r' [] => (wm ≤ wm' ∧ wm' ≤ r'.len) ∧ r = r'
  | .vec _wm r [(i, j)], .vec wm' r' [] => (match findS S j with
    | some (.vec _ s []) => deadB S' j ∧ wm' ≤ r.len ∧ setRow r i s fun r => r = r'
    | _ => False)
  | .vec _wm r [(i, j)], .vec wm' r' [(i', j')] => wm' = 0 ∧ r = r' ∧ i = i' ∧ j = j' ∧ liveB S' j ∧ liveB S j
  | .map kd vk m, .map kd' vk' m' => (kd = kd' ∧ vk = vk') ∧ m = m'
  | .deep r none, .deep r' none => r = r'
  | _, _ => False

/-- The stores, key by key. A key that is wanted and not there: a slice that has no array yet. -/
def leS (S S' : Store) : Store → Prop
  | [] => True
  | (k, b') :: R => (match findS S k with
    | some b => leB S S' b b'
    | none => match b' with | .vec wm r [] => ifK (loc k) (wm = 0 ∧ r.len = 0) | _ => False) ∧ leS S S' R

/-- All keys that are named stand in the store. -/
def namesA (S : Store) (a : AV) : Bool :=
  match a with
  | .vec k => (match findS S k with | some _ => true | none => false)
  | .ptr k _ => (match findS S k with | some _ => true | none => false)
  | .vptr k _ => (match findS S k with | some _ => true | none => false)
  | _ => true

def namesL (S : Store) : List AV → Bool
  | [] => true | a :: l => match namesA S a with | true => namesL S l | false => false

def namesG (S : Store) : List AV → Bool
  | [] => true
  | a :: l => match a with
    | .agg m => (match namesL S m with | true => namesG S l | false => false)
    | a => (match namesA S a with | true => namesG S l | false => false)

def namesT (S : Store) : List AV → Bool
  | [] => true
  | a :: l => match a with
    | .agg m => (match namesL S m with | true => namesT S l | false => false)
    | .fn _ m => (match namesL S m with | true => namesT S l | false => false)
    | .tup m => (match namesG S m with | true => namesT S l | false => false)
    | a => (match namesA S a with | true => namesT S l | false => false)

/-! ### A call that changes memory: the keys of the contract under the caller's names -/

def fndN : List (Nat × Nat) → Nat → Option Nat
  | [], _ => none | (i, j) :: σ, k => match Nat.beq i k with | true => some j | false => fndN σ k

def renC (σ : List (Nat × Nat)) (a : AV) : AV :=
  match a with
  | .vec k => (match fndN σ k with | some j => .vec j | none => .any)
  | .ptr k o => (match fndN σ k with | some j => .ptr j o | none => .any)
  | .vptr k i => (match fndN σ k with | some j => .vptr j i | none => .any)
  | .int k n => .int k n | .bool e => .bool e | .ro r => .ro r | .rptr r i => .rptr r i | .nils => .nils
  | .fn f [] => .fn f [] | _ => .any

def renL (σ : List (Nat × Nat)) : List AV → List AV
  | [] => [] | a :: l => renC σ a :: renL σ l

def renG (σ : List (Nat × Nat)) : List AV → List AV
  | [] => [] | a :: l => (match a with | .agg m => .agg (renL σ m) | a => renC σ a) :: renG σ l

def renT (σ : List (Nat × Nat)) (a : AV) : AV :=
  match a with
  | .agg m => .agg (renL σ m) | .tup m => .tup (renG σ m) | .fn f m => .fn f (renL σ m) | a => renC σ a

def renTL (σ : List (Nat × Nat)) : List AV → List AV
  | [] => [] | a :: l => renT σ a :: renTL σ l

def renB (σ : List (Nat × Nat)) (b : Blk) : Blk :=
  match b with | .box l => .box (renL σ l) | .vec wm r _ => .vec wm r [] | .map kd vk m => .map kd vk m | .deep r h => .deep r h

def renS (σ : List (Nat × Nat)) : Store → Store
  | [] => [] | (k, b) :: S => match fndN σ k with | some j => (j, renB σ b) :: renS σ S | none => renS σ S

/-- All keys have a name. -/
def okC (σ : List (Nat × Nat)) (a : AV) : Bool :=
  match a with
  | .vec k => (match fndN σ k with | some _ => true | none => false)
  | .ptr k _ => (match fndN σ k with | some _ => true | none => false)
  | .vptr k _ => (match fndN σ k with | some _ => true | none => false)
  | .fn _ (_ :: _) => false | .agg _ => false | .tup _ => false | .new _ => false | _ => true
def okL (σ : List (Nat × Nat)) : List AV → Bool
  | [] => true | a :: l => match okC σ a with | true => okL σ l | false => false
def okT (σ : List (Nat × Nat)) : List AV → Bool
  | [] => true
  | a :: l => match a with
    | .agg m => (match okL σ m with | true => okT σ l | false => false)
    | .fn _ m => (match okL σ m with | true => okT σ l | false => false)
    | a => (match okC σ a with | true => okT σ l | false => false)
def okB (σ : List (Nat × Nat)) (b : Blk) : Bool :=
  match b with | .box l => okL σ l | .vec _ _ [] => true | .map .. => true | _ => false
def okS (σ : List (Nat × Nat)) : Store → Bool
  | [] => true
  | (k, b) :: S => match fndN σ k, okB σ b with | some _, true => okS σ S | _, _ => false
def plainS : Store → Bool
  | [] => true
  | (_, b) :: S => match b with | .box _ => plainS S | .vec _ _ [] => plainS S | .map .. => plainS S | _ => false

def hasN (n : Nat) : List Nat → Bool
  | [] => false | m :: l => match Nat.beq n m with | true => true | false => hasN n l
def difN : List Nat → Bool
  | [] => true | n :: l => match hasN n l with | true => false | false => difN l
def fsts {α : Type} : List (Nat × α) → List Nat
  | [] => [] | (i, _) :: l => i :: fsts l
def snds : List (Nat × Nat) → List Nat
  | [] => [] | (_, j) :: l => j :: snds l
def locs : List Nat → Bool
  | [] => true | n :: l => match loc n with | true => locs l | false => false

/-- The caller's keys that do not stand for what they stood for. -/
def gone (S1 S2 : Store) : List (Nat × Nat) → List Nat
  | [] => []
  | (i, j) :: σ => match findS S1 i, findS S2 i, loc i with
    | some _, some _, false => gone S1 S2 σ
    | _, _, _ => j :: gone S1 S2 σ

/-- The names of what is lent. -/
def lentN (S1 : Store) : List (Nat × Nat) → List (Nat × Nat)
  | [] => []
  | (i, j) :: σ => match findS S1 i with | some _ => (i, j) :: lentN S1 σ | none => lentN S1 σ

def okM (σ : List (Nat × Nat)) (as : List AV) (S1 S2 : Store) : Bool :=
  match difN (fsts σ), difN (snds σ), difN (fsts S1), difN (fsts S2) with
  | true, true, true, true => (match okT (lentN S1 σ) as, okS (lentN S1 σ) S1, plainS S2, locs (gone S1 S2 σ) with | true, true, true, true => true | _, _, _, _ => false)
  | _, _, _, _ => false

def leTs (S S' : Store) : List AV → List AV → Prop
  | [], [] => True
  | a :: l, b :: m => leT S S' a b ∧ leTs S S' l m
  | _, _ => False

def forgetsK : List Nat → List AV → Store → (List AV → Store → Prop) → Prop
  | [], T, S, K => K T S
  | k :: ks, T, S, K => delS S k fun S => sweepT k .any T fun T => sweepS k .any S fun S => forgetsK ks T S K

def putS (σ : List (Nat × Nat)) : Store → Store → (Store → Prop) → Prop
  | [], S, K => K S
  | (i, b) :: R, S, K => match fndN σ i with
    | none => putS σ R S K
    | some j => (match findS S j with
      | some _ => setS S j (renB σ b) fun S => putS σ R S K
      | none => putS σ R ((j, renB σ b) :: S) K)

/-- What the function value has captured. -/
def capK (T : List AV) (x : Operand) (f : FuncId) (K : List AV → Prop) : Prop :=
  evalK T x fun a => match a with | .fn g cap => ifK (Nat.beq g f) (K cap) | _ => False

def callMK (F : Spec) (f : FuncId) (xs : List Operand) (x : Operand) (T : List AV) (S : Store) (K : AV → List AV → Store → Prop) : Prop :=
  ∃ (fz : List Nat) (σ : List (Nat × Nat)) (S1 : Store) (as2 : List AV) (ret : AV) (S2 : Store), F.m f as2 S1 ret S2 ∧ ifK (okM σ as2 S1 S2)
    (freezesK fz T S fun T S => evalsK T xs fun as => capK T x f fun cs => updS (renS (lentN S1 σ) S1) S fun S' => ifK (namesT S' T)
      ((leS S S' S' ∧ leTs S S' (appA as cs) (renTL (lentN S1 σ) as2)) ∧ forgetsK (gone S1 S2 σ) T S' fun T S => putS σ S2 S fun S => K (renT σ ret) T S))

def idxK : List AV → Int → Int → (AV → Prop) → Prop
  | [], _, _, _ => True
  | a :: l, j, i, K => (i = j → forceA a K) ∧ idxK l (j + 1) i K

def boundK (n : AV) (K : Int → Prop) : Prop := match n with | .int _ n => K n | _ => False

/-- Are the elements slices? -/
def rowsQ : RO → Bool
  | .rows _ _ => true | .brows _ => true | .rows3 _ => true | _ => false

def sliceT (TY : List TyE) (t : Nat) : Bool := match (nthT TY t).d with | .slice _ => true | _ => false

/-- Is the zero known? -/
def zeroB : List AV → Bool
  | [] => false | _ :: _ => true

def isAggD : TyD → Bool
  | .struct _ => true | .arr _ _ => true | _ => false

/-- Is a variable of type t what an element of r is? -/
def okEl (TY : List TyE) (t : Nat) (r : RO) : Bool :=
  match r with
  | .pairs _ => (match isAggD (nthT TY t).d with | true => Nat.beq (nthT TY t).sz 2 | false => false)
  | _ => (match isAggD (nthT TY t).d with | true => false | false => Nat.beq (nthT TY t).sz 1)

/-- Is t a slice type whose elements have the size of r's? -/
def okSl (TY : List TyE) (t : Nat) (r : RO) : Bool :=
  match (nthT TY t).d with
  | .slice e => (match r with | .pairs _ => Nat.beq (nthT TY e).sz 2 | _ => Nat.beq (nthT TY e).sz 1)
  | _ => false

/-! ### Maps -/

/-- What the map has at a key. -/
def getM : List (List Int × Int) → List Int → Option Int
  | [], _ => none | p :: m, k => if p.1 = k then some p.2 else getM m k
/-- The map with a value at a key. -/
def setM : List (List Int × Int) → List Int → Int → List (List Int × Int)
  | [], k, v => [(k, v)] | p :: m, k, v => if p.1 = k then (k, v) :: m else p :: setM m k v

def intT (TY : List TyE) (t : Nat) (K : IntKind → Prop) : Prop := match (nthT TY t).d with | .int k => K k | _ => False
def keyT (TY : List TyE) (t : Nat) (K : KeyD → Prop) : Prop :=
  match (nthT TY t).d with | .int k => K (.int k) | .arr n e => ifK (Nat.beq (nthT TY t).sz n) <| ifK (Nat.beq (nthT TY e).sz 1) <| intT TY e fun k => K (.arr n k) | _ => False
def valT (TY : List TyE) (t : Nat) (K : Option IntKind → Prop) : Prop :=
  match (nthT TY t).d with | .int k => K (some k) | .bool => K none | _ => False
/-- The kinds of a map type's keys and values. -/
def mapT (TY : List TyE) (t : Nat) (K : KeyD → Option IntKind → Prop) : Prop :=
  match (nthT TY t).d with | .map k e => keyT TY k fun kd => valT TY e fun vk => ifK (zeroB (nthT TY e).zero) (K kd vk) | _ => False

def kdq : KeyD → KeyD → Bool
  | .int k, .int k' => kq k k' | .arr n k, .arr n' k' => (match Nat.beq n n' with | true => kq k k' | false => false) | _, _ => false
def vkq : Option IntKind → Option IntKind → Bool
  | some k, some k' => kq k k' | none, none => true | _, _ => false

def intsK (k : IntKind) : List AV → (List Int → Prop) → Prop
  | [], K => K [] | .int k' n :: l, K => ifK (kq k k') <| intsK k l fun m => K (n :: m) | _ :: _, _ => False
def keyK (kd : KeyD) (a : AV) (K : List Int → Prop) : Prop :=
  match kd, a with
  | .int k, .int k' n => ifK (kq k k') (K [n])
  | .arr n k, .agg l => ifK (sameLen l n) (intsK k l K)
  | _, _ => False
def valK (vk : Option IntKind) (a : AV) (K : Int → Prop) : Prop :=
  match vk, a with
  | some k, .int k' n => ifK (kq k k') (K n)
  | none, .bool e => (match e with | .lit true => K 1 | .lit false => K 0 | e => K (if e.val then 1 else 0))
  | _, _ => False
def valA (vk : Option IntKind) (n : Int) : AV := match vk with | some k => .int k n | none => .bool (.ne n 0)

/-- A slice that is made; if its elements are slices, they may be owned one by one. -/
def mkSl (d : Nat) (r : RO) (K : AV → Option Blk → Prop) : Prop :=
  match rowsQ r with
  | false => K (.vec d) (some (.vec 0 r []))
  | true => K (.vec d) (some (.vec 0 r [])) ∨ K (.vec d) (some (.deep r none))

/-- What a call hands back, where nothing that is there changes. -/
def qretK (d : Nat) (ret : AV) (K : AV → Option Blk → Prop) : Prop :=
  match ret with
  | .new r => K (.vec d) (some (.vec 0 r []))
  | ret => ifK (noNew ret) (forceA ret fun v => K v none)

/-- An operation that changes nothing that is there: its value, and what it makes under the key d. -/
def qK (TY : List TyE) (F : Spec) (d : Nat) (o : Op) (T : List AV) (S : Store) (K : AV → Option Blk → Prop) : Prop :=
  match o with
  | .move x => evalK T x fun a => K a none
  | .assign x => evalK T x fun a => K a none
  | .binOp op t x y _ => evalK T x fun a => evalK T y fun b => binK TY op t a b fun v => K v none
  | .unOp op _ x => evalK T x fun a => (match op, a with
    | .not, .bool e => notK e fun e => K (.bool e) none
    | .neg, .int k n => rangeP k (0 - n) (K (.int k (0 - n)) none)
    | _, _ => False)
  | .pick c a b => evalK T c fun c => (match c with
    | .bool e => splitB e fun t => match t with | true => evalK T a fun v => K v none | false => evalK T b fun v => K v none
    | _ => False)
  | .alloc t => ifK (sameLen (nthT TY t).zero (nthT TY t).sz) <| ifK (zeroB (nthT TY t).zero) <| K (.ptr d 0) (some (.box (nthT TY t).zero))
  | .box t x => evalK T x fun a => asCellsK TY t a fun m => K (.ptr d 0) (some (.box m))
  | .build t ps => (match (nthT TY t).d with
    | .struct fs => ifK (zeroB (nthT TY t).zero) <| fillK T (fieldPlace TY fs) ps.toList (nthT TY t).zero fun m => K (.agg m) none
    | .arr _ e => ifK (zeroB (nthT TY t).zero) <| ifK (Nat.ble 1 (nthT TY e).sz) <| fillK T (fun i => some (i * (nthT TY e).sz, (nthT TY e).sz)) ps.toList (nthT TY t).zero fun m => K (.agg m) none
    | _ => False)
  | .load t x => evalK T x fun a => (match a with
    | .rptr r i => ifK (okEl TY t r) (getK r i fun v => K v none)
    | .vptr k i => (match findS S k with
      | some (.vec _ r []) => ifK (okEl TY t r) (getK r i fun v => K v none)
      | some (.vec _ r [(j, k')]) => ifK (okEl TY t r) ((i = j → K (.vec k') none) ∧ (i ≠ j → getK r i fun v => K v none))
      | _ => False)
    | .ptr k off => (match findS S k with
      | some (.box l) => partK TY t l off fun v => K v none
      | _ => False)
    | _ => False)
  | .makeMap t none => mapT TY t fun kd vk => K (.ptr d 0) (some (.map kd vk []))
  | .buildSlice t n ps => (match (nthT TY t).d with
    | .slice e => ifK (zeroB (nthT TY e).zero) <| ifK (Nat.ble n 8000000) <| partsK 0 ps.toList fun xs => match sameLenO xs n with
      | true => evalsK T xs fun vs => ifK (plainsA vs) <| emptyK TY e fun r => elemsK r vs fun r => ifK (okSl TY t r) (K (.vec d) (some (.vec 0 r [])))
      | false => False
    | _ => False)
  | .lookup t x k ok => mapT TY t fun kd vk => evalK T x fun a => evalK T k fun kv => (match a with
    | .ptr j _ => (match findS S j with
      | some (.map kd' vk' m) => ifK (kdq kd kd') <| ifK (vkq vk vk') <| keyK kd kv fun key => (match ok with
        | true => K (.tup [valA vk ((getM m key).getD 0), .bool (.v (getM m key).isSome)]) none
        | false => K (valA vk ((getM m key).getD 0)) none)
      | _ => False)
    | _ => False)
  | .nilCheck x => evalK T x fun a => (match a with | .ptr k o => K (.ptr k o) none | .fn f c => K (.fn f c) none | _ => False)
  | .makeSlice t l c => (match (nthT TY t).d with
    | .slice e => evalK T l fun l => evalK T c fun c => boundK l fun l => boundK c fun c =>
      And (0 ≤ l ∧ l ≤ c) <| capP (nthT TY e).bytes c <| zerosK TY e l.toNat fun r => ifK (Nat.ble 1 (nthT TY e).bytes) <| ifK (zeroB (nthT TY e).zero) <| ifK (okSl TY t r) (mkSl d r K)
    | _ => False)
  | .slice t x lo hi none => evalK T x fun a => (match a with
    | .ro r => ifK (okSl TY t r) <| lenK r fun n => loK T lo fun lo => hiK T hi n fun hi => ((0 ≤ lo ∧ lo ≤ hi) ∧ hi ≤ (n : Int)) ∧ cutK r lo.toNat hi.toNat fun r => K (.ro r) none
    | _ => False)
  | .fieldAddr t x f => evalK T x fun a => (match a, (nthT TY t).d with
    | .ptr k off, .struct fs => (match findS S k with
      | some (.box _) => (match fieldOff fs f with | some (o, u) => (match Nat.beq (nthT TY u).sz 0 with | false => K (.ptr k (off + o)) none | true => False) | none => False)
      | _ => False)
    | _, _ => False)
  | .field t x f => evalK T x fun a => (match a, (nthT TY t).d with
    | .agg l, .struct fs => (match fieldOff fs f with | some (o, u) => partK TY u l o fun v => K v none | none => False)
    | _, _ => False)
  | .indexAddr t x i => evalK T x fun a => evalK T i fun i => boundK i fun i => (match a with
    | .ro r => ifK (okSl TY t r) (lenK r fun n => (0 ≤ i ∧ i < (n : Int)) ∧ K (.rptr r i) none)
    | .vec k => (match findS S k with
      | some (.vec _ r _) => ifK (okSl TY t r) (lenK r fun n => (0 ≤ i ∧ i < (n : Int)) ∧ K (.vptr k i) none)
      | some (.deep r _) => ifK (okSl TY t r) (lenK r fun n => (0 ≤ i ∧ i < (n : Int)) ∧ K (.vptr k i) none)
      | _ => False)
    | _ => False)
  | .index t x i => evalK T x fun a => evalK T i fun i => boundK i fun i => (match a, (nthT TY t).d with
    | .agg l, .arr n e => (match sameLen l n, Nat.beq (nthT TY e).sz 1, isAggD (nthT TY e).d with
      | true, true, false => (0 ≤ i ∧ i < (n : Int)) ∧ idxK l 0 i fun v => K v none
      | _, _, _ => False)
    | _, _ => False)
  | .extract x i => evalK T x fun a => (match a with
    | .tup l => dropK l i fun l => match l with | a :: _ => forceA a fun a => K a none | [] => False
    | _ => False)
  | .makeFunc (.func f) first cap => (match first.toList with
    | [] => evalsK T cap.toList fun l => ifK (cellsOK l) <| K (.fn f l) none
    | _ => False)
  | .call c => (match c.callee with
    | .builtin .len => (match c.args.toList, c.argTypes.toList with
      | [x], [t] => (match sliceT TY t with
        | true => evalK T x fun a => (match a with
          | .ro r => lenK r fun n => K (.int .i64 n) none
          | .nils => K (.int .i64 0) none
          | .vec k => (match findS S k with | some (.vec _ r _) => lenK r fun n => K (.int .i64 n) none | some (.deep r _) => lenK r fun n => K (.int .i64 n) none | _ => False)
          | _ => False)
        | false => mapT TY t fun _ _ => evalK T x fun a => (match a with
          | .ptr k _ => (match findS S k with | some (.map _ _ m) => (m.length : Int) ≤ 9223372036854775807 ∧ K (.int .i64 m.length) none | _ => False)
          | _ => False))
      | _, _ => False)
    | .builtin .max => (match c.args.toList with
      | [x, y] => evalK T x fun a => evalK T y fun b => (match a, b with | .int k a, .int k' b => ifK (kq k k') <| K (.int k (max a b)) none | _, _ => False)
      | _ => False)
    | .builtin .min => (match c.args.toList with
      | [x, y] => evalK T x fun a => evalK T y fun b => (match a, b with | .int k a, .int k' b => ifK (kq k k') <| K (.int k (min a b)) none | _, _ => False)
      | _ => False)
    | .value (.func f) => evalsK T c.args.toList fun as => lendK S as fun as ks => ∃ as2 ret, F.q f as2 ret ∧ argsK as as2 ∧ (match ks, safe ret with
      | _, true => qretK d ret K
      | [], _ => qretK d ret K
      | _, _ => False)
    | _ => False)
  | _ => False
where
  fieldPlace (TY : List TyE) (fs : List (Nat × Nat)) (i : Nat) : Option (Nat × Nat) :=
    match fieldOff fs i with | some (o, t) => some (o, (nthT TY t).sz) | none => none
  loK (T : List AV) (lo : Option Operand) (K : Int → Prop) : Prop :=
    match lo with | none => K 0 | some x => evalK T x fun a => boundK a K
  hiK (T : List AV) (hi : Option Operand) (n : Nat) (K : Int → Prop) : Prop :=
    match hi with | none => K n | some x => evalK T x fun a => boundK a K

def srcK (S : Store) (b : AV) (K : Option RO → Prop) : Prop :=
  match b with
  | .ro r => K (some r)
  | .nils => K none
  | .vec j => (match findS S j with | some (.vec _ r []) => K (some r) | _ => False)
  | _ => False

def nb (a b : Nat) : Bool := match Nat.beq a b with | true => false | false => true
def rowK (r : RO) (i : Int) (K : RO → Prop) : Prop :=
  match r with
  | .rows k l => K (.ints k (l.getD i.toNat [])) | .brows l => K (.bools (l.getD i.toNat [])) | .rows3 l => K (.rows .i64 (l.getD i.toNat [])) | _ => False

/-- Is it one of the operations of 'qK' that calls nothing? -/
def quietOp : Op → Bool
  | .store .. => false | .buildSlice .. => false | .slice .. => false | .mapUpdate .. => false | .insert .. => false
  | .call c => (match c.callee with | .builtin .append => false | .builtin _ => true | _ => false)
  | _ => true

/-- Does it make a block? -/
def makesOp : Op → Bool
  | .alloc _ => true | .box .. => true | .makeSlice .. => true | .makeMap .. => true | .buildSlice .. => true | _ => false

/-- A value put into a map. -/
def putMK (TY : List TyE) (t : Nat) (x k y : Operand) (T : List AV) (S : Store) (K : AV → List AV → Store → Prop) : Prop :=
  mapT TY t fun kd vk => evalK T x fun a => evalK T k fun kv => evalK T y fun v => (match a with
    | .ptr j _ => (match findS S j with
      | some (.map kd' vk' m) => ifK (kdq kd kd') <| ifK (vkq vk vk') <| keyK kd kv fun key => valK vk v fun n => setS S j (.map kd vk (setM m key n)) fun S => K .any T S
      | _ => False)
    | _ => False)

/-- One operation. d: where its value goes (the key of what it makes). -/
def opB (TY : List TyE) (F : Spec) (d : Nat) (o : Op) (T : List AV) (S : Store) (K : AV → List AV → Store → Prop) : Prop :=
  match quietOp o with
  | true => (match makesOp o with
    | true => killK d T S fun T S => qK TY F d o T S fun v b => match b with | some b => K v T ((d, b) :: S) | none => False
    | false => qK TY F d o T S fun v b => match b with | none => K v T S | some _ => False)
  | false => match o with
    | .buildSlice t n ps => (match (nthT TY t).d with
      | .slice e => ifK (zeroB (nthT TY e).zero) <| ifK (Nat.ble n 8000000) <| partsK 0 ps.toList fun xs => match sameLenO xs n with
        | true => evalsK T xs fun vs => thawK vs T S fun vs T S => emptyK TY e fun r => elemsK r vs fun r => ifK (okSl TY t r) <| killK d T S fun T S => K (.vec d) T ((d, .vec 0 r []) :: S)
        | false => False
      | _ => False)
    | .mapUpdate t x k y => putMK TY t x k y T S K
    | .insert t x k y => putMK TY t x k y T S K
    | .store t x y => evalK T x fun a => evalK T y fun v => (match a with
      | .vptr k i => (match findS S k with
        | some (.vec wm r ov) => ifK (okEl TY t r) <| (wm : Int) ≤ i ∧ (match v, ov with
          | .vec k', [] => (match findS S k' with
            | some (.vec _ _ []) => ifK (rowsQ r) <| ifK (Nat.beq wm 0) <| setS S k (.vec 0 r [(i, k')]) fun S => K .any T S
            | _ => False)
          | v, [] => setK r i v fun r => setS S k (.vec wm r []) fun S => K .any T S
          | _, _ => False)
        | some (.deep r (some j)) => ifK (okEl TY t r) <| ifK (loc k) <| i = j ∧ (match v with
          | .vec h => (match findS S h with
            | some (.vec wm s []) => ifK (Nat.beq wm 0) <| ifK (nb k h) <| setRow r i s fun r' => forgetsK [h] T S fun T S => setS S k (.deep r' none) fun S => K .any T S
            | _ => False)
          | _ => False)
        | _ => False)
      | .ptr k off => (match findS S k with
        | some (.box l) => asCellsK TY t v fun m => spliceK l off m fun l' => setS S k (.box l') fun S => K .any T S
        | _ => False)
      | _ => False)
    | .slice t x lo hi none => evalK T x fun a => (match a with
      | .vec k => (match findS S k, lo with
        | some (.vec wm r []), none => ifK (okSl TY t r) <| lenK r fun n => qK.hiK T hi n fun hi => (0 ≤ hi ∧ hi ≤ (n : Int)) ∧ cutK r 0 hi.toNat fun r' => setS S k (.vec (max wm hi.toNat) r []) fun S => K (.ro r') T S
        | _, _ => False)
      | _ => qK TY F d (.slice t x lo hi none) T S fun v b => match b with | none => K v T S | some _ => False)
    | .call c => (match c.callee with
      | .value (.func f) => (evalsK T c.args.toList fun as => callK F d f as T S K) ∨ callMK F f c.args.toList (.func f) T S K ∨ (evalsK T c.args.toList fun as => callEK F d f as T S K)
      | .value x => evalK T x fun a => (match a with
        | .fn f cap => (evalsK T c.args.toList fun as => callK F d f (appA as cap) T S K) ∨ callMK F f c.args.toList x T S K
        | _ => False)
      | .builtin .append => (match c.args.toList, c.argTypes.toList with
        | [x, y], [t, t'] => (match Nat.beq t t', (nthT TY t).d with
          | true, .slice e => ifK (zeroB (nthT TY e).zero) <| evalK T x fun a => evalK T y fun b => srcK S b fun src => (match a, src with
            | .nils, some r => ifK (okSl TY t r) <| lenK r fun n => capP (nthT TY e).bytes n <| killK d T S fun T S => K (.vec d) T ((d, .vec 0 r []) :: S)
            | .vec k, some r' => (match findS S k with
              | some (.vec wm r []) => ifK (okSl TY t r) <| catK r r' fun r'' => lenK r'' fun n => capP (nthT TY e).bytes n <|
                  (killK k T S fun T S => K (.vec k) T ((k, .vec wm r'' []) :: S))
              | _ => False)
            | .vec k, none => K (.vec k) T S
            | .nils, none => K .nils T S
            | _, _ => False)
          | _, _ => False)
        | _, _ => False)
      | _ => False)
    | _ => False

/-- Is it the load of a row that is owned by itself? -/
def deepLd (o : Op) (T : List AV) (S : Store) : Bool :=
  match o with
  | .load _ (.tmp t) => (match nth T t with | .vptr k _ => (match findS S k with | some (.deep _ _) => true | _ => false) | _ => false)
  | _ => false

/-- The row is taken out of its place, and owned under the key d until it is put back. -/
def ldDeep (TY : List TyE) (d : Nat) (o : Op) (T : List AV) (S : Store) (K : AV → List AV → Store → Prop) : Prop :=
  match o with
  | .load t x => killK d T S fun T S => evalK T x fun a => (match a with
    | .vptr k i => (match findS S k with
      | some (.deep r none) => ifK (okEl TY t r) <| ifK (loc k) <| rowK r i fun s => setS S k (.deep r (some i)) fun S => K (.vec d) T ((d, .vec 0 s []) :: S)
      | _ => False)
    | _ => False)
  | _ => False

/-- One operation. d: where its value goes (the key of what it makes). -/
def opK (TY : List TyE) (F : Spec) (d : Nat) (o : Op) (T : List AV) (S : Store) (K : AV → List AV → Store → Prop) : Prop :=
  match deepLd o T S with
  | true => ldDeep TY d o T S K
  | false => opB TY F d o T S K

def guardK (ops : List Oper) (g : Option (Nat × Bool)) (T : List AV) (yes no : List AV → Prop) : Prop :=
  match g with
  | none => yes T
  | some (j, want) =>
    match (ops.getD j default).dst with
    | some d => (match nth T d with
      | .bool e => splitB e fun t => putK T d (.bool (.lit t)) fun T' => match t, want with | true, true => yes T' | false, false => yes T' | _, _ => no T'
      | .tup [] => no T
      | _ => False)
    | none => False

def opsK (TY : List TyE) (F : Spec) (ops : List Oper) : List Oper → List AV → Store → (List AV → Store → Prop) → Prop
  | [], T, S, K => K T S
  | o :: rest, T, S, K =>
    guardK ops o.guard T
      (fun T => dN o.dst fun d => opK TY F d o.op T S fun v T S => dstK o.dst T v fun T => opsK TY F ops rest T S K)
      (fun T => dstK o.dst T (.tup []) fun T => opsK TY F ops rest T S K)

/-! ### Regions whose operations may come in several orders -/

def bindB (e : Edge) : Bool := match e.ground with | .textOnly _ => false | .gcOnly _ => false | _ => true

def closE (C : List (List Nat)) : List Edge → List Nat → List Nat
  | [], acc => acc
  | e :: l, acc => if bindB e && !(acc.contains e.on) then closE C l (((C.getD e.on []).filter fun j => !(acc.contains j)) ++ (e.on :: acc)) else closE C l acc

def closAll : List Oper → List (List Nat) → List (List Nat)
  | [], C => C
  | o :: l, C => closAll l (C ++ [closE C o.after.toList []])

def dstAt (ops : Array Oper) (i : Nat) : Option Nat := (ops[i]?).bind (·.dst)

/-- Of one operation: what it looks at lies before it, and (g: it stands alone) all others lie before it or behind it. -/
def drawAt (ops : Array Oper) (g : List Bool) (C : List (List Nat)) (i : Nat) : Bool :=
  match ops[i]? with
  | none => true
  | some o =>
    (o.after.toList.all fun e => !bindB e || decide (e.on < i)) &&
    ((C.getD i []).all fun j => o.after.toList.any fun e => bindB e && (e.on == j || (C.getD e.on []).contains j)) &&
    ((o.looksAt ops).all fun t => (List.range ops.size).all fun j => !(dstAt ops j == some t) || (decide (j < i) && (C.getD i []).contains j) || (g.getD j false && decide (i < j))) &&
    (!(g.getD i false) || (List.range ops.size).all fun j => (decide (j < i) && (C.getD i []).contains j) || j == i || (decide (i < j) && (C.getD j []).contains i)) &&
    ((List.range ops.size).all fun j => i == j || dstAt ops i == none || !(dstAt ops i == dstAt ops j))

def drawOK (ops : Array Oper) (g : List Bool) : Bool := (List.range ops.size).all (drawAt ops g (closAll ops.toList []))

def freshK (S : Store) (d : Nat) (K : Prop) : Prop := match findS S d with | none => ifK (loc d) K | some _ => False

def drawK (TY : List TyE) (F : Spec) (ops : List Oper) : List Bool → List Oper → List AV → Store → (List AV → Store → Prop) → Prop
  | _, [], T, S, K => K T S
  | [], _ :: _, _, _, _ => False
  | g :: gs, o :: rest, T, S, K =>
    match g with
    | true => guardK ops o.guard T
      (fun T => dN o.dst fun d => opK TY F d o.op T S fun v T S => dstK o.dst T v fun T => drawK TY F ops gs rest T S K)
      (fun T => dstK o.dst T (.tup []) fun T => drawK TY F ops gs rest T S K)
    | false => guardK ops o.guard T
      (fun T => match o.dst with
        | some d => qK TY F d o.op T S fun v b => (match b with
          | none => putK T d v fun T => drawK TY F ops gs rest T S K
          | some b => freshK S d (putK T d v fun T => drawK TY F ops gs rest T ((d, b) :: S) K))
        | none => qK TY F 999 o.op T S fun _v b => (match b with
          | none => drawK TY F ops gs rest T S K
          | some _ => False))
      (fun T => dstK o.dst T (.tup []) fun T => drawK TY F ops gs rest T S K)

/-- The keys of what a region makes, given up at its head. -/
def killsK : List Nat → List AV → Store → (List AV → Store → Prop) → Prop
  | [], T, S, K => K T S
  | d :: l, T, S, K => match findS S d with
    | none => killsK l T S K
    | some _ => killK d T S fun T S => killsK l T S K

def makes : List Bool → List Oper → List Nat
  | g :: gs, o :: l => (match g, makesOp o.op || (match o.op with | .call _ => true | _ => false), o.dst with | false, true, some d => d :: makes gs l | _, _, _ => makes gs l)
  | _, _ => []

def memN (n : Nat) : List Nat → Bool
  | [] => false | m :: l => match Nat.beq n m with | true => true | false => memN n l

def dsts : List Oper → List Nat → List Nat
  | [], acc => acc
  | o :: l, acc => match o.dst with | some d => dsts l (d :: acc) | none => dsts l acc

def writes : Code → List Nat → List Nat
  | .region _ ops _, acc => dsts ops.toList acc
  | .seq a b, acc => writes a (writes b acc) | .cond _ a b, acc => writes a (writes b acc)
  | .block _ b, acc => writes b acc | .loop b, acc => writes b acc | .scope b, acc => writes b acc | _, acc => acc

def forgetK (W : List Nat) : Nat → List AV → (List AV → Prop) → Prop
  | _, [], k => k []
  | i, a :: l, k => forgetK W (i + 1) l fun l' => match memN i W with | true => k (.any :: l') | false => k (a :: l')

def updK : List (Nat × AV) → List AV → (List AV → Prop) → Prop
  | [], T, k => k T
  | (i, v) :: u, T, k => putK T i v fun T' => updK u T' k

def leU (S S' : Store) (T : List AV) : List (Nat × AV) → Prop
  | [] => True
  | (i, v) :: u => leT S S' (nth T i) v ∧ leU S S' T u

inductive EX where
  | normal | exit (id : Nat) | ret

def exK (TY : List TyE) (F : Spec) : Code → List AV → Store → (EX → List AV → Store → Prop) → Prop
  | .skip, T, S, Q => Q .normal T S
  | .region _ ops false, T, S, Q => opsK TY F ops.toList ops.toList T S (Q .normal)
  | .region _ ops true, T, S, Q => ∃ g : List Bool, drawOK ops g = true ∧ killsK (makes g ops.toList) T S fun T S => drawK TY F ops.toList g ops.toList T S (Q .normal)
  | .seq a b, T, S, Q => exK TY F a T S fun e T S => match e with | .normal => exK TY F b T S Q | .exit i => Q (.exit i) T S | .ret => Q .ret T S
  | .cond c a b, T, S, Q => evalK T c fun c => match c with
    | .bool e => splitB e fun t => match t with | true => exK TY F a T S Q | false => exK TY F b T S Q
    | _ => False
  | .block id b, T, S, Q => exK TY F b T S fun e T S => match e with
    | .exit j => (match Nat.beq j id with | true => Q .normal T S | false => Q (.exit j) T S)
    | .normal => Q .normal T S | .ret => Q .ret T S
  | .loop b, T, S, Q => ∃ W : List Nat, forgetK (appN W (writes b [])) 0 T fun T0 =>
     ∃ (X : Type) (U : X → List (Nat × AV)) (V : X → Store) (ok : X → Prop) (μ : X → Nat) (x0 : X),
      (ok x0 ∧ (updS (V x0) S fun S0 => ifK (namesT S0 T0) (leU S S0 T (U x0) ∧ leS S S0 S0))) ∧
      ∀ x, ok x → updK (U x) T0 fun T1 => updS (V x) S fun S1 => exK TY F b T1 S1 fun e T2 S2 => match e with
        | .normal => forgetK (appN W (writes b [])) 0 T2 fun T3 => ∃ x', (ok x' ∧ μ x' < μ x) ∧ T3 = T0 ∧ updS (V x') S fun S3 => ifK (namesT S3 T0) (leU S2 S3 T2 (U x') ∧ leS S2 S3 S3)
        | .exit i => Q (.exit i) T2 S2
        | .ret => Q .ret T2 S2
  | .exit id, T, S, Q => Q (.exit id) T S
  | .scope b, T, S, Q => exK TY F b T S Q
  | .ret, T, S, Q => Q .ret T S
  | _, _, _, _ => False

/-- What is handed back against what is said: a slice that the callee has made may be handed over whole ('new'), one at most. -/
def newKey : List AV → List AV → Store
  | .vec k :: l, .new _ :: m => match newKey l m with | [] => [(k, .box [])] | S => (k, .box []) :: S
  | _ :: l, _ :: m => newKey l m
  | _, _ => []

def leR (S S' : Store) (a b : AV) : Prop :=
  match b with
  | .new r' => (match a with
    | .vec k => (match findS S k with | some (.vec wm r []) => wm = 0 ∧ r = r' | _ => False)
    | .nils => r'.len = 0
    | _ => False)
  | b => leT S S' a b

def leRs (S S' : Store) : List AV → List AV → Prop
  | [], [] => True
  | a :: l, b :: m => leR S S' a b ∧ leRs S S' l m
  | _, _ => False

/-- Names no key at all. -/
def cleanA : AV → Bool
  | .vec _ => false | .ptr _ _ => false | .vptr _ _ => false | .tup _ => false | .fn _ (_ :: _) => false | _ => true
def cleanL : List AV → Bool
  | [] => true | a :: l => match cleanA a with | true => cleanL l | false => false
def cleanG : List AV → Bool
  | [] => true
  | a :: l => match a with
    | .agg m => (match cleanL m with | true => cleanG l | false => false)
    | a => (match cleanA a with | true => cleanG l | false => false)

def retsK (S : Store) (as rs : List AV) : Prop :=
  match newKey as rs with
  | [] => ifK (cleanG rs) (leRs S [] as rs)
  | [x] => ifK (cleanG rs) (leRs S [x] as rs)
  | _ => False

def resK (TY : List TyE) (T : List AV) (S : Store) : List ResultVar → (List AV → Prop) → Prop
  | [], K => K []
  | .tmp t :: l, K => forceA (nth T t) fun a => resK TY T S l fun m => K (a :: m)
  | .cell t ty :: l, K => (match nth T t with
    | .ptr k off => (match findS S k with
      | some (.box b) => partK TY ty b off fun a => resK TY T S l fun m => K (a :: m)
      | _ => False)
    | _ => False)

def repl : Nat → List AV
  | 0 => [] | n + 1 => .any :: repl n

def dropN : Nat → List AV → Nat
  | n, [] => n | 0, _ :: _ => 0 | n + 1, _ :: l => dropN n l

def factsR : RO → Prop
  | .ints k l => l.length ≤ 140737488355328 ∧ ∀ x ∈ l, rangeK k x
  | .bools l => l.length ≤ 140737488355328
  | .rows k l => l.length ≤ 140737488355328 ∧ ∀ m ∈ l, m.length ≤ 140737488355328 ∧ ∀ x ∈ m, rangeK k x
  | .brows l => l.length ≤ 140737488355328 ∧ ∀ m ∈ l, m.length ≤ 140737488355328
  | .rows3 l => l.length ≤ 140737488355328 ∧ ∀ n ∈ l, n.length ≤ 140737488355328 ∧ ∀ m ∈ n, m.length ≤ 140737488355328 ∧ ∀ x ∈ m, rangeK .i64 x
  | .pairs l => l.length ≤ 140737488355328 ∧ ∀ p ∈ l, rangeK .i64 p.1 ∧ rangeK .i64 p.2

/-- What the reading of an argument says by itself. -/
def factsA (a : AV) : Prop := match a with | .int k n => rangeK k n | .ro r => factsR r | _ => True
def factsC : List AV → Prop
  | [] => True | a :: l => factsA a ∧ factsC l
def factsL : List AV → Prop
  | [] => True | a :: l => (match a with | .agg m => factsC m | a => factsA a) ∧ factsL l

/-- The whole function: from args to ret. -/
def fnK (TY : List TyE) (F : Spec) (fn : Func) (args : List AV) (ret : AV) : Prop :=
  match fn.body with
  | some c => exK TY F c (appA args (repl (dropN fn.ntmps args))) [] fun e T S => match e with
    | .exit _ => False
    | _ => resK TY T S fn.results.toList fun as => match as, ret with
      | [a], r => retsK S [a] [r]
      | as, .tup rs => retsK S as rs
      | _, _ => False
  | none => False

/-- The whole function, of which only a property of what it hands back is told. -/
def fnEK (TY : List TyE) (F : Spec) (fn : Func) (args : List AV) {X : Type} (out : X → AV) (ok : X → Prop) : Prop :=
  match fn.body with
  | some c => exK TY F c (appA args (repl (dropN fn.ntmps args))) [] fun e T S => match e with
    | .exit _ => False
    | _ => resK TY T S fn.results.toList fun as => ∃ x, ok x ∧ match as, out x with
      | [a], r => retsK S [a] [r]
      | as, .tup rs => retsK S as rs
      | _, _ => False
  | none => False

/-- A function to which the keys of S1 are lent: from args to ret, leaving S2. -/
def fnMK (TY : List TyE) (F : Spec) (fn : Func) (args : List AV) (S1 : Store) (ret : AV) (S2 : Store) : Prop :=
  match fn.body with
  | some c => exK TY F c (appA args (repl (dropN fn.ntmps args))) S1 fun e T S => match e with
    | .exit _ => False
    | _ => resK TY T S fn.results.toList fun as => leS S S2 S2 ∧ match as, ret with
      | [a], r => leT S S2 a r
      | as, .tup rs => leG S S2 as rs
      | _, _ => False
  | none => False
end Go.AM
