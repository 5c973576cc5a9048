/-
  K: a typed evaluator over Sx, made to be run by the kernel on open terms: what it answers, the evaluator Sx answers. Definitions.
-/
import Derived.Test.YtgmppophlalliaaGreatSxDefs
namespace Sx
open Go

/-- Shapes of cells. -/
inductive CK where
  | int (k : IntKind)
  | bool
  | str
  | arr (e : CK)
  | pair (a b : CK)
  deriving DecidableEq

structure Arr (α : Type) where
  n : Nat
  f : Nat → α

def CK.ty : CK → Type
  | .int _ => Int
  | .bool => Bool
  | .str => ByteArray
  | .arr e => Arr e.ty
  | .pair a b => a.ty × b.ty

def CK.nc : CK → Nat
  | .pair a b => a.nc + b.nc
  | _ => 1

def CK.dflt : (c : CK) → c.ty
  | .int _ => (0 : Int)
  | .bool => false
  | .str => (⟨#[]⟩ : ByteArray)
  | .arr e => (⟨0, fun _ => e.dflt⟩ : Arr e.ty)
  | .pair a b => (a.dflt, b.dflt)

inductive KV where
  | U
  | i (k : IntKind) (n : Int)
  | b (x : Bool)
  | s (x : ByteArray)
  | unit
  | nil
  | agg (cs : List KV)
  | tup (cs : List KV)
  | ro (c : CK) (a : Arr c.ty)
  | rp (cs : List KV)
  | un (n : Nat)
  | fn (g : Nat) (cap : List KV)
  | own (h : Nat)
  | hp (h i o : Nat)
  | mp (h : Nat)

/-- The cells of a typed value. -/
def ofTy : (c : CK) → c.ty → List KV
  | .int k, n => [.i k n]
  | .bool, x => [.b x]
  | .str, x => [.s x]
  | .arr e, a => [.ro e a]
  | .pair a b, p => ofTy a p.1 ++ ofTy b p.2

def toTy1 : (c : CK) → KV → Option c.ty
  | .int k, .i k' n => if k' = k then some n else none
  | .bool, .b x => some x
  | .str, .s x => some x
  | .arr e, .ro e' a => if h : e' = e then some (h ▸ a) else none
  | .arr e, .nil => some (⟨0, fun _ => e.dflt⟩ : Arr e.ty)
  | _, _ => none

def toTy : (c : CK) → List KV → Option c.ty
  | .pair a b, cs => match toTy a (cs.take a.nc) with
    | some x => (match toTy b (cs.drop a.nc) with
      | some y => some (x, y)
      | none => none)
    | none => none
  | .int k, cs => (match cs with | [v] => toTy1 (.int k) v | _ => none)
  | .bool, cs => (match cs with | [v] => toTy1 .bool v | _ => none)
  | .str, cs => (match cs with | [v] => toTy1 .str v | _ => none)
  | .arr e, cs => (match cs with | [v] => toTy1 (.arr e) v | _ => none)

def shape1 : KV → Option CK
  | .i k _ => some (.int k)
  | .b _ => some .bool
  | .s _ => some .str
  | .ro c _ => some (.arr c)
  | _ => none

def shapeL : List KV → Option CK
  | [] => none
  | [v] => shape1 v
  | v :: r => match shape1 v, shapeL r with
    | some a, some b => some (.pair a b)
    | _, _ => none

/-- An object: a list of typed elements, or a map: a list of its entries. -/
structure KO where
  c : CK
  l : List c.ty
  mp : Bool

/-- A list object. -/
abbrev lo (c : CK) (l : List c.ty) : KO := ⟨c, l, false⟩

/-- The list object at a place. -/
def lob (obs : List KO) (h : Nat) : Option KO :=
  match obs[h]? with
  | some o => (match o.mp with
    | false => some o
    | true => none)
  | none => none

abbrev KEnv := List (Nat × KV)

def kget (s : Nat) : KEnv → KV
  | [] => .U
  | (k, x) :: r => match Nat.beq k s with
    | true => x
    | false => kget s r

structure KSt where
  tmps : KEnv
  obs : List KO

def ofV : Value → KV
  | .int k n => .i k n
  | .bool x => .b x
  | .string x => .s x
  | .slice none 0 0 => .nil
  | _ => .U

def kev (tm : KEnv) : Opd → KV
  | .t n => kget n tm
  | .c v => ofV v
  | .f g => .fn g []

def ofAV : AV → KV
  | .v x => ofV x
  | _ => .U

/-- A value of one cell. -/
def KV.one : KV → Bool
  | .agg _ => false
  | _ => true

def hd1 : List KV → KV
  | x :: _ => x
  | [] => .U

/-- A value that leans on no object and can lie in memory. -/
def KV.plain : KV → Bool
  | .i .. | .b _ | .s _ | .nil | .ro .. => true
  | _ => false

def KV.cells : KV → List KV
  | .agg cs => cs
  | x => [x]

/-- May a value be stored: its cells are plain. -/
def KV.solid (x : KV) : Bool := x.cells.all KV.plain

section
variable {R : Type}

def chk (b : Bool) (x : Option R) : Option R :=
  match b with
  | true => x
  | false => none

def sel (b : Bool) (x y : Option R) : Option R :=
  match b with
  | true => x
  | false => y

/-- Is a number a place in a list of so many. -/
def inr (i : Int) (n : Nat) : Bool := decide (0 ≤ i ∧ i < n)
def roomA (n bytes : Nat) : Bool := decide (n * bytes ≤ 2 ^ 44 ∧ n ≤ 2 ^ 44)
def roomM (n : Int) (bytes : Nat) : Bool := decide (0 ≤ n ∧ n * bytes ≤ 2 ^ 44 ∧ n ≤ 2 ^ 44)
def roomS (a b : ByteArray) : Bool := decide (a.size + b.size ≤ 2 ^ 40)
def byteAt (s : ByteArray) (i : Nat) : Int := ((s.data[i]?).getD 0).toNat

def kKnown (v : KV) (k : KV → Option R) : Option R :=
  match v with
  | .un _ => none
  | .U => none
  | v => k v

def kI (v : KV) (k : IntKind → Int → Option R) : Option R :=
  match v with
  | .i kd n => k kd n
  | _ => none

def kB (v : KV) (k : Bool → Option R) : Option R :=
  match v with
  | .b x => k x
  | _ => none

def kO? {α : Type} (o : Option α) (k : α → Option R) : Option R :=
  match o with
  | some x => k x
  | none => none

/-- What an operation does. -/
inductive KEff where
  | val (x : KV)
  | push (x : KV) (o : KO)                     -- a value and a new object
  | slot (s : Nat) (x : KV)
  | set (h : Nat) (o : KO)                     -- an object changed
  | grow (h : Nat) (o : KO)                    -- an object that grew: the value is its list, and no other value that leans on it is good any more

def kFill (n : Nat) (cells : List KV) (off : Nat) (new : List KV) : Option (List KV) :=
  match Nat.beq new.length n && Nat.ble (off + n) cells.length with
  | true => some (cells.take off ++ new ++ cells.drop (off + n))
  | false => none

def kBuild (tm : KEnv) : List KV → List (Nat × Nat × Opd) → Option (List KV)
  | z, [] => some z
  | z, (off, n, x) :: ps => match (kev tm x).solid with
    | true => (match kFill n z off (kev tm x).cells with
      | some z' => kBuild tm z' ps
      | none => none)
    | false => none

def kTake (kd : Option Nat) (cs : List KV) (k : KV → Option R) : Option R :=
  match kd with
  | none => (match cs with
    | c :: _ => k c
    | [] => none)
  | some n => chk (Nat.ble n cs.length) (k (.agg (cs.take n)))

def kBinI (op : BinOp) (kd : IntKind) (a b : Int) (k : KV → Option R) : Option R :=
  match op with
  | .add => k (.i kd (kd.wrap (a + b)))
  | .sub => k (.i kd (kd.wrap (a - b)))
  | .mul => k (.i kd (kd.wrap (a * b)))
  | .quo => chk (!(b == 0)) (k (.i kd (kd.wrap (a.tdiv b))))
  | .rem => chk (!(b == 0)) (k (.i kd (a.tmod b)))
  | .and => k (.i kd (kd.wrap (BitVec.ofInt kd.bits a &&& BitVec.ofInt kd.bits b).toNat))
  | .or => k (.i kd (kd.wrap (BitVec.ofInt kd.bits a ||| BitVec.ofInt kd.bits b).toNat))
  | .xor => k (.i kd (kd.wrap (BitVec.ofInt kd.bits a ^^^ BitVec.ofInt kd.bits b).toNat))
  | .andNot => k (.i kd (kd.wrap (BitVec.ofInt kd.bits a &&& ~~~ BitVec.ofInt kd.bits b).toNat))
  | .eql => k (.b (a == b))
  | .neq => k (.b (a != b))
  | .lss => k (.b (decide (a < b)))
  | .leq => k (.b (decide (a ≤ b)))
  | .gtr => k (.b (decide (a > b)))
  | .geq => k (.b (decide (a ≥ b)))
  | _ => none

def kBin (op : BinOp) (x y : KV) (k : KV → Option R) : Option R :=
  match x, y with
  | .i kd a, .i kd' b =>
    (match op with
    | .shl => chk (!decide (b < 0)) (k (.i kd (kd.wrap (a * 2 ^ (min b.toNat kd.bits)))))
    | .shr => chk (!decide (b < 0)) (k (.i kd (a.fdiv (2 ^ (min b.toNat kd.bits)))))
    | op => chk (decide (kd = kd')) (kBinI op kd a b k))
  | .s a, .s b =>
    (match op with
    | .add => chk (roomS a b) (k (.s (a ++ b)))
    | .eql => k (.b (a.toList == b.toList))
    | .neq => k (.b !(a.toList == b.toList))
    | _ => none)
  | _, _ => none

def kEq1 : Nat → KV → KV → Option Bool
  | 0, .i k a, .i k' b => if k = k' then some (a == b) else none
  | 1, .b a, .b b => some (a == b)
  | 2, .s a, .s b => some (a == b)
  | _, _, _ => none

def kEqs : List Nat → List KV → List KV → Option Bool
  | [], [], [] => some true
  | k :: ks, a :: as, b :: bs => match kEq1 k a b with
    | some x => (match kEqs ks as bs with
      | some y => some (x && y)
      | none => none)
    | none => none
  | _, _, _ => none

def kUn (op : UnOp) (x : KV) (k : KV → Option R) : Option R :=
  match op, x with
  | .neg, .i kd n => k (.i kd (kd.wrap (0 - n)))
  | .not, .b t => k (.b !t)
  | .xor, .i kd n => k (.i kd (kd.wrap (BitVec.ofInt kd.bits (if kd.signed then -1 else kd.max) ^^^ BitVec.ofInt kd.bits n).toNat))
  | _, _ => none

def kMax2 : KV → KV → Option KV
  | .i k x, .i k' y => if k = k' then some (.i k (if y > x then y else x)) else none
  | _, _ => none
def kMin2 : KV → KV → Option KV
  | .i k x, .i k' y => if k = k' then some (.i k (if y < x then y else x)) else none
  | _, _ => none
def kFold (f : KV → KV → Option KV) : KV → List KV → Option KV
  | x, [] => some x
  | x, y :: ys => match f x y with
    | some z => kFold f z ys
    | none => none
def kFolds (f : KV → KV → Option KV) : List KV → Option KV
  | [] => none
  | y :: ys => kFold f y ys

def kLen (obs : List KO) (q : Nat) (x : KV) (k : KV → Option R) : Option R :=
  match q, x with
  | 1, .ro _ a => k (.i .i64 a.n)
  | 1, .own h => kO? (lob obs h) fun o => k (.i .i64 o.l.length)
  | 1, .nil => k (.i .i64 (0 : Nat))
  | 0, .s s => k (.i .i64 s.size)
  | _, _ => none

def kIadr (obs : List KO) (sz : Nat) (x : KV) (j : Int) (k : KV → Option R) : Option R :=
  match x with
  | .ro c a => chk (Nat.beq sz c.nc) (chk (inr j a.n) (k (.rp (ofTy c (a.f j.toNat)))))
  | .own h => kO? (lob obs h) fun o => chk (Nat.beq sz o.c.nc) (chk (inr j o.l.length) (k (.hp h j.toNat 0)))
  | _ => none

def kLoad (obs : List KO) (kd : Option Nat) (x : KV) (k : KV → Option R) : Option R :=
  match x with
  | .rp cs => kTake kd cs k
  | .hp h i o => kO? (lob obs h) fun ob => chk (decide (i < ob.l.length)) (kTake kd ((ofTy ob.c (ob.l.getD i ob.c.dflt)).drop o) k)
  | _ => none

/-- What a slice holds, element by element. -/
def kEls (obs : List KO) (c : CK) (x : KV) (k : List c.ty → Option R) : Option R :=
  match x with
  | .ro c' a => (match decEq c' c with
    | isTrue h => k (h ▸ (List.range a.n).map a.f)
    | isFalse _ => none)
  | .own h => kO? (lob obs h) fun o => (match decEq o.c c with
    | isTrue h => k (h ▸ o.l)
    | isFalse _ => none)
  | .nil => k []
  | _ => none

def kChunks (sz : Nat) : Nat → List KV → List (List KV)
  | 0, _ => []
  | n + 1, cs => cs.take sz :: kChunks sz n (cs.drop sz)

def kTys (c : CK) : List (List KV) → Option (List c.ty)
  | [] => some []
  | e :: r => match toTy c e, kTys c r with
    | some x, some l => some (x :: l)
    | _, _ => none

/-- A typed list as a read-only slice. -/
def arrL {α : Type} (d : α) (l : List α) : Arr α := ⟨l.length, fun i => l.getD i d⟩

/-- '==' of two typed values, of which maps' keys are made. -/
def eqTy : (c : CK) → c.ty → c.ty → Bool
  | .int _, a, b => (show Int from a) == (show Int from b)
  | .bool, a, b => (show Bool from a) == (show Bool from b)
  | .str, a, b => (show ByteArray from a) == (show ByteArray from b)
  | .pair a b, x, y => eqTy a x.1 y.1 && eqTy b x.2 y.2
  | .arr _, _, _ => false

/-- Which kinds of cells a key has, if it can be one. -/
def keyKs : CK → Option (List Nat)
  | .int _ => some [0]
  | .bool => some [1]
  | .str => some [2]
  | .pair a b => match keyKs a, keyKs b with
    | some x, some y => some (x ++ y)
    | _, _ => none
  | .arr _ => none

def isPair : CK → Bool
  | .pair _ _ => true
  | _ => false

def mfind (kc vc : CK) (key : kc.ty) : List (kc.ty × vc.ty) → Option vc.ty
  | [] => none
  | e :: es => match eqTy kc key e.1 with
    | true => some e.2
    | false => mfind kc vc key es

def mput (kc vc : CK) (key : kc.ty) (x : vc.ty) : List (kc.ty × vc.ty) → List (kc.ty × vc.ty)
  | [] => [(key, x)]
  | e :: es => match eqTy kc key e.1 with
    | true => (key, x) :: es
    | false => e :: mput kc vc key x es

def optD {α : Type} (o : Option α) (d : α) : α :=
  match o with
  | some x => x
  | none => d
def optS {α : Type} (o : Option α) : Bool :=
  match o with
  | some _ => true
  | none => false

/-- A value for who only reads it. -/
def kFrz (obs : List KO) : KV → KV
  | .own h => match lob obs h with
    | some o => .ro o.c (arrL o.c.dflt o.l)
    | none => .U
  | .hp .. => .U
  | x => x

/-- Does a value lean on no object. -/
def kApart : Nat → KV → Bool
  | _, .i .. => true
  | _, .b _ => true
  | _, .s _ => true
  | _, .nil => true
  | _, .ro .. => true
  | d + 1, .agg cs => cs.all (kApart d)
  | d + 1, .tup cs => cs.all (kApart d)
  | d + 1, .rp cs => cs.all (kApart d)
  | d + 1, .fn _ cs => cs.all (kApart d)
  | _, _ => false

def kScal1 : KV → Bool
  | .i .. | .b _ | .s _ => true
  | _ => false
def kScal : KV → Bool
  | .agg cs => cs.all kScal1
  | .tup cs => cs.all kScal1
  | x => kScal1 x

def kSlcB (x : Option Opd) (tm : KEnv) (dflt : Nat) (top : Nat) (k : Nat → Option R) : Option R :=
  match x with
  | none => k dflt
  | some o => kI (kev tm o) fun _ i => chk (decide (0 ≤ i ∧ i ≤ top)) (k i.toNat)

def kSlc (sz : Nat) (tm : KEnv) (x : KV) (lo hi mx : Option Opd) (k : KV → Option R) : Option R :=
  match x, mx with
  | .ro c a, none => chk (Nat.beq sz c.nc) (chk (!(Nat.beq a.n 0)) (kSlcB hi tm a.n a.n fun h => kSlcB lo tm 0 h fun l => k (.ro c ⟨h - l, fun i => a.f (l + i)⟩)))
  | .ro c a, some _ => chk (Nat.beq sz c.nc) (chk (!(Nat.beq a.n 0)) (chk hi.isSome (kSlcB mx tm 0 a.n fun t => kSlcB hi tm 0 t fun h => kSlcB lo tm 0 h fun l => k (.ro c ⟨h - l, fun i => a.f (l + i)⟩))))
  | .s s, none => chk (Nat.beq sz 0) (kSlcB hi tm s.size s.size fun h => kSlcB lo tm 0 h fun l => k (.s (s.extract l h)))
  | _, _ => none

def sameOpd : Opd → Opd → Bool
  | .t a, .t b => Nat.beq a b
  | _, _ => false

/-- The zero cells of a type, if they are plain. -/
def kZero (z : List AV) (k : List KV → Option R) : Option R := chk ((z.map ofAV).all KV.plain) (k (z.map ofAV))

/-- What a call answers: whether its list is a new object, and the value. -/
abbrev KCall (R : Type) := Nat → List KV → (Bool → KV → Option R) → Option R

def kCall (ck : KCall R) (obs : List KO) (g : Nat) (args : List KV) (k : KEff → Option R) : Option R :=
  match args.all (kApart 8) with
  | true => ck g args fun fr y => match fr with
    | false => chk (kApart 8 y) (k (.val y))
    | true => (match y with
      | .ro c a => k (.push (.own obs.length) (lo c ((List.range a.n).map a.f)))
      | _ => none)
  | false => chk ((args.map (kFrz obs)).all (kApart 8)) (ck g (args.map (kFrz obs)) fun fr y => match fr with
    | false => chk (kScal y) (k (.val y))
    | true => none)

/-- One operation. -/
def kOp (ck : KCall R) (tm : KEnv) (obs : List KO) (vc : Option CK) (op : MO) (k : KEff → Option R) : Option R :=
  match op with
  | .mv x => (match vc with
    | none => kKnown (kev tm x) fun a => k (.val a)
    | some c => (match kev tm x with
      | .nil => k (.push (.own obs.length) (lo c []))
      | _ => none))
  | .pick c a b => kB (kev tm c) fun t => sel t (kKnown (kev tm a) fun v => k (.val v)) (kKnown (kev tm b) fun v => k (.val v))
  | .alloc z => k (.val (.un z.length))
  | .new z => kZero z fun zk => kO? (shapeL zk) fun c => kO? (toTy c zk) fun x => chk (Nat.beq z.length c.nc) (k (.push (.hp obs.length 0 0) (lo c [x])))
  | .box n x => chk ((kev tm x).solid && Nat.beq (kev tm x).cells.length n) (k (.val (.rp (kev tm x).cells)))
  | .boxm n x => chk ((kev tm x).solid && Nat.beq (kev tm x).cells.length n) (kO? (shapeL (kev tm x).cells) fun c => kO? (toTy c (kev tm x).cells) fun y => chk (Nat.beq n c.nc) (k (.push (.hp obs.length 0 0) (lo c [y]))))
  | .build z ps => kZero z fun zk => kO? (kBuild tm zk ps) fun cs => k (.val (.agg cs))
  | .lit sz z ps m => kZero z fun zk => kO? (kBuild tm zk ps) fun cs => chk (cs.all KV.plain) <|
      kO? (shapeL (cs.take sz)) fun c => chk (Nat.beq sz c.nc) (kO? (kTys c (kChunks sz (z.length / sz) cs)) fun l =>
        match m with
        | true => k (.push (.own obs.length) (lo c l))
        | false => k (.val (.ro c (arrL c.dflt l))))
  | .load kd x => kLoad obs kd (kev tm x) fun v => k (.val v)
  | .store n a x =>
    chk ((kev tm x).solid && Nat.beq (kev tm x).cells.length n)
      (match a, kev tm a with
      | .t s, .un m => chk (Nat.beq m n) (k (.slot s (.rp (kev tm x).cells)))
      | _, .hp h i o => kO? (lob obs h) fun ob => chk (decide (i < ob.l.length)) (kO? (kFill n (ofTy ob.c (ob.l.getD i ob.c.dflt)) o (kev tm x).cells) fun e =>
          kO? (toTy ob.c e) fun y => k (.set h (lo ob.c (ob.l.set i y))))
      | _, _ => none)
  | .bin op x y => kBin op (kev tm x) (kev tm y) fun v => k (.val v)
  | .eqn neg ks x y => (match kev tm x, kev tm y with
    | .agg xs, .agg ys => kO? (kEqs ks xs ys) fun t => k (.val (.b (if neg then !t else t)))
    | _, _ => none)
  | .eqb neg x y => kB (kev tm x) fun a => kB (kev tm y) fun b => k (.val (.b (if neg then !(a == b) else (a == b))))
  | .un op x => kUn op (kev tm x) fun v => k (.val v)
  | .conv kd x => kI (kev tm x) fun _ n => k (.val (.i kd (kd.wrap n)))
  | .fld off kd x => (match kev tm x with
    | .agg cs => kTake kd (cs.drop off) fun v => k (.val v)
    | _ => none)
  | .fadr off x => (match kev tm x with
    | .rp cs => chk (Nat.ble off cs.length) (k (.val (.rp (cs.drop off))))
    | .hp h i o => k (.val (.hp h i (o + off)))
    | _ => none)
  | .iadr sz x i => kI (kev tm i) fun _ j => kIadr obs sz (kev tm x) j fun v => k (.val v)
  | .idx len sz kd x i => (match kev tm x with
    | .agg cs => kI (kev tm i) fun _ j => chk (inr j len) (kTake kd (cs.drop (j.toNat * sz)) fun v => k (.val v))
    | _ => none)
  | .sidx x i => (match kev tm x with
    | .s s => kI (kev tm i) fun _ j => chk (inr j s.size) (k (.val (.i .u8 (byteAt s j.toNat))))
    | _ => none)
  | .len q x => kLen obs q (kev tm x) fun v => k (.val v)
  | .mx xs => kO? (kFolds kMax2 (xs.map (kev tm))) fun v => chk (kScal1 v) (k (.val v))
  | .mn xs => kO? (kFolds kMin2 (xs.map (kev tm))) fun v => chk (kScal1 v) (k (.val v))
  | .app sz bytes x y => (match kev tm x with
    | .own h => kO? (lob obs h) fun o => chk (Nat.beq sz o.c.nc) (kEls obs o.c (kev tm y) fun ys =>
        chk (roomA (o.l.length + ys.length) bytes) (k (.grow h (lo o.c (o.l ++ ys)))))
    | _ => none)
  | .mks sz bytes z l c => kI (kev tm l) fun _ n => kI (kev tm c) fun _ m => chk (sameOpd l c || n == m) (chk (Nat.beq z.length sz) <| chk (roomM n bytes)
      (kZero z fun zk => kO? (shapeL zk) fun q => kO? (toTy q zk) fun x => chk (Nat.beq sz q.nc) (k (.push (.own obs.length) (lo q (List.replicate n.toNat x))))))
  | .slc sz x lo hi mx => kSlc sz tm (kev tm x) lo hi mx fun v => k (.val v)
  | .ext x i => (match kev tm x with
    | .tup cs => kO? cs[i]? fun v => k (.val v)
    | _ => none)
  | .mkf g cap => chk ((cap.map (kev tm)).all (kApart 7)) (k (.val (.fn g (cap.map (kev tm)))))
  | .call g args => kCall ck obs g (args.map (kev tm)) k
  | .callv f args => (match kev tm f with
    | .fn g cap => kCall ck obs g (args.map (kev tm) ++ cap) k
    | _ => none)
  | .mkmap => (match vc with
    | some (.pair kc q) => chk (Nat.beq q.nc 1) (k (.push (.mp obs.length) ⟨.pair kc q, [], true⟩))
    | _ => none)
  | .look st ks z ok m x => (match kev tm m with
    | .mp h => kO? obs[h]? fun o => (match o with
      | ⟨.pair kc q, l, true⟩ => chk (decide (keyKs kc = some ks) && (st == isPair kc) && decide (shape1 (ofAV z) = some q)) (kO? (toTy kc (kev tm x).cells) fun key => chk (st == !(kev tm x).one) (kO? (toTy q [ofAV z]) fun zz => chk (Nat.beq q.nc 1) <|
          match ok with
          | false => k (.val (hd1 (ofTy q (optD (mfind kc q key l) zz))))
          | true => k (.val (.tup [hd1 (ofTy q (optD (mfind kc q key l) zz)), .b (optS (mfind kc q key l))]))))
      | _ => none)
    | _ => none)
  | .mput st ks m x y => (match kev tm m with
    | .mp h => kO? obs[h]? fun o => (match o with
      | ⟨.pair kc q, l, true⟩ => chk (decide (keyKs kc = some ks) && (st == isPair kc)) (kO? (toTy kc (kev tm x).cells) fun key => chk (st == !(kev tm x).one) (kO? (toTy q [kev tm y]) fun v =>
          k (.set h ⟨.pair kc q, mput kc q key v l, true⟩)))
      | _ => none)
    | _ => none)
  | _ => none

def kPut (dst : Option Nat) (x : KV) (tm : KEnv) : KEnv :=
  match dst with
  | some d => (d, x) :: tm
  | none => tm

/-- A value that leans on object h is good no more. -/
def kill (h : Nat) : KV → KV
  | .own h' => match Nat.beq h' h with | true => .U | false => .own h'
  | .hp h' i o => match Nat.beq h' h with | true => .U | false => .hp h' i o
  | x => x

def killE (h : Nat) : KEnv → KEnv
  | [] => []
  | (s, x) :: r => (s, kill h x) :: killE h r

def kApp (st : KSt) (dst : Option Nat) : KEff → KSt
  | .val x => { tmps := kPut dst x st.tmps, obs := st.obs }
  | .push x o => { tmps := kPut dst x st.tmps, obs := st.obs ++ [o] }
  | .slot s x => { tmps := kPut dst .unit ((s, x) :: st.tmps), obs := st.obs }
  | .set h o => { tmps := kPut dst .unit st.tmps, obs := st.obs.set h o }
  | .grow h o => { tmps := kPut dst (.own h) (killE h st.tmps), obs := st.obs.set h o }

structure KOp where
  dst : Option Nat
  op : MO
  guard : Option (Nat × Bool) := none
  vc : Option CK := none

def KOp.mop (m : KOp) : MOp := ⟨m.dst, m.op, m.guard⟩

def kOpG (ck : KCall R) (st : KSt) (m : KOp) (k : KSt → Option R) : Option R :=
  match m.guard with
  | none => kOp ck st.tmps st.obs m.vc m.op fun e => k (kApp st m.dst e)
  | some (s, want) => (match kget s st.tmps with
    | .b t => sel t
        (match want with
        | true => kOp ck ((s, .b true) :: st.tmps) st.obs m.vc m.op fun e => k (kApp { tmps := (s, .b true) :: st.tmps, obs := st.obs } m.dst e)
        | false => k { tmps := kPut m.dst .unit ((s, .b true) :: st.tmps), obs := st.obs })
        (match want with
        | false => kOp ck ((s, .b false) :: st.tmps) st.obs m.vc m.op fun e => k (kApp { tmps := (s, .b false) :: st.tmps, obs := st.obs } m.dst e)
        | true => k { tmps := kPut m.dst .unit ((s, .b false) :: st.tmps), obs := st.obs })
    | .unit => k { tmps := kPut m.dst .unit st.tmps, obs := st.obs }
    | _ => none)

def kOps (ck : KCall R) : List KOp → KSt → (KSt → Option R) → Option R
  | [], st, k => k st
  | m :: ms, st, k => kOpG ck st m fun st' => kOps ck ms st' k

def kkeep : List Nat → KEnv → KEnv
  | [], _ => []
  | s :: r, tm => (s, kget s tm) :: kkeep r tm

/-- Code: loops have numbers. -/
inductive KC where
  | skip
  | reg (ops : List KOp) (live : List Nat)
  | seq (a b : KC)
  | cond (c : Opd) (a b : KC)
  | block (id : Nat) (c : KC)
  | loop (n : Nat) (keep : List Nat) (c : KC)
  | ora (n : Nat) (c : MC)                       -- done by hand
  | exit (id : Nat)
  | ret

def KC.mc : KC → MC
  | .skip => .skip
  | .reg ops live => .reg (ops.map KOp.mop) live
  | .seq a b => .seq a.mc b.mc
  | .cond c a b => .cond c a.mc b.mc
  | .block id c => .block id c.mc
  | .loop _ keep c => .loop keep c.mc
  | .ora _ c => c
  | .exit id => .exit id
  | .ret => .ret

abbrev KK (R : Type) := Ex → KSt → Option R

/-- A slot gets a value in its place. -/
def kset (s : Nat) (v : KV) : KEnv → KEnv
  | [] => []
  | (k, x) :: r => match Nat.beq k s with
    | true => (k, v) :: r
    | false => (k, x) :: kset s v r

def kknow (c : Opd) (t : Bool) (tm : KEnv) : KEnv :=
  match c with
  | .t s => kset s (.b t) tm
  | _ => tm

/-- Behind a round: the next one. -/
def nxt (F : KSt → Option R) (k : KK R) : KK R := fun e s => match e with
  | .nrm => F s
  | .exit id => k (.exit id) s
  | .ret => k .ret s

def kC (ck : KCall R) (lp : Nat → KSt → KK R → Option R) : KC → KSt → KK R → Option R
  | .skip, st, k => k .nrm st
  | .reg ops live, st, k => kOps ck ops st fun st' => k .nrm { tmps := kkeep live st'.tmps, obs := st'.obs }
  | .seq a b, st, k => kC ck lp a st fun e st' => match e with
    | .nrm => kC ck lp b st' k
    | .exit id => k (.exit id) st'
    | .ret => k .ret st'
  | .cond c a b, st, k => kB (kev st.tmps c) fun t => sel t (kC ck lp a { tmps := kknow c true st.tmps, obs := st.obs } k) (kC ck lp b { tmps := kknow c false st.tmps, obs := st.obs } k)
  | .block id c, st, k => kC ck lp c st fun e st' => match e with
    | .nrm => k .nrm st'
    | .exit id' => (match Nat.beq id' id with
      | true => k .nrm st'
      | false => k (.exit id') st')
    | .ret => k .ret st'
  | .loop n _ _, st, k => lp n st k
  | .ora n _, st, k => lp n st k
  | .exit id, st, k => k (.exit id) st
  | .ret, st, k => k .ret st

def kRes1 (st : KSt) (r : Res) (k : KV → Option R) : Option R :=
  match r with
  | .tmp t => kKnown (kget t st.tmps) fun v => chk (kFrz st.obs v).solid (k (kFrz st.obs v))
  | .cell t kd => kLoad st.obs kd (kget t st.tmps) fun v => chk v.solid (k v)

def kRes (st : KSt) : List Res → (List KV → Option R) → Option R
  | [], k => k []
  | r :: rs, k => kRes1 st r fun v => kRes st rs fun vs => k (v :: vs)

def kOne : List KV → KV
  | [x] => x
  | rs => .tup rs

def kArgs : Nat → List KV → KEnv
  | _, [] => []
  | i, x :: l => (i, x) :: kArgs (i + 1) l

structure KF where
  ntmps : Nat
  res : List Res
  body : KC
  pure : Bool := true

def KF.mf (f : KF) : MF := ⟨f.ntmps, f.res, f.pure, f.body.mc⟩

/-- A function: what it answers. -/
def kF (ck : KCall R) (lp : Nat → KSt → KK R → Option R) (f : KF) (args : List KV) (k : KV → Option R) : Option R :=
  chk (Nat.ble args.length f.ntmps) (kC ck lp f.body { tmps := kArgs 0 args, obs := [] } fun e st => match e with
    | .exit _ => none
    | _ => kRes st f.res fun rs => k (kOne rs))

/-- A function that hands back a list of its own. -/
def kFF (ck : KCall R) (lp : Nat → KSt → KK R → Option R) (f : KF) (args : List KV) (k : KV → Option R) : Option R :=
  chk (Nat.ble args.length f.ntmps) (kC ck lp f.body { tmps := kArgs 0 args, obs := [] } fun e st => match e with
    | .exit _ => none
    | _ => (match f.res with
      | [.tmp t] => (match kget t st.tmps with
        | .own h => kO? (lob st.obs h) fun o => k (.ro o.c (arrL o.c.dflt o.l))
        | _ => none)
      | _ => none))

/-! ### Shapes of arguments, results and states -/

inductive SS where
  | cell (c : CK)
  | tup (c : CK)
  | agg (c : CK)
  | rp (c : CK)
  | fn (g : Nat) (cap : List (Bool × CK))        -- captured: a pointer or a value
  | own (h : Nat)
  | mp (h : Nat)
  | un (n : Nat)
  | unit

def capTy : List (Bool × CK) → Type
  | [] => Unit
  | (_, c) :: r => c.ty × capTy r

def SS.ty : SS → Type
  | .cell c => c.ty
  | .tup c => c.ty
  | .agg c => c.ty
  | .rp c => c.ty
  | .fn _ cap => capTy cap
  | _ => Unit

def one1 : List KV → KV
  | [x] => x
  | _ => .U

def capEnc : (l : List (Bool × CK)) → capTy l → List KV
  | [], _ => []
  | (true, c) :: r, x => .rp (ofTy c x.1) :: capEnc r x.2
  | (false, c) :: r, x => one1 (ofTy c x.1) :: capEnc r x.2

def SS.enc : (s : SS) → s.ty → KV
  | .cell c, x => one1 (ofTy c x)
  | .tup c, x => .tup (ofTy c x)
  | .agg c, x => .agg (ofTy c x)
  | .rp c, x => .rp (ofTy c x)
  | .fn g cap, x => .fn g (capEnc cap x)
  | .own h, _ => .own h
  | .mp h, _ => .mp h
  | .un n, _ => .un n
  | .unit, _ => .unit

def capDec : (l : List (Bool × CK)) → List KV → (capTy l → Option R) → Option R
  | [], [], k => k ()
  | (true, c) :: r, .rp cs :: vs, k => kO? (toTy c cs) fun x => capDec r vs fun y => k (x, y)
  | (false, c) :: r, v :: vs, k => kO? (toTy c [v]) fun x => capDec r vs fun y => k (x, y)
  | _, _, _ => none

def SS.dec : (s : SS) → KV → (s.ty → Option R) → Option R
  | .cell c, v, k => kO? (toTy c [v]) k
  | .tup c, .tup cs, k => kO? (toTy c cs) k
  | .agg c, .agg cs, k => kO? (toTy c cs) k
  | .rp c, .rp cs, k => kO? (toTy c cs) k
  | .fn g cap, .fn g' cs, k => chk (Nat.beq g' g) (capDec cap cs k)
  | .own h, .own h', k => chk (Nat.beq h' h) (k ())
  | .mp h, .mp h', k => chk (Nat.beq h' h) (k ())
  | .un n, .un n', k => chk (Nat.beq n' n) (k ())
  | .unit, .unit, k => k ()
  | _, _, _ => none

def argTy : List SS → Type
  | [] => Unit
  | s :: r => s.ty × argTy r

def argEnc : (l : List SS) → argTy l → List KV
  | [], _ => []
  | s :: r, x => s.enc x.1 :: argEnc r x.2

def argDec : (l : List SS) → List KV → (argTy l → Option R) → Option R
  | [], [], k => k ()
  | s :: r, v :: vs, k => s.dec v fun x => argDec r vs fun y => k (x, y)
  | _, _, _ => none

def slotTy : List (Nat × SS) → Type
  | [] => Unit
  | (_, s) :: r => s.ty × slotTy r

def slotEnc : (l : List (Nat × SS)) → slotTy l → KEnv
  | [], _ => []
  | (n, s) :: r, x => (n, s.enc x.1) :: slotEnc r x.2

def slotDec : (l : List (Nat × SS)) → KEnv → (slotTy l → Option R) → Option R
  | [], _, k => k ()
  | (n, s) :: r, tm, k => s.dec (kget n tm) fun x => slotDec r tm fun y => k (x, y)

def obTy : List (Bool × CK) → Type
  | [] => Unit
  | c :: r => List c.2.ty × obTy r

def obEnc : (l : List (Bool × CK)) → obTy l → List KO
  | [], _ => []
  | c :: r, x => ⟨c.2, x.1, c.1⟩ :: obEnc r x.2

def obDec : (l : List (Bool × CK)) → List KO → (obTy l → Option R) → Option R
  | [], [], k => k ()
  | c :: r, o :: os, k => (match decEq o.c c.2 with
    | isTrue h => chk (o.mp == c.1) (obDec r os fun y => k (h ▸ o.l, y))
    | isFalse _ => none)
  | _, _, _ => none

/-- A state's shape. -/
structure SH where
  slots : List (Nat × SS)
  obs : List (Bool × CK)

abbrev SH.ty (s : SH) : Type := slotTy s.slots × obTy s.obs
def SH.enc (s : SH) (x : s.ty) : KSt := { tmps := slotEnc s.slots x.1, obs := obEnc s.obs x.2 }
def SH.dec (s : SH) (st : KSt) (k : s.ty → Option R) : Option R := slotDec s.slots st.tmps fun x => obDec s.obs st.obs fun y => k (x, y)

/-- A function that others call: its shapes and what it computes. -/
structure Ent where
  g : Nat
  fns : List Nat
  a : List SS
  r : SS
  f : argTy a → Option r.ty
  fresh : Bool := false

def fnIds : List KV → List Nat
  | [] => []
  | .fn g _ :: r => g :: fnIds r
  | _ :: r => fnIds r

def sameIds : List Nat → List Nat → Bool
  | [], [] => true
  | a :: r, b :: s => Nat.beq a b && sameIds r s
  | _, _ => false

def ckOf : List Ent → KCall R
  | [], _, _, _ => none
  | e :: es, g, args, k => match Nat.beq e.g g && sameIds e.fns (fnIds args) with
    | true => argDec e.a args fun x => kO? (e.f x) fun y => k e.fresh (e.r.enc y)
    | false => ckOf es g args k
end
end Sx
