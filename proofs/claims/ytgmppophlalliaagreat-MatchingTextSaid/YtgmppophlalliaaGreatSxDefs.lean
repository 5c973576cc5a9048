/-
  Sx: a small evaluator for the part of Go that the program uses: abstract values, a code language, what a function answers.
-/
import GoSem.Dispatch
namespace Sx
open Go

/-- Abstract values. -/
inductive AV where
  | U                                             -- nothing is known
  | v (x : Value)                                 -- a value without memory
  | agg (cs : List AV)
  | tup (cs : List AV)
  | ro (sz n : Nat) (f : Nat → List AV)           -- a slice that is only read: n elements of sz cells
  | rp (cs : List AV)                             -- a pointer to cells that are only read
  | un (z : List AV)                              -- a pointer to a fresh variable that nobody else knows
  | fn (g : Nat) (cap : List AV)                  -- a function value
  | bm (g : Nat) (first : List AV)                -- a method with its receiver
  | hp (h ver i o : Nat)                          -- a pointer into object h: element i, cell o
  | sl (h ver off len : Nat)                      -- a slice of object h
  | mp (h : Nat)
  | it (h : Nat)                                  -- an iterator over a map
  | iface (t : Nat) (x : AV)

instance : Inhabited AV := ⟨.U⟩

abbrev AV.i (n : Int) : AV := .v (.int .i64 n)
abbrev AV.b (x : Bool) : AV := .v (.bool x)
def AV.cells : AV → List AV
  | .agg cs => cs
  | x => [x]

/-- Objects. -/
inductive AO where
  | sl (ver sz : Nat) (els : List (List AV))
  | mp (es : List (AV × AV))
  | it (m n : Nat) (seen : Option (Array Nat))    -- over map m of n entries: which were met

structure Hp where
  lim : Nat
  obs : List AO

inductive Opd where
  | t (n : Nat)
  | c (v : Value)
  | f (g : Nat)

inductive MO where
  | mv (x : Opd)
  | pick (c a b : Opd)
  | alloc (z : List AV)
  | new (z : List AV)
  | box (n : Nat) (x : Opd)
  | boxm (n : Nat) (x : Opd)
  | build (z : List AV) (ps : List (Nat × Nat × Opd))
  | lit (sz : Nat) (z : List AV) (ps : List (Nat × Nat × Opd)) (m : Bool)
  | load (k : Option Nat) (x : Opd)
  | store (n : Nat) (a x : Opd)
  | mat (n s : Nat) (x : Opd)                      -- a fresh variable gets its first value and becomes an object
  | bin (op : BinOp) (x y : Opd)
  | eqn (neg : Bool) (ks : List Nat) (x y : Opd)
  | eqb (neg : Bool) (x y : Opd)
  | un (op : UnOp) (x : Opd)
  | conv (k : IntKind) (x : Opd)
  | fld (off : Nat) (k : Option Nat) (x : Opd)
  | fadr (off : Nat) (x : Opd)
  | iadr (sz : Nat) (x i : Opd)
  | idx (len sz : Nat) (k : Option Nat) (x i : Opd)
  | sidx (x i : Opd)
  | len (k : Nat) (x : Opd)
  | mx (xs : List Opd)
  | mn (xs : List Opd)
  | app (sz bytes : Nat) (x y : Opd)
  | mks (sz bytes : Nat) (z : List AV) (l c : Opd)
  | slc (sz : Nat) (x : Opd) (lo hi mx : Option Opd)
  | ext (x : Opd) (i : Nat)
  | mkf (g : Nat) (cap : List Opd)
  | mkb (g : Nat) (first : List Opd)
  | call (g : Nat) (args : List Opd)
  | callv (f : Opd) (args : List Opd)
  | mkmap
  | look (st : Bool) (ks : List Nat) (z : AV) (ok : Bool) (m k : Opd)
  | mput (st : Bool) (ks : List Nat) (m k x : Opd)
  | rng (m : Opd)
  | ent (x : Opd)
  | nck (x : Opd)                                  -- is a pointer none
  | s2b (x : Opd)                                  -- the bytes of a string, only to be read
  | nilq (neg : Bool) (x : Opd)                    -- is a slice none
  | nop

structure MOp where
  dst : Option Nat
  op : MO
  guard : Option (Nat × Bool) := none
/-- An operation that is always wanted. -/
abbrev oo (d : Nat) (m : MO) : MOp := ⟨some d, m, none⟩
abbrev nn (m : MO) : MOp := ⟨none, m, none⟩

inductive MC where
  | skip
  | reg (ops : List MOp) (live : List Nat)
  | regd (an : List Nat) (ops : List MOp) (live : List Nat)   -- a region whose order is drawn, and whose operations are told apart when they are done
  | seq (a b : MC)
  | cond (c : Opd) (a b : MC)
  | block (id : Nat) (c : MC)
  | loop (keep : List Nat) (c : MC)
  | each (it d1 d2 : Nat) (keep : List Nat) (rv : List (Nat × Value)) (c : MC)
  | exit (id : Nat)
  | ret

inductive Res where
  | tmp (t : Nat)
  | cell (t : Nat) (k : Option Nat)

structure MF where
  ntmps : Nat
  res : List Res
  pure : Bool
  body : MC

abbrev Env := List (Nat × AV)

def get (s : Nat) : Env → AV
  | [] => .U
  | (k, x) :: r => if k = s then x else get s r

structure St where
  tmps : Env
  hp : Hp

inductive Ex where
  | nrm
  | exit (id : Nat)
  | ret

def ev (tm : Env) : Opd → AV
  | .t n => get n tm
  | .c v => .v v
  | .f g => .fn g []

/-- The object of a handle, if it is of this version. -/
def Hp.get (H : Hp) (h ver : Nat) : Option (Nat × List (List AV)) :=
  match H.obs[h]? with
  | some (.sl ver' sz els) => if ver = ver' then some (sz, els) else none
  | _ => none

def takeK : Option Nat → List AV → Option AV
  | none, c :: _ => some c
  | none, [] => none
  | some n, cs => if n ≤ cs.length then some (.agg (cs.take n)) else none

def fillC (n : Nat) (cells : List AV) (off : Nat) (new : List AV) : Option (List AV) :=
  if new.length = n ∧ off + n ≤ cells.length then some (cells.take off ++ new ++ cells.drop (off + n)) else none

def oneC : Value → Bool
  | .agg _ | .tuple _ => false
  | _ => true

/-- A value whose cells can lie in memory. -/
def AV.solid : AV → Bool
  | .U | .un _ | .tup _ => false
  | .v x => oneC x
  | _ => true

def evBuild (tm : Env) : List AV → List (Nat × Nat × Opd) → Option (List AV)
  | z, [] => some z
  | z, (off, n, x) :: ps => if (ev tm x).solid then (fillC n z off (ev tm x).cells).bind fun z' => evBuild tm z' ps else none

/-- May a value lie in memory that is only read: it leans on no object. -/
def AV.free : AV → Bool
  | .v _ => true
  | .ro .. => true
  | _ => false

def binI (op : BinOp) (k : IntKind) (a b : Int) : Option Value :=
  match op with
  | .add => some (.int k (k.wrap (a + b)))
  | .sub => some (.int k (k.wrap (a - b)))
  | .mul => some (.int k (k.wrap (a * b)))
  | .quo => if b = 0 then none else some (.int k (k.wrap (a.tdiv b)))
  | .rem => if b = 0 then none else some (.int k (a.tmod b))
  | .and => some (.int k (k.wrap (BitVec.ofInt k.bits a &&& BitVec.ofInt k.bits b).toNat))
  | .or => some (.int k (k.wrap (BitVec.ofInt k.bits a ||| BitVec.ofInt k.bits b).toNat))
  | .xor => some (.int k (k.wrap (BitVec.ofInt k.bits a ^^^ BitVec.ofInt k.bits b).toNat))
  | .andNot => some (.int k (k.wrap (BitVec.ofInt k.bits a &&& ~~~ BitVec.ofInt k.bits b).toNat))
  | .eql => some (.bool (a == b))
  | .neq => some (.bool (a != b))
  | .lss => some (.bool (a < b))
  | .leq => some (.bool (a ≤ b))
  | .gtr => some (.bool (a > b))
  | .geq => some (.bool (a ≥ b))
  | _ => none

def shiftI (op : BinOp) (k : IntKind) (a b : Int) : Option Value :=
  if b < 0 then none else
  match op with
  | .shl => some (.int k (k.wrap (a * 2 ^ (min b.toNat k.bits))))
  | .shr => some (.int k (a.fdiv (2 ^ (min b.toNat k.bits))))
  | _ => none

def binS (op : BinOp) (a b : ByteArray) : Option Value :=
  match op with
  | .add => if a.size + b.size ≤ 2 ^ 40 then some (.string (a ++ b)) else none
  | .eql => some (.bool (a.toList == b.toList))
  | .neq => some (.bool !(a.toList == b.toList))
  | _ => none

def evBin (op : BinOp) : AV → AV → Option AV
  | .v (.int k a), .v (.int k' b) =>
    match op with
    | .shl | .shr => (shiftI op k a b).map .v
    | _ => if k = k' then (binI op k a b).map .v else none
  | .v (.string a), .v (.string b) => (binS op a b).map .v
  | _, _ => none

/-- '==' of two cells: of kind 0 numbers, 1 bools, 2 strings. -/
def eqCell : Nat → AV → AV → Option Bool
  | 0, .v (.int k a), .v (.int k' b) => if k = k' then some (a == b) else none
  | 1, .v (.bool a), .v (.bool b) => some (a == b)
  | 2, .v (.string a), .v (.string b) => some (a == b)
  | _, _, _ => none

def eqCells : List Nat → List AV → List AV → Option Bool
  | [], [], [] => some true
  | k :: ks, a :: as, b :: bs => (eqCell k a b).bind fun x => (eqCells ks as bs).map fun y => x && y
  | _, _, _ => none

def evEq (ks : List Nat) : AV → AV → Option Bool
  | .agg xs, .agg ys => eqCells ks xs ys
  | _, _ => none

/-! ### Maps: keys are numbers, bools, strings, or structs of these -/

def isKind : Nat → AV → Bool
  | 0, .v (.int ..) => true
  | 1, .v (.bool _) => true
  | 2, .v (.string _) => true
  | _, _ => false

def evKey (st : Bool) (ks : List Nat) (a b : AV) : Option Bool :=
  if st then evEq ks a b else match ks with
    | [k] => eqCell k a b
    | _ => none

def keyOK (st : Bool) (ks : List Nat) (a : AV) : Bool :=
  if st then (match a with | .agg cs => cs.length == ks.length | _ => false) else match ks with
    | [k] => isKind k a
    | _ => false

def evFind (st : Bool) (ks : List Nat) (k : AV) : List (AV × AV) → Nat → Option (Option (Nat × AV))
  | [], _ => some none
  | e :: es, i => match evKey st ks k e.1 with
    | some true => some (some (i, e.2))
    | some false => evFind st ks k es (i + 1)
    | none => none

def evLook (H : Hp) (st : Bool) (ks : List Nat) (z : AV) (ok : Bool) (m k : AV) : Option AV :=
  if keyOK st ks k then
    match m with
    | .mp h => match H.obs[h]? with
      | some (.mp es) => (evFind st ks k es 0).map fun r => match r with
        | some (_, v) => if ok then .tup [v, .b true] else v
        | none => if ok then .tup [z, .b false] else z
      | _ => none
    | .v (.map o) => if o.isNone then some (if ok then .tup [z, .b false] else z) else none
    | _ => none
  else none

def putAt (es : List (AV × AV)) (k x : AV) : Option (Nat × AV) → List (AV × AV)
  | some (i, _) => es.set i (k, x)
  | none => es ++ [(k, x)]

def evUn : UnOp → AV → Option AV
  | .neg, .v (.int k n) => some (.v (.int k (k.wrap (0 - n))))
  | .not, .v (.bool b) => some (.v (.bool !b))
  | .xor, .v (.int k n) => (binI .xor k (if k.signed then -1 else k.max) n).map .v
  | _, _ => none

def evMax2 : AV → AV → Option AV
  | .v (.int k x), .v (.int k' y) => if k = k' then some (.v (.int k (if y > x then y else x))) else none
  | _, _ => none
def evMin2 : AV → AV → Option AV
  | .v (.int k x), .v (.int k' y) => if k = k' then some (.v (.int k (if y < x then y else x))) else none
  | _, _ => none
def evFold (f : AV → AV → Option AV) : AV → List AV → Option AV
  | x, [] => some x
  | x, y :: ys => (f x y).bind fun z => evFold f z ys

def evFolds (f : AV → AV → Option AV) : List AV → Option AV
  | [] => none
  | y :: ys => evFold f y ys

def evLen (H : Hp) : Nat → AV → Option AV
  | 1, .ro _ n _ => some (.i n)
  | 1, .sl h ver _ len => (H.get h ver).bind fun _ => some (.i len)
  | 0, .v (.string s) => some (.i s.size)
  | 1, .v (.slice none 0 0) => some (.i 0)
  | 2, .mp h => match H.obs[h]? with
    | some (.mp es) => some (.i es.length)
    | _ => none
  | _, _ => none

/-- Is a slice none. -/
def evNil (H : Hp) (x : AV) : Option Bool :=
  match x with
  | .v (.slice none 0 0) => some true
  | .ro _ n _ => if 0 < n then some false else none
  | .sl h ver off len => (evLen H 1 (.sl h ver off len)).map fun _ => false
  | _ => none

def evIadr (H : Hp) (sz : Nat) : AV → AV → Option AV
  | .ro sz' n f, .v (.int _ i) => if sz = sz' then (if 0 ≤ i ∧ i < n then some (.rp (f i.toNat)) else none) else none
  | .sl h ver off len, .v (.int _ i) => (H.get h ver).bind fun o => if sz = o.1 then (if 0 ≤ i ∧ i < len then some (.hp h ver (off + i.toNat) 0) else none) else none
  | _, _ => none

def evFadr (off : Nat) : AV → Option AV
  | .rp cs => if off ≤ cs.length then some (.rp (cs.drop off)) else none
  | .hp h ver i o => some (.hp h ver i (o + off))
  | _ => none

def evLoad (H : Hp) (k : Option Nat) : AV → Option AV
  | .rp cs => takeK k cs
  | .hp h ver i o => (H.get h ver).bind fun ob => (ob.2[i]?).bind fun e => takeK k (e.drop o)
  | _ => none

def Hp.put (H : Hp) (h : Nat) (o : AO) : Hp := { H with obs := H.obs.set h o }
def Hp.push (H : Hp) (o : AO) : Hp := { H with obs := H.obs ++ [o] }

/-- What a slice holds, element by element. -/
def evEls (H : Hp) (sz : Nat) : AV → Option (List (List AV))
  | .ro sz' n f => if sz = sz' then some ((List.range n).map f) else none
  | .sl h ver off len => (H.get h ver).bind fun o => if sz = o.1 ∧ off + len ≤ o.2.length then some ((o.2.drop off).take len) else none
  | .v (.slice none 0 0) => some []
  | .v (.string s) => if sz = 1 then some (s.toList.map fun b => [.v (.int .u8 b.toNat)]) else none
  | _ => none

def evApp (H : Hp) (sz bytes : Nat) (x y : AV) : Option (AV × Hp) :=
  (evEls H sz y).bind fun ys =>
    match x with
    | .v (.slice none 0 0) =>
      if ys.length * bytes ≤ 2 ^ 44 ∧ ys.length ≤ 2 ^ 44 then
        (if ys.length = 0 then some (.v (.slice none 0 0), H)
         else some (.sl H.obs.length 0 0 ys.length, H.push (.sl 0 sz ys)))
      else none
    | .sl h ver off len => (H.get h ver).bind fun o =>
      if sz = o.1 ∧ H.lim ≤ h ∧ off = 0 ∧ len ≤ o.2.length ∧ (len + ys.length) * bytes ≤ 2 ^ 44 ∧ len + ys.length ≤ 2 ^ 44 then
        some (.sl h (ver + 1) 0 (len + ys.length), H.put h (.sl (ver + 1) sz (o.2.take len ++ ys)))
      else none
    | _ => none

/-- A value for who only reads it. -/
def freeze (H : Hp) : Nat → AV → Option AV
  | _, .v x => some (.v x)
  | _, .ro sz n f => some (.ro sz n f)
  | d + 1, .agg cs => (cs.mapM (freeze H d)).map .agg
  | d + 1, .tup cs => (cs.mapM (freeze H d)).map .tup
  | d + 1, .sl h ver off len => (H.get h ver).bind fun o =>
      if H.lim ≤ h ∧ off + len ≤ o.2.length then
        (((o.2.drop off).take len).mapM (fun (e : List AV) => e.mapM (freeze H d))).map fun es => .ro o.1 len (fun i => es.getD i [])
      else none
  | _, _ => none

def evSlcB (x : Option Opd) (tm : Env) (dflt : Nat) (top : Nat) : Option Nat :=
  match x with
  | none => some dflt
  | some o => match ev tm o with
    | .v (.int _ i) => if 0 ≤ i ∧ i ≤ top then some i.toNat else none
    | _ => none

def evSlc (sz : Nat) (tm : Env) (x : AV) (lo hi mx : Option Opd) : Option AV :=
  match x, mx with
  | .v (.string s), none =>
    if sz = 0 then
    (evSlcB hi tm s.size s.size).bind fun h => (evSlcB lo tm 0 h).bind fun l => some (.v (.string (s.extract l h))) else none
  | .ro sz' n f, none =>
    if sz = sz' ∧ 0 < sz then
      (evSlcB hi tm n n).bind fun h => (evSlcB lo tm 0 h).bind fun l => some (.ro sz (h - l) (fun i => f (l + i)))
    else none
  | _, _ => none

/-- A cut with an end of the room. -/
def evSlc3 (sz : Nat) (tm : Env) (x : AV) (lo hi mx : Option Opd) : Option AV :=
  match x with
  | .ro sz' n f =>
    if sz = sz' ∧ 0 < sz ∧ hi.isSome = true then
      (evSlcB mx tm 0 n).bind fun t => (evSlcB hi tm 0 t).bind fun h => (evSlcB lo tm 0 h).bind fun l => some (.ro sz (h - l) (fun i => f (l + i)))
    else none
  | _ => none
def evSlcQ (sz : Nat) (tm : Env) (x : AV) (lo hi mx : Option Opd) : Option AV := if mx.isSome = true then evSlc3 sz tm x lo hi mx else evSlc sz tm x lo hi mx

/-- A cut of a slice; of an object as well. -/
def evSlcH (H : Hp) (sz : Nat) (tm : Env) (x : AV) (lo hi mx : Option Opd) : Option AV :=
  match x with
  | .sl h ver off len => if mx.isNone then (H.get h ver).bind fun o => if sz = o.1 ∧ 0 < sz then
      (evSlcB hi tm len len).bind fun h' => (evSlcB lo tm 0 h').bind fun l => if l = 0 ∨ l < len then some (.sl h ver (off + l) (h' - l)) else none else none else none
  | x => evSlcQ sz tm x lo hi mx

abbrev CallF := Nat → List AV → Hp → Option (AV × Hp)

/-- What an operation does: a value; a value and a heap; a slot that gets a value; a heap. -/
inductive Eff where
  | val (x : AV)
  | valH (x : AV) (H : Hp)
  | slot (s : Nat) (x : AV)
  | slotH (s : Nat) (x : AV) (H : Hp)
  | hp (H : Hp)

def AV.known : AV → Bool
  | .un _ => false
  | _ => true

/-- One operation: what it does. -/
def evO (call : CallF) (tm : Env) (H : Hp) : MO → Option Eff
  | .mv x => if (ev tm x).known then some (.val (ev tm x)) else none
  | .pick c a b => match ev tm c with
    | .v (.bool t) => if (if t then ev tm a else ev tm b).known then some (.val (if t then ev tm a else ev tm b)) else none
    | _ => none
  | .alloc z => some (.val (.un z))
  | .new z => some (.valH (.hp H.obs.length 0 0 0) (H.push (.sl 0 z.length [z])))
  | .box n x => if (ev tm x).solid ∧ (ev tm x).cells.length = n then some (.val (.rp (ev tm x).cells)) else none
  | .boxm n x => if (ev tm x).solid ∧ (ev tm x).cells.length = n then some (.valH (.hp H.obs.length 0 0 0) (H.push (.sl 0 n [(ev tm x).cells]))) else none
  | .build z ps => (evBuild tm z ps).map fun cs => .val (.agg cs)
  | .lit sz z ps m =>
    (evBuild tm z ps).bind fun cs =>
      let els := (List.range (z.length / sz)).map fun i => (cs.drop (i * sz)).take sz
      if m then some (.valH (.sl H.obs.length 0 0 els.length) (H.push (.sl 0 sz els)))
      else if els.all (fun e => e.all AV.free) then some (.val (.ro sz els.length (fun i => els.getD i []))) else none
  | .load k x => (evLoad H k (ev tm x)).map .val
  | .store n a x =>
    if (ev tm x).solid ∧ (ev tm x).cells.length = n then
      match a, ev tm a with
      | .t s, .un z => if z.length = n then some (.slot s (.rp (ev tm x).cells)) else none
      | _, .hp h ver i o => (H.get h ver).bind fun ob =>
        if H.lim ≤ h then (ob.2[i]?).bind fun e => (fillC n e o (ev tm x).cells).map fun e' =>
          .hp (H.put h (.sl ver ob.1 (ob.2.set i e')))
        else none
      | _, _ => none
    else none
  | .mat n s x => match get s tm with
    | .un z => if (ev tm x).solid ∧ (ev tm x).cells.length = n ∧ z.length = n ∧ 0 < n then some (.slotH s (.hp H.obs.length 0 0 0) (H.push (.sl 0 n [(ev tm x).cells]))) else none
    | _ => none
  | .bin op x y => (evBin op (ev tm x) (ev tm y)).map .val
  | .eqn neg ks x y => (evEq ks (ev tm x) (ev tm y)).map fun t => .val (.b (if neg then !t else t))
  | .eqb neg x y => (eqCell 1 (ev tm x) (ev tm y)).map fun t => .val (.b (if neg then !t else t))
  | .un op x => (evUn op (ev tm x)).map .val
  | .conv k x => match ev tm x with
    | .v (.int _ n) => some (.val (.v (.int k (k.wrap n))))
    | _ => none
  | .fld off k x => match ev tm x with
    | .agg cs => (takeK k (cs.drop off)).map .val
    | _ => none
  | .fadr off x => (evFadr off (ev tm x)).map .val
  | .iadr sz x i => (evIadr H sz (ev tm x) (ev tm i)).map .val
  | .idx len sz k x i => match ev tm x, ev tm i with
    | .agg cs, .v (.int _ j) => if 0 ≤ j ∧ j < len then (takeK k (cs.drop (j.toNat * sz))).map .val else none
    | _, _ => none
  | .sidx x i => match ev tm x, ev tm i with
    | .v (.string s), .v (.int _ j) => if 0 ≤ j then (s.data[j.toNat]?).map fun b => .val (.v (.int .u8 b.toNat)) else none
    | _, _ => none
  | .len k x => (evLen H k (ev tm x)).map .val
  | .mx xs => if (xs.map (ev tm)).all AV.known then (evFolds evMax2 (xs.map (ev tm))).map .val else none
  | .mn xs => if (xs.map (ev tm)).all AV.known then (evFolds evMin2 (xs.map (ev tm))).map .val else none
  | .app sz bytes x y => (evApp H sz bytes (ev tm x) (ev tm y)).map fun r => .valH r.1 r.2
  | .mks sz bytes z l c => match ev tm l, ev tm c with
    | .v (.int _ n), .v (.int _ m) =>
      if n = m ∧ 0 ≤ n ∧ n * bytes ≤ 2 ^ 44 ∧ n ≤ 2 ^ 44 ∧ z.length = sz then
        some (.valH (.sl H.obs.length 0 0 n.toNat) (H.push (.sl 0 sz (List.replicate n.toNat z))))
      else none
    | _, _ => none
  | .slc sz x lo hi mx => (evSlcH H sz tm (ev tm x) lo hi mx).map .val
  | .ext x i => match ev tm x with
    | .tup cs => (cs[i]?).map .val
    | _ => none
  | .mkf g cap => if (cap.map (ev tm)).all AV.known then some (.val (.fn g (cap.map (ev tm)))) else none
  | .call g args => if (args.map (ev tm)).all AV.known then (call g (args.map (ev tm)) H).map fun r => .valH r.1 r.2 else none
  | .mkb g first => if (first.map (ev tm)).all AV.known then some (.val (.bm g (first.map (ev tm)))) else none
  | .callv f args => match ev tm f with
    | .fn g cap => if (args.map (ev tm)).all AV.known then (call g (args.map (ev tm) ++ cap) H).map fun r => .valH r.1 r.2 else none
    | _ => none
  | .mkmap => some (.valH (.mp H.obs.length) (H.push (.mp [])))
  | .look st ks z ok m k => (evLook H st ks z ok (ev tm m) (ev tm k)).map .val
  | .mput st ks m k x => match ev tm m with
    | .mp h => match H.obs[h]? with
      | some (.mp es) =>
        if H.lim ≤ h ∧ keyOK st ks (ev tm k) ∧ (ev tm x).known then (evFind st ks (ev tm k) es 0).map fun r => .hp (H.put h (.mp (putAt es (ev tm k) (ev tm x) r))) else none
      | _ => none
    | _ => none
  | .rng m => match ev tm m with
    | .mp h => match H.obs[h]? with
      | some (.mp es) => some (.valH (.it H.obs.length) (H.push (.it h es.length (some #[]))))
      | _ => none
    | _ => none
  | .ent x => match ev tm x with
    | .it h => match H.obs[h]? with
      | some (.it m n (some s)) => match H.obs[m]? with
        | some (.mp es) => if es.length = n then (s.back?).bind fun j => (es[j]?).map fun e => .val (.tup [e.1, e.2]) else none
        | _ => none
      | _ => none
    | _ => none
  | .nck x => match ev tm x with
    | .hp h ver i o => some (.val (.hp h ver i o))
    | .rp cs => some (.val (.rp cs))
    | _ => none
  | .s2b x => match ev tm x with
    | .v (.string s) => some (.val (.ro 1 s.size fun i => if i < s.size then [.v (.int .u8 (s.data.toList.getD i 0).toNat)] else []))
    | _ => none
  | .nilq neg x => (evNil H (ev tm x)).map fun t => .val (.b (if neg then !t else t))
  | .nop => none

def putD (dst : Option Nat) (x : AV) (tm : Env) : Env :=
  match dst with
  | some d => (d, x) :: tm
  | none => tm

/-- The state behind an operation. -/
def app (st : St) (dst : Option Nat) : Eff → St
  | .val x => { tmps := putD dst x st.tmps, hp := st.hp }
  | .valH x H => { tmps := putD dst x st.tmps, hp := H }
  | .slot s x => { tmps := putD dst (.v (.tuple #[])) ((s, x) :: st.tmps), hp := st.hp }
  | .slotH s x H => { tmps := putD dst (.v (.tuple #[])) ((s, x) :: st.tmps), hp := H }
  | .hp H => { tmps := putD dst (.v (.tuple #[])) st.tmps, hp := H }

/-- Is an operation wanted: 'none': it cannot be told. -/
def wanted (tm : Env) : Option (Nat × Bool) → Option Bool
  | none => some true
  | some (s, want) => match get s tm with
    | .v (.bool b) => some (b == want)
    | .v (.tuple _) => some false
    | _ => none

def evOp (call : CallF) (st : St) (m : MOp) : Option St :=
  match wanted st.tmps m.guard with
  | some true => (evO call st.tmps st.hp m.op).map (app st m.dst)
  | some false => some { st with tmps := putD m.dst (.v (.tuple #[])) st.tmps }
  | none => none

def thenO {α : Type} (r : Option St) (k : St → Option α) : Option α :=
  match r with
  | some st => k st
  | none => none

def evOps (call : CallF) : List MOp → St → Option St
  | [], st => some st
  | m :: ms, st => thenO (evOp call st m) (evOps call ms)

/-- Only these slots are kept. -/
def keepL (ks : List Nat) (tm : Env) : Env := ks.map fun k => (k, get k tm)

def thenC (r : Option (Ex × St)) (k : St → Option (Ex × St)) : Option (Ex × St) :=
  match r with
  | some (.nrm, st) => k st
  | some (.exit id, st) => some (.exit id, st)
  | some (.ret, st) => some (.ret, st)
  | none => none

@[simp] theorem thenO_some {α : Type} (st : St) (k : St → Option α) : thenO (some st) k = k st := rfl
@[simp] theorem thenO_none {α : Type} (k : St → Option α) : thenO none k = none := rfl
@[simp] theorem thenC_nrm (st : St) (k : St → Option (Ex × St)) : thenC (some (.nrm, st)) k = k st := rfl
@[simp] theorem thenC_exit (id : Nat) (st : St) (k : St → Option (Ex × St)) : thenC (some (.exit id, st)) k = some (.exit id, st) := rfl
@[simp] theorem thenC_ret (st : St) (k : St → Option (Ex × St)) : thenC (some (.ret, st)) k = some (.ret, st) := rfl
@[simp] theorem thenC_none (k : St → Option (Ex × St)) : thenC none k = none := rfl

def loopN (body : St → Option (Ex × St)) (keep : List Nat) : Nat → St → Option (Ex × St)
  | 0, _ => none
  | n + 1, st => thenC (body { st with tmps := keepL keep st.tmps }) (loopN body keep n)

def endB (id : Nat) : Option (Ex × St) → Option (Ex × St)
  | some (.exit id', st) => if id' = id then some (.nrm, st) else some (.exit id', st)
  | some (.nrm, st) => some (.nrm, st)
  | some (.ret, st) => some (.ret, st)
  | none => none

@[simp] theorem endB_nrm (id : Nat) (st : St) : endB id (some (.nrm, st)) = some (.nrm, st) := rfl
@[simp] theorem endB_ret (id : Nat) (st : St) : endB id (some (.ret, st)) = some (.ret, st) := rfl
@[simp] theorem endB_exit (id id' : Nat) (st : St) : endB id (some (.exit id', st)) = if id' = id then some (.nrm, st) else some (.exit id', st) := rfl
@[simp] theorem endB_none (id : Nat) : endB id none = none := rfl

def condB (x : AV) (a b : Option (Ex × St)) : Option (Ex × St) :=
  match x with
  | .v (.bool t) => if t then a else b
  | _ => none

@[simp] theorem condB_bool (t : Bool) (a b : Option (Ex × St)) : condB (.v (.bool t)) a b = if t then a else b := rfl

/-! ### Which objects an operation looks at -/

structure FP where
  rd : List Nat
  wr : List Nat
  push : Bool
  all : Bool
  deriving DecidableEq

def hOf : AV → List Nat
  | .hp h _ _ _ => [h]
  | .sl h _ _ _ => [h]
  | .mp h => [h]
  | _ => []

def evFP (tm : Env) (H : Hp) : MO → FP
  | .new _ => ⟨[], [H.obs.length], true, false⟩
  | .boxm _ _ => ⟨[], [H.obs.length], true, false⟩
  | .mat _ _ _ => ⟨[], [H.obs.length], true, false⟩
  | .lit _ _ _ true => ⟨[], [H.obs.length], true, false⟩
  | .mks _ _ _ _ _ => ⟨[], [H.obs.length], true, false⟩
  | .mkmap => ⟨[], [H.obs.length], true, false⟩
  | .load _ x => ⟨hOf (ev tm x), [], false, false⟩
  | .iadr _ x _ => ⟨hOf (ev tm x), [], false, false⟩
  | .len _ x => ⟨hOf (ev tm x), [], false, false⟩
  | .nilq _ x => ⟨hOf (ev tm x), [], false, false⟩
  | .slc _ x _ _ _ => ⟨hOf (ev tm x), [], false, false⟩
  | .store _ a _ => ⟨hOf (ev tm a), hOf (ev tm a), false, false⟩
  | .app _ _ x y => match ev tm x with
    | .sl h _ _ _ => ⟨h :: hOf (ev tm y), [h], false, false⟩
    | _ => ⟨hOf (ev tm y), [H.obs.length], true, false⟩
  | .call _ _ => ⟨[], [], false, true⟩
  | .callv _ _ => ⟨[], [], false, true⟩
  | .look _ _ _ _ _ _ => ⟨[], [], false, true⟩
  | .mput _ _ _ _ _ => ⟨[], [], false, true⟩
  | .rng _ => ⟨[], [], false, true⟩
  | .ent _ => ⟨[], [], false, true⟩
  | _ => ⟨[], [], false, false⟩

def fpOf (st : St) (m : MOp) : FP :=
  match wanted st.tmps m.guard with
  | some true => evFP st.tmps st.hp m.op
  | _ => ⟨[], [], false, false⟩

def fpsOf (call : CallF) : List MOp → St → List FP
  | [], _ => []
  | m :: ms, st => fpOf st m :: (match evOp call st m with | some st' => fpsOf call ms st' | none => [])

def opdsOf : MO → List Opd
  | .mv x | .box _ x | .boxm _ x | .load _ x | .un _ x | .conv _ x | .fld _ _ x | .fadr _ x | .len _ x | .ext x _ | .nck x | .s2b x | .nilq _ x => [x]
  | .pick a b c => [a, b, c]
  | .alloc _ | .new _ | .nop | .mkmap => []
  | .look _ _ _ _ m k => [m, k]
  | .mput _ _ m k x => [m, k, x]
  | .rng m | .ent m => [m]
  | .build _ ps => ps.map fun p => p.2.2
  | .lit _ _ ps _ => ps.map fun p => p.2.2
  | .store _ a x | .bin _ a x | .eqn _ _ a x | .eqb _ a x | .iadr _ a x | .idx _ _ _ a x | .sidx a x | .app _ _ a x | .mks _ _ _ a x => [a, x]
  | .mx xs | .mn xs | .mkf _ xs | .mkb _ xs | .call _ xs => xs
  | .callv f xs => f :: xs
  | .mat _ s x => [.t s, x]
  | .slc _ x lo hi m => x :: (lo.toList ++ hi.toList ++ m.toList)
def MO.opds (m : MO) : List Opd := opdsOf m

def Opd.slots : Opd → List Nat
  | .t n => [n]
  | _ => []

def MOp.reads (m : MOp) : List Nat := (match m.guard with | some (s, _) => [s] | none => []) ++ m.op.opds.flatMap Opd.slots
def MOp.writes (m : MOp) : List Nat := m.dst.toList ++ (match m.op with | .store _ (.t s) _ => [s] | .mat _ s _ => [s] | _ => [])

def disj (a b : List Nat) : Bool := a.all fun x => !b.contains x

def fpIndep (a b : FP) : Bool :=
  (!a.all || (b.rd.isEmpty && b.wr.isEmpty && !b.all && !b.push)) && (!b.all || (a.rd.isEmpty && a.wr.isEmpty && !a.all && !a.push)) && !(a.push && b.push) && disj a.wr (b.rd ++ b.wr) && disj b.wr a.rd

def dindep (a : MOp) (fa : FP) (b : MOp) (fb : FP) : Bool := disj a.writes (b.reads ++ b.writes) && disj b.writes a.reads && fpIndep fa fb

/-- Each two operations of which neither must come first had nothing to do with each other. -/
def dynFree (an : List Nat) (ms : List MOp) (fs : List FP) : Bool :=
  (List.range ms.length).all fun i => (List.range i).all fun j =>
    (an.getD i 0).testBit j || dindep (ms.getD i ⟨none, .nop, none⟩) (fs.getD i ⟨[], [], false, false⟩) (ms.getD j ⟨none, .nop, none⟩) (fs.getD j ⟨[], [], false, false⟩)

/-- A round for each entry of a map, in any order: 'mid s j' is a round at entry j behind those of s, 'fin' the last one. A round leaves all as it was, or returns; all that return return the same. -/
noncomputable def eachGo (keep : List Nat) (n : Nat) (t0 : Env) (mid : Array Nat → Nat → Option (Ex × St)) (hp : Array Nat → Nat → Hp) (rv : List (Nat × Value)) (fin : Option (Ex × St)) (dead : Hp) : Option (Ex × St) :=
  open Classical in
  if ∀ s j, j < n → ∃ st, mid s j = some (.nrm, st) ∧ st.hp = hp s j ∧ ∀ q, get q (keepL keep st.tmps) = get q t0 then fin
  else if ∀ s j, j < n → (∃ st, mid s j = some (.nrm, st) ∧ st.hp = hp s j ∧ ∀ q, get q (keepL keep st.tmps) = get q t0) ∨ (∃ st, mid s j = some (.ret, st) ∧ st.hp = hp s j ∧ ∀ p ∈ rv, get p.1 st.tmps = .v p.2) then
    -- some round may return whatever came before
    if ∃ j, j < n ∧ ∀ s, ∃ st, mid s j = some (.ret, st) then some (.ret, { tmps := rv.map fun p => (p.1, .v p.2), hp := dead }) else none
  else none

def noNrm : Option (Ex × St) → Option (Ex × St)
  | some (.nrm, _) => none
  | r => r

noncomputable def evEach (keep : List Nat) (it d1 d2 : Nat) (rv : List (Nat × Value)) (N : Nat) (body : St → Option (Ex × St)) (st : St) : Option (Ex × St) :=
  match get it (keepL keep st.tmps) with
  | .it h => match st.hp.obs[h]? with
    | some (.it m n (some s0)) => match st.hp.obs[m]? with
      | some (.mp es) =>
        if s0.size = 0 ∧ es.length = n ∧ st.hp.lim ≤ h ∧ m ≠ h ∧ n < N then
          eachGo keep n (keepL keep st.tmps)
            (fun s j => body { tmps := (d2, .b true) :: (d1, .tup [.b true, (es.getD j (.U, .U)).1, (es.getD j (.U, .U)).2]) :: keepL keep st.tmps, hp := st.hp.put h (.it m n (some (s.push j))) })
            (fun s j => st.hp.put h (.it m n (some (s.push j)))) rv
            (noNrm (body { tmps := (d2, .b false) :: (d1, .tup [.b false]) :: keepL keep st.tmps, hp := st.hp.put h (.it m n none) }))
            (st.hp.put h (.it m n none))
        else none
      | _ => none
    | _ => none
  | _ => none

noncomputable def evC (N : Nat) (call : CallF) : MC → St → Option (Ex × St)
  | .skip, st => some (.nrm, st)
  | .reg ops live, st => thenO (evOps call ops st) fun st' => some (.nrm, { st' with tmps := keepL live st'.tmps })
  | .regd an ops live, st => thenO (evOps call ops st) fun st' => if dynFree an ops (fpsOf call ops st) then some (.nrm, { st' with tmps := keepL live st'.tmps }) else none
  | .seq a b, st => thenC (evC N call a st) (evC N call b)
  | .cond c a b, st => condB (ev st.tmps c) (evC N call a st) (evC N call b st)
  | .block id c, st => endB id (evC N call c st)
  | .loop keep c, st => loopN (evC N call c) keep N st
  | .each it d1 d2 keep rv c, st => evEach keep it d1 d2 rv N (evC N call c) st
  | .exit id, st => some (.exit id, st)
  | .ret, st => some (.ret, st)

def evRes (st : St) : Res → Option AV
  | .tmp t => if (get t st.tmps).known then some (get t st.tmps) else none
  | .cell t k => evLoad st.hp k (get t st.tmps)

def one : List AV → AV
  | [x] => x
  | rs => .tup rs

/-- Does a value lean on no object at all. -/
def apart : Nat → AV → Bool
  | _, .v _ => true
  | _, .ro .. => true
  | d + 1, .agg cs => cs.all (apart d)
  | d + 1, .tup cs => cs.all (apart d)
  | d + 1, .rp cs => cs.all (apart d)
  | d + 1, .fn _ cs => cs.all (apart d)
  | _, _ => false

/-- A value for a call that only reads. -/
def still (H : Hp) : Nat → AV → Option AV
  | _, .v x => some (.v x)
  | _, .ro sz n f => some (.ro sz n f)
  | d + 1, .agg cs => (cs.mapM (still H d)).map .agg
  | d + 1, .tup cs => (cs.mapM (still H d)).map .tup
  | d + 1, .rp cs => (cs.mapM (still H d)).map .rp
  | d + 1, .fn g cs => (cs.mapM (still H d)).map (.fn g)
  | d + 1, .sl h ver off len => freeze { H with lim := 0 } (d + 1) (.sl h ver off len)
  | _, _ => none

def AV.isV : AV → Bool
  | .v _ => true
  | _ => false
/-- A value that points nowhere. -/
def AV.scalar : AV → Bool
  | .v _ => true
  | .agg cs => cs.all AV.isV
  | .tup cs => cs.all AV.isV
  | _ => false

def evRetP (mf : MF) (r : Option (Ex × St)) : Option AV :=
  match r with
  | some (.exit _, _) => none
  | none => none
  | some (_, st) => (mf.res.mapM (evRes st)).bind fun rs => freeze st.hp 8 (one rs)

def evRet (H0 : Hp) (mf : MF) (r : Option (Ex × St)) : Option (AV × Hp) :=
  match r with
  | some (.exit _, _) => none
  | none => none
  | some (_, st) => (mf.res.mapM (evRes st)).bind fun rs => some (one rs, { st.hp with lim := H0.lim })

def argEnv : Nat → List AV → Env
  | _, [] => []
  | i, x :: l => (i, x) :: argEnv (i + 1) l

structure Prg where
  fns : Nat → Option MF
  ext : Nat → Option (List AV → Hp → Option (AV × Hp))

/-- A pure function: it is run in a heap of its own. -/
noncomputable def evP (N : Nat) (call : CallF) (mf : MF) (args : List AV) : Option AV :=
  if args.length ≤ mf.ntmps then evRetP mf (evC N call mf.body { tmps := argEnv 0 args, hp := ⟨0, []⟩ }) else none

def handP (ap : Bool) (H : Hp) (r : AV) : Option (AV × Hp) := if ap || r.scalar then some (r, H) else none

noncomputable def evF (M : Prg) (N : Nat) : Nat → CallF
  | 0, _, _, _ => none
  | d + 1, g, args, H =>
    match M.ext g with
    | some x => x args H
    | none => match M.fns g with
      | none => none
      | some mf =>
        if mf.pure then
          (if args.all (apart 8) then some args else args.mapM (still H 8)).bind fun as =>
            (evP N (evF M N d) mf as).bind (handP (args.all (apart 8)) H)
        else if args.length ≤ mf.ntmps then evRet H mf (evC N (evF M N d) mf.body { tmps := argEnv 0 args, hp := H })
        else none

end Sx
