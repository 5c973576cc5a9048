/-
  Sx: from the loaded code to the evaluator's code.
-/
import Derived.Test.YtgmppophlalliaaGreatSxDefs
namespace Sx
open Go

structure Ann where
  nt : Nat := 0
  muts : List Nat := []
  keep : List (Nat × List Nat) := []
  live : List (Nat × List Nat) := []
  isPure : Bool := true
  rv : List (Nat × List (Nat × Value)) := []
  late : List Nat := []

section
variable (P : Program) (φ : Nat → Option Nat) (A : Ann)

def sizeT (t : TypeId) : Option Nat := (P.info? t).map (·.size)
def bytesT (t : TypeId) : Option Nat := (P.info? t).map (·.bytes)
def zeroT (t : TypeId) : Option (List AV) := ((P.info? t).bind (·.zero)).bind fun z => if (z.cells.toList.map AV.v).all AV.solid then some (z.cells.toList.map .v) else none

/-- How a value of a type lies: one cell, or so many. -/
def kindT (t : TypeId) : Option (Option Nat) :=
  match P.underlying t with
  | some (.struct _) | some (.array _ _) => (sizeT P t).map some
  | some _ => some none
  | none => none

def elemT (t : TypeId) : Option TypeId :=
  match P.underlying t with
  | some (.slice e) => some e
  | _ => none

def fieldT (t : TypeId) (i : Nat) : Option Field :=
  match P.underlying t with
  | some (.struct fs) => fs[i]?
  | _ => none

/-- A type whose values are one cell that '==' compares by sight: its kind. -/
def plainT (t : TypeId) : Option Nat :=
  match P.underlying t with
  | some (.int _) => some 0
  | some .bool => some 1
  | some .string => some 2
  | _ => none

def flatFields (fs : List Field) (i : Nat) : Option (List Nat) :=
  match fs with
  | [] => some []
  | f :: r => if f.name ≠ "_" ∧ f.offset = i then (plainT P f.type).bind fun k => (flatFields r (i + 1)).map fun l => k :: l else none

/-- A type of structs or arrays whose values '==' compares cell by cell: the kinds of the cells. -/
def flatT (t : TypeId) : Option (List Nat) :=
  match P.underlying t with
  | some (.struct fs) => if P.stoodInHeld t = false ∧ P.eqGuardType P.depth t = false then flatFields P fs.toList 0 else none
  | some (.array n e) => if sizeT P e = some 1 ∧ P.eqGuardType P.depth t = false then (plainT P e).map fun k => List.replicate n k else none
  | _ => none

def trOpd : Operand → Option Opd
  | .tmp t => some (.t t)
  | .const v => some (.c v)
  | .func f => (φ f).map .f
  | .global _ => none

def isStatic : Operand → Option Nat
  | .func f => φ f
  | _ => none

def trParts (fs : Array Field) : List (Nat × Operand) → Option (List (Nat × Nat × Opd))
  | [] => some []
  | (i, x) :: r => (fs[i]?).bind fun f => (sizeT P f.type).bind fun n => (trOpd φ x).bind fun y => (trParts fs r).map fun q => (f.offset, n, y) :: q

def trArr (sz : Nat) : List (Nat × Operand) → Option (List (Nat × Nat × Opd))
  | [] => some []
  | (i, x) :: r => (trOpd φ x).bind fun y => (trArr sz r).map fun q => (i * sz, sz, y) :: q

def trOpds (l : List Operand) : Option (List Opd) := l.mapM (trOpd φ)

def trO? (x : Option Operand) : Option (Option Opd) :=
  match x with
  | none => some none
  | some y => (trOpd φ y).map some

/-- The zero of a type as a value. -/
def zeroV (t : TypeId) : Option AV :=
  match (P.info? t).bind (·.zero) with
  | some (.agg cs) => if (cs.toList.map AV.v).all AV.solid then some (.agg (cs.toList.map .v)) else none
  | some (.tuple _) => none
  | some x => some (.v x)
  | none => none

/-- How the keys of a map type are compared, and its elements' type. -/
def mapT (t : TypeId) : Option (Bool × List Nat × TypeId) :=
  match P.underlying t with
  | some (.map k e) => match plainT P k with
    | some q => some (false, [q], e)
    | none => match P.underlying k with
      | some (.struct fs) => (flatT P k).bind fun ks => if fs.toList.all (fun f => (plainT P f.type).isSome && decide (sizeT P f.type = some 1)) then some (true, ks, e) else none
      | _ => none
  | _ => none

/-- An element of an array, told by the text: its size and its place. -/
def arrT (t : TypeId) (i : Operand) : Option (Nat × Nat) :=
  match P.underlying t, i with
  | some (.array len e), .const (.int _ j) => if 0 ≤ j ∧ j < len then (sizeT P e).map fun n => (n, j.toNat) else none
  | _, _ => none

/-- The slice without elements, as a text has it. -/
def isNilC : Opd → Bool
  | .c (.slice none 0 0) => true
  | _ => false

/-- From a string to its bytes. -/
def bytesOfT (s d : TypeId) : Bool :=
  match P.underlying s, P.underlying d with
  | some .string, some (.slice e) => (match P.underlying e with
    | some (.int .u8) => true
    | _ => false)
  | _, _ => false

def isIntT (t : TypeId) : Option IntKind :=
  match P.underlying t with
  | some (.int k) => some k
  | _ => none

def trCall (c : Call) : Option MO :=
  match c.callee with
  | .builtin .len =>
    match c.argTypes.toList, c.args.toList with
    | [t], [x] => match P.underlying t with
      | some .string => (trOpd φ x).map (.len 0)
      | some (.slice _) => (trOpd φ x).map (.len 1)
      | some (.map _ _) => (trOpd φ x).map (.len 2)
      | _ => none
    | _, _ => none
  | .builtin .append =>
    match c.argTypes.toList, c.args.toList with
    | [t, u], [x, y] => match P.underlying u with
      | some (.slice _) | some .string =>
        (elemT P t).bind fun e => (sizeT P e).bind fun n => (bytesT P e).bind fun b => (trOpd φ x).bind fun x' => (trOpd φ y).bind fun y' =>
          (zeroT P e).bind fun z => if 0 < n ∧ 0 < b ∧ z.length = n then some (.app n b x' y') else none
      | _ => none
    | _, _ => none
  | .builtin .max => (trOpds φ c.args.toList).map .mx
  | .builtin .min => (trOpds φ c.args.toList).map .mn
  | .builtin _ => none
  | .invoke _ _ => none
  | .value f => (trOpds φ c.args.toList).bind fun as =>
    match isStatic φ f with
    | some g => some (.call g as)
    | none => (trOpd φ f).map fun x => .callv x as

def trMkf (fn : Fn) (first cap : Array Operand) : Option MO :=
  match fn with
  | .func f => if first.size = 0 then (φ f).bind fun g => (trOpds φ cap.toList).map (.mkf g) else if cap.size = 0 then (φ f).bind fun g => (trOpds φ first.toList).map (.mkb g) else none
  | _ => none

def isEq : BinOp → Bool
  | .eql | .neq => true
  | _ => false
def isNeq : BinOp → Bool
  | .neq => true
  | _ => false

def Ann.isMut (dst : Option Nat) : Bool := match dst with | some d => A.muts.contains d | none => false

def Ann.isLate : Opd → Option Nat
  | .t s => if A.late.contains s then some s else none
  | _ => none

def trOp (o : Oper) : Option MO :=
  match o.op with
  | .move x | .assign x => (trOpd φ x).map .mv
  | .pick c a b => (trOpd φ c).bind fun c' => (trOpd φ a).bind fun a' => (trOpd φ b).map fun b' => .pick c' a' b'
  | .alloc t => (zeroT P t).bind fun z => if sizeT P t = some z.length ∧ 0 < z.length then some (if A.isMut o.dst then .new z else .alloc z) else none
  | .box t x => (trOpd φ x).bind fun y => (sizeT P t).bind fun n => if 0 < n then some (if A.isMut o.dst then .boxm n y else .box n y) else none
  | .build t parts => (zeroT P t).bind fun z => match P.underlying t with
    | some (.struct fs) => if fs.toList.all (fun f => (sizeT P f.type).isSome) then (trParts P φ fs parts.toList).map (.build z) else none
    | some (.array _ e) => (sizeT P e).bind fun n => (trArr φ n parts.toList).map (.build z)
    | _ => none
  | .buildSlice t len parts => (elemT P t).bind fun e => (sizeT P e).bind fun n => (zeroT P e).bind fun z =>
      if 0 < n ∧ z.length = n ∧ len * n ≤ 2 ^ 20 then
        (trArr φ n parts.toList).map fun ps => .lit n ((List.range (len * n)).map fun i => z.getD (i % n) .U) ps (A.isMut o.dst)
      else none
  | .load t x => (kindT P t).bind fun k => (trOpd φ x).map (.load k)
  | .store t a x => (sizeT P t).bind fun n => (trOpd φ a).bind fun a' => (trOpd φ x).map fun x' => match A.isLate a' with | some s => .mat n s x' | none => .store n a' x'
  | .binOp op t x y _ =>
    (trOpd φ x).bind fun x' => (trOpd φ y).bind fun y' =>
      if isEq op = true then
        match P.underlying t with
        | some (.int _) | some .string => some (.bin op x' y')
        | some .bool => some (.eqb (isNeq op) x' y')
        | some (.struct _) | some (.array _ _) => (flatT P t).map fun n => .eqn (isNeq op) n x' y'
        | some (.slice _) => if isNilC y' then some (.nilq (isNeq op) x') else none
        | _ => none
      else some (.bin op x' y')
  | .unOp op _ x => (trOpd φ x).map (.un op)
  | .convert s d x => match isIntT P s, isIntT P d with
    | some _, some k => (trOpd φ x).map (.conv k)
    | _, _ => if bytesOfT P s d then (trOpd φ x).map .s2b else none
  | .makeFunc fn first cap => trMkf φ fn first cap
  | .makeSlice t l c => (elemT P t).bind fun e => (sizeT P e).bind fun n => (bytesT P e).bind fun b => (zeroT P e).bind fun z =>
      (trOpd φ l).bind fun l' => (trOpd φ c).bind fun c' => if 0 < n ∧ 0 < b then some (.mks n b z l' c') else none
  | .slice t x lo hi mx =>
      (trOpd φ x).bind fun x' => (trO? φ lo).bind fun lo' => (trO? φ hi).bind fun hi' => (trO? φ mx).bind fun mx' =>
        match P.underlying t with
        | some .string => some (.slc 0 x' lo' hi' mx')
        | some (.slice e) => (sizeT P e).bind fun n => if 0 < n then some (.slc n x' lo' hi' mx') else none
        | _ => none
  | .fieldAddr t x i => (fieldT P t i).bind fun f => (sizeT P f.type).bind fun n => if 0 < n then (trOpd φ x).map (.fadr f.offset) else none
  | .field t x i => (fieldT P t i).bind fun f => (kindT P f.type).bind fun k => (trOpd φ x).map (.fld f.offset k)
  | .indexAddr t x i => match arrT P t i with
    | some (n, j) => (trOpd φ x).map fun x' => .fadr (j * n) x'
    | none => (elemT P t).bind fun e => (sizeT P e).bind fun n => (trOpd φ x).bind fun x' => (trOpd φ i).map fun i' => .iadr n x' i'
  | .index t x i => (trOpd φ x).bind fun x' => (trOpd φ i).bind fun i' => match P.underlying t with
    | some (.array n e) => (sizeT P e).bind fun sz => (kindT P e).map fun k => .idx n sz k x' i'
    | some .string => some (.sidx x' i')
    | _ => none
  | .extract x i => (trOpd φ x).map fun y => .ext y i
  | .nilCheck x => (trOpd φ x).map .nck
  | .call c => trCall P φ c
  | .makeMap t none => (mapT P t).map fun _ => .mkmap
  | .lookup t m k ok => (mapT P t).bind fun q => (zeroV P q.2.2).bind fun z => (trOpd φ m).bind fun m' => (trOpd φ k).map fun k' => .look q.1 q.2.1 z ok m' k'
  | .mapUpdate t m k x => (mapT P t).bind fun q => (trOpd φ m).bind fun m' => (trOpd φ k).bind fun k' => (trOpd φ x).map fun x' => .mput q.1 q.2.1 m' k' x'
  | .insert t m k x => (mapT P t).bind fun q => (trOpd φ m).bind fun m' => (trOpd φ k).bind fun k' => (trOpd φ x).map fun x' => .mput q.1 q.2.1 m' k' x'
  | .range t m => (mapT P t).bind fun _ => (trOpd φ m).map .rng
  | .entry x => (trOpd φ x).map .ent
  | .next .. => some .nop
  | _ => some .nop

/-! ### A region whose order is drawn -/

/-- Does an operation look into the heap; may it turn it. -/
def MO.readsH : MO → Bool
  | .new _ | .boxm .. | .mat .. | .lit _ _ _ true | .load .. | .store .. | .iadr .. | .len .. | .nilq .. | .slc .. | .app .. | .mks .. | .call .. | .callv .. | .mkmap | .look .. | .mput .. | .rng .. | .ent .. => true
  | _ => false
def MO.writesH (pu : Nat → Bool) : MO → Bool
  | .new _ | .boxm .. | .mat .. | .lit _ _ _ true | .store .. | .app .. | .mks .. | .callv .. | .mkmap | .mput .. | .rng .. => true
  | .call g _ => !pu g
  | _ => false

def indep (pu : Nat → Bool) (a b : MOp) : Bool :=
  disj a.writes (b.reads ++ b.writes) && disj b.writes a.reads &&
  !(a.op.writesH pu && (b.op.readsH || b.op.writesH pu)) && !(b.op.writesH pu && a.op.readsH)

def Edge.firm (e : Edge) : Bool := match e.ground with | .textOnly _ | .gcOnly _ => false | _ => true

/-- What must be done before each operation, as bits: the operations behind it on its edges, and theirs. -/
def edgeBits (acc : List Nat) (es : List Edge) : Nat := es.foldr (fun e m => 2 ^ e.on ||| (acc.getD e.on 0 ||| m)) 0

def ancs : List Oper → List Nat → List Nat
  | [], acc => acc
  | o :: os, acc => ancs os (acc ++ [edgeBits acc (o.after.toList.filter Edge.firm)])

/-- Edges lead back. -/
def edgesDown (ops : List Oper) : Bool := (List.range ops.length).all fun i => match ops[i]? with | some o => o.after.toList.all (fun e => !Edge.firm e || e.on < i) | none => true

/-- Each two operations of which neither must come first can be exchanged. -/
def orderFree (pu : Nat → Bool) (ops : List Oper) (ms : List MOp) : Bool :=
  edgesDown ops &&
  let an := ancs ops []
  (List.range ms.length).all fun i => (List.range i).all fun j =>
    (an.getD i 0).testBit j || indep pu (ms.getD i ⟨none, .nop, none⟩) (ms.getD j ⟨none, .nop, none⟩)

def trGuard (ops : List Oper) : Option (Nat × Bool) → Option (Option (Nat × Bool))
  | none => some none
  | some (j, want) => match (ops[j]?).bind (·.dst) with
    | some d => some (some (d, want))
    | none => none

def trOper (ops : List Oper) (o : Oper) : Option MOp :=
  (trOp P φ A o).bind fun m => (trGuard ops o.guard).bind fun g => if o.dst.all (fun d => d < A.nt) then some ⟨o.dst, m, g⟩ else none

def headId : Code → Option Nat
  | .region id _ _ => some id
  | .seq a b => match headId a with | some i => some i | none => headId b
  | .cond _ a b => match headId a with | some i => some i | none => headId b
  | .block _ c => headId c
  | .loop c => headId c
  | _ => none

/-- A round over a map: its slots, and its first region. -/
def eachHead : Code → Option (Nat × Nat × Nat × Nat)
  | .seq (.region id ops false) _ => match ops.toList with
    | [o1, o2] => match o1.op, o1.dst, o1.guard, o2.op, o2.dst, o2.guard with
      | .next (.tmp it) false, some d1, none, .extract (.tmp d1') 0, some d2, none => if d1 = d1' ∧ d1 < A.nt ∧ d2 < A.nt then some (it, d1, d2, id) else none
      | _, _, _, _, _, _ => none
    | _ => none
  | _ => none

def trC (pu : Nat → Bool) : Code → Option MC
  | .skip => some .skip
  | .region id ops draw =>
    ((ops.toList.mapM (trOper P φ A ops.toList)).bind fun ms =>
      if draw && !orderFree pu ops.toList ms then
        (if edgesDown ops.toList then some (.regd (ancs ops.toList []) ms (((A.live.find? (·.1 = id)).map (·.2)).getD [])) else none)
      else some (.reg ms (((A.live.find? (·.1 = id)).map (·.2)).getD [])))
  | .seq a b => (trC pu a).bind fun a' => (trC pu b).map fun b' => .seq a' b'
  | .cond c a b => (trOpd φ c).bind fun c' => (trC pu a).bind fun a' => (trC pu b).map fun b' => .cond c' a' b'
  | .block id c => (trC pu c).map (.block id)
  | .loop c => (trC pu c).bind fun c' =>
    match eachHead A c, c' with
    | some (it, d1, d2, id), .seq _ r => some (.each it d1 d2 (((A.keep.find? (·.1 = id)).map (·.2)).getD []) (((A.rv.find? (·.1 = id)).map (·.2)).getD []) r)
    | some _, _ => none
    | none, c' => some (.loop (((headId c).bind fun i => (A.keep.find? (·.1 = i)).map (·.2)).getD []) c')
  | .exit id => some (.exit id)
  | .ret => some .ret
  | _ => none

def trRes : ResultVar → Option Res
  | .tmp t => some (.tmp t)
  | .cell t ty => (kindT P ty).map (.cell t)

def trF (pu : Nat → Bool) (f : Func) : Option MF :=
  match f.body with
  | some c => (trC P φ A pu c).bind fun c' => (f.results.toList.mapM (trRes P)).bind fun rs =>
      if f.params.size ≤ f.ntmps ∧ A.nt = f.ntmps then some { ntmps := f.ntmps, res := rs, pure := A.isPure, body := c' } else none
  | none => none
end
end Sx
