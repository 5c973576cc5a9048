/-
  Q: a closed evaluator with values of its own, made for the kernel: in continuation style, out of recursors with small parts. Definitions.
-/
import Derived.Test.YtgmppophlalliaaGreatSxDefs
namespace Sx.Q
open Go
set_option linter.unusedVariables false

/-- Values, lists of values, tries, objects. -/
inductive V where
  | nil
  | cons (a b : V)
  | i (k x : Nat)                 -- a number from 0 on, with the code of its kind
  | m (k x : Nat)                 -- the number -(x+1)
  | b (t : Bool)
  | s (n x : Nat)                 -- a string of n bytes
  | us                            -- nothing
  | zs                            -- the slice without elements
  | w (x : Value)                 -- another value
  | agg (l : V)
  | tup (l : V)
  | ro (sz off n bd : Nat) (t : V)   -- n elements from off on; from bd on there are none
  | rp (l : V)
  | un (l : V)
  | fn (g : Nat) (l : V)
  | bm (g : Nat) (l : V)
  | hp (h ver i o : Nat)
  | sl (h ver off len : Nat)
  | mp (h : Nat)
  | nd (x l r : V)                -- a trie
  | os (ver sz n : Nat) (t : V)   -- an object: a list
  | om (es : V)                   -- an object: a map

/-- Slots. -/
inductive E where
  | nil
  | cons (s : Nat) (v : V) (tl : E)

def kd : Nat → IntKind
  | 0 => .i8 | 1 => .i16 | 2 => .i32 | 3 => .i64 | 4 => .u8 | 5 => .u16 | 6 => .u32 | 7 => .u64 | _ => .i64
def kc : IntKind → Nat
  | .i8 => 0 | .i16 => 1 | .i32 => 2 | .i64 => 3 | .u8 => 4 | .u16 => 5 | .u32 => 6 | .u64 => 7

/-! ### What the values mean -/

def decS (n x : Nat) : ByteArray := ⟨((List.range n).map fun i => UInt8.ofNat (x >>> (8 * i))).toArray⟩

mutual
def dec : V → AV
  | .i k x => .v (.int (kd k) (Int.ofNat x))
  | .m k x => .v (.int (kd k) (Int.negSucc x))
  | .b t => .v (.bool t)
  | .s n x => .v (.string (decS n x))
  | .us => .v (.tuple #[])
  | .zs => .v (.slice none 0 0)
  | .w x => .v x
  | .agg l => .agg (decL l)
  | .tup l => .tup (decL l)
  | .ro sz off n bd t => .ro sz n (fun j => if off + j < bd then decT t (off + j) else [])
  | .rp l => .rp (decL l)
  | .un l => .un (decL l)
  | .fn g l => .fn g (decL l)
  | .bm g l => .bm g (decL l)
  | .hp h ver i o => .hp h ver i o
  | .sl h ver off len => .sl h ver off len
  | .mp h => .mp h
  | _ => .U
def decL : V → List AV
  | .cons a b => dec a :: decL b
  | _ => []
def decT : V → Nat → List AV
  | .nd x l r => fun j => if j = 0 then decL x else if j % 2 = 1 then decT l (j / 2) else decT r (j / 2 - 1)
  | _ => fun _ => []
end

def decM : V → List (AV × AV)
  | .cons (.cons a b) r => (dec a, dec b) :: decM r
  | _ => []
def decO : V → AO
  | .os ver sz n t => .sl ver sz ((List.range n).map (decT t))
  | .om es => .mp (decM es)
  | _ => .mp []
def tget : V → Nat → V
  | .nd x l r, j => if j = 0 then x else if j % 2 = 1 then tget l (j / 2) else tget r (j / 2 - 1)
  | _, _ => .nil
def decH (n : Nat) (t : V) : Hp := ⟨0, (List.range n).map fun j => decO (tget t j)⟩

def look (s : Nat) : E → Option V
  | .nil => none
  | .cons k v tl => if k = s then some v else look s tl

/-- The slots that are there hold what the environment holds. -/
def EqE (e : E) (tm : Env) : Prop := ∀ s v, look s e = some v → get s tm = dec v

/-! ### Values in -/

def encS (s : ByteArray) : Nat := s.data.toList.foldr (fun c r => c.toNat + r * 256) 0

def encV : Value → V
  | .int k n => (match n with
    | .ofNat x => .i (kc k) x
    | .negSucc x => .m (kc k) x)
  | .bool t => .b t
  | .string s => .s s.size (encS s)
  | .slice none 0 0 => .zs
  | .tuple vs => if vs.size = 0 then .us else .w (.tuple vs)
  | v => .w v

section
variable {ρ : Type}

/-! ### Parts -/

/-- A number, told. -/
noncomputable def fN (x : Nat) (k : Nat → Option ρ) : Option ρ := Nat.rec (motive := fun _ => Option ρ) (k 0) (fun m _ => k (Nat.succ m)) x
noncomputable def ck (c : Bool) (x : Option ρ) : Option ρ := Bool.rec (motive := fun _ => Option ρ) none x c
noncomputable def fB (c : Bool) (k : Bool → Option ρ) : Option ρ := Bool.rec (motive := fun _ => Option ρ) (k false) (k true) c

abbrev n1 : V → V → Option ρ → Option ρ → Option ρ := fun _ _ _ _ => none
abbrev n2 : Nat → Nat → Option ρ := fun _ _ => none
abbrev n3 : Nat → Nat → Nat → V → Option ρ → Option ρ := fun _ _ _ _ _ => none
abbrev n4 : Nat → Nat → Nat → Nat → Option ρ := fun _ _ _ _ => none
abbrev n5 : V → Option ρ → Option ρ := fun _ _ => none
abbrev n6 : Nat → V → Option ρ → Option ρ := fun _ _ _ => none
abbrev n8 : Nat → Nat → Nat → Nat → V → Option ρ → Option ρ := fun _ _ _ _ _ _ => none
abbrev n7 : V → V → V → Option ρ → Option ρ → Option ρ → Option ρ := fun _ _ _ _ _ _ => none

noncomputable def onI (v : V) (ki km : Nat → Nat → Option ρ) : Option ρ :=
  V.rec (motive := fun _ => Option ρ) none n1 ki km (fun _ => none) n2 none none (fun _ => none) n5 n5 n8 n5 n5 n6 n6 n4 n4 (fun _ => none) n7 n3 n5 v
noncomputable def onB (v : V) (k : Bool → Option ρ) : Option ρ :=
  V.rec (motive := fun _ => Option ρ) none n1 n2 n2 k n2 none none (fun _ => none) n5 n5 n8 n5 n5 n6 n6 n4 n4 (fun _ => none) n7 n3 n5 v
noncomputable def onS (v : V) (k : Nat → Nat → Option ρ) : Option ρ :=
  V.rec (motive := fun _ => Option ρ) none n1 n2 n2 (fun _ => none) k none none (fun _ => none) n5 n5 n8 n5 n5 n6 n6 n4 n4 (fun _ => none) n7 n3 n5 v
noncomputable def onAgg (v : V) (k : V → Option ρ) : Option ρ :=
  V.rec (motive := fun _ => Option ρ) none n1 n2 n2 (fun _ => none) n2 none none (fun _ => none) (fun l _ => k l) n5 n8 n5 n5 n6 n6 n4 n4 (fun _ => none) n7 n3 n5 v
noncomputable def onTup (v : V) (k : V → Option ρ) : Option ρ :=
  V.rec (motive := fun _ => Option ρ) none n1 n2 n2 (fun _ => none) n2 none none (fun _ => none) n5 (fun l _ => k l) n8 n5 n5 n6 n6 n4 n4 (fun _ => none) n7 n3 n5 v
noncomputable def onUn (v : V) (k : V → Option ρ) : Option ρ :=
  V.rec (motive := fun _ => Option ρ) none n1 n2 n2 (fun _ => none) n2 none none (fun _ => none) n5 n5 n8 n5 (fun l _ => k l) n6 n6 n4 n4 (fun _ => none) n7 n3 n5 v
noncomputable def onFn (v : V) (k : Nat → V → Option ρ) : Option ρ :=
  V.rec (motive := fun _ => Option ρ) none n1 n2 n2 (fun _ => none) n2 none none (fun _ => none) n5 n5 n8 n5 n5 (fun g l _ => k g l) n6 n4 n4 (fun _ => none) n7 n3 n5 v
noncomputable def onMp (v : V) (k : Nat → Option ρ) : Option ρ :=
  V.rec (motive := fun _ => Option ρ) none n1 n2 n2 (fun _ => none) n2 none none (fun _ => none) n5 n5 n8 n5 n5 n6 n6 n4 n4 k n7 n3 n5 v
noncomputable def onOm (v : V) (k : V → Option ρ) : Option ρ :=
  V.rec (motive := fun _ => Option ρ) none n1 n2 n2 (fun _ => none) n2 none none (fun _ => none) n5 n5 n8 n5 n5 n6 n6 n4 n4 (fun _ => none) n7 n3 (fun l _ => k l) v
noncomputable def onOs (v : V) (k : Nat → Nat → Nat → V → Option ρ) : Option ρ :=
  V.rec (motive := fun _ => Option ρ) none n1 n2 n2 (fun _ => none) n2 none none (fun _ => none) n5 n5 n8 n5 n5 n6 n6 n4 n4 (fun _ => none) n7 (fun a b c d _ => k a b c d) n5 v
noncomputable def onL (v : V) (kn : Option ρ) (kcons : V → V → Option ρ) : Option ρ :=
  V.rec (motive := fun _ => Option ρ) kn (fun a b _ _ => kcons a b) n2 n2 (fun _ => none) n2 none none (fun _ => none) n5 n5 n8 n5 n5 n6 n6 n4 n4 (fun _ => none) n7 n3 n5 v
/-- A pointer: at cells that are only read, or into an object. -/
noncomputable def onP (v : V) (kr : V → Option ρ) (kh : Nat → Nat → Nat → Nat → Option ρ) : Option ρ :=
  V.rec (motive := fun _ => Option ρ) none n1 n2 n2 (fun _ => none) n2 none none (fun _ => none) n5 n5 n8 (fun l _ => kr l) n5 n6 n6 kh n4 (fun _ => none) n7 n3 n5 v
/-- What an address in the making is: fresh, or into an object. -/
noncomputable def onA (v : V) (ku : V → Option ρ) (kh : Nat → Nat → Nat → Nat → Option ρ) : Option ρ :=
  V.rec (motive := fun _ => Option ρ) none n1 n2 n2 (fun _ => none) n2 none none (fun _ => none) n5 n5 n8 n5 (fun l _ => ku l) n6 n6 kh n4 (fun _ => none) n7 n3 n5 v
/-- A slice: without elements, only read, or of an object. -/
noncomputable def onSl (v : V) (kz : Option ρ) (kr : Nat → Nat → Nat → Nat → V → Option ρ) (kh : Nat → Nat → Nat → Nat → Option ρ) : Option ρ :=
  V.rec (motive := fun _ => Option ρ) none n1 n2 n2 (fun _ => none) n2 none kz (fun _ => none) n5 n5 (fun a b c m d _ => kr a b c m d) n5 n5 n6 n6 n4 kh (fun _ => none) n7 n3 n5 v
/-- A string, or a slice. -/
noncomputable def onSS (v : V) (ks : Nat → Nat → Option ρ) (kr : Nat → Nat → Nat → Nat → V → Option ρ) (kh : Nat → Nat → Nat → Nat → Option ρ) : Option ρ :=
  V.rec (motive := fun _ => Option ρ) none n1 n2 n2 (fun _ => none) ks none none (fun _ => none) n5 n5 (fun a b c m d _ => kr a b c m d) n5 n5 n6 n6 n4 kh (fun _ => none) n7 n3 n5 v
/-- No fresh variable. -/
noncomputable def known (v : V) (k : Option ρ) : Option ρ :=
  V.rec (motive := fun _ => Option ρ) k (fun _ _ _ _ => k) (fun _ _ => k) (fun _ _ => k) (fun _ => k) (fun _ _ => k) k k (fun _ => k) (fun _ _ => k) (fun _ _ => k) (fun _ _ _ _ _ _ => k) (fun _ _ => k) n5 (fun _ _ _ => k) (fun _ _ _ => k) (fun _ _ _ _ => k) (fun _ _ _ _ => k) (fun _ => k) (fun _ _ _ _ _ _ => k) (fun _ _ _ _ _ => k) (fun _ _ => k) v
/-- The cells of a value that can lie in memory. -/
noncomputable def solid (v : V) (k : V → Option ρ) : Option ρ :=
  V.rec (motive := fun _ => Option ρ) none n1 (fun _ _ => k (.cons v .nil)) (fun _ _ => k (.cons v .nil)) (fun _ => k (.cons v .nil)) (fun _ _ => k (.cons v .nil)) none (k (.cons v .nil)) (fun x => ck (oneC x) (k (.cons v .nil))) (fun l _ => k l) n5 (fun _ _ _ _ _ _ => k (.cons v .nil)) (fun _ _ => k (.cons v .nil)) n5 (fun _ _ _ => k (.cons v .nil)) (fun _ _ _ => k (.cons v .nil)) (fun _ _ _ _ => k (.cons v .nil)) (fun _ _ _ _ => k (.cons v .nil)) (fun _ => k (.cons v .nil)) n7 n3 n5 v
/-- A value that leans on nothing. -/
noncomputable def isFree (v : V) : Bool :=
  V.rec (motive := fun _ => Bool) false (fun _ _ _ _ => false) (fun _ _ => true) (fun _ _ => true) (fun _ => true) (fun _ _ => true) true true (fun _ => true) (fun _ _ => false) (fun _ _ => false) (fun _ _ _ _ _ _ => true) (fun _ _ => false) (fun _ _ => false) (fun _ _ _ => false) (fun _ _ _ => false) (fun _ _ _ _ => false) (fun _ _ _ _ => false) (fun _ => false) (fun _ _ _ _ _ _ => false) (fun _ _ _ _ _ => false) (fun _ _ => false) v
noncomputable def allFree (l : V) : Bool :=
  V.rec (motive := fun _ => Bool) true (fun a _ _ ih => Bool.rec false ih (isFree a)) (fun _ _ => false) (fun _ _ => false) (fun _ => false) (fun _ _ => false) false false (fun _ => false) (fun _ _ => false) (fun _ _ => false) (fun _ _ _ _ _ _ => false) (fun _ _ => false) (fun _ _ => false) (fun _ _ _ => false) (fun _ _ _ => false) (fun _ _ _ _ => false) (fun _ _ _ _ => false) (fun _ => false) (fun _ _ _ _ _ _ => false) (fun _ _ _ _ _ => false) (fun _ _ => false) l
/-- All cells of all elements of a trie lean on nothing. -/
noncomputable def trieFree (l : V) : Bool :=
  V.rec (motive := fun _ => Bool) true (fun _ _ _ _ => false) (fun _ _ => false) (fun _ _ => false) (fun _ => false) (fun _ _ => false) false false (fun _ => false) (fun _ _ => false) (fun _ _ => false) (fun _ _ _ _ _ _ => false) (fun _ _ => false) (fun _ _ => false) (fun _ _ _ => false) (fun _ _ _ => false) (fun _ _ _ _ => false) (fun _ _ _ _ => false) (fun _ => false) (fun x _ _ _ ihl ihr => Bool.rec false (Bool.rec false ihr ihl) (allFree x)) (fun _ _ _ _ _ => false) (fun _ _ => false) l

/-! ### Lists -/

/-- Recursion over a list. -/
noncomputable abbrev LRec {α : Type} (kn : α) (kcons : V → V → α → α) (bad : α) (l : V) : α :=
  V.rec (motive := fun _ => α) kn (fun a b _ ih => kcons a b ih) (fun _ _ => bad) (fun _ _ => bad) (fun _ => bad) (fun _ _ => bad) bad bad (fun _ => bad) (fun _ _ => bad) (fun _ _ => bad) (fun _ _ _ _ _ _ => bad) (fun _ _ => bad) (fun _ _ => bad) (fun _ _ _ => bad) (fun _ _ _ => bad) (fun _ _ _ _ => bad) (fun _ _ _ _ => bad) (fun _ => bad) (fun _ _ _ _ _ _ => bad) (fun _ _ _ _ _ => bad) (fun _ _ => bad) l

noncomputable def lenL (l : V) : Nat := LRec (α := Nat) 0 (fun _ _ ih => Nat.succ ih) 0 l
noncomputable def takeL (l : V) : Nat → (V → Option ρ) → Option ρ :=
  LRec (α := Nat → (V → Option ρ) → Option ρ) (fun n k => Bool.rec none (k .nil) (Nat.beq n 0)) (fun a b ih n k => Bool.rec (ih (Nat.pred n) fun r => k (.cons a r)) (k .nil) (Nat.beq n 0)) (fun _ _ => none) l
noncomputable def dropL (l : V) : Nat → (V → Option ρ) → Option ρ :=
  LRec (α := Nat → (V → Option ρ) → Option ρ) (fun n k => Bool.rec none (k .nil) (Nat.beq n 0)) (fun a b ih n k => Bool.rec (ih (Nat.pred n) k) (k (.cons a b)) (Nat.beq n 0)) (fun _ _ => none) l
/-- 'new' over the cells from off on. -/
noncomputable def fillL (l : V) : Nat → V → (V → Option ρ) → Option ρ :=
  LRec (α := Nat → V → (V → Option ρ) → Option ρ) (fun n new k => Bool.rec none (onL new (k .nil) (fun _ _ => none)) (Nat.beq n 0))
    (fun a b ih n new k => Bool.rec (ih (Nat.pred n) new fun r => k (.cons a r)) (onL new (k (.cons a b)) (fun a' b' => ih 0 b' fun r => k (.cons a' r))) (Nat.beq n 0)) (fun _ _ _ => none) l
noncomputable def appL (l : V) : V → (V → Option ρ) → Option ρ :=
  LRec (α := V → (V → Option ρ) → Option ρ) (fun y k => k y) (fun a _ ih y k => ih y fun r => k (.cons a r)) (fun _ _ => none) l

/-- Take one cell, or so many. -/
noncomputable def takeK' (o : Option Nat) (l : V) (k : V → Option ρ) : Option ρ :=
  Option.rec (motive := fun _ => Option ρ) (onL l none fun a _ => k a) (fun n => takeL l n fun r => k (.agg r)) o

/-! ### Tries -/

noncomputable abbrev TRec {α : Type} (kn : α) (knd : V → V → V → α → α → α) (bad : α) (l : V) : α :=
  V.rec (motive := fun _ => α) kn (fun _ _ _ _ => bad) (fun _ _ => bad) (fun _ _ => bad) (fun _ => bad) (fun _ _ => bad) bad bad (fun _ => bad) (fun _ _ => bad) (fun _ _ => bad) (fun _ _ _ _ _ _ => bad) (fun _ _ => bad) (fun _ _ => bad) (fun _ _ _ => bad) (fun _ _ _ => bad) (fun _ _ _ _ => bad) (fun _ _ _ _ => bad) (fun _ => bad) (fun x l r _ ihl ihr => knd x l r ihl ihr) (fun _ _ _ _ _ => bad) (fun _ _ => bad) l

noncomputable def tgt (t : V) : Nat → (V → Option ρ) → Option ρ :=
  TRec (α := Nat → (V → Option ρ) → Option ρ) (fun _ _ => none)
    (fun x l r ihl ihr j k => Bool.rec (Bool.rec (ihr (Nat.pred (Nat.div j 2)) k) (ihl (Nat.div j 2) k) (Nat.beq (Nat.mod j 2) 1)) (k x) (Nat.beq j 0)) (fun _ _ => none) t
noncomputable def tset (t : V) : Nat → V → (V → Option ρ) → Option ρ :=
  TRec (α := Nat → V → (V → Option ρ) → Option ρ) (fun j v k => Bool.rec none (k (.nd v .nil .nil)) (Nat.beq j 0))
    (fun x l r ihl ihr j v k => Bool.rec (Bool.rec (ihr (Nat.pred (Nat.div j 2)) v fun r' => k (.nd x l r')) (ihl (Nat.div j 2) v fun l' => k (.nd x l' r)) (Nat.beq (Nat.mod j 2) 1)) (k (.nd v l r)) (Nat.beq j 0)) (fun _ _ _ => none) t

/-! ### Slots -/

noncomputable def lk (s : Nat) (e : E) (k : V → Option ρ) : Option ρ := E.rec (motive := fun _ => Option ρ) none (fun s' v _ ih => Bool.rec ih (k v) (Nat.beq s' s)) e
noncomputable def lkD (s : Nat) (e : E) (k : V → Option ρ) (d : Option ρ) : Option ρ := E.rec (motive := fun _ => Option ρ) d (fun s' v _ ih => Bool.rec ih (k v) (Nat.beq s' s)) e
/-- A value of a text; a string is told first. -/
noncomputable def encK (v : Value) (k : V → Option ρ) : Option ρ := match v with
  | .string s => fN s.size fun n => fN (encS s) fun x => k (.s n x)
  | v => k (encV v)
noncomputable def opd (e : E) (x : Opd) (k : V → Option ρ) : Option ρ := Opd.rec (motive := fun _ => Option ρ) (fun n => lk n e k) (fun v => encK v k) (fun g => k (.fn g .nil)) x
noncomputable def keep (ks : List Nat) (e : E) (k : E → Option ρ) : Option ρ :=
  List.rec (motive := fun _ => (E → Option ρ) → Option ρ) (fun k => k .nil) (fun s _ ih k => lkD s e (fun v => ih fun r => k (.cons s v r)) (ih k)) ks k
noncomputable def opdL (e : E) (xs : List Opd) (k : V → Option ρ) : Option ρ :=
  List.rec (motive := fun _ => (V → Option ρ) → Option ρ) (fun k => k .nil) (fun x _ ih k => opd e x fun v => known v (ih fun r => k (.cons v r))) xs k
noncomputable def putD' (dst : Option Nat) (v : V) (e : E) (k : E → Option ρ) : Option ρ := Option.rec (motive := fun _ => Option ρ) (k e) (fun d => k (.cons d v e)) dst

/-- Values of a text. -/
noncomputable def encA (a : AV) (k : V → Option ρ) : Option ρ := match a with
  | .v x => k (encV x)
  | _ => none
noncomputable def encL (z : List AV) (k : V → Option ρ) : Option ρ :=
  List.rec (motive := fun _ => (V → Option ρ) → Option ρ) (fun k => k .nil) (fun a _ ih k => encA a fun v => ih fun r => k (.cons v r)) z k

/-! ### Objects -/

/-- The list object of a handle. -/
noncomputable def obj (n : Nat) (t : V) (h ver : Nat) (k : Nat → Nat → V → Option ρ) : Option ρ :=
  ck (Nat.ble (Nat.succ h) n) (tgt t h fun o => onOs o fun ver' sz n' t' => ck (Nat.beq ver ver') (k sz n' t'))
noncomputable def obm (n : Nat) (t : V) (h : Nat) (k : V → Option ρ) : Option ρ :=
  ck (Nat.ble (Nat.succ h) n) (tgt t h fun o => onOm o k)

noncomputable def push (n : Nat) (t : V) (o : V) (k : Nat → V → Option ρ) : Option ρ := tset t n o fun t' => fN (Nat.succ n) fun n' => k n' t'

/-- The element of a list at a place. -/
noncomputable def elem (n : Nat) (t : V) (i : Nat) (k : V → Option ρ) : Option ρ := ck (Nat.ble (Nat.succ i) n) (tgt t i k)

/-- n elements from a place of a trie on are copied to another one. -/
noncomputable def copyT (c : Nat) (src : V) : Nat → Nat → V → (V → Option ρ) → Option ρ :=
  Nat.rec (motive := fun _ => Nat → Nat → V → (V → Option ρ) → Option ρ) (fun _ _ t k => k t)
    (fun _ ih i j t k => tgt src i fun x => tset t j x fun t' => fN (Nat.succ i) fun i' => fN (Nat.succ j) fun j' => ih i' j' t' k) c
/-- n times the same element. -/
noncomputable def fillT (c : Nat) (x : V) : Nat → V → (V → Option ρ) → Option ρ :=
  Nat.rec (motive := fun _ => Nat → V → (V → Option ρ) → Option ρ) (fun _ t k => k t)
    (fun _ ih j t k => tset t j x fun t' => fN (Nat.succ j) fun j' => ih j' t' k) c
/-- Cells, so many at a time. -/
noncomputable def chunks (sz : Nat) (c : Nat) : V → Nat → V → (V → Option ρ) → Option ρ :=
  Nat.rec (motive := fun _ => V → Nat → V → (V → Option ρ) → Option ρ) (fun _ _ t k => k t)
    (fun _ ih l j t k => takeL l sz fun x => dropL l sz fun l' => tset t j x fun t' => fN (Nat.succ j) fun j' => ih l' j' t' k) c

/-- The elements of a slice: where they lie. -/
noncomputable def els (n : Nat) (t : V) (sz : Nat) (v : V) (k : Nat → Nat → V → Option ρ) : Option ρ :=
  onSl v (k 0 0 .nil) (fun sz' off c bd t' => ck (Nat.beq sz sz') (ck (Nat.ble (Nat.add off c) bd) (k off c t'))) (fun h ver off len => obj n t h ver fun sz' n' t' => ck (Nat.beq sz sz') (ck (Nat.ble (Nat.add off len) n') (k off len t')))

/-! ### Values that lean on nothing -/

/-- The values of a list, changed. -/
noncomputable def mapL (f : V → (V → Option ρ) → Option ρ) (l : V) : (V → Option ρ) → Option ρ :=
  LRec (α := (V → Option ρ) → Option ρ) (fun k => k .nil) (fun a _ ih k => f a fun a' => ih fun r => k (.cons a' r)) (fun _ => none) l
noncomputable def mapT (f : V → (V → Option ρ) → Option ρ) (c : Nat) (src : V) : Nat → Nat → V → (V → Option ρ) → Option ρ :=
  Nat.rec (motive := fun _ => Nat → Nat → V → (V → Option ρ) → Option ρ) (fun _ _ t k => k t)
    (fun _ ih i j t k => tgt src i fun x => mapL f x fun x' => tset t j x' fun t' => fN (Nat.succ i) fun i' => fN (Nat.succ j) fun j' => ih i' j' t' k) c

/-- A slice of an object, for who only reads it. -/
noncomputable def frzS (n : Nat) (t : V) (f : V → (V → Option ρ) → Option ρ) (h ver off len : Nat) (k : V → Option ρ) : Option ρ :=
  obj n t h ver fun sz n' t' => ck (Nat.ble (Nat.add off len) n') (Bool.rec (mapT f len t' off 0 .nil fun t2 => k (.ro sz 0 len len t2)) (k (.ro sz off len (Nat.add off len) t')) (trieFree t'))

noncomputable def frz1 (n : Nat) (t : V) (f : V → (V → Option ρ) → Option ρ) (v : V) (k : V → Option ρ) : Option ρ :=
  V.rec (motive := fun _ => Option ρ) none n1 (fun _ _ => k v) (fun _ _ => k v) (fun _ => k v) (fun _ _ => k v) (k v) (k v) (fun _ => k v) (fun l _ => mapL f l fun r => k (.agg r)) (fun l _ => mapL f l fun r => k (.tup r)) (fun _ _ _ _ _ _ => k v) n5 n5 n6 n6 n4 (fun h ver off len => frzS n t f h ver off len k) (fun _ => none) n7 n3 n5 v
noncomputable def frz0 (v : V) (k : V → Option ρ) : Option ρ := ck (isFree v) (k v)
/-- freeze -/
noncomputable def frz (n : Nat) (t : V) (d : Nat) : V → (V → Option ρ) → Option ρ :=
  Nat.rec (motive := fun _ => V → (V → Option ρ) → Option ρ) frz0 (fun _ ih => frz1 n t ih) d
noncomputable def stl1 (n : Nat) (t : V) (fz f : V → (V → Option ρ) → Option ρ) (v : V) (k : V → Option ρ) : Option ρ :=
  V.rec (motive := fun _ => Option ρ) none n1 (fun _ _ => k v) (fun _ _ => k v) (fun _ => k v) (fun _ _ => k v) (k v) (k v) (fun _ => k v) (fun l _ => mapL f l fun r => k (.agg r)) (fun l _ => mapL f l fun r => k (.tup r)) (fun _ _ _ _ _ _ => k v) (fun l _ => mapL f l fun r => k (.rp r)) n5 (fun g l _ => mapL f l fun r => k (.fn g r)) n6 n4 (fun h ver off len => frzS n t fz h ver off len k) (fun _ => none) n7 n3 n5 v
/-- still -/
noncomputable def stl (n : Nat) (t : V) (d : Nat) : V → (V → Option ρ) → Option ρ :=
  Nat.rec (motive := fun _ => V → (V → Option ρ) → Option ρ) frz0 (fun d ih => stl1 n t (frz n t d) ih) d
end

noncomputable def isVal (v : V) : Bool :=
  V.rec (motive := fun _ => Bool) false (fun _ _ _ _ => false) (fun _ _ => true) (fun _ _ => true) (fun _ => true) (fun _ _ => true) true true (fun _ => true) (fun _ _ => false) (fun _ _ => false) (fun _ _ _ _ _ _ => false) (fun _ _ => false) (fun _ _ => false) (fun _ _ _ => false) (fun _ _ _ => false) (fun _ _ _ _ => false) (fun _ _ _ _ => false) (fun _ => false) (fun _ _ _ _ _ _ => false) (fun _ _ _ _ _ => false) (fun _ _ => false) v
/-- apart -/
noncomputable def all1 (f : V → Bool) (l : V) : Bool := LRec (α := Bool) true (fun a _ ih => Bool.rec false ih (f a)) false l
noncomputable def apt1 (f : V → Bool) (v : V) : Bool :=
  V.rec (motive := fun _ => Bool) false (fun _ _ _ _ => false) (fun _ _ => true) (fun _ _ => true) (fun _ => true) (fun _ _ => true) true true (fun _ => true) (fun l _ => all1 f l) (fun l _ => all1 f l) (fun _ _ _ _ _ _ => true) (fun l _ => all1 f l) (fun _ _ => false) (fun _ l _ => all1 f l) (fun _ _ _ => false) (fun _ _ _ _ => false) (fun _ _ _ _ => false) (fun _ => false) (fun _ _ _ _ _ _ => false) (fun _ _ _ _ _ => false) (fun _ _ => false) v
noncomputable def apt (d : Nat) : V → Bool := Nat.rec (motive := fun _ => V → Bool) isFree (fun _ ih => apt1 ih) d
end Sx.Q
