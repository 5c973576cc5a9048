/-
  Q: operations, code, functions.
-/
import Derived.Test.YtgmppophlalliaaGreatSxQa
namespace Sx.Q
open Go
set_option linter.unusedVariables false

section
variable {ρ : Type}

abbrev QCall (ρ : Type) := Nat → V → Nat → V → (V → Nat → V → Option ρ) → Option ρ
abbrev KV (ρ : Type) := V → Nat → V → Option ρ
abbrev KS (ρ : Type) := Nat → V → Nat → V → Option ρ
abbrev OpF (ρ : Type) := QCall ρ → E → Nat → V → KV ρ → KS ρ → Option ρ

/-! ### Numbers -/

def kmax : Nat → Nat
  | 0 => 127 | 1 => 32767 | 2 => 2147483647 | 3 => 9223372036854775807 | 4 => 255 | 5 => 65535 | 6 => 4294967295 | 7 => 18446744073709551615 | _ => 0

/-- The way for all that has none of its own. -/
noncomputable def slow (op : BinOp) (x y : V) (k : V → Option ρ) : Option ρ :=
  match evBin op (dec x) (dec y) with
  | some (.v a) => k (encV a)
  | _ => none

/-- Two numbers from 0 on, of one kind. -/
noncomputable def binN (op : BinOp) (c a b : Nat) (sl : Option ρ) (k : V → Option ρ) : Option ρ :=
  BinOp.rec (motive := fun _ => Option ρ)
    (fN (Nat.add a b) fun x => Bool.rec sl (k (.i c x)) (Nat.ble x (kmax c)))
    (Bool.rec sl (fN (Nat.sub a b) fun x => Bool.rec sl (k (.i c x)) (Nat.ble x (kmax c))) (Nat.ble b a))
    (fN (Nat.mul a b) fun x => Bool.rec sl (k (.i c x)) (Nat.ble x (kmax c)))
    sl sl sl sl sl sl sl sl
    (fB (Nat.beq a b) fun t => k (.b t)) (fB (Nat.beq a b) fun t => k (.b (not t)))
    (fB (Nat.ble (Nat.succ a) b) fun t => k (.b t)) (fB (Nat.ble a b) fun t => k (.b t))
    (fB (Nat.ble (Nat.succ b) a) fun t => k (.b t)) (fB (Nat.ble b a) fun t => k (.b t)) op

/-- Two strings. -/
noncomputable def eqS (n x n' x' : Nat) (k : Bool → Option ρ) : Option ρ :=
  ck (Nat.ble (Nat.succ x) (Nat.pow 2 (Nat.mul 8 n))) (ck (Nat.ble (Nat.succ x') (Nat.pow 2 (Nat.mul 8 n'))) (Bool.rec (k false) (fB (Nat.beq x x') k) (Nat.beq n n')))
noncomputable def binS' (op : BinOp) (n x n' x' : Nat) (k : V → Option ρ) : Option ρ :=
  BinOp.rec (motive := fun _ => Option ρ)
    (ck (Nat.ble (Nat.succ x) (Nat.pow 2 (Nat.mul 8 n))) (ck (Nat.ble (Nat.add n n') 1099511627776) (fN (Nat.add n n') fun c => fN (Nat.add x (Nat.mul x' (Nat.pow 2 (Nat.mul 8 n)))) fun y => k (.s c y))))
    none none none none none none none none none none
    (eqS n x n' x' fun t => k (.b t)) (eqS n x n' x' fun t => k (.b (not t)))
    none none none none op

noncomputable def bin (op : BinOp) (x y : V) (k : V → Option ρ) : Option ρ :=
  V.rec (motive := fun _ => Option ρ) none n1
    (fun c a => onI y (fun c' b => Bool.rec (slow op x y k) (binN op c a b (slow op x y k) k) (Nat.beq c c')) (fun _ _ => slow op x y k))
    (fun _ _ => slow op x y k) (fun _ => none)
    (fun n a => onS y fun n' b => binS' op n a n' b k) none none (fun _ => none) n5 n5 n8 n5 n5 n6 n6 n4 n4 (fun _ => none) n7 n3 n5 x

noncomputable def valV (a : Option AV) (k : V → Option ρ) : Option ρ :=
  match a with
  | some (.v a) => k (encV a)
  | _ => none

/-! ### Operations -/

noncomputable def q_mv (x : Opd) : OpF ρ := fun _ e n t kv _ => opd e x fun v => known v (kv v n t)
noncomputable def q_pick (c a b : Opd) : OpF ρ := fun _ e n t kv _ => opd e c fun v => onB v fun tt => Bool.rec (opd e b fun v => known v (kv v n t)) (opd e a fun v => known v (kv v n t)) tt
noncomputable def q_alloc (z : List AV) : OpF ρ := fun _ e n t kv _ => encL z fun l => kv (.un l) n t
noncomputable def q_new (z : List AV) : OpF ρ := fun _ e n t kv _ => encL z fun l => push n t (.os 0 (lenL l) 1 (.nd l .nil .nil)) fun n' t' => kv (.hp n 0 0 0) n' t'
noncomputable def q_box (c : Nat) (x : Opd) : OpF ρ := fun _ e n t kv _ => opd e x fun v => solid v fun l => ck (Nat.beq (lenL l) c) (kv (.rp l) n t)
noncomputable def q_boxm (c : Nat) (x : Opd) : OpF ρ := fun _ e n t kv _ => opd e x fun v => solid v fun l => ck (Nat.beq (lenL l) c) (push n t (.os 0 c 1 (.nd l .nil .nil)) fun n' t' => kv (.hp n 0 0 0) n' t')
noncomputable def build (e : E) (ps : List (Nat × Nat × Opd)) : V → (V → Option ρ) → Option ρ :=
  List.rec (motive := fun _ => V → (V → Option ρ) → Option ρ) (fun z k => k z)
    (fun p _ ih z k => opd e p.2.2 fun v => solid v fun l => ck (Nat.beq (lenL l) p.2.1) (fillL z p.1 l fun z' => ih z' k)) ps
noncomputable def q_build (z : List AV) (ps : List (Nat × Nat × Opd)) : OpF ρ := fun _ e n t kv _ => encL z fun l => build e ps l fun l' => kv (.agg l') n t
noncomputable def q_lit (sz : Nat) (z : List AV) (ps : List (Nat × Nat × Opd)) (m : Bool) : OpF ρ := fun _ e n t kv _ =>
  encL z fun l => build e ps l fun l' => fN (Nat.div (lenL l) sz) fun c => chunks sz c l' 0 .nil fun tr =>
    Bool.rec (Bool.rec none (kv (.ro sz 0 c c tr) n t) (trieFree tr)) (push n t (.os 0 sz c tr) fun n' t' => kv (.sl n 0 0 c) n' t') m
noncomputable def q_load (k : Option Nat) (x : Opd) : OpF ρ := fun _ e n t kv _ => opd e x fun v =>
  onP v (fun l => takeK' k l fun r => kv r n t) (fun h ver i o => obj n t h ver fun sz n' t' => elem n' t' i fun l => dropL l o fun l' => takeK' k l' fun r => kv r n t)
noncomputable def q_store (c : Nat) (a x : Opd) : OpF ρ := fun _ e n t kv ks => opd e x fun v => solid v fun l => ck (Nat.beq (lenL l) c) (opd e a fun p =>
  onA p (fun z => ck (Nat.beq (lenL z) c) (Opd.rec (motive := fun _ => Option ρ) (fun s => ks s (.rp l) n t) (fun _ => none) (fun _ => none) a))
    (fun h ver i o => obj n t h ver fun sz n' t' => elem n' t' i fun l0 => fillL l0 o l fun l1 => tset t' i l1 fun t1 => tset t h (.os ver sz n' t1) fun t2 => kv .us n t2))
noncomputable def q_mat (c s : Nat) (x : Opd) : OpF ρ := fun _ e n t kv ks => lk s e fun p => onUn p fun z => opd e x fun v => solid v fun l =>
  ck (Nat.beq (lenL l) c) (ck (Nat.beq (lenL z) c) (ck (Nat.ble 1 c) (push n t (.os 0 c 1 (.nd l .nil .nil)) fun n' t' => ks s (.hp n 0 0 0) n' t')))
noncomputable def q_bin (op : BinOp) (x y : Opd) : OpF ρ := fun _ e n t kv _ => opd e x fun a => opd e y fun b => bin op a b fun v => kv v n t
noncomputable def q_eqn (neg : Bool) (ks : List Nat) (x y : Opd) : OpF ρ := fun _ e n t kv _ => opd e x fun a => opd e y fun b =>
  Option.rec (motive := fun _ => Option ρ) none (fun tt => kv (.b (if neg then !tt else tt)) n t) (evEq ks (dec a) (dec b))
noncomputable def q_eqb (neg : Bool) (x y : Opd) : OpF ρ := fun _ e n t kv _ => opd e x fun a => opd e y fun b =>
  onB a fun p => onB b fun q => fB (p == q) fun tt => kv (.b (if neg then !tt else tt)) n t
noncomputable def q_un (op : UnOp) (x : Opd) : OpF ρ := fun _ e n t kv _ => opd e x fun a => valV (evUn op (dec a)) fun v => kv v n t
noncomputable def q_conv (k : IntKind) (x : Opd) : OpF ρ := fun _ e n t kv _ => opd e x fun a =>
  onI a (fun _ y => Bool.rec (kv (encV (.int k (k.wrap (Int.ofNat y)))) n t) (kv (.i (kc k) y) n t) (Nat.ble y (kmax (kc k)))) (fun _ y => kv (encV (.int k (k.wrap (Int.negSucc y)))) n t)
noncomputable def q_fld (off : Nat) (k : Option Nat) (x : Opd) : OpF ρ := fun _ e n t kv _ => opd e x fun a => onAgg a fun l => dropL l off fun l' => takeK' k l' fun r => kv r n t
noncomputable def q_fadr (off : Nat) (x : Opd) : OpF ρ := fun _ e n t kv _ => opd e x fun a =>
  onP a (fun l => dropL l off fun l' => kv (.rp l') n t) (fun h ver i o => fN (Nat.add o off) fun o' => kv (.hp h ver i o') n t)
noncomputable def q_iadr (sz : Nat) (x i : Opd) : OpF ρ := fun _ e n t kv _ => opd e x fun a => opd e i fun b => onI b (fun _ j =>
  onSl a none (fun sz' off c bd tr => ck (Nat.beq sz sz') (ck (Nat.ble (Nat.succ j) c) (ck (Nat.ble (Nat.succ (Nat.add off j)) bd) (tgt tr (Nat.add off j) fun l => kv (.rp l) n t))))
    (fun h ver off len => obj n t h ver fun sz' n' t' => ck (Nat.beq sz sz') (ck (Nat.ble (Nat.succ j) len) (fN (Nat.add off j) fun j' => kv (.hp h ver j' 0) n t)))) n2
noncomputable def q_idx (len sz : Nat) (k : Option Nat) (x i : Opd) : OpF ρ := fun _ e n t kv _ => opd e x fun a => opd e i fun b => onAgg a fun l => onI b (fun _ j =>
  ck (Nat.ble (Nat.succ j) len) (dropL l (Nat.mul j sz) fun l' => takeK' k l' fun r => kv r n t)) n2
noncomputable def q_sidx (x i : Opd) : OpF ρ := fun _ e n t kv _ => opd e x fun a => opd e i fun b => onS a fun c y => onI b (fun _ j =>
  ck (Nat.ble (Nat.succ j) c) (fN (Nat.land (Nat.shiftRight y (Nat.mul 8 j)) 255) fun r => kv (.i 4 r) n t)) n2
/-- The length of a string, a slice, a map. -/
noncomputable def lenV (n : Nat) (t : V) (k : Nat) (v : V) (kk : Nat → Option ρ) : Option ρ :=
  Nat.rec (motive := fun _ => Option ρ) (onS v fun c _ => kk c) (fun k' _ => Nat.rec (motive := fun _ => Option ρ)
    (onSl v (kk 0) (fun _ _ c _ _ => kk c) (fun h ver off len => obj n t h ver fun _ _ _ => kk len))
    (fun _ _ => none) k') k
noncomputable def q_len (k : Nat) (x : Opd) : OpF ρ := fun _ e n t kv _ => opd e x fun a => lenV n t k a fun c => kv (.i 3 c) n t
noncomputable def q_mx (xs : List Opd) : OpF ρ := fun _ e n t kv _ => opdL e xs fun l => valV (evFolds evMax2 (decL l)) fun v => kv v n t
noncomputable def q_mn (xs : List Opd) : OpF ρ := fun _ e n t kv _ => opdL e xs fun l => valV (evFolds evMin2 (decL l)) fun v => kv v n t
noncomputable def q_app (sz bytes : Nat) (x y : Opd) : OpF ρ := fun _ e n t kv _ => opd e x fun a => opd e y fun b => els n t sz b fun offy ny ty =>
  onSl a (ck (Nat.ble (Nat.mul ny bytes) 17592186044416) (ck (Nat.ble ny 17592186044416) (Bool.rec (copyT ny ty offy 0 .nil fun t' => push n t (.os 0 sz ny t') fun n1 t1 => kv (.sl n 0 0 ny) n1 t1) (kv .zs n t) (Nat.beq ny 0))))
    (fun _ _ _ _ _ => none)
    (fun h ver off len => obj n t h ver fun sz' n' t' => ck (Nat.beq sz sz') (ck (Nat.beq off 0) (ck (Nat.ble len n') (fN (Nat.add len ny) fun c => ck (Nat.ble (Nat.mul c bytes) 17592186044416) (ck (Nat.ble c 17592186044416)
      (copyT ny ty offy len t' fun t1 => fN (Nat.succ ver) fun ver' => tset t h (.os ver' sz' c t1) fun t2 => kv (.sl h ver' 0 c) n t2))))))
noncomputable def q_mks (sz bytes : Nat) (z : List AV) (l c : Opd) : OpF ρ := fun _ e n t kv _ => opd e l fun a => opd e c fun b => onI a (fun _ x => onI b (fun _ y =>
  ck (Nat.beq x y) (ck (Nat.ble (Nat.mul x bytes) 17592186044416) (ck (Nat.ble x 17592186044416) (encL z fun zl => ck (Nat.beq (lenL zl) sz) (fillT x zl 0 .nil fun t' => push n t (.os 0 sz x t') fun n1 t1 => kv (.sl n 0 0 x) n1 t1))))) n2) n2
/-- A bound of a cut. -/
noncomputable def bnd (x : Option Opd) (e : E) (dflt top : Nat) (k : Nat → Option ρ) : Option ρ :=
  Option.rec (motive := fun _ => Option ρ) (k dflt) (fun o => opd e o fun v => onI v (fun _ i => ck (Nat.ble i top) (k i)) n2) x
noncomputable def q_slc (sz : Nat) (x : Opd) (lo hi mx : Option Opd) : OpF ρ := fun _ e n t kv _ => Option.rec (motive := fun _ => Option ρ) (opd e x fun a =>
  onSS a (fun c y => ck (Nat.beq sz 0) (bnd hi e c c fun h => bnd lo e 0 h fun l => fN (Nat.sub h l) fun c' => fN (Nat.mod (Nat.shiftRight y (Nat.mul 8 l)) (Nat.pow 2 (Nat.mul 8 c'))) fun y' => kv (.s c' y') n t))
    (fun sz' off c bd tr => ck (Nat.beq sz sz') (ck (Nat.ble 1 sz) (bnd hi e c c fun h => bnd lo e 0 h fun l => fN (Nat.sub h l) fun c' => fN (Nat.add off l) fun off' => kv (.ro sz off' c' bd tr) n t)))
    (fun h' ver off len => obj n t h' ver fun sz' n' t' => ck (Nat.beq sz sz') (ck (Nat.ble 1 sz) (bnd hi e len len fun h => bnd lo e 0 h fun l => Bool.rec (ck (Nat.ble (Nat.succ l) len) (fN (Nat.sub h l) fun c' => fN (Nat.add off l) fun off' => kv (.sl h' ver off' c') n t)) (fN (Nat.sub h l) fun c' => fN (Nat.add off l) fun off' => kv (.sl h' ver off' c') n t) (Nat.beq l 0))))) (fun _ => opd e x fun a => onSl a none (fun sz' off c bd tr => ck (Nat.beq sz sz') (ck (Nat.ble 1 sz) (ck hi.isSome (bnd mx e 0 c fun m => bnd hi e 0 m fun h => bnd lo e 0 h fun l => fN (Nat.sub h l) fun c' => fN (Nat.add off l) fun off' => kv (.ro sz off' c' bd tr) n t)))) (fun _ _ _ _ => none)) mx
noncomputable def nthL (l : V) : Nat → (V → Option ρ) → Option ρ :=
  LRec (α := Nat → (V → Option ρ) → Option ρ) (fun _ _ => none) (fun a _ ih n k => Bool.rec (ih (Nat.pred n) k) (k a) (Nat.beq n 0)) (fun _ _ => none) l
noncomputable def q_ext (x : Opd) (i : Nat) : OpF ρ := fun _ e n t kv _ => opd e x fun a => onTup a fun l => nthL l i fun v => kv v n t
noncomputable def q_mkf (g : Nat) (cap : List Opd) : OpF ρ := fun _ e n t kv _ => opdL e cap fun l => kv (.fn g l) n t
noncomputable def q_mkb (g : Nat) (cap : List Opd) : OpF ρ := fun _ e n t kv _ => opdL e cap fun l => kv (.bm g l) n t
noncomputable def q_call (g : Nat) (args : List Opd) : OpF ρ := fun call e n t kv _ => opdL e args fun l => call g l n t kv
noncomputable def q_callv (f : Opd) (args : List Opd) : OpF ρ := fun call e n t kv _ => opd e f fun a => onFn a fun g cap => opdL e args fun l => appL l cap fun l' => call g l' n t kv
noncomputable def q_mkmap : OpF ρ := fun _ e n t kv _ => push n t (.om .nil) fun n' t' => kv (.mp n) n' t'
/-- '==' of two keys: numbers, bools or strings. -/
noncomputable def eqK (kd : Nat) (x y : V) (k : Bool → Option ρ) : Option ρ :=
  Nat.rec (motive := fun _ => Option ρ)
    (onI x (fun c a => onI y (fun c' b => ck (Nat.beq c c') (fB (Nat.beq a b) k)) (fun c' b => ck (Nat.beq c c') (k false))) (fun c a => onI y (fun c' b => ck (Nat.beq c c') (k false)) (fun c' b => ck (Nat.beq c c') (fB (Nat.beq a b) k))))
    (fun k1 _ => Nat.rec (motive := fun _ => Option ρ) (onB x fun a => onB y fun b => fB (a == b) k) (fun k2 _ => Nat.rec (motive := fun _ => Option ρ) (onS x fun a1 a2 => onS y fun b1 b2 => eqS a1 a2 b1 b2 k) (fun _ _ => none) k2) k1) kd
noncomputable def isK (kd : Nat) (x : V) (k : Option ρ) : Option ρ :=
  Nat.rec (motive := fun _ => Option ρ) (onI x (fun _ _ => k) (fun _ _ => k)) (fun k1 _ => Nat.rec (motive := fun _ => Option ρ) (onB x fun _ => k) (fun k2 _ => Nat.rec (motive := fun _ => Option ρ) (onS x fun _ _ => k) (fun _ _ => none) k2) k1) kd
/-- The place of a key in a map and its value. -/
noncomputable def findM (kd : Nat) (key : V) (es : V) : Nat → (Nat → V → Option ρ) → Option ρ → Option ρ :=
  LRec (α := Nat → (Nat → V → Option ρ) → Option ρ → Option ρ) (fun _ _ kn => kn)
    (fun p _ ih i ks kn => onL p none fun a v => eqK kd key a fun tt => Bool.rec (fN (Nat.succ i) fun i' => ih i' ks kn) (ks i v) tt) (fun _ _ _ => none) es
noncomputable def setM (es : V) : Nat → V → (V → Option ρ) → Option ρ :=
  LRec (α := Nat → V → (V → Option ρ) → Option ρ) (fun _ _ _ => none) (fun p r ih i x k => Bool.rec (ih (Nat.pred i) x fun r' => k (.cons p r')) (k (.cons x r)) (Nat.beq i 0)) (fun _ _ _ => none) es
noncomputable def one1 (st : Bool) (ks : List Nat) (k : Nat → Option ρ) : Option ρ :=
  Bool.rec (List.rec (motive := fun _ => Option ρ) none (fun c r _ => List.rec (motive := fun _ => Option ρ) (k c) (fun _ _ _ => none) r) ks) none st
noncomputable def q_look (st : Bool) (ks : List Nat) (z : AV) (ok : Bool) (m k : Opd) : OpF ρ := fun _ e n t kv _ => one1 st ks fun kd => opd e m fun a => opd e k fun key => isK kd key (onMp a fun h => obm n t h fun es =>
  findM kd key es 0 (fun _ v => Bool.rec (kv v n t) (kv (.tup (.cons v (.cons (.b true) .nil))) n t) ok) (encA z fun v => Bool.rec (kv v n t) (kv (.tup (.cons v (.cons (.b false) .nil))) n t) ok))
noncomputable def q_mput (st : Bool) (ks : List Nat) (m k x : Opd) : OpF ρ := fun _ e n t kv _ => one1 st ks fun kd => opd e m fun a => opd e k fun key => opd e x fun v => known v (isK kd key (onMp a fun h => obm n t h fun es =>
  findM kd key es 0 (fun i _ => setM es i (.cons key v) fun es' => tset t h (.om es') fun t' => kv .us n t') (appL es (.cons (.cons key v) .nil) fun es' => tset t h (.om es') fun t' => kv .us n t')))
noncomputable def q_nck (x : Opd) : OpF ρ := fun _ e n t kv _ => opd e x fun a => onP a (fun _ => kv a n t) (fun _ _ _ _ => kv a n t)
/-- The bytes of a string as a trie. -/
noncomputable def bytesT (c : Nat) : Nat → Nat → V → (V → Option ρ) → Option ρ :=
  Nat.rec (motive := fun _ => Nat → Nat → V → (V → Option ρ) → Option ρ) (fun _ _ t k => k t)
    (fun _ ih y j t k => fN (Nat.mod y 256) fun b => tset t j (.cons (.i 4 b) .nil) fun t' => fN (Nat.shiftRight y 8) fun y' => fN (Nat.succ j) fun j' => ih y' j' t' k) c
noncomputable def q_s2b (x : Opd) : OpF ρ := fun _ e n t kv _ => opd e x fun a => onS a fun c y => bytesT c y 0 .nil fun tr => kv (.ro 1 0 c c tr) n t
/-- Is a slice none. -/
noncomputable def q_nilq (neg : Bool) (x : Opd) : OpF ρ := fun _ e n t kv _ => opd e x fun a =>
  onSl a (kv (.b (not neg)) n t) (fun _ _ c _ _ => ck (Nat.ble 1 c) (kv (.b neg) n t)) (fun h ver _ _ => obj n t h ver fun _ _ _ => kv (.b neg) n t)
noncomputable def q_no : OpF ρ := fun _ _ _ _ _ _ => none

noncomputable def qO (m : MO) : OpF ρ :=
  MO.rec (motive := fun _ => OpF ρ) q_mv q_pick q_alloc q_new q_box q_boxm q_build q_lit q_load q_store q_mat q_bin q_eqn q_eqb q_un q_conv q_fld q_fadr q_iadr q_idx q_sidx q_len q_mx q_mn q_app q_mks q_slc q_ext q_mkf q_mkb q_call q_callv q_mkmap q_look q_mput (fun _ => q_no) (fun _ => q_no) q_nck q_s2b q_nilq q_no m

/-- Is an operation wanted. -/
noncomputable def want (e : E) (g : Option (Nat × Bool)) (ky kn : Option ρ) : Option ρ :=
  Option.rec (motive := fun _ => Option ρ) ky (fun p => lk p.1 e fun v =>
    V.rec (motive := fun _ => Option ρ) none n1 n2 n2 (fun b => Bool.rec (Bool.rec ky kn p.2) (Bool.rec kn ky p.2) b) n2 kn none (fun _ => none) n5 n5 n8 n5 n5 n6 n6 n4 n4 (fun _ => none) n7 n3 n5 v) g

abbrev KE (ρ : Type) := E → Nat → V → Option ρ

noncomputable def qOp (call : QCall ρ) (m : MOp) (e : E) (n : Nat) (t : V) (k : KE ρ) : Option ρ :=
  want e m.guard (qO m.op call e n t (fun v n' t' => putD' m.dst v e fun e' => k e' n' t') (fun s v n' t' => putD' m.dst .us (.cons s v e) fun e' => k e' n' t'))
    (putD' m.dst .us e fun e' => k e' n t)

noncomputable def qOps (call : QCall ρ) (ms : List MOp) : E → Nat → V → KE ρ → Option ρ :=
  List.rec (motive := fun _ => E → Nat → V → KE ρ → Option ρ) (fun e n t k => k e n t) (fun m _ ih e n t k => qOp call m e n t fun e' n' t' => ih e' n' t' k) ms

/-! ### Which objects an operation looks at -/

noncomputable def hOf' (v : V) : List Nat :=
  V.rec (motive := fun _ => List Nat) [] (fun _ _ _ _ => []) (fun _ _ => []) (fun _ _ => []) (fun _ => []) (fun _ _ => []) [] [] (fun _ => []) (fun _ _ => []) (fun _ _ => []) (fun _ _ _ _ _ _ => []) (fun _ _ => []) (fun _ _ => []) (fun _ _ _ => []) (fun _ _ _ => []) (fun h _ _ _ => [h]) (fun h _ _ _ => [h]) (fun h => [h]) (fun _ _ _ _ _ _ => []) (fun _ _ _ _ _ => []) (fun _ _ => []) v

/-- The environment with its values' meaning, as far as operations look at objects. -/
noncomputable def fpO (e : E) (n : Nat) (m : MO) (k : FP → Option ρ) : Option ρ :=
  match m with
  | .new _ | .boxm _ _ | .mat _ _ _ | .lit _ _ _ true | .mks _ _ _ _ _ | .mkmap => k ⟨[], [n], true, false⟩
  | .load _ x | .iadr _ x _ | .len _ x | .nilq _ x | .slc _ x _ _ _ => opd e x fun v => k ⟨hOf' v, [], false, false⟩
  | .store _ a _ => opd e a fun v => k ⟨hOf' v, hOf' v, false, false⟩
  | .app _ _ x y => opd e x fun v => opd e y fun w => onSl v (k ⟨hOf' w, [n], true, false⟩) (fun _ _ _ _ _ => none) (fun h _ _ _ => k ⟨h :: hOf' w, [h], false, false⟩)
  | .call _ _ | .callv _ _ | .look _ _ _ _ _ _ | .mput _ _ _ _ _ | .rng _ | .ent _ => k ⟨[], [], false, true⟩
  | _ => k ⟨[], [], false, false⟩
noncomputable def fpOp (e : E) (n : Nat) (m : MOp) (k : FP → Option ρ) : Option ρ := want e m.guard (fpO e n m.op k) (k ⟨[], [], false, false⟩)

/-- The operations with what they looked at. -/
noncomputable def qOpsF (call : QCall ρ) (ms : List MOp) : E → Nat → V → (List FP → KE ρ) → Option ρ :=
  List.rec (motive := fun _ => E → Nat → V → (List FP → KE ρ) → Option ρ) (fun e n t k => k [] e n t) (fun m _ ih e n t k => fpOp e n m fun f => qOp call m e n t fun e' n' t' => ih e' n' t' fun fs => k (f :: fs)) ms

/-! ### Code -/

abbrev KX (ρ : Type) := Ex → E → Nat → V → Option ρ
abbrev CodeF (ρ : Type) := E → Nat → V → KX ρ → Option ρ

noncomputable def c_reg (call : QCall ρ) (ops : List MOp) (live : List Nat) : CodeF ρ := fun e n t k => qOps call ops e n t fun e' n' t' => keep live e' fun e2 => k .nrm e2 n' t'
noncomputable def c_regd (call : QCall ρ) (an : List Nat) (ops : List MOp) (live : List Nat) : CodeF ρ := fun e n t k => qOpsF call ops e n t fun fs e' n' t' => ck (dynFree an ops fs) (keep live e' fun e2 => k .nrm e2 n' t')
noncomputable def onEx (x : Ex) (kn : Option ρ) (kx : Nat → Option ρ) (kr : Option ρ) : Option ρ := Ex.rec (motive := fun _ => Option ρ) kn kx kr x
noncomputable def c_seq (a b : CodeF ρ) : CodeF ρ := fun e n t k => a e n t fun x e' n' t' => onEx x (b e' n' t' k) (fun id => k (.exit id) e' n' t') (k .ret e' n' t')
noncomputable def c_cond (c : Opd) (a b : CodeF ρ) : CodeF ρ := fun e n t k => opd e c fun v => onB v fun tt => Bool.rec (b e n t k) (a e n t k) tt
noncomputable def c_block (id : Nat) (c : CodeF ρ) : CodeF ρ := fun e n t k => c e n t fun x e' n' t' => onEx x (k .nrm e' n' t') (fun id' => Bool.rec (k (.exit id') e' n' t') (k .nrm e' n' t') (Nat.beq id' id)) (k .ret e' n' t')
noncomputable def c_loop (N : Nat) (ks : List Nat) (c : CodeF ρ) : CodeF ρ :=
  Nat.rec (motive := fun _ => CodeF ρ) (fun _ _ _ _ => none) (fun _ ih e n t k => keep ks e fun e1 => c e1 n t fun x e' n' t' => onEx x (ih e' n' t' k) (fun id => k (.exit id) e' n' t') (k .ret e' n' t')) N
noncomputable def qC (N : Nat) (call : QCall ρ) (c : MC) : CodeF ρ :=
  MC.rec (motive := fun _ => CodeF ρ) (fun e n t k => k .nrm e n t) (c_reg call) (c_regd call) (fun _ _ a b => c_seq a b) (fun c _ _ a b => c_cond c a b) (fun id _ c => c_block id c) (fun ks _ c => c_loop N ks c) (fun _ _ _ _ _ _ _ => fun _ _ _ _ => none) (fun id e n t k => k (.exit id) e n t) (fun e n t k => k .ret e n t) c

/-! ### Functions -/

noncomputable def res1 (e : E) (n : Nat) (t : V) (r : Res) (k : V → Option ρ) : Option ρ :=
  Res.rec (motive := fun _ => Option ρ) (fun s => lk s e fun v => known v (k v)) (fun s kk => lk s e fun v =>
    onP v (fun l => takeK' kk l k) (fun h ver i o => obj n t h ver fun sz n' t' => elem n' t' i fun l => dropL l o fun l' => takeK' kk l' k)) r
noncomputable def resL (e : E) (n : Nat) (t : V) (rs : List Res) (k : V → Option ρ) : Option ρ :=
  List.rec (motive := fun _ => (V → Option ρ) → Option ρ) (fun k => k .nil) (fun r _ ih k => res1 e n t r fun v => ih fun l => k (.cons v l)) rs k
noncomputable def oneV (l : V) (k : V → Option ρ) : Option ρ := onL l (k (.tup .nil)) fun a r => onL r (k a) fun _ _ => k (.tup l)

noncomputable def argE (l : V) : Nat → (E → Option ρ) → Option ρ :=
  LRec (α := Nat → (E → Option ρ) → Option ρ) (fun _ k => k .nil) (fun a _ ih i k => ih (Nat.succ i) fun e => k (.cons i a e)) (fun _ _ => none) l

noncomputable def onEnd (x : Ex) (k : Option ρ) : Option ρ := Ex.rec (motive := fun _ => Option ρ) k (fun _ => none) k x

noncomputable def runI (N : Nat) (call : QCall ρ) (mf : MF) (args : V) (n : Nat) (t : V) (k : KV ρ) : Option ρ :=
  argE args 0 fun e => qC N call mf.body e n t fun x e' n' t' => onEnd x (resL e' n' t' mf.res fun l => oneV l fun v => k v n' t')
noncomputable def scal (v : V) : Bool :=
  V.rec (motive := fun _ => Bool) false (fun _ _ _ _ => false) (fun _ _ => true) (fun _ _ => true) (fun _ => true) (fun _ _ => true) true true (fun _ => true) (fun l _ => all1 isVal l) (fun l _ => all1 isVal l) (fun _ _ _ _ _ _ => false) (fun _ _ => false) (fun _ _ => false) (fun _ _ _ => false) (fun _ _ _ => false) (fun _ _ _ _ => false) (fun _ _ _ _ => false) (fun _ => false) (fun _ _ _ _ _ _ => false) (fun _ _ _ _ _ => false) (fun _ _ => false) v
noncomputable def runP (N : Nat) (call : QCall ρ) (mf : MF) (args : V) (n : Nat) (t : V) (k : KV ρ) : Option ρ :=
  fB (all1 (apt 8) args) fun ap => Bool.rec
    (mapL (stl n t 8) args fun as => argE as 0 fun e => qC N call mf.body e 0 .nil fun x e' n' t' => onEnd x (resL e' n' t' mf.res fun l => oneV l fun v => frz n' t' 8 v fun v' => ck (scal v') (k v' n t)))
    (argE args 0 fun e => qC N call mf.body e 0 .nil fun x e' n' t' => onEnd x (resL e' n' t' mf.res fun l => oneV l fun v => frz n' t' 8 v fun v' => k v' n t)) ap

noncomputable def qRun (N : Nat) (call : QCall ρ) (mf : MF) (args : V) (n : Nat) (t : V) (k : KV ρ) : Option ρ :=
  ck (Nat.ble (lenL args) mf.ntmps) (Bool.rec (runI N call mf args n t k) (runP N call mf args n t k) mf.pure)

/-- Functions by number. -/
inductive QT where
  | nil
  | node (k : Nat) (v : MF) (l r : QT)
def QT.all : QT → List (Nat × MF)
  | .nil => []
  | .node k v l r => (k, v) :: (l.all ++ r.all)
noncomputable def QT.find (t : QT) (g : Nat) (k : MF → Option ρ) : Option ρ :=
  QT.rec (motive := fun _ => Option ρ) none (fun j v _ _ l r => Bool.rec (Bool.rec r l (Nat.ble g j)) (k v) (Nat.beq g j)) t

/-- Functions that are not entered. -/
abbrev QX (ρ : Type) := Nat → Option (V → Nat → V → KV ρ → Option ρ)
noncomputable def qCall (x : QX ρ) (t : QT) (N : Nat) (call : QCall ρ) : QCall ρ := fun g args n tr k =>
  Option.rec (motive := fun _ => Option ρ) (t.find g fun mf => qRun N call mf args n tr k) (fun f => f args n tr k) (x g)
noncomputable def qF (x : QX ρ) (t : QT) (N d : Nat) : QCall ρ :=
  Nat.rec (motive := fun _ => QCall ρ) (fun _ _ _ _ _ => none) (fun _ ih => qCall x t N ih) d
end
end Sx.Q
