/-
  Q: functions that are not entered.
-/
import Derived.Test.YtgmppophlalliaaGreatSxQb
namespace Sx.Q
open Go
set_option linter.unusedVariables false
section
variable {ρ : Type}

/-- Does a string of m bytes stand in another one. -/
noncomputable def subAt (m y : Nat) (c : Nat) : Nat → (Bool → Option ρ) → Option ρ :=
  Nat.rec (motive := fun _ => Nat → (Bool → Option ρ) → Option ρ) (fun _ k => k false)
    (fun _ ih x k => Bool.rec (fN (Nat.shiftRight x 8) fun x' => ih x' k) (k true) (Nat.beq (Nat.mod x (Nat.pow 2 (Nat.mul 8 m))) y)) c
noncomputable def two (args : V) (k : V → V → Option ρ) : Option ρ := onL args none fun a r => onL r none fun b r2 => onL r2 (k a b) fun _ _ => none
noncomputable def x_contains (args : V) (n : Nat) (t : V) (k : KV ρ) : Option ρ :=
  two args fun a b => onS a fun c x => onS b fun m y => ck (Nat.ble (Nat.succ y) (Nat.pow 2 (Nat.mul 8 m))) (ck (Nat.ble (Nat.succ c) 4294967281) (Bool.rec (k (.b false) n t) (subAt m y (Nat.succ (Nat.sub c m)) x fun tt => k (.b tt) n t) (Nat.ble m c)))
/-- The place of a byte in a string. -/
noncomputable def byteAt' (y : Nat) (c : Nat) : Nat → Nat → (V → Option ρ) → Option ρ :=
  Nat.rec (motive := fun _ => Nat → Nat → (V → Option ρ) → Option ρ) (fun _ _ k => k (.m 3 0))
    (fun _ ih i x k => Bool.rec (fN (Nat.shiftRight x 8) fun x' => fN (Nat.succ i) fun i' => ih i' x' k) (k (.i 3 i)) (Nat.beq (Nat.mod x 256) y)) c
noncomputable def x_indexByte (args : V) (n : Nat) (t : V) (k : KV ρ) : Option ρ :=
  two args fun a b => onS a fun c x => onI b (fun c0 y => ck (Nat.beq c0 4) (ck (Nat.ble y 255) (byteAt' y c 0 x fun v => k v n t))) n2
noncomputable def x_containsRune (args : V) (n : Nat) (t : V) (k : KV ρ) : Option ρ :=
  two args fun a b => onS a fun c x => onI b (fun c0 y => ck (Nat.beq c0 2) (ck (Nat.ble y 127) (byteAt' y c 0 x fun v => onI v (fun _ _ => k (.b true) n t) (fun _ _ => k (.b false) n t)))) n2
/-- A call that a deferred recover watches. -/
noncomputable def x_catch (call : QCall ρ) (args : V) (n : Nat) (t : V) (k : KV ρ) : Option ρ :=
  onL args none fun a r => onL r (V.rec (motive := fun _ => Option ρ) none n1 n2 n2 (fun _ => none) n2 none none (fun _ => none) n5 n5 n8 n5 n5 n6 (fun g l _ => call g l n t fun _ n' t' => k (.agg (.cons (.i 3 0) (.cons (.i 3 0) .nil))) n' t') n4 n4 (fun _ => none) n7 n3 n5 a) fun _ _ => none
noncomputable def qxS : QX ρ := fun g => Bool.rec (Bool.rec (Bool.rec none (some x_indexByte) (Nat.beq g 232)) (some x_containsRune) (Nat.beq g 230)) (some x_contains) (Nat.beq g 231)
end
end Sx.Q
