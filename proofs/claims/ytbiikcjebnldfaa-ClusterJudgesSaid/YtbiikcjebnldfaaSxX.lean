/-
  Sx: the functions that the evaluator doesn't enter: none.
-/
import Derived.Test.YtbiikcjebnldfaaSxL
import Derived.Test.YtbiikcjebnldfaaSxCode
namespace Sx
open Go

def extF (_ : Nat) : Option (List AV → Hp → Option (AV × Hp)) := none

theorem ext_lim : ∀ (g : Nat) (x : List AV → Hp → Option (AV × Hp)) (xs : List AV) (H : Hp) (r : AV × Hp), extF g = some x → x xs H = some r → HpLe H r.2 := fun _ _ _ _ _ h => by cases h
theorem ext_pure : ∀ (g : Nat) (x : List AV → Hp → Option (AV × Hp)) (xs : List AV) (H : Hp) (r : AV × Hp), extF g = some x → x xs H = some r → r.2 = H := fun _ _ _ _ _ h => by cases h
theorem ext_sound : ExtSound Go.Proofs.Try.prog phi ⟨prgF, extF⟩ := fun f g _ args H r h => by cases h
end Sx
