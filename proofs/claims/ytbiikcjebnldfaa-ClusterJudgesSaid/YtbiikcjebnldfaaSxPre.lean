/-
  K: what the printed texts lean on.
-/
import Derived.Test.YtbiikcjebnldfaaSxK
import Derived.Test.YtbiikcjebnldfaaSxKg
import Derived.KernelRfl
namespace Sx
open Go
def prg0 : Prg := ⟨prgF, fun _ => none⟩
end Sx
