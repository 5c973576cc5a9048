/-
  K: what the printed texts lean on.
-/
import Derived.Test.YtgmppophlalliaaGreatSxK
import Derived.Test.YtgmppophlalliaaGreatSxKg
import Derived.KernelRfl
namespace Sx
open Go
noncomputable abbrev prg0 : Prg := prg
end Sx
