/-
  ClusterJudges: whatever the arguments, the evaluator answers true.
-/
import Derived.Test.YtbiikcjebnldfaaSxC3
import Derived.Test.YtbiikcjebnldfaaSxKh
import Derived.Test.YtbiikcjebnldfaaSxK
namespace Sx
open Go

def lawD : Nat := 30

theorem shapeG : shapeT Go.Proofs.Try.prog 8 25 = some [.sl [.int .i64], .sl [.sl [.int .i64, .int .i64]]] := by kernel_rfl
theorem shapeC : shapeT Go.Proofs.Try.prog 8 26 = some [.sl [.sl [.int .i64]]] := by kernel_rfl

theorem law_ClusterJudges {x0 x1 : AV} (f0 : ArgFit Go.Proofs.Try.prog 25 x0) (f1 : ArgFit Go.Proofs.Try.prog 26 x1) : evP lawN (evF prg lawN lawD) m_selfstablaw34_ClusterJudges [x0, x1] = some (.b true) := by
  obtain ⟨y0, g0, w0⟩ := arg_agg shapeG (c := .pair (.arr (.int .i64)) (.arr (.arr (.pair (.int .i64) (.int .i64))))) rfl (by decide) f0
  obtain ⟨y1, g1, w1⟩ := arg_cell shapeC (c := .arr (.arr (.int .i64))) rfl (fun fs h => by rw [Go.Proofs.Try.underlying26] at h; cases h) f1
  obtain ⟨ids, ps⟩ := y0
  have hrow : ∀ v, v < ps.n → (ps.f v).n < lawN := fun v hv => by
    have h : (ps.f v).n ≤ maxLen := (w0.2.2 v hv).1
    have : maxLen < lawN := by decide
    omega
  have hp := plain_ClusterJudges ids ps y1 hrow
  have hx : FL [KV.agg (ofTy (.pair (.arr (.int .i64)) (.arr (.arr (.pair (.int .i64) (.int .i64))))) (ids, ps)), one1 (ofTy (.arr (.arr (.int .i64))) y1)] [x0, x1] := .cons g0 g1
  exact law_of (ok_selfstablaw34_ClusterJudges lawN) rfl prgF_12 rfl (by decide : 12 ≤ lawD) (x := ((ids, ps), y1, ())) hx (fun y h => by
    have h' : s_selfstablaw34_ClusterJudges lawN ids ps y1 = some y := h
    rw [hp] at h'; cases h'; rfl) ⟨true, hp⟩
end Sx
