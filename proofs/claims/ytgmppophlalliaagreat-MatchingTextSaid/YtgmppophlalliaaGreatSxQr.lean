/-
  Q: the seat's functions, run by the kernel, with graph.Valid as K prints it.
-/
import Derived.Test.YtgmppophlalliaaGreatSxQy
import Derived.Test.YtgmppophlalliaaGreatSxP1
namespace Sx.Q
open Go
set_option linter.unusedVariables false

noncomputable def qv {ρ : Type} : QX ρ := fun g => Bool.rec (motive := fun _ => Option (V → Nat → V → KV ρ → Option ρ)) (qx g)
  (some (x_bool [.agg (.pair (.arr (.int .i64)) (.arr (.arr (.pair (.int .i64) (.int .i64)))))] fun x => s_graph_Valid catchN x.1.1 x.1.2)) (Nat.beq g 32)
theorem qv_ok {ρ : Type} : OvOK (ρ := ρ) qv prg catchN 30 :=
  (ExtOK.ov qx_ok catchN 29).more 32 _ (x_bool_ok (D := 29) (fns := []) ((ok_graph_Valid catchN).mono (by decide)) rfl)

theorem within_lt (z : Int) (m : Nat) (hm : 1 ≤ m) (hm2 : m ≤ 1000) : ∃ w : Nat, w < m ∧ s_selfstabworld_Within catchN z (m : Int) = some (w : Int) := by
  have h1 : ¬ ((m : Int) < 1) := by omega
  have h2 : ((m : Int) == 0) = false := by rw [beq_eq_false_iff_ne]; omega
  have h3 := Int.tmod_lt_of_pos z (show (0 : Int) < m by omega)
  have h4 := Int.tmod_lt_of_pos (-z) (show (0 : Int) < m by omega)
  rw [Int.neg_tmod] at h4
  unfold s_selfstabworld_Within
  by_cases h5 : z.tmod m < 0
  · refine ⟨(z.tmod m + m).toNat, by omega, ?_⟩
    simp only [sel, chk, h1, h2, h5, decide_true, decide_false, Bool.not_false]
    congr 1
    have e1 : IntKind.i64.wrap (z.tmod m + m) = z.tmod m + m := by
      simp only [IntKind.wrap, IntKind.bits, IntKind.signed]
      simp
      omega
    rw [e1]
    omega
  · refine ⟨(z.tmod m).toNat, by omega, ?_⟩
    simp only [sel, chk, h1, h2, h5, decide_false, Bool.not_false]
    congr 1
    omega

noncomputable def qw : QX Unit := fun g => Bool.rec (motive := fun _ => Option (V → Nat → V → KV Unit → Option Unit)) (qv g) (some x_rest) (Nat.beq g 58)
theorem qw_ok : OvOK qw prg catchN 30 :=
  qv_ok.more 58 _ (x_rest_ok (D := 29) (fns := []) (f := fun x => s_selfstabworld_Within catchN x.1 x.2.1) ((ok_selfstabworld_Within catchN).mono (by decide)) within_lt)
end Sx.Q
