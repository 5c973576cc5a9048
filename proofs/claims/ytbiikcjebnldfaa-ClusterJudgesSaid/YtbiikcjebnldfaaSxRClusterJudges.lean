/-
  ClusterJudges: whatever the arguments, the law returns true.
-/
import Derived.Test.YtbiikcjebnldfaaSxK
import Derived.Test.YtbiikcjebnldfaaSxRow
import Derived.Test.YtbiikcjebnldfaaSxLawClusterJudges
import Derived.Test.YtbiikcjebnldfaaRows
import Derived.WalkKit
import Derived.ProofKit
import Derived.OpenShut
namespace Go.Proofs.Ytbiikcjebnldfaa.clusterJudges
open Go.ChangeShapes Go.WideShapes Go.ChangeAt Go.RowKit
open Sx (open_arg one_of_slice one_of_int one_of_bool law_calls args_again)
set_option linter.unusedVariables false

theorem own : ownKnob Try.prog.godebug = none := by kernel_rfl
theorem kids : Kids Try.prog (· < Try.prog.types.size) := kids_rows (by kernel_rfl) (by kernel_rfl)
theorem full : ∀ t e, t < Try.prog.types.size → Try.prog.underlying t = some (.slice e) → 0 < Try.prog.cellsOf e := slices_full_of Try.prog (by kernel_rfl)
theorem shape25 : Sx.shapeT Try.prog 8 25 = some [.sl [.int .i64], .sl [.sl [.int .i64, .int .i64]]] := by kernel_rfl
theorem shape26 : Sx.shapeT Try.prog 8 26 = some [.sl [.sl [.int .i64]]] := by kernel_rfl
theorem below : ∀ t ∈ [25, 26], t < Try.prog.types.size := fun t ht => by
  have h : ([25, 26].all fun t => decide (t < Try.prog.types.size)) = true := by kernel_rfl
  rw [List.all_eq_true] at h
  simpa using h t ht

set_option maxRecDepth 100000 in
theorem lifted (os : Os) (started : os.Started) (H : Type) (enc : TypeId × Value → H) :
    ReturnsInHanded {} Try.checked os 3 .any (Rows.clusterJudgesSpec.pre6 enc Try.prog Try.f3 Rows.clusterJudgesRow.domain false) (Rows.clusterJudgesSpec.post enc Try.prog Try.f3 false true false false) := by
  refine returnsInHanded_of_change (C := Try.checked) own started (by kernel_rfl) Try.func3
    (ChangeSpec.witness6 (enc := enc) (C := Try.checked) false ⟨#[], #[.agg #[(Value.slice none 0 0), (Value.slice none 0 0)], (Value.slice none 0 0)], []⟩ 8 (by kernel_rfl) (by kernel_rfl) (by kernel_rfl) (by kernel_rfl)) ?_
  intro W base args ds gs before hval0 hW hcnd _
  have hval : ∀ (j : Nat) t v, Try.f3.params[j]? = some t → args[j]? = some v → Value.okWide Try.prog W .any base t v := hval0
  have hW2 := hW
  obtain ⟨p, q, hA0, hV, rfl, hfz, hnd⟩ := hW
  have hA : DataW.TrodAll enc Try.prog W 0 (fun _ => true) true Try.f3.params.toList args.toList ds p := hA0
  have hAk := hA
  rw [Try.params3] at hA hval
  obtain ⟨v0, vs0, d0, ds0, p0, q0, hargs, rfl, rfl, h0, r0⟩ := trodAll_cons hA
  obtain ⟨v1, vs1, d1, ds1, p1, q1, rfl, rfl, rfl, h1, r1⟩ := trodAll_cons r0
  obtain ⟨rfl, rfl, rfl⟩ := trodAll_nil r1
  obtain rfl : args = #[v0, v1] := by cases args; simp_all
  obtain ⟨rfl, rfl⟩ := trodVars_none hV
  obtain ⟨x0, f0, g0, _⟩ := open_arg (φ := Sx.phi) shape25 (.inl ⟨_, Try.underlying25⟩) (hval 0 25 v0 rfl rfl) h0
  obtain ⟨x1, f1, g1, _⟩ := open_arg (φ := Sx.phi) shape26 (.inr ⟨rfl, one_of_slice Try.underlying26⟩) (hval 1 26 v1 rfl rfl) h1
  refine (law_calls Sx.seatFits Sx.ext_sound Sx.lawN Sx.lawD (f := 3) (g := 12) (by kernel_rfl) rfl Sx.prgF_12 (args := [x0, x1]) (vs := [v0, v1]) (Sx.law_ClusterJudges f0 f1) rfl (fun i c u hc hu => ?_)).mono fun e W2 hq => ?_
  · rcases i with _ | _ | i
    · simp at hc hu; subst hc; subst hu; exact g0
    · simp at hc hu; subst hc; subst hu; exact g1
    · simp at hc
  · obtain ⟨he, hg, hh⟩ := hq
    subst he
    refine ⟨_, rfl, post_of_same (pv := []) hW2 (fun _ _ _ => (trodAll_cons_mk (shut_bool Try.underlying4 _) trodAll_mk0)) (fun sp hsp => args_again kids full (by rw [Try.params3]; exact below) hAk sp (fun x hx => hsp x (by simpa using hx)) (fun x hx => hW2.lt x (by simpa using hx)) hh) (fun _ _ => rfl) (by simp)
      (hg.frame _) hg.2.1 (ok_one (by kernel_rfl) rfl (okWide_bool_mk Try.underlying4 _))⟩

theorem over : Rows.clusterJudgesRow.holds Try.pinned (OpenSpec.ofChange Rows.clusterJudgesSpec) :=
  OpenClaim.holds_of_wide 3 Try.f3 rfl rfl rfl rfl rfl rfl rfl ⟨rfl, rfl, rfl, rfl, rfl⟩ rfl rfl rfl rfl rfl (by kernel_rfl) Try.func3 (by kernel_rfl)
    (of_decide_eq_true (by kernel_rfl)) (by unfold Func.isWrapper; first | (rw [if_pos (by decide +kernel)]; kernel_rfl) | (rw [if_neg (by decide +kernel)]; exact ⟨rfl, rfl⟩))
    (fun os started H enc _ => lifted os started H enc)

theorem proved : Rows.ClusterJudgesSaid := over
#print axioms proved
end Go.Proofs.Ytbiikcjebnldfaa.clusterJudges
