/-
  MatchingText: whatever the arguments, the law returns true.
-/
import Derived.Test.YtgmppophlalliaaGreatSxK
import Derived.Test.YtgmppophlalliaaGreatSxRow
import Derived.Test.YtgmppophlalliaaGreatSxLawMatchingText
import Derived.Test.YtgmppophlalliaaGreatSxShelf
import Derived.HandedShaped
import Derived.Test.YtgmppophlalliaaGreatRows
import Derived.WalkKit
import Derived.ProofKit
import Derived.OpenShut
namespace Go.Proofs.YtgmppophlalliaaGreat.matchingText
open Go.ChangeShapes Go.WideShapes Go.ChangeAt Go.RowKit
open Sx (open_arg one_of_slice one_of_int one_of_bool law_calls args_again post_kept)
set_option linter.unusedVariables false

theorem own : ownKnob Tryz.prog.godebug = none := by kernel_rfl
theorem kids : Kids Tryz.prog (· < Tryz.prog.types.size) := kids_rows (by kernel_rfl) (by kernel_rfl)
theorem full : ∀ t e, t < Tryz.prog.types.size → Tryz.prog.underlying t = some (.slice e) → 0 < Tryz.prog.cellsOf e := slices_full_of Tryz.prog (by kernel_rfl)
theorem shape3 : Sx.shapeT Tryz.prog 8 3 = some [.int .i64] := by kernel_rfl
theorem below : ∀ t ∈ [3], t < Tryz.prog.types.size := fun t ht => by
  have h : ([3].all fun t => decide (t < Tryz.prog.types.size)) = true := by kernel_rfl
  rw [List.all_eq_true] at h
  simpa using h t ht

theorem glob_of {W : World} (h : W.ShapedOpen Tryz.prog) : Sx.GL (fun b => b < W.heap.size) W := fun _ => by
  obtain ⟨m, hm0⟩ := Tryz.laysM144.s1_3 W h
  have hm : W.cell? ⟨0, 0, none⟩ = some (.int .i64 m) := hm0
  clear hm0
  refine ⟨m, ?_, hm⟩
  rcases Nat.lt_or_ge 0 W.heap.size with q | q
  · exact q
  · have : W.heap[0]? = none := Array.getElem?_eq_none q
    simp [World.cell?, this] at hm

set_option maxRecDepth 100000 in
theorem lifted (os : Os) (started : os.Started) (H : Type) (enc : TypeId × Value → H) :
    ReturnsInHanded {} Tryz.checked os 9 .any (Rows.matchingTextSpec.pre6 enc Tryz.prog Tryz.f9 Rows.matchingTextRow.domain false) (Rows.matchingTextSpec.post enc Tryz.prog Tryz.f9 false true false false) := by
  refine returnsInHanded_of_change_shaped (C := Tryz.checked) own started (by kernel_rfl) Tryz.func9
    (ChangeSpec.witness6 (enc := enc) (C := Tryz.checked) false ⟨#[], #[(Value.int .i64 0)], []⟩ 8 (by kernel_rfl) (by kernel_rfl) (by kernel_rfl) (by kernel_rfl)) ?_
  intro W base args ds gs before hval0 hW hcnd _ hsh _
  have hval : ∀ (j : Nat) t v, Tryz.f9.params[j]? = some t → args[j]? = some v → Value.okWide Tryz.prog W .any base t v := hval0
  have hW2 := hW
  obtain ⟨p, q, hA0, hV, rfl, hfz, hnd⟩ := hW
  have hA : DataW.TrodAll enc Tryz.prog W 0 (fun _ => true) true Tryz.f9.params.toList args.toList ds p := hA0
  have hAk := hA
  rw [Tryz.params9] at hA hval
  obtain ⟨v0, vs0, d0, ds0, p0, q0, hargs, rfl, rfl, h0, r0⟩ := trodAll_cons hA
  obtain ⟨rfl, rfl, rfl⟩ := trodAll_nil r0
  obtain rfl : args = #[v0] := by cases args; simp_all
  obtain ⟨rfl, rfl⟩ := trodVars_none hV
  obtain ⟨x0, f0, g0, _⟩ := open_arg (φ := Sx.phi) shape3 (.inr ⟨rfl, one_of_int Tryz.underlying3⟩) (hval 0 3 v0 rfl rfl) h0
  refine (law_calls Sx.seatFits Sx.ext_sound Sx.lawN Sx.lawD (f := 9) (g := 135) (by kernel_rfl) rfl Sx.prgF_135 (args := [x0]) (vs := [v0]) (Sx.law_MatchingText f0) rfl (fun i c u hc hu => ?_) (glob_of hsh)).mono fun e W2 hq => ?_
  · rcases i with _ | i
    · simp at hc hu; subst hc; subst hu; exact g0
    · simp at hc
  · obtain ⟨he, hk⟩ := hq
    subst he
    exact ⟨_, rfl, post_kept (pv := []) hW2 (fun _ _ _ => (trodAll_cons_mk (shut_bool Tryz.underlying4 _) trodAll_mk0)) (fun sp hsp => args_again kids full (by rw [Tryz.params9]; exact below) hAk sp (fun x hx => hsp x (by simpa using hx)) (fun x hx => hW2.lt x (by simpa using hx)) hk.2) (fun _ _ => rfl) (by simp) hk
      (ok_one (by kernel_rfl) rfl (okWide_bool_mk Tryz.underlying4 _))⟩

theorem over : Rows.matchingTextRow.holds Tryz.pinned (OpenSpec.ofChange Rows.matchingTextSpec) :=
  OpenClaim.holds_of_wide 9 Tryz.f9 rfl rfl rfl rfl rfl rfl rfl ⟨rfl, rfl, rfl, rfl, rfl⟩ rfl rfl rfl rfl rfl (by kernel_rfl) Tryz.func9 (by kernel_rfl)
    (of_decide_eq_true (by kernel_rfl)) (by unfold Func.isWrapper; first | (rw [if_pos (by decide +kernel)]; kernel_rfl) | (rw [if_neg (by decide +kernel)]; exact ⟨rfl, rfl⟩))
    (fun os started H enc _ => lifted os started H enc)

theorem proved : Rows.MatchingTextSaid := over
#print axioms proved
end Go.Proofs.YtgmppophlalliaaGreat.matchingText
