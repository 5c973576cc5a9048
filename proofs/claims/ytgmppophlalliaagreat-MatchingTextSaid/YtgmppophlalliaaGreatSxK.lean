/-
  Sx: what the evaluator answers of the seat's functions, the program's functions answer.
-/
import Derived.Test.YtgmppophlalliaaGreatSxL
import Derived.Test.YtgmppophlalliaaGreatSxCode
import Derived.Test.YtgmppophlalliaaGreatSxX
namespace Sx
open Go

noncomputable def prg : Prg := ⟨prgF, extF⟩

theorem phi_row {f g : Nat} (h : phi f = some g) : ∃ r ∈ tab, r.f = f ∧ r.g = g := by
  unfold phi at h
  rw [Option.map_eq_some_iff] at h
  obtain ⟨r, hr, rfl⟩ := h
  exact ⟨r, List.mem_of_find?_eq_some hr, by simpa using List.find?_some hr, rfl⟩

theorem prgF_mem {g : Nat} {mf : MF} (h : prgF g = some mf) : (g, mf) ∈ fnsL := by
  unfold prgF at h
  rw [Option.map_eq_some_iff] at h
  obtain ⟨p, hp, rfl⟩ := h
  have h1 := List.find?_some hp
  have h2 := List.mem_of_find?_eq_some hp
  simp only [decide_eq_true_eq] at h1
  subst h1
  exact h2

theorem pure_ok : (fnsL.all fun p => !pu p.1 || p.2.pure) = true := by kernel_rfl

theorem seatFits : Fits Go.Proofs.Tryz.prog phi prg pu where
  link f g h := by
    obtain ⟨r, hr, rfl, rfl⟩ := phi_row h
    obtain ⟨fn, h1, h2, _⟩ := allOk.at r hr
    exact ⟨fn, h1, h2⟩
  mix := by kernel_rfl
  fns f g mf h hx hm := by
    obtain ⟨r, hr, rfl, rfl⟩ := phi_row h
    obtain ⟨fn, h1, _, h3⟩ := allOk.at r hr
    refine ⟨fn, r.a, h1, ?_⟩
    have hm' : prgF r.g = some mf := hm
    rcases h3 with h3 | h3
    · rw [hm'] at h3; cases h3
    · rw [h3, hm']
  puF g mf hp hx hm := by
    have h1 := List.all_eq_true.1 pure_ok (g, mf) (prgF_mem hm)
    simp only [hp, Bool.not_true, Bool.false_or] at h1
    exact h1
  limX := ext_lim
  puX g x xs H r hp hx h := ext_pure g x xs H r hp hx h

theorem sound (N d : Nat) : Sound Go.Proofs.Tryz.prog phi (evF prg N d) := evF_sound seatFits ext_sound N d
end Sx
