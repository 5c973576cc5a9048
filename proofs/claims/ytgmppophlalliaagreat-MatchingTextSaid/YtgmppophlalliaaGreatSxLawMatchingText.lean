/-
  MatchingText: whatever the place, the evaluator answers true.
-/
import Derived.Test.YtgmppophlalliaaGreatSxQcMatching
import Derived.Test.YtgmppophlalliaaGreatSxArg
import Derived.Test.YtgmppophlalliaaGreatSxRow
namespace Sx
open Go

def lawD : Nat := 210
abbrev lawN : Nat := catchN
theorem law_MatchingText {x0 : AV} (f0 : ArgFit Go.Proofs.Tryz.prog 3 x0) : evP lawN (evF prg lawN lawD) m_selfstablaw30_MatchingText [x0] = some (.b true) := by
  have hs : shapeT Go.Proofs.Tryz.prog 8 3 = some [.int .i64] := by kernel_rfl
  obtain ⟨shs, avs, h1, h2, h3, h4⟩ := f0
  rw [hs] at h1
  cases h1
  obtain ⟨a, rfl⟩ : ∃ a, avs = [a] := by
    cases avs with
    | nil => simp at h2
    | cons a l => cases l with
      | nil => exact ⟨a, rfl⟩
      | cons => simp at h2
  have h5 := h3 0 _ a rfl rfl
  rcases h4 with ⟨⟨fs, h6⟩, _⟩ | h6
  · rw [Go.Proofs.Tryz.underlying3] at h6; cases h6
  · obtain rfl : a = x0 := (List.cons.inj h6).1
    cases h5
    exact Q.law_Matching _
end Sx
