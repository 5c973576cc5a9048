/-
  Sx: the functions that the evaluator doesn't enter: syntax.Catch, strings.Contains, strings.ContainsRune, strings.IndexByte. Function numbers 63, 216, 215, 217 are the seat's.
-/
import Derived.Test.YtgmppophlalliaaGreatSxL
import Derived.Test.YtgmppophlalliaaGreatSxCode
import Derived.Test.YtgmppophlalliaaGreatSxCatch
import Derived.Test.YtgmppophlalliaaGreatSxShelf
namespace Sx
open Go
set_option linter.unusedVariables false

def x1 : List AV → Hp → Option (AV × Hp)
  | [.v (.string s), .v (.string sub)], H => if s.size < 4294967281 then some (.b (Lib.contains s.data.toList sub.data.toList), H) else none
  | _, _ => none
def x2 : List AV → Hp → Option (AV × Hp)
  | [.v (.string s), .v (.int .i32 r)], H => if 0 ≤ r ∧ r < 128 then some (.b (decide (0 ≤ Lib.indexByte s.data.toList r.toNat.toUInt8)), H) else none
  | _, _ => none
def x3 : List AV → Hp → Option (AV × Hp)
  | [.v (.string s), .v (.int .u8 c)], H => some (.i (Lib.indexByte s.data.toList c.toNat.toUInt8), H)
  | _, _ => none

def extS (g : Nat) : Option (List AV → Hp → Option (AV × Hp)) :=
  if g = 231 then some x1 else if g = 230 then some x2 else if g = 232 then some x3 else none

theorem x1_same {xs : List AV} {H : Hp} {r : AV × Hp} (h : x1 xs H = some r) : r.2 = H := by
  unfold x1 at h
  split at h
  · split at h
    · cases h; rfl
    · cases h
  · cases h
theorem x2_same {xs : List AV} {H : Hp} {r : AV × Hp} (h : x2 xs H = some r) : r.2 = H := by
  unfold x2 at h
  split at h
  · split at h
    · cases h; rfl
    · cases h
  · cases h
theorem x3_same {xs : List AV} {H : Hp} {r : AV × Hp} (h : x3 xs H = some r) : r.2 = H := by
  unfold x3 at h
  split at h
  · cases h; rfl
  · cases h

theorem extS_same {g : Nat} {x : List AV → Hp → Option (AV × Hp)} {xs : List AV} {H : Hp} {r : AV × Hp} (hx : extS g = some x) (h : x xs H = some r) : r.2 = H := by
  unfold extS at hx
  split at hx
  · cases hx; exact x1_same h
  · split at hx
    · cases hx; exact x2_same h
    · split at hx
      · cases hx; exact x3_same h
      · cases hx

theorem phi_row' {f g : Nat} (h : phi f = some g) : ∃ r ∈ tab, r.f = f ∧ r.g = g := by
  unfold phi at h
  rw [Option.map_eq_some_iff] at h
  obtain ⟨r, hr, rfl⟩ := h
  exact ⟨r, List.mem_of_find?_eq_some hr, by simpa using List.find?_some hr, rfl⟩

/-- The seat's number of a function. -/
theorem num_of {f g f' : Nat} (h : phi f = some g) (hu : (tab.all fun r => decide (r.g = g → r.f = f')) = true) : f = f' := by
  obtain ⟨r, hr, rfl, rfl⟩ := phi_row' h
  have := List.all_eq_true.1 hu r hr
  simpa using this

theorem one_vs {a : AV} {vs : List Value} (hl : [a].length = vs.length) : ∃ u, vs = [u] := by
  cases vs with
  | nil => simp at hl
  | cons u l => cases l with
    | nil => exact ⟨u, rfl⟩
    | cons => simp at hl
theorem two_vs {a b : AV} {vs : List Value} (hl : [a, b].length = vs.length) : ∃ u v, vs = [u, v] := by
  cases vs with
  | nil => simp at hl
  | cons u l => cases l with
    | nil => simp at hl
    | cons v l => cases l with
      | nil => exact ⟨u, v, rfl⟩
      | cons => simp at hl

theorem x_sound {f : Nat} {x : List AV → Hp → Option (AV × Hp)} {args : List AV} {H : Hp} {r : AV × Hp} (hsame : r.2 = H) {T : Nat → Prop} {w : World} {ρ : Rho} {vs : List Value} (hr : HR phi T w ρ H.obs) (hlim : H.lim ≤ H.obs.length) {v : Value}
    (hC : Calls Go.Proofs.Tryz.prog f vs.toArray w fun e w' => e = .returned v ∧ w' = w) (hv : r.1 = .v v) :
    Calls Go.Proofs.Tryz.prog f vs.toArray w fun e w' => ∃ T' ρ' v, e = .returned v ∧ Since H.lim T w ρ T' w' ρ' ∧ HR phi T' w' ρ' r.2.obs ∧ r.2.lim = H.lim ∧ H.obs.length ≤ r.2.obs.length ∧ VR phi T' w' ρ' true r.1 v :=
  hC.mono fun e w' h => by
    obtain ⟨rfl, rfl⟩ := h
    refine ⟨T, ρ, v, rfl, Since.refl _ _ _ _, by rw [hsame]; exact hr, by rw [hsame], by rw [hsame]; exact Nat.le_refl _, by rw [hv]; exact .v⟩

theorem extS_sound : ExtSound Go.Proofs.Tryz.prog phi ⟨prgF, extS⟩ := by
  intro f g hfg args H r h T w ρ vs hl hv hr hlim
  simp only [extS] at h
  split at h
  · rename_i x hx
    split at hx
    · rename_i hg
      subst hg; cases hx
      have hs := x1_same h
      obtain rfl : f = 216 := num_of hfg (by kernel_rfl)
      unfold x1 at h
      split at h
      · rename_i s sub
        split at h
        · rename_i hsz
          cases h
          obtain ⟨u, v, rfl⟩ := two_vs hl
          obtain rfl : u = .string s := (hv 0 _ u rfl rfl).ofV
          obtain rfl : v = .string sub := (hv 1 _ v rfl rfl).ofV
          obtain ⟨m, _, hm⟩ := hr.gl rfl
          exact x_sound (x := x1) (args := []) (r := (.b (Lib.contains s.data.toList sub.data.toList), H)) rfl hr hlim (Go.Proofs.Tryz.strings_Contains s sub m w hsz hm) rfl
        · cases h
      · cases h
    · split at hx
      · rename_i hg
        subst hg; cases hx
        obtain rfl : f = 215 := num_of hfg (by kernel_rfl)
        unfold x2 at h
        split at h
        · rename_i s q
          split at h
          · rename_i hq
            cases h
            obtain ⟨u, v, rfl⟩ := two_vs hl
            obtain rfl : u = .string s := (hv 0 _ u rfl rfl).ofV
            obtain rfl : v = .int .i32 q := (hv 1 _ v rfl rfl).ofV
            exact x_sound (x := x2) (args := []) (r := (.b (decide (0 ≤ Lib.indexByte s.data.toList q.toNat.toUInt8)), H)) rfl hr hlim (Go.Proofs.Tryz.strings_ContainsRune_ascii s q w hq.1 hq.2) rfl
          · cases h
        · cases h
      · split at hx
        · rename_i hg
          subst hg; cases hx
          obtain rfl : f = 217 := num_of hfg (by kernel_rfl)
          unfold x3 at h
          split at h
          · rename_i s c
            cases h
            obtain ⟨u, v, rfl⟩ := two_vs hl
            obtain rfl : u = .string s := (hv 0 _ u rfl rfl).ofV
            obtain rfl : v = .int .u8 c := (hv 1 _ v rfl rfl).ofV
            exact x_sound (x := x3) (args := []) (r := (.i (Lib.indexByte s.data.toList c.toNat.toUInt8), H)) rfl hr hlim (Go.Proofs.Tryz.strings_IndexByte s c w) rfl
          · cases h
        · cases hx
  · cases h

/-! ### The program without Catch -/

def prgS : Prg := ⟨prgF, extS⟩

theorem prgF_mem' {g : Nat} {mf : MF} (h : prgF g = some mf) : (g, mf) ∈ fnsL := by
  unfold prgF at h
  rw [Option.map_eq_some_iff] at h
  obtain ⟨p, hp, rfl⟩ := h
  have h1 := List.find?_some hp
  have h2 := List.mem_of_find?_eq_some hp
  simp only [decide_eq_true_eq] at h1
  subst h1
  exact h2

theorem pure_ok' : (fnsL.all fun p => !pu p.1 || p.2.pure) = true := by kernel_rfl

theorem seatLink : Linked Go.Proofs.Tryz.prog phi := fun f g h => by
  obtain ⟨r, hr, rfl, rfl⟩ := phi_row' h
  obtain ⟨fn, h1, h2, _⟩ := allOk.at r hr
  exact ⟨fn, h1, h2⟩

theorem fitsS : Fits Go.Proofs.Tryz.prog phi prgS pu where
  link := seatLink
  mix := by kernel_rfl
  fns f g mf h hx hm := by
    obtain ⟨r, hr, rfl, rfl⟩ := phi_row' h
    obtain ⟨fn, h1, _, h3⟩ := allOk.at r hr
    refine ⟨fn, r.a, h1, ?_⟩
    have hm' : prgF r.g = some mf := hm
    rcases h3 with h3 | h3
    · rw [hm'] at h3; cases h3
    · rw [h3, hm']
  puF g mf hp hx hm := by
    have h1 := List.all_eq_true.1 pure_ok' (g, mf) (prgF_mem' hm)
    simp only [hp, Bool.not_true, Bool.false_or] at h1
    exact h1
  limX g x xs H r hx h := by have := extS_same hx h; rw [HpLe, this]; exact ⟨rfl, Nat.le_refl _⟩
  puX g x xs H r hp hx h := extS_same hx h

theorem soundS (N d : Nat) : Sound Go.Proofs.Tryz.prog phi (evF prgS N d) := evF_sound fitsS extS_sound N d

/-! ### With Catch -/

def catchN : Nat := 9223372036854775808
def catchD : Nat := 60
noncomputable def extF (g : Nat) : Option (List AV → Hp → Option (AV × Hp)) := if g = 165 then some (catchX (evF prgS catchN catchD)) else extS g

theorem ext_lim (g : Nat) (x : List AV → Hp → Option (AV × Hp)) (xs : List AV) (H : Hp) (r : AV × Hp) (hx : extF g = some x) (h : x xs H = some r) : HpLe H r.2 := by
  unfold extF at hx
  split at hx
  · cases hx
    unfold catchX at h
    split at h
    · rw [Option.map_eq_some_iff] at h
      obtain ⟨q, hq, rfl⟩ := h
      have := evF_lim fitsS catchN catchD _ _ _ _ hq
      exact this
    · cases h
  · have := extS_same hx h; rw [HpLe, this]; exact ⟨rfl, Nat.le_refl _⟩

theorem ext_pure (g : Nat) (x : List AV → Hp → Option (AV × Hp)) (xs : List AV) (H : Hp) (r : AV × Hp) (hp : pu g = true) (hx : extF g = some x) (h : x xs H = some r) : r.2 = H := by
  unfold extF at hx
  split at hx
  · rename_i hg
    subst hg
    exact absurd hp (by decide)
  · exact extS_same hx h

theorem ext_sound : ExtSound Go.Proofs.Tryz.prog phi ⟨prgF, extF⟩ := by
  intro f g hfg args H r h T w ρ vs hl hv hr hlim
  by_cases hg : g = 165
  · subst hg
    have h' : catchX (evF prgS catchN catchD) args H = some r := h
    obtain rfl : f = 63 := num_of hfg (by kernel_rfl)
    exact catch_ok seatLink (soundS _ _) h' hl hv hr hlim
  · refine extS_sound f g hfg args H r ?_ T w ρ vs hl hv hr hlim
    have e : extF g = extS g := by unfold extF; rw [if_neg hg]
    have h' : (match extF g with | some x => x args H | none => none) = some r := h
    rw [e] at h'
    exact h'
end Sx
