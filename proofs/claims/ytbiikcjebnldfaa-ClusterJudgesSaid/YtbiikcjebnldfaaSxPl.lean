/-
  Plain laws: what loops come to.
-/
import Derived.Test.YtbiikcjebnldfaaSxKa
import Derived.Test.YtbiikcjebnldfaaSxSimp
namespace Sx
open Go

/-- The first number below n that is so. -/
def fnd (p : Nat → Bool) (n : Nat) : Option Nat := (List.range n).find? p

theorem fnd_none {p : Nat → Bool} {n : Nat} : fnd p n = none ↔ ∀ j, j < n → p j = false := by
  simp [fnd, List.find?_eq_none]

theorem fnd_some {p : Nat → Bool} {n j : Nat} (h : fnd p n = some j) : j < n ∧ p j = true ∧ ∀ i, i < j → p i = false := by
  unfold fnd at h
  rw [List.find?_range_eq_some] at h
  obtain ⟨h1, h2, h3⟩ := h
  exact ⟨by simpa using h2, h1, fun i hi => by simpa using h3 i hi⟩

theorem fnd_isSome {p : Nat → Bool} {n : Nat} : (fnd p n).isSome = true ↔ ∃ j, j < n ∧ p j = true := by
  cases h : fnd p n with
  | none =>
    rw [fnd_none] at h
    simp only [Option.isSome_none, Bool.false_eq_true, false_iff, not_exists, not_and]
    exact fun j hj => by simp [h j hj]
  | some j => exact ⟨fun _ => ⟨j, (fnd_some h).1, (fnd_some h).2.1⟩, fun _ => rfl⟩

@[simp] theorem sel_true {R : Type} (x y : Option R) : sel true x y = x := rfl
@[simp] theorem sel_false {R : Type} (x y : Option R) : sel false x y = y := rfl
@[simp] theorem chk_true {R : Type} (x : Option R) : chk true x = x := rfl
@[simp] theorem kO?_some' {α R : Type} (x : α) (k : α → Option R) : kO? (some x) k = k x := rfl
theorem sel_decide {R : Type} (p : Prop) [Decidable p] (x y : Option R) : sel (decide p) x y = if p then x else y := by by_cases h : p <;> simp [h]
theorem sel_if {R : Type} (b : Bool) (x y : Option R) : sel b x y = if b = true then x else y := by cases b <;> rfl
@[simp] theorem sel_same {R : Type} (b : Bool) (x : Option R) : sel b x x = x := by cases b <;> rfl

@[simp] theorem inr_nat (i n : Nat) : inr (i : Int) n = decide (i < n) := by simp [inr]
theorem inr_lt {i n : Nat} (h : i < n) : inr (i : Int) n = true := by simp [h]
theorem inr_of {i : Int} {n : Nat} (h0 : 0 ≤ i) (h1 : i < n) : inr i n = true := by simp [inr, h0, h1]
theorem inr_0 {n : Nat} (h : 0 < n) : inr 0 n = true := by simp [inr, h]
theorem inr_1 {n : Nat} (h : 1 < n) : inr 1 n = true := by simp [inr]; omega

theorem wi {n : Int} (h0 : -9223372036854775808 ≤ n) (h1 : n ≤ 9223372036854775807) : IntKind.i64.wrap n = n := w64 h0 h1

/-- The next of a row of numbers. -/
theorem wsucc {j : Nat} (h : j < 9223372036854775807) : IntKind.i64.wrap ((j : Int) + 1) = ((j + 1 : Nat) : Int) := by
  rw [wi (by omega) (by omega)]; omega

/-- A loop over the numbers below n, that ends early where p says so. -/
theorem loop_run {σ R : Type} (F : Nat → σ → Option R) (S : Nat → σ) (n : Nat) (p : Nat → Bool) (X : Nat → Option R) (Y : Option R)
    (hs : ∀ m j, j < n → (∀ i, i < j → p i = false) → F (m + 1) (S j) = sel (p j) (X j) (F m (S (j + 1)))) (he : (∀ i, i < n → p i = false) → ∀ m, F (m + 1) (S n) = Y) (N : Nat) (hN : n < N) :
    F N (S 0) = (match fnd p n with | some j => X j | none => Y) := by
  have key : ∀ (r j m : Nat), j + r = n → r < m → (∀ i, i < j → p i = false) → F m (S j) = (match fnd p n with | some j => X j | none => Y) := by
    intro r
    induction r with
    | zero =>
      intro j m hj hm hp
      obtain ⟨m, rfl⟩ : ∃ m', m = m' + 1 := ⟨m - 1, by omega⟩
      have : j = n := by omega
      subst this
      rw [he hp, fnd_none.2 hp]
    | succ r ih =>
      intro j m hj hm hp
      obtain ⟨m, rfl⟩ : ∃ m', m = m' + 1 := ⟨m - 1, by omega⟩
      rw [hs m j (by omega) hp]
      cases hpj : p j with
      | true =>
        have : fnd p n = some j := by
          unfold fnd
          rw [List.find?_range_eq_some]
          exact ⟨hpj, by simp; omega, fun i hi => by simp [hp i hi]⟩
        rw [this]; rfl
      | false =>
        rw [sel_false]
        exact ih (j + 1) m (by omega) (by omega) fun i hi => by
          rcases Nat.lt_succ_iff_lt_or_eq.1 hi with h | rfl
          · exact hp i h
          · exact hpj
  exact key n 0 N (by omega) hN (fun i hi => by omega)

/-- A loop that never ends early. -/
theorem loop_fold {σ R : Type} (F : Nat → σ → Option R) (S : Nat → σ) (n : Nat) (Y : Option R)
    (hs : ∀ m j, j < n → F (m + 1) (S j) = F m (S (j + 1))) (he : ∀ m, F (m + 1) (S n) = Y) (N : Nat) (hN : n < N) : F N (S 0) = Y := by
  have := loop_run F S n (fun _ => false) (fun _ => none) Y (fun m j hj _ => by rw [sel_false]; exact hs m j hj) (fun _ m => he m) N hN
  rw [this, fnd_none.2 (fun _ _ => rfl)]

/-- A loop that ends early always the same way. -/
theorem loop_check {σ R : Type} (F : Nat → σ → Option R) (S : Nat → σ) (n : Nat) (p : Nat → Bool) (X Y : Option R)
    (hs : ∀ m j, j < n → (∀ i, i < j → p i = false) → F (m + 1) (S j) = sel (p j) X (F m (S (j + 1)))) (he : (∀ i, i < n → p i = false) → ∀ m, F (m + 1) (S n) = Y) (N : Nat) (hN : n < N) :
    F N (S 0) = sel (fnd p n).isSome X Y := by
  rw [loop_run F S n p (fun _ => X) Y hs he N hN]
  cases fnd p n <;> rfl
end Sx
