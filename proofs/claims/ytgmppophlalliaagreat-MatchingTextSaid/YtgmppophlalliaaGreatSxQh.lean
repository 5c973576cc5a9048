/-
  Q: values with types: what K's functions answer, run by the kernel.
-/
import Derived.Test.YtgmppophlalliaaGreatSxQg
import Derived.Test.YtgmppophlalliaaGreatSxKg
namespace Sx.Q
open Go
set_option linter.unusedVariables false

/-- A typed value out of a list of cells, and the cells behind it. -/
def tyS : (c : CK) → V → Option (c.ty × V)
  | .int k, .cons (.i c x) r => if kd c = k then some ((Int.ofNat x : Int), r) else none
  | .int k, .cons (.m c x) r => if kd c = k then some ((Int.negSucc x : Int), r) else none
  | .bool, .cons (.b t) r => some (t, r)
  | .str, .cons (.s n x) r => some (decS n x, r)
  | .arr e, .cons .zs r => some (⟨0, fun _ => e.dflt⟩, r)
  | .arr e, .cons (.ro sz off n bd t) r =>
    if sz = e.nc ∧ off + n ≤ bd ∧ ((List.range n).all fun i => match tyS e (tget t (off + i)) with | some (_, .nil) => true | _ => false) = true then
      some (⟨n, fun i => match tyS e (tget t (off + i)) with | some (x, _) => x | none => e.dflt⟩, r)
    else none
  | .pair a b, l => match tyS a l with
    | some (x, l1) => (match tyS b l1 with
      | some (y, l2) => some ((x, y), l2)
      | none => none)
    | none => none
  | _, _ => none

theorem fl_cons {k : Sx.KV} {a : AV} {ks : List Sx.KV} {as : List AV} (h : FV k a) (hs : FL ks as) : FL (k :: ks) (a :: as) := by
  refine ⟨by simp [hs.1], fun i u x hu hx => ?_⟩
  cases i with
  | zero => simp at hu hx; subst hu; subst hx; exact h
  | succ i => simp at hu hx; exact hs.2 i u x hu hx
theorem fl_nil : FL [] [] := ⟨rfl, fun i u x hu => by simp at hu⟩
theorem fl_app {k1 k2 : List Sx.KV} {a1 a2 : List AV} (h1 : FL k1 a1) (h2 : FL k2 a2) : FL (k1 ++ k2) (a1 ++ a2) := by
  refine ⟨by simp [h1.1, h2.1], fun i u x hu hx => ?_⟩
  have hl := h1.1
  by_cases hi : i < k1.length
  · rw [List.getElem?_append_left hi] at hu
    rw [List.getElem?_append_left (by omega)] at hx
    exact h1.2 i u x hu hx
  · rw [List.getElem?_append_right (by omega)] at hu
    rw [List.getElem?_append_right (by omega)] at hx
    rw [hl] at hu
    exact h2.2 _ u x hu hx

theorem tyS_ok : ∀ (c : CK) (l : V) (x : c.ty) (l' : V), tyS c l = some (x, l') → ∃ as, decL l = as ++ decL l' ∧ FL (ofTy c x) as
  | .int k, l, x, l', h => by
    cases l with
    | cons a r =>
      cases a with
      | i c y =>
        simp only [tyS] at h
        split at h
        · rename_i hk
          cases h
          exact ⟨[_], rfl, by subst hk; exact fl_cons .i fl_nil⟩
        · cases h
      | m c y =>
        simp only [tyS] at h
        split at h
        · rename_i hk
          cases h
          exact ⟨[_], rfl, by subst hk; exact fl_cons .i fl_nil⟩
        · cases h
      | _ => simp [tyS] at h
    | _ => simp [tyS] at h
  | .bool, l, x, l', h => by
    cases l with
    | cons a r =>
      cases a with
      | b t => simp only [tyS] at h; cases h; exact ⟨[_], rfl, fl_cons .b fl_nil⟩
      | _ => simp [tyS] at h
    | _ => simp [tyS] at h
  | .str, l, x, l', h => by
    cases l with
    | cons a r =>
      cases a with
      | s n y => simp only [tyS] at h; cases h; exact ⟨[_], rfl, fl_cons .s fl_nil⟩
      | _ => simp [tyS] at h
    | _ => simp [tyS] at h
  | .arr e, l, x, l', h => by
    cases l with
    | cons a r =>
      cases a with
      | zs => simp only [tyS] at h; cases h; exact ⟨[_], rfl, fl_cons (.ro0 rfl) fl_nil⟩
      | ro sz off n bd t =>
        simp only [tyS] at h
        split at h
        · rename_i hk
          obtain ⟨rfl, h2, h3⟩ := hk
          cases h
          refine ⟨[_], rfl, fl_cons ?_ fl_nil⟩
          have key : ∀ i, i < n → FL (ofTy e (match tyS e (tget t (off + i)) with | some (x, _) => x | none => e.dflt)) (if off + i < bd then decT t (off + i) else []) := by
            intro i hi
            have h4 := List.all_eq_true.1 h3 i (List.mem_range.2 hi)
            rw [if_pos (by omega), decT_eq]
            cases h5 : tyS e (tget t (off + i)) with
            | none => rw [h5] at h4; cases h4
            | some p =>
              obtain ⟨y, l2⟩ := p
              rw [h5] at h4
              have h6 : l2 = .nil := by
                cases l2 <;> first | rfl | (simp at h4)
              subst h6
              obtain ⟨as, h7, h8⟩ := tyS_ok e _ y .nil h5
              rw [h7]
              simpa [decL] using h8
          simp only [dec]
          exact .ro (fun i hi => (key i hi).1) (fun i hi => (key i hi).2)
        · cases h
      | _ => simp [tyS] at h
    | _ => simp [tyS] at h
  | .pair a b, l, x, l', h => by
    simp only [tyS] at h
    split at h
    · rename_i y l1 h1
      split at h
      · rename_i z l2 h2
        cases h
        obtain ⟨as, e1, f1⟩ := tyS_ok a _ _ _ h1
        obtain ⟨bs, e2, f2⟩ := tyS_ok b _ _ _ h2
        exact ⟨as ++ bs, by rw [e1, e2, List.append_assoc], fl_app f1 f2⟩
      · cases h
    · cases h

/-- A typed argument. -/
def tyA : (s : SS) → V → Option s.ty
  | .cell c, v => match tyS c (.cons v .nil) with
    | some (x, .nil) => some x
    | _ => none
  | .agg c, .agg l => match tyS c l with
    | some (x, .nil) => some x
    | _ => none
  | _, _ => none
def plainS : SS → Bool
  | .cell _ | .agg _ => true
  | _ => false

theorem tyA_ok : ∀ (s : SS) (v : V) (x : s.ty), plainS s = true → tyA s v = some x → FV (s.enc x) (dec v)
  | .cell c, v, x, _, h => by
    simp only [tyA] at h
    split at h
    · rename_i y h1
      cases h
      obtain ⟨as, e1, f1⟩ := tyS_ok c _ _ _ h1
      simp only [decL, List.append_nil] at e1
      subst e1
      have hl : (ofTy c x).length = 1 := f1.1
      obtain ⟨k, hk⟩ : ∃ k, ofTy c x = [k] := by
        cases hq : ofTy c x with
        | nil => rw [hq] at hl; cases hl
        | cons k r => cases r with
          | nil => exact ⟨k, rfl⟩
          | cons _ _ => rw [hq] at hl; simp at hl
      show FV (Sx.one1 (ofTy c x)) (dec v)
      rw [hk] at f1 ⊢
      exact f1.2 0 k _ rfl rfl
    · cases h
  | .agg c, v, x, _, h => by
    cases v with
    | agg l =>
      simp only [tyA] at h
      split at h
      · rename_i y h1
        cases h
        obtain ⟨as, e1, f1⟩ := tyS_ok c _ _ _ h1
        simp only [decL, List.append_nil] at e1
        subst e1
        exact .agg f1.1 f1.2
      · cases h
    | _ => simp [tyA] at h
  | .tup _, v, x, hs, h => by cases hs
  | .rp _, v, x, hs, h => by cases hs
  | .fn _ _, v, x, hs, h => by cases hs
  | .own _, v, x, hs, h => by cases hs
  | .mp _, v, x, hs, h => by cases hs
  | .un _, v, x, hs, h => by cases hs
  | .unit, v, x, hs, h => by cases hs

/-- Typed arguments. -/
def tyArgs : (l : List SS) → V → Option (argTy l)
  | [], .nil => some ()
  | s :: r, .cons a b => match tyA s a with
    | some x => (match tyArgs r b with
      | some y => some (x, y)
      | none => none)
    | none => none
  | _, _ => none

theorem tyArgs_ok : ∀ (l : List SS) (v : V) (x : argTy l), l.all plainS = true → tyArgs l v = some x → FL (argEnc l x) (decL v)
  | [], v, x, _, h => by
    cases v <;> first | (simp only [tyArgs] at h; cases h; done) | exact fl_nil
  | s :: r, v, x, hs, h => by
    simp only [List.all_cons, Bool.and_eq_true] at hs
    cases v with
    | cons a b =>
      simp only [tyArgs] at h
      split at h
      · rename_i y h1
        split at h
        · rename_i z h2
          cases h
          exact fl_cons (tyA_ok s a y hs.1 h1) (tyArgs_ok r b z hs.2 h2)
        · cases h
      · cases h
    | _ => simp [tyArgs] at h

section
variable {ρ : Type} {r : ρ}

/-- A pure function of K's that answers a bool. -/
noncomputable def x_bool (a : List SS) (f : argTy a → Option Bool) : V → Nat → V → KV ρ → Option ρ := fun args n t k =>
  mapL (stl n t 8) args fun as => Option.rec (motive := fun _ => Option ρ) none (fun x => Option.rec (motive := fun _ => Option ρ) none (fun b => fB b fun b => k (.b b) n t) (f x)) (tyArgs a as)

theorem x_bool_ok {M : Prg} {N D g : Nat} {fns : List Nat} {a : List SS} {f : argTy a → Option Bool} (hE : EntOK M N D ⟨g, fns, a, .cell .bool, f, false⟩) (ha : a.all plainS = true) :
    ∀ d l n t k (r : ρ), x_bool a f l n t k = some r → ∃ v n' t', k v n' t' = some r ∧ evF M N (d + (D + 1)) g (decL l) (decH n t) = some (dec v, decH n' t') := by
  intro d l n t k r h
  obtain ⟨as, h1, h2⟩ := mapL_ok (stl_ok 8) h
  cases hx : tyArgs a as with
  | none => rw [hx] at h1; cases h1
  | some x =>
    rw [hx] at h1
    cases hy : f x with
    | none => simp only [hy] at h1; cases h1
    | some b =>
      simp only [hy] at h1
      have h3 := fB_ok (k := fun b => k (.b b) n t) h1
      refine ⟨_, n, t, h3, ?_⟩
      obtain ⟨he, mf, hm, hp, hf⟩ := hE
      obtain ⟨w, hw, hev⟩ := (hf (d + D) (by omega) x b hy _ (tyArgs_ok a as x ha hx)).1 rfl
      have hw' : w = .v (.bool b) := by
        have : FV (.b b) w := hw
        cases this; rfl
      subst hw'
      have he' : M.ext g = none := he
      have hm' : M.fns g = some mf := hm
      have hp' : mf.pure = true := hp
      rw [← Nat.add_assoc]
      simp only [evF, he', hm', hp', if_true]
      exact pure_call h2 hev rfl
end
end Sx.Q
