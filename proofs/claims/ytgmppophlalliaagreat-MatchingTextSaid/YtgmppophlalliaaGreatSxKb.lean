/-
  K: what its values and states stand for.
-/
import Derived.Test.YtgmppophlalliaaGreatSxKa
import Derived.Test.YtgmppophlalliaaGreatSxSimp
namespace Sx
open Go
set_option linter.unusedSimpArgs false
set_option linter.unusedVariables false

inductive FV : KV → AV → Prop
  | i {k : IntKind} {n : Int} : FV (.i k n) (.v (.int k n))
  | b {x : Bool} : FV (.b x) (.v (.bool x))
  | s {x : ByteArray} : FV (.s x) (.v (.string x))
  | nil : FV .nil (.v (.slice none 0 0))
  | agg {cs : List KV} {as : List AV} : cs.length = as.length → (∀ (i : Nat) (u : KV) (a : AV), cs[i]? = some u → as[i]? = some a → FV u a) → FV (.agg cs) (.agg as)
  | tup {cs : List KV} {as : List AV} : cs.length = as.length → (∀ (i : Nat) (u : KV) (a : AV), cs[i]? = some u → as[i]? = some a → FV u a) → FV (.tup cs) (.tup as)
  | rp {cs : List KV} {as : List AV} : cs.length = as.length → (∀ (i : Nat) (u : KV) (a : AV), cs[i]? = some u → as[i]? = some a → FV u a) → FV (.rp cs) (.rp as)
  | fn {g : Nat} {cs : List KV} {as : List AV} : cs.length = as.length → (∀ (i : Nat) (u : KV) (a : AV), cs[i]? = some u → as[i]? = some a → FV u a) → FV (.fn g cs) (.fn g as)
  | ro {c : CK} {x : Arr c.ty} {f : Nat → List AV} : (∀ i, i < x.n → (ofTy c (x.f i)).length = (f i).length) → (∀ i, i < x.n → ∀ (j : Nat) (u : KV) (a : AV), (ofTy c (x.f i))[j]? = some u → (f i)[j]? = some a → FV u a) → FV (.ro c x) (.ro c.nc x.n f)
  | ro0 {c : CK} {x : Arr c.ty} : x.n = 0 → FV (.ro c x) (.v (.slice none 0 0))

def FL (cs : List KV) (as : List AV) : Prop := cs.length = as.length ∧ ∀ (i : Nat) (u : KV) (a : AV), cs[i]? = some u → as[i]? = some a → FV u a

abbrev Rh := Nat → Option (Option Nat)

inductive RV (ρ : Rh) (H : List AO) : KV → AV → Prop
  | free {v : KV} {a : AV} : FV v a → RV ρ H v a
  | U {a : AV} : RV ρ H .U a
  | unit {t : Array Value} : RV ρ H .unit (.v (.tuple t))
  | un {z : List AV} : RV ρ H (.un z.length) (.un z)
  | own {h j ver sz : Nat} {els : List (List AV)} : ρ h = some (some j) → H[j]? = some (.sl ver sz els) → RV ρ H (.own h) (.sl j ver 0 els.length)
  | own0 {h : Nat} : ρ h = some none → RV ρ H (.own h) (.v (.slice none 0 0))
  | mp {h j : Nat} : ρ h = some (some j) → RV ρ H (.mp h) (.mp j)
  | hp {h j ver sz i o : Nat} {els : List (List AV)} : ρ h = some (some j) → H[j]? = some (.sl ver sz els) → RV ρ H (.hp h i o) (.hp j ver i o)

/-- An object and what it holds. -/
def RO (c : CK) (l : List c.ty) (els : List (List AV)) : Prop := l.length = els.length ∧ ∀ (i : Nat) (x : c.ty) (e : List AV), l[i]? = some x → els[i]? = some e → FL (ofTy c x) e

/-- A key in a map. -/
def KeyR (kc : CK) (x : kc.ty) (a : AV) : Prop := if isPair kc = true then ∃ as, a = .agg as ∧ FL (ofTy kc x) as else FL (ofTy kc x) [a]

/-- A map and what it holds. -/
def RM (kc vc : CK) (l : List (kc.ty × vc.ty)) (es : List (AV × AV)) : Prop := l.length = es.length ∧ ∀ (i : Nat) (x : kc.ty × vc.ty) (e : AV × AV), l[i]? = some x → es[i]? = some e → KeyR kc x.1 e.1 ∧ FL (ofTy vc x.2) [e.2]

/-- An object and what it stands for. -/
inductive OB : KO → AO → Prop
  | sl {c : CK} {l : List c.ty} {ver : Nat} {els : List (List AV)} : RO c l els → OB ⟨c, l, false⟩ (.sl ver c.nc els)
  | mp {kc vc : CK} {l : List (kc.ty × vc.ty)} {es : List (AV × AV)} : RM kc vc l es → OB ⟨.pair kc vc, l, true⟩ (.mp es)

structure HRel (ρ : Rh) (H : List AO) (obs : List KO) : Prop where
  inj : ∀ h h' j, ρ h = some (some j) → ρ h' = some (some j) → h = h'
  dom : ∀ h, (ρ h).isSome = true ↔ h < obs.length
  real : ∀ h o j, obs[h]? = some o → ρ h = some (some j) → ∃ ao, H[j]? = some ao ∧ OB o ao
  virt : ∀ h o, obs[h]? = some o → ρ h = some none → o.l = []

structure KR (ρ : Rh) (st : KSt) (S : St) : Prop where
  env : ∀ s, RV ρ S.hp.obs (kget s st.tmps) (get s S.tmps)
  hr : HRel ρ S.hp.obs st.obs
  lim : S.hp.lim = 0

theorem FL.nil : FL [] [] := ⟨rfl, by simp⟩
theorem FL.cons {u : KV} {a : AV} {cs : List KV} {as : List AV} (h : FV u a) (t : FL cs as) : FL (u :: cs) (a :: as) :=
  ⟨by simp [t.1], fun i u' a' h1 h2 => by cases i with
    | zero => simp at h1 h2; subst h1; subst h2; exact h
    | succ i => exact t.2 i u' a' (by simpa using h1) (by simpa using h2)⟩
theorem FL.one {u : KV} {a : AV} (h : FV u a) : FL [u] [a] := .cons h .nil
theorem FL.head {u : KV} {cs : List KV} {as : List AV} (h : FL (u :: cs) as) : ∃ a as', as = a :: as' ∧ FV u a ∧ FL cs as' := by
  cases as with
  | nil => simp [FL] at h
  | cons a as' => exact ⟨a, as', rfl, h.2 0 u a rfl rfl, by simpa using h.1, fun i u' a' h1 h2 => h.2 (i + 1) u' a' (by simpa using h1) (by simpa using h2)⟩
theorem FL.nil' {as : List AV} (h : FL [] as) : as = [] := by
  have := h.1; cases as <;> simp_all
theorem FL.drop {cs : List KV} {as : List AV} (h : FL cs as) (n : Nat) : FL (cs.drop n) (as.drop n) :=
  ⟨by simp [h.1], fun i u a h1 h2 => h.2 (n + i) u a (by simpa using h1) (by simpa using h2)⟩
theorem FL.take {cs : List KV} {as : List AV} (h : FL cs as) (n : Nat) : FL (cs.take n) (as.take n) :=
  ⟨by simp [h.1], fun i u a h1 h2 => by
    rw [List.getElem?_take] at h1 h2
    split at h1
    · rename_i q; rw [if_pos q] at h2; exact h.2 i u a h1 h2
    · cases h1⟩
theorem FL.append {c1 c2 : List KV} {a1 a2 : List AV} (h : FL c1 a1) (k : FL c2 a2) : FL (c1 ++ c2) (a1 ++ a2) :=
  ⟨by simp [h.1, k.1], fun i u a h1 h2 => by
    rw [List.getElem?_append] at h1 h2
    rw [h.1] at h1
    split at h1
    · rename_i q; rw [if_pos q] at h2; exact h.2 i u a h1 h2
    · rename_i q; rw [if_neg q] at h2; exact k.2 _ u a h1 h2⟩

theorem ofTy_length : ∀ (c : CK) (x : c.ty), (ofTy c x).length = c.nc
  | .int _, _ => rfl
  | .bool, _ => rfl
  | .str, _ => rfl
  | .arr _, _ => rfl
  | .pair a b, p => by simp [ofTy, CK.nc, ofTy_length a, ofTy_length b]

theorem FV.mkRo {c : CK} {x : Arr c.ty} {f : Nat → List AV} (h : ∀ i, i < x.n → FL (ofTy c (x.f i)) (f i)) : FV (.ro c x) (.ro c.nc x.n f) :=
  .ro (fun i hi => (h i hi).1) (fun i hi => (h i hi).2)

theorem toTy1_ok (c : CK) {v : KV} {a : AV} {x : c.ty} (h : toTy1 c v = some x) (f : FV v a) (hc : c.nc = 1) : FL (ofTy c x) [a] := by
  cases c with
  | int k =>
    cases v <;> simp [toTy1] at h
    obtain ⟨rfl, h⟩ := h
    cases h
    exact .one f
  | bool =>
    cases v <;> simp [toTy1] at h
    cases h
    exact .one f
  | str =>
    cases v <;> simp [toTy1] at h
    cases h
    exact .one f
  | arr e =>
    cases v <;> simp [toTy1] at h
    · cases h
      cases f
      exact .one (.ro0 rfl)
    · obtain ⟨rfl, h⟩ := h
      cases h
      exact .one f
  | pair a b => cases v <;> simp [toTy1] at h

theorem one_cell {v : List KV} {as : List AV} {α : Type} {r : α} {f : KV → Option α} (h : (match v with | [v] => f v | _ => none) = some r) (fl : FL v as) : ∃ u a, as = [a] ∧ FV u a ∧ f u = some r := by
  match v, h with
  | [v], h =>
    obtain ⟨a, as', rfl, hf, ht⟩ := fl.head
    obtain rfl := ht.nil'
    exact ⟨v, a, rfl, hf, h⟩

theorem toTy_ok : ∀ (c : CK) {cs : List KV} {as : List AV} {x : c.ty}, toTy c cs = some x → FL cs as → FL (ofTy c x) as
  | .int k, cs, as, x, h, f => by obtain ⟨u, a, rfl, hf, hx⟩ := one_cell h f; exact toTy1_ok _ hx hf rfl
  | .bool, cs, as, x, h, f => by obtain ⟨u, a, rfl, hf, hx⟩ := one_cell h f; exact toTy1_ok _ hx hf rfl
  | .str, cs, as, x, h, f => by obtain ⟨u, a, rfl, hf, hx⟩ := one_cell h f; exact toTy1_ok _ hx hf rfl
  | .arr e, cs, as, x, h, f => by obtain ⟨u, a, rfl, hf, hx⟩ := one_cell h f; exact toTy1_ok _ hx hf rfl
  | .pair a b, cs, as, x, h, f => by
    simp only [toTy] at h
    split at h
    · rename_i p h1
      split at h
      · rename_i q h2
        cases h
        have := (toTy_ok a h1 (f.take a.nc)).append (toTy_ok b h2 (f.drop a.nc))
        rw [List.take_append_drop] at this
        exact this
      · cases h
    · cases h

theorem FV.apart' : ∀ (d : Nat) {v : KV} {a : AV}, kApart d v = true → FV v a → apart d a = true
  | d, v, a, h, f => by
    cases f with
    | i => cases d <;> rfl
    | b => cases d <;> rfl
    | s => cases d <;> rfl
    | nil => cases d <;> rfl
    | ro => cases d <;> rfl
    | ro0 => cases d <;> rfl
    | agg hl hf =>
      cases d with
      | zero => cases h
      | succ d =>
        simp only [kApart, List.all_eq_true, Sx.apart] at h ⊢
        intro a ha
        obtain ⟨i, hi⟩ := List.getElem?_of_mem ha
        have hil : i < _ := (List.getElem?_eq_some_iff.1 hi).1
        rw [← hl] at hil
        exact FV.apart' d (h _ (List.getElem_mem hil)) (hf i _ a (List.getElem?_eq_getElem hil) hi)
    | tup hl hf =>
      cases d with
      | zero => cases h
      | succ d =>
        simp only [kApart, List.all_eq_true, Sx.apart] at h ⊢
        intro a ha
        obtain ⟨i, hi⟩ := List.getElem?_of_mem ha
        have hil : i < _ := (List.getElem?_eq_some_iff.1 hi).1
        rw [← hl] at hil
        exact FV.apart' d (h _ (List.getElem_mem hil)) (hf i _ a (List.getElem?_eq_getElem hil) hi)
    | rp hl hf =>
      cases d with
      | zero => cases h
      | succ d =>
        simp only [kApart, List.all_eq_true, Sx.apart] at h ⊢
        intro a ha
        obtain ⟨i, hi⟩ := List.getElem?_of_mem ha
        have hil : i < _ := (List.getElem?_eq_some_iff.1 hi).1
        rw [← hl] at hil
        exact FV.apart' d (h _ (List.getElem_mem hil)) (hf i _ a (List.getElem?_eq_getElem hil) hi)
    | fn hl hf =>
      cases d with
      | zero => cases h
      | succ d =>
        simp only [kApart, List.all_eq_true, Sx.apart] at h ⊢
        intro a ha
        obtain ⟨i, hi⟩ := List.getElem?_of_mem ha
        have hil : i < _ := (List.getElem?_eq_some_iff.1 hi).1
        rw [← hl] at hil
        exact FV.apart' d (h _ (List.getElem_mem hil)) (hf i _ a (List.getElem?_eq_getElem hil) hi)

theorem FL.apart' {cs : List KV} {as : List AV} (f : FL cs as) (d : Nat) (h : cs.all (kApart d) = true) : as.all (apart d) = true := by
  simp only [List.all_eq_true] at h ⊢
  intro a ha
  obtain ⟨i, hi⟩ := List.getElem?_of_mem ha
  have hil : i < _ := (List.getElem?_eq_some_iff.1 hi).1
  rw [← f.1] at hil
  exact FV.apart' d (h _ (List.getElem_mem hil)) (f.2 i _ a (List.getElem?_eq_getElem hil) hi)

theorem scal1 {v : KV} {a : AV} (h : kScal1 v = true) (f : FV v a) : a.isV = true := by
  cases f <;> first | rfl | cases h

theorem FV.scal {v : KV} {a : AV} (h : kScal v = true) (f : FV v a) : a.scalar = true := by
  cases f with
  | i => rfl
  | b => rfl
  | s => rfl
  | nil => rfl
  | agg hl hf =>
    simp only [kScal, List.all_eq_true, AV.scalar] at h ⊢
    intro a ha
    obtain ⟨i, hi⟩ := List.getElem?_of_mem ha
    have hil : i < _ := (List.getElem?_eq_some_iff.1 hi).1
    rw [← hl] at hil
    exact scal1 (h _ (List.getElem_mem hil)) (hf i _ a (List.getElem?_eq_getElem hil) hi)
  | tup hl hf =>
    simp only [kScal, List.all_eq_true, AV.scalar] at h ⊢
    intro a ha
    obtain ⟨i, hi⟩ := List.getElem?_of_mem ha
    have hil : i < _ := (List.getElem?_eq_some_iff.1 hi).1
    rw [← hl] at hil
    exact scal1 (h _ (List.getElem_mem hil)) (hf i _ a (List.getElem?_eq_getElem hil) hi)
  | rp => cases h
  | fn => cases h
  | ro => cases h
  | ro0 => cases h

theorem still_apart {H : Hp} : ∀ (d : Nat) {x : AV}, apart d x = true → still H d x = some x
  | d, .v _, _ => by cases d <;> rfl
  | d, .ro .., _ => by cases d <;> rfl
  | d + 1, .agg cs, h => by
    simp only [Sx.apart, List.all_eq_true] at h
    have : cs.mapM (still H d) = some cs := mapM_self cs fun x hx => still_apart d (h x hx)
    simp only [still, this]; rfl
  | d + 1, .tup cs, h => by
    simp only [Sx.apart, List.all_eq_true] at h
    have : cs.mapM (still H d) = some cs := mapM_self cs fun x hx => still_apart d (h x hx)
    simp only [still, this]; rfl
  | d + 1, .rp cs, h => by
    simp only [Sx.apart, List.all_eq_true] at h
    have : cs.mapM (still H d) = some cs := mapM_self cs fun x hx => still_apart d (h x hx)
    simp only [still, this]; rfl
  | d + 1, .fn g cs, h => by
    simp only [Sx.apart, List.all_eq_true] at h
    have : cs.mapM (still H d) = some cs := mapM_self cs fun x hx => still_apart d (h x hx)
    simp only [still, this]; rfl
  | 0, .agg _, h => by cases h
  | 0, .tup _, h => by cases h
  | 0, .rp _, h => by cases h
  | 0, .fn _ _, h => by cases h
  | d, .U, h => by cases d <;> cases h
  | d, .un _, h => by cases d <;> cases h
  | d, .hp .., h => by cases d <;> cases h
  | d, .bm .., h => by cases d <;> cases h
  | d, .sl .., h => by cases d <;> cases h
  | d, .mp _, h => by cases d <;> cases h
  | d, .it _, h => by cases d <;> cases h
  | d, .iface .., h => by cases d <;> cases h
where
  mapM_self {α : Type} {f : α → Option α} : ∀ (l : List α), (∀ x ∈ l, f x = some x) → l.mapM f = some l
    | [], _ => rfl
    | x :: l, h => by
      rw [List.mapM_cons, h x (by simp), mapM_self l (fun y hy => h y (by simp [hy]))]; rfl

end Sx
