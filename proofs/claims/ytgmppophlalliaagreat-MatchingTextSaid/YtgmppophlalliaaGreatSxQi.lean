/-
  Q: a remainder that is not known: all that it can be.
-/
import Derived.Test.YtgmppophlalliaaGreatSxQh
import Derived.Test.YtgmppophlalliaaGreatSxQx
import Derived.Test.YtgmppophlalliaaGreatSxCode
namespace Sx.Q
open Go
set_option linter.unusedVariables false

theorem two_ok {ρ : Type} {r : ρ} {l : V} {k : V → V → Option ρ} (h : two l k = some r) : ∃ a b, k a b = some r ∧ decL l = [dec a, dec b] := by
  rcases onL_ok h with ⟨_, h1⟩ | ⟨a, l1, e1, h1⟩
  · cases h1
  · rcases onL_ok h1 with ⟨_, h2⟩ | ⟨b, l2, e2, h2⟩
    · cases h2
    · rcases onL_ok h2 with ⟨e3, h3⟩ | ⟨_, _, _, h3⟩
      · subst e1; subst e2; subst e3; exact ⟨a, b, h3, rfl⟩
      · cases h3

/-- All numbers below m. -/
noncomputable def allN (k : Nat → Option Unit) (m : Nat) : Option Unit :=
  Nat.rec (motive := fun _ => Option Unit) (some ()) (fun w ih => Option.rec (motive := fun _ => Option Unit) none (fun _ => k w) ih) m
theorem allN_ok {k : Nat → Option Unit} : ∀ {m : Nat}, allN k m = some () → ∀ w, w < m → k w = some ()
  | 0, _, w, hw => by omega
  | m + 1, h, w, hw => by
    have h' : Option.rec (motive := fun _ => Option Unit) none (fun _ => k m) (allN k m) = some () := h
    cases h1 : allN k m with
    | none => rw [h1] at h'; cases h'
    | some u =>
      rw [h1] at h'
      by_cases hm : w = m
      · subst hm; exact h'
      · exact allN_ok h1 w (by omega)

noncomputable def x_rest : V → Nat → V → KV Unit → Option Unit := fun l n t k =>
  two l fun a b => onI b (fun c m => ck (Nat.beq c 3) (ck (Nat.ble 1 m) (ck (Nat.ble m 1000) (onI a (fun c' _ => ck (Nat.beq c' 3) (allN (fun w => k (.i 3 w) n t) m)) (fun c' _ => ck (Nat.beq c' 3) (allN (fun w => k (.i 3 w) n t) m)))))) n2

theorem x_rest_ok {M : Prg} {N D g : Nat} {fns : List Nat} {f : Int × Int × Unit → Option Int} (hE : EntOK M N D ⟨g, fns, [.cell (.int .i64), .cell (.int .i64)], .cell (.int .i64), f, false⟩)
    (hf : ∀ (z : Int) (m : Nat), 1 ≤ m → m ≤ 1000 → ∃ w : Nat, w < m ∧ f (z, (m : Int), ()) = some (w : Int)) :
    ∀ d l n t k (r : Unit), x_rest l n t k = some r → ∃ v n' t', k v n' t' = some r ∧ evF M N (d + (D + 1)) g (decL l) (decH n t) = some (dec v, decH n' t') := by
  intro d l n t k r h
  obtain ⟨a, b, h1, h2⟩ := two_ok h
  obtain ⟨c, m, hb, h3⟩ := onI1_ok h1
  obtain ⟨h4, h5⟩ := beq_ok h3
  obtain ⟨h6, h5b⟩ := ble_ok h5
  obtain ⟨h6b, h7⟩ := ble_ok h5b
  subst h4; subst hb
  have key : ∃ z : Int, dec a = .v (.int .i64 z) ∧ allN (fun w => k (.i 3 w) n t) m = some r := by
    rcases onI_ok h7 with ⟨c', x, ha, h8⟩ | ⟨c', x, ha, h8⟩
    · obtain ⟨h9, h10⟩ := beq_ok h8
      subst h9; subst ha
      exact ⟨_, rfl, h10⟩
    · obtain ⟨h9, h10⟩ := beq_ok h8
      subst h9; subst ha
      exact ⟨_, rfl, h10⟩
  obtain ⟨z, hz, hall⟩ := key
  obtain ⟨w, hw, hfw⟩ := hf z m h6 h6b
  refine ⟨.i 3 w, n, t, allN_ok hall w hw, ?_⟩
  obtain ⟨he, mf, hm, hp, hF⟩ := hE
  have hargs : FL (argEnc [.cell (.int .i64), .cell (.int .i64)] (z, (m : Int), ())) [.v (.int .i64 z), .v (.int .i64 m)] := fl_cons .i (fl_cons .i fl_nil)
  obtain ⟨y, hy, hev⟩ := (hF (d + D) (by omega) (z, (m : Int), ()) (w : Int) hfw _ hargs).1 rfl
  have hy' : y = .v (.int .i64 w) := by
    have : FV (.i .i64 w) y := hy
    cases this; rfl
  subst hy'
  have he' : M.ext g = none := he
  have hm' : M.fns g = some mf := hm
  have hp' : mf.pure = true := hp
  have hl : decL l = [.v (.int .i64 z), .v (.int .i64 m)] := by rw [h2, hz]; rfl
  rw [← Nat.add_assoc, hl]
  simp only [evF, he', hm', hp', if_true]
  exact pure_call rfl hev rfl

/-- What a kernel's run of a function says. -/
theorem run_fact {M : Prg} {x : QX (V × Nat × V)} {t : QT} {N D : Nat} (hx : OvOK x M N D) (ht : ∀ p ∈ t.all, M.fns p.1 = some p.2) {g c : Nat} {l v : V}
    (h : ∀ (e n : Nat) (tr : V), qF x t N (e + c) g l n tr (fun v n t => some (v, n, t)) = some (v, n, tr)) : ∀ (d n : Nat) (tr : V), evF M N (d + (c + D)) g (decL l) (decH n tr) = some (dec v, decH n tr) := by
  intro d n tr
  obtain ⟨w, n', t', h1, h2⟩ := qF_ov hx ht (d + c) _ _ _ _ _ _ (h d n tr)
  simp only [Option.some.injEq, Prod.mk.injEq] at h1
  obtain ⟨rfl, rfl, rfl⟩ := h1
  rw [← Nat.add_assoc]; exact h2

/-- A function whose answer at some arguments is known. -/
noncomputable def x_at {ρ : Type} (is : V → Bool) (v : V) : V → Nat → V → KV ρ → Option ρ := fun l n t k => ck (is l) (k v n t)
theorem x_at_ok {ρ : Type} {M : Prg} {N D g : Nat} {is : V → Bool} {l0 v : V} (his : ∀ l, is l = true → decL l = decL l0) (h : ∀ (d n : Nat) (tr : V), evF M N (d + D) g (decL l0) (decH n tr) = some (dec v, decH n tr)) :
    ∀ d l n t k (r : ρ), x_at is v l n t k = some r → ∃ v n' t', k v n' t' = some r ∧ evF M N (d + D) g (decL l) (decH n t) = some (dec v, decH n' t') := by
  intro d l n t k r hk
  obtain ⟨h1, h2⟩ := ck_ok hk
  exact ⟨v, n, t, h2, by rw [his l h1]; exact h d n t⟩

/-- The list of one string. -/
noncomputable def isStr (c x : Nat) (l : V) : Bool := Option.rec (motive := fun _ => Bool) false (fun _ => true) (onL l none fun a r => onL r (onS a fun c' x' => ck (Nat.beq c' c) (ck (Nat.beq x' x) (some ()))) fun _ _ => none)
theorem isStr_ok {c x : Nat} (l : V) (h : isStr c x l = true) : decL l = decL (.cons (.s c x) .nil) := by
  unfold isStr at h
  cases hq : onL l none (fun a r => onL r (onS a fun c' x' => ck (Nat.beq c' c) (ck (Nat.beq x' x) (some ()))) fun _ _ => none) with
  | none => rw [hq] at h; cases h
  | some u =>
    rcases onL_ok hq with ⟨_, h1⟩ | ⟨a, l1, e1, h1⟩
    · cases h1
    · rcases onL_ok h1 with ⟨e2, h2⟩ | ⟨_, _, _, h2⟩
      · obtain ⟨c', x', e3, h3⟩ := onS_ok h2
        obtain ⟨h4, h5⟩ := beq_ok h3
        obtain ⟨h6, _⟩ := beq_ok h5
        subst e1; subst e2; subst e3; subst h4; subst h6; rfl
      · cases h2
/-- No arguments. -/
noncomputable def isNil (l : V) : Bool := Option.rec (motive := fun _ => Bool) false (fun _ => true) (onL l (some ()) fun _ _ => none)
theorem isNil_ok (l : V) (h : isNil l = true) : decL l = decL .nil := by
  unfold isNil at h
  cases hq : onL l (some ()) (fun _ _ => none) with
  | none => rw [hq] at h; cases h
  | some u =>
    rcases onL_ok hq with ⟨rfl, _⟩ | ⟨_, _, _, h1⟩
    · rfl
    · cases h1

/-- A law's answer. -/
theorem law_q {M : Prg} {x : QX Unit} {t : QT} {N D : Nat} (hx : OvOK x M N D) (ht : ∀ p ∈ t.all, M.fns p.1 = some p.2) {mf : MF} {args : V} {c : Nat} (hp : mf.pure = true) (hap : (decL args).all (apart 8) = true)
    (h : qRun N (qF x t N c) mf args 0 .nil (fun v _ _ => onB v fun b => ck b (some ())) = some ()) : evP N (evF M N (c + D)) mf (decL args) = some (.b true) := by
  obtain ⟨v, n', t', h1, h2⟩ := qRun_ok (qF_ov hx ht c) h
  rw [hp] at h2
  simp only [if_true, if_pos hap, Option.bind_some] at h2
  obtain ⟨b, hb, h3⟩ := onB_ok h1
  obtain ⟨h4, _⟩ := ck_ok h3
  subst hb; subst h4
  cases hq : evP N (evF M N (c + D)) mf (decL args) with
  | none => rw [hq] at h2; cases h2
  | some w =>
    rw [hq] at h2
    simp only [Option.bind_some] at h2
    obtain ⟨h5, _⟩ := handP_some h2
    simp only [Prod.mk.injEq] at h5
    rw [← h5.1]; rfl
end Sx.Q
