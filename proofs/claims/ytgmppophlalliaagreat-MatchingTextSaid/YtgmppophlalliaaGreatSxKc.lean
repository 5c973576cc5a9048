/-
  K: what effects do to related states.
-/
import Derived.Test.YtgmppophlalliaaGreatSxKb
namespace Sx
open Go
set_option linter.unusedSimpArgs false
set_option linter.unusedVariables false

def HKeep (ρ : Rh) (H H' : List AO) (p : Nat → Prop) : Prop := ∀ h j ver sz els, p h → ρ h = some (some j) → H[j]? = some (.sl ver sz els) → ∃ els', H'[j]? = some (.sl ver sz els') ∧ els'.length = els.length

theorem RV.mono {ρ ρ' : Rh} {H H' : List AO} (h1 : ∀ h x, ρ h = some x → ρ' h = some x) (h2 : HKeep ρ H H' (fun _ => True)) {v : KV} {a : AV} (h : RV ρ H v a) : RV ρ' H' v a := by
  cases h with
  | free f => exact .free f
  | U => exact .U
  | unit => exact .unit
  | un => exact .un
  | own hr hH =>
    obtain ⟨els', he, hl⟩ := h2 _ _ _ _ _ trivial hr hH
    rw [← hl]
    exact .own (h1 _ _ hr) he
  | own0 hr => exact .own0 (h1 _ _ hr)
  | mp hr => exact .mp (h1 _ _ hr)
  | hp hr hH =>
    obtain ⟨els', he, hl⟩ := h2 _ _ _ _ _ trivial hr hH
    exact .hp (h1 _ _ hr) he

theorem RV.killed {ρ ρ' : Rh} {H H' : List AO} {g : Nat} (h1 : ∀ h x, h ≠ g → ρ h = some x → ρ' h = some x) (h3 : ∀ j, ρ g = some (some j) → ρ' g = some (some j)) (h2 : HKeep ρ H H' (fun h => h ≠ g)) {v : KV} {a : AV} (h : RV ρ H v a) : RV ρ' H' (kill g v) a := by
  cases h with
  | free f => cases f <;> exact .free (by constructor <;> assumption)
  | U => exact .U
  | unit => exact .unit
  | un => exact .un
  | @own h j ver sz els hr hH =>
    simp only [kill]
    split
    · exact .U
    · rename_i hb
      have hne : h ≠ g := fun e => by subst e; simp at hb
      obtain ⟨els', he, hl⟩ := h2 _ _ _ _ _ hne hr hH
      rw [← hl]
      exact .own (h1 _ _ hne hr) he
  | @own0 h hr =>
    simp only [kill]
    split
    · exact .U
    · rename_i hb
      have hne : h ≠ g := fun e => by subst e; simp at hb
      exact .own0 (h1 _ _ hne hr)
  | @mp h j hr =>
    simp only [kill]
    by_cases e : h = g
    · subst e; exact .mp (h3 _ hr)
    · exact .mp (h1 _ _ e hr)
  | @hp h j ver sz i o els hr hH =>
    simp only [kill]
    split
    · exact .U
    · rename_i hb
      have hne : h ≠ g := fun e => by subst e; simp at hb
      obtain ⟨els', he, hl⟩ := h2 _ _ _ _ _ hne hr hH
      exact .hp (h1 _ _ hne hr) he

theorem kget_kill (g s : Nat) : ∀ tm : KEnv, kget s (killE g tm) = kill g (kget s tm)
  | [] => rfl
  | (k, x) :: r => by
    simp only [killE, kget]
    split
    · rfl
    · exact kget_kill g s r

theorem kget_cons (k s : Nat) (x : KV) (r : KEnv) : kget s ((k, x) :: r) = if k = s then x else kget s r := by
  simp only [kget]
  by_cases h : k = s
  · subst h; simp
  · have : Nat.beq k s = false := by cases hb : Nat.beq k s with
      | true => exact absurd (Nat.eq_of_beq_eq_true hb) h
      | false => rfl
    simp [this, h]

/-- Two environments that stand for each other. -/
def KE (ρ : Rh) (H : List AO) (tm : KEnv) (at' : Env) : Prop := ∀ s, RV ρ H (kget s tm) (get s at')

theorem KE.put {ρ : Rh} {H : List AO} {tm : KEnv} {am : Env} (h : KE ρ H tm am) {x : KV} {a : AV} (hx : RV ρ H x a) (d : Option Nat) : KE ρ H (kPut d x tm) (putD d a am) := by
  cases d with
  | none => exact h
  | some d =>
    intro s
    simp only [kPut, putD, kget_cons, get_cons']
    split
    · exact hx
    · exact h s

theorem KE.cons {ρ : Rh} {H : List AO} {tm : KEnv} {am : Env} (h : KE ρ H tm am) {x : KV} {a : AV} (hx : RV ρ H x a) (d : Nat) : KE ρ H ((d, x) :: tm) ((d, a) :: am) := h.put hx (some d)

theorem KE.left {ρ : Rh} {H : List AO} {tm : KEnv} {am : Env} (h : KE ρ H tm am) {x : KV} {d : Nat} (hx : RV ρ H x (get d am)) : KE ρ H ((d, x) :: tm) am := by
  intro s
  rw [kget_cons]
  split
  · rename_i e; subst e; exact hx
  · exact h s

theorem KE.mono {ρ ρ' : Rh} {H H' : List AO} {tm : KEnv} {am : Env} (h : KE ρ H tm am) (h1 : ∀ h x, ρ h = some x → ρ' h = some x) (h2 : HKeep ρ H H' (fun _ => True)) : KE ρ' H' tm am := fun s => (h s).mono h1 h2

theorem KE.killed {ρ ρ' : Rh} {H H' : List AO} {tm : KEnv} {am : Env} {g : Nat} (h : KE ρ H tm am) (h1 : ∀ h x, h ≠ g → ρ h = some x → ρ' h = some x) (h3 : ∀ j, ρ g = some (some j) → ρ' g = some (some j)) (h2 : HKeep ρ H H' (fun h => h ≠ g)) : KE ρ' H' (killE g tm) am := fun s => by
  rw [kget_kill]; exact (h s).killed h1 h3 h2

theorem HKeep.append {ρ : Rh} {H : List AO} {p : Nat → Prop} (o : AO) : HKeep ρ H (H ++ [o]) p := fun h j ver sz els _ _ hH => by
  have hj : j < H.length := (List.getElem?_eq_some_iff.1 hH).1
  exact ⟨els, by rw [List.getElem?_append_left hj]; exact hH, rfl⟩

theorem KR.val {ρ : Rh} {st : KSt} {S : St} (h : KR ρ st S) {x : KV} {a : AV} (hx : RV ρ S.hp.obs x a) (d : Option Nat) : KR ρ (kApp st d (.val x)) (app S d (.val a)) where
  env := KE.put (h.env) hx d
  hr := h.hr
  lim := h.lim

theorem KR.slot {ρ : Rh} {st : KSt} {S : St} (h : KR ρ st S) {x : KV} {a : AV} (s : Nat) (hx : RV ρ S.hp.obs x a) (d : Option Nat) : KR ρ (kApp st d (.slot s x)) (app S d (.slot s a)) where
  env := KE.put (KE.cons h.env hx s) .unit d
  hr := h.hr
  lim := h.lim

def Rh.up (ρ : Rh) (n : Nat) (x : Option Nat) : Rh := fun h => if h = n then some x else ρ h

theorem HRel.fresh {ρ : Rh} {H : List AO} {obs : List KO} (h : HRel ρ H obs) {g : Nat} {x : Option Nat} (hg : ρ g = some x) : g ≠ obs.length := fun e => by
  have := (h.dom g).1 (by simp [hg])
  omega

theorem HRel.new {ρ : Rh} {H : List AO} {obs : List KO} (h : HRel ρ H obs) : ρ obs.length = none := by
  cases e : ρ obs.length with
  | none => rfl
  | some x => exact absurd rfl (h.fresh e)

theorem HRel.lt {ρ : Rh} {H : List AO} {obs : List KO} (h : HRel ρ H obs) {g j : Nat} (hg : ρ g = some (some j)) : j < H.length := by
  have hl := (h.dom g).1 (by simp [hg])
  obtain ⟨ao, hH, _⟩ := h.real g _ j (List.getElem?_eq_getElem hl) hg
  exact (List.getElem?_eq_some_iff.1 hH).1

/-- A new object on both sides. -/
theorem HRel.push {ρ : Rh} {H : List AO} {obs : List KO} (h : HRel ρ H obs) {o : KO} {ao : AO} (ho : OB o ao) :
    HRel (ρ.up obs.length (some H.length)) (H ++ [ao]) (obs ++ [o]) where
  inj h1 h2 j e1 e2 := by
    simp only [Rh.up] at e1 e2
    split at e1 <;> split at e2
    · rename_i a b; rw [a, b]
    · cases e1
      exact absurd (h.lt e2) (by omega)
    · cases e2
      exact absurd (h.lt e1) (by omega)
    · exact h.inj _ _ _ e1 e2
  dom g := by
    simp only [Rh.up, List.length_append, List.length_cons, List.length_nil]
    split
    · rename_i e; subst e; simp
    · rename_i e; rw [h.dom g]; omega
  real g o j hg e := by
    simp only [Rh.up] at e
    split at e
    · rename_i e'; subst e'
      cases e
      simp at hg
      subst hg
      exact ⟨ao, by simp, ho⟩
    · rename_i e'
      have hl : g < obs.length := (h.dom g).1 (by simp [e])
      rw [List.getElem?_append_left hl] at hg
      obtain ⟨ao', h1, h2⟩ := h.real g o j hg e
      exact ⟨ao', by rw [List.getElem?_append_left (List.getElem?_eq_some_iff.1 h1).1]; exact h1, h2⟩
  virt g o hg e := by
    simp only [Rh.up] at e
    split at e
    · cases e
    · have hl : g < obs.length := (h.dom g).1 (by simp [e])
      rw [List.getElem?_append_left hl] at hg
      exact h.virt g o hg e

theorem HRel.pushV {ρ : Rh} {H : List AO} {obs : List KO} (h : HRel ρ H obs) (c : CK) : HRel (ρ.up obs.length none) H (obs ++ [lo c []]) where
  inj h1 h2 j e1 e2 := by
    simp only [Rh.up] at e1 e2
    split at e1 <;> split at e2
    · cases e1
    · cases e1
    · cases e2
    · exact h.inj _ _ _ e1 e2
  dom g := by
    simp only [Rh.up, List.length_append, List.length_cons, List.length_nil]
    split
    · rename_i e; subst e; simp
    · rename_i e; rw [h.dom g]; omega
  real g o j hg e := by
    simp only [Rh.up] at e
    split at e
    · cases e
    · have hl : g < obs.length := (h.dom g).1 (by simp [e])
      rw [List.getElem?_append_left hl] at hg
      exact h.real g o j hg e
  virt g o hg e := by
    simp only [Rh.up] at e
    split at e
    · rename_i e'; subst e'
      simp at hg
      subst hg; rfl
    · have hl : g < obs.length := (h.dom g).1 (by simp [e])
      rw [List.getElem?_append_left hl] at hg
      exact h.virt g o hg e

theorem up_old {ρ : Rh} {H : List AO} {obs : List KO} (h : HRel ρ H obs) (x : Option Nat) : ∀ g y, ρ g = some y → (ρ.up obs.length x) g = some y := fun g y hg => by
  simp only [Rh.up, if_neg (h.fresh hg)]; exact hg

theorem KR.push {ρ : Rh} {st : KSt} {S : St} (h : KR ρ st S) {c : CK} {l : List c.ty} {els : List (List AV)} (ho : RO c l els) {x : KV} {a : AV}
    (hx : RV (ρ.up st.obs.length (some S.hp.obs.length)) (S.hp.obs ++ [.sl 0 c.nc els]) x a) (d : Option Nat) :
    KR (ρ.up st.obs.length (some S.hp.obs.length)) (kApp st d (.push x (lo c l))) (app S d (.valH a (S.hp.push (.sl 0 c.nc els)))) where
  env := KE.put (KE.mono h.env (up_old h.hr _) (HKeep.append _)) hx d
  hr := h.hr.push (.sl ho)
  lim := h.lim

theorem KR.pushV {ρ : Rh} {st : KSt} {S : St} (h : KR ρ st S) (c : CK) (d : Option Nat) :
    KR (ρ.up st.obs.length none) (kApp st d (.push (.own st.obs.length) (lo c []))) (app S d (.val (.v (.slice none 0 0)))) where
  env := KE.put (KE.mono h.env (up_old h.hr _) (fun h j ver sz els _ _ hH => ⟨els, hH, rfl⟩)) (.own0 (by simp [Rh.up])) d
  hr := h.hr.pushV c
  lim := h.lim

/-- An object in another's place. -/
theorem HRel.set {ρ : Rh} {H : List AO} {obs : List KO} (h : HRel ρ H obs) {g j : Nat} (hg : ρ g = some (some j)) {o : KO} {ao : AO} (ho : OB o ao) :
    HRel ρ (H.set j ao) (obs.set g o) where
  inj := h.inj
  dom k := by rw [h.dom k]; simp
  real k o' j' hk e := by
    rw [List.getElem?_set] at hk
    split at hk
    · rename_i e'; subst e'
      rw [hg] at e; cases e
      have hl : g < obs.length := (h.dom g).1 (by simp [hg])
      simp [hl] at hk
      subst hk
      exact ⟨ao, by rw [List.getElem?_set]; simp [h.lt hg], ho⟩
    · rename_i e'
      obtain ⟨ao', h1, h2⟩ := h.real k o' j' hk e
      have hne : j ≠ j' := fun q => e' (h.inj _ _ _ hg (q ▸ e))
      exact ⟨ao', by rw [List.getElem?_set, if_neg hne]; exact h1, h2⟩
  virt k o' hk e := by
    rw [List.getElem?_set] at hk
    split at hk
    · rename_i e'; subst e'
      rw [hg] at e; cases e
    · exact h.virt k o' hk e

theorem KR.set {ρ : Rh} {st : KSt} {S : St} (h : KR ρ st S) {g j : Nat} (hg : ρ g = some (some j)) {o : KO} (hog : st.obs[g]? = some o) {l : List o.c.ty} {ver sz : Nat} {els0 els : List (List AV)} (hj : S.hp.obs[j]? = some (.sl ver sz els0)) (hl : els.length = els0.length) (hsz : sz = o.c.nc) (ho : RO o.c l els) (d : Option Nat) :
    KR ρ (kApp st d (.set g (lo o.c l))) (app S d (.hp (S.hp.put j (.sl ver o.c.nc els)))) where
  env := KE.put (KE.mono h.env (fun _ _ e => e) (fun g' j' ver' sz' els' _ hr hH => by
    simp only [app, Hp.put, List.getElem?_set]
    split
    · rename_i e; subst e
      rw [hj] at hH; cases hH
      subst hsz
      exact ⟨els, by simp [(List.getElem?_eq_some_iff.1 hj).1], hl⟩
    · exact ⟨els', hH, rfl⟩)) .unit d
  hr := h.hr.set hg (.sl ho)
  lim := h.lim

/-- An object that grew. -/
theorem KR.grow {ρ : Rh} {st : KSt} {S : St} (h : KR ρ st S) {g j : Nat} (hg : ρ g = some (some j)) {o : KO} (hog : st.obs[g]? = some o) {l : List o.c.ty} (ver : Nat) {els : List (List AV)} (ho : RO o.c l els) (d : Option Nat) :
    KR ρ (kApp st d (.grow g (lo o.c l))) (app S d (.valH (.sl j ver 0 els.length) (S.hp.put j (.sl ver o.c.nc els)))) where
  env := KE.put (KE.killed h.env (fun _ _ _ e => e) (fun _ e => e) (fun g' j' ver' sz' els' hne hr hH => by
    simp only [app, Hp.put, List.getElem?_set]
    split
    · rename_i e; subst e
      exact absurd (h.hr.inj _ _ _ hr hg) hne
    · exact ⟨els', hH, rfl⟩)) (.own (sz := o.c.nc) hg (by simp only [app, Hp.put]; rw [List.getElem?_set]; simp [h.hr.lt hg])) d
  hr := h.hr.set hg (.sl ho)
  lim := h.lim

/-- An object that was not there till now. -/
theorem HRel.wake {ρ : Rh} {H : List AO} {obs : List KO} (h : HRel ρ H obs) {g : Nat} (hg : ρ g = some none) {o : KO} (hog : obs[g]? = some o) {l : List o.c.ty} {els : List (List AV)} (ho : RO o.c l els) :
    HRel (ρ.up g (some H.length)) (H ++ [.sl 0 o.c.nc els]) (obs.set g (lo o.c l)) where
  inj h1 h2 j e1 e2 := by
    simp only [Rh.up] at e1 e2
    split at e1 <;> split at e2
    · rename_i a b; rw [a, b]
    · cases e1
      exact absurd (h.lt e2) (by omega)
    · cases e2
      exact absurd (h.lt e1) (by omega)
    · exact h.inj _ _ _ e1 e2
  dom k := by
    simp only [Rh.up, List.length_set]
    split
    · rename_i e; subst e
      simp [(List.getElem?_eq_some_iff.1 hog).1]
    · exact h.dom k
  real k o' j hk e := by
    simp only [Rh.up] at e
    rw [List.getElem?_set] at hk
    split at e
    · rename_i e'; subst e'
      cases e
      simp [(List.getElem?_eq_some_iff.1 hog).1] at hk
      subst hk
      exact ⟨.sl 0 o.c.nc els, by simp, .sl ho⟩
    · rename_i e'
      rw [if_neg (fun q => e' q.symm)] at hk
      obtain ⟨ao', h1, h2⟩ := h.real k o' j hk e
      exact ⟨ao', by rw [List.getElem?_append_left (List.getElem?_eq_some_iff.1 h1).1]; exact h1, h2⟩
  virt k o' hk e := by
    simp only [Rh.up] at e
    rw [List.getElem?_set] at hk
    split at e
    · cases e
    · rename_i e'
      rw [if_neg (fun q => e' q.symm)] at hk
      exact h.virt k o' hk e

theorem KR.wake {ρ : Rh} {st : KSt} {S : St} (h : KR ρ st S) {g : Nat} (hg : ρ g = some none) {o : KO} (hog : st.obs[g]? = some o) {l : List o.c.ty} {els : List (List AV)} (ho : RO o.c l els) (d : Option Nat) :
    KR (ρ.up g (some S.hp.obs.length)) (kApp st d (.grow g (lo o.c l))) (app S d (.valH (.sl S.hp.obs.length 0 0 els.length) (S.hp.push (.sl 0 o.c.nc els)))) where
  env := KE.put (KE.killed h.env (fun k x hne e => by simp only [Rh.up, if_neg hne]; exact e) (fun j e => by rw [hg] at e; cases e) (HKeep.append _)) (.own (sz := o.c.nc) (by simp [Rh.up]) (by simp [Hp.push])) d
  hr := h.hr.wake hg hog ho
  lim := h.lim

/-- An object of nothing that stays so. -/
theorem KR.same {ρ : Rh} {st : KSt} {S : St} (h : KR ρ st S) {g : Nat} (hg : ρ g = some none) {o : KO} (hog : st.obs[g]? = some o) (hom : o.mp = false) {l : List o.c.ty} (hl : l = []) (d : Option Nat) :
    KR ρ (kApp st d (.grow g (lo o.c l))) (app S d (.valH (.v (.slice none 0 0)) S.hp)) where
  env := KE.put (KE.killed h.env (fun _ _ _ e => e) (fun _ e => e) (fun _ _ _ _ els _ _ hH => ⟨els, hH, rfl⟩)) (.own0 hg) d
  hr := by
    subst hl
    have : st.obs.set g (lo o.c []) = st.obs := by
      apply List.ext_getElem?
      intro i
      rw [List.getElem?_set]
      split
      · rename_i e; subst e
        have := h.hr.virt g o hog hg
        cases o
        simp at this hom
        subst this
        subst hom
        simp [(List.getElem?_eq_some_iff.1 hog).1, hog]
        rw [List.getElem?_eq_some_iff] at hog
        exact hog.2.symm
      · rfl
    simp only [kApp, this]
    exact h.hr
  lim := h.lim

/-- What stood there and was nobody's stands there still. -/
def Fr (ρ : Rh) (H : List AO) (ρ' : Rh) (H' : List AO) : Prop := H.length ≤ H'.length ∧ ∀ j, j < H.length → (∀ h, ρ h ≠ some (some j)) → H'[j]? = H[j]? ∧ ∀ h, ρ' h ≠ some (some j)

theorem Fr.refl {ρ : Rh} {H : List AO} : Fr ρ H ρ H := ⟨Nat.le_refl _, fun j _ h => ⟨rfl, h⟩⟩
theorem Fr.trans {ρ1 ρ2 ρ3 : Rh} {H1 H2 H3 : List AO} (a : Fr ρ1 H1 ρ2 H2) (b : Fr ρ2 H2 ρ3 H3) : Fr ρ1 H1 ρ3 H3 :=
  ⟨Nat.le_trans a.1 b.1, fun j hj h => by
    obtain ⟨h1, h2⟩ := a.2 j hj h
    obtain ⟨h3, h4⟩ := b.2 j (Nat.lt_of_lt_of_le hj a.1) h2
    exact ⟨h3.trans h1, h4⟩⟩
theorem Fr.push {ρ : Rh} {H H' : List AO} (g j0 : Nat) (hl : H.length ≤ H'.length) (hj : H.length ≤ j0) (h : ∀ j, j < H.length → H'[j]? = H[j]?) : Fr ρ H (ρ.up g (some j0)) H' :=
  ⟨hl, fun j hlt hn => ⟨h j hlt, fun k => by
    simp only [Rh.up]
    split
    · intro e; cases e; omega
    · exact hn k⟩⟩

def KRF (ρ : Rh) (S : St) (ρ' : Rh) (st' : KSt) (S' : St) : Prop := KR ρ' st' S' ∧ Fr ρ S.hp.obs ρ' S'.hp.obs

theorem KR.valF {ρ : Rh} {st : KSt} {S : St} (h : KR ρ st S) {x : KV} {a : AV} (hx : RV ρ S.hp.obs x a) (d : Option Nat) : KRF ρ S ρ (kApp st d (.val x)) (app S d (.val a)) := ⟨h.val hx d, Fr.refl⟩
theorem KR.slotF {ρ : Rh} {st : KSt} {S : St} (h : KR ρ st S) {x : KV} {a : AV} (s : Nat) (hx : RV ρ S.hp.obs x a) (d : Option Nat) : KRF ρ S ρ (kApp st d (.slot s x)) (app S d (.slot s a)) := ⟨h.slot s hx d, Fr.refl⟩
theorem KR.pushF {ρ : Rh} {st : KSt} {S : St} (h : KR ρ st S) {c : CK} {l : List c.ty} {els : List (List AV)} (ho : RO c l els) {x : KV} {a : AV}
    (hx : RV (ρ.up st.obs.length (some S.hp.obs.length)) (S.hp.obs ++ [.sl 0 c.nc els]) x a) (d : Option Nat) :
    KRF ρ S (ρ.up st.obs.length (some S.hp.obs.length)) (kApp st d (.push x (lo c l))) (app S d (.valH a (S.hp.push (.sl 0 c.nc els)))) :=
  ⟨h.push ho hx d, Fr.push _ _ (by simp [app, Hp.push]) (Nat.le_refl _) fun j hj => by simp only [app, Hp.push]; exact List.getElem?_append_left hj⟩
theorem KR.pushVF {ρ : Rh} {st : KSt} {S : St} (h : KR ρ st S) (c : CK) (d : Option Nat) :
    KRF ρ S (ρ.up st.obs.length none) (kApp st d (.push (.own st.obs.length) (lo c []))) (app S d (.val (.v (.slice none 0 0)))) :=
  ⟨h.pushV c d, Nat.le_refl _, fun j _ hn => ⟨rfl, fun k => by
    simp only [Rh.up]
    split
    · intro e; cases e
    · exact hn k⟩⟩
theorem KR.setF {ρ : Rh} {st : KSt} {S : St} (h : KR ρ st S) {g j : Nat} (hg : ρ g = some (some j)) {o : KO} (hog : st.obs[g]? = some o) {l : List o.c.ty} {ver sz : Nat} {els0 els : List (List AV)} (hj : S.hp.obs[j]? = some (.sl ver sz els0)) (hl : els.length = els0.length) (hsz : sz = o.c.nc) (ho : RO o.c l els) (d : Option Nat) :
    KRF ρ S ρ (kApp st d (.set g (lo o.c l))) (app S d (.hp (S.hp.put j (.sl ver o.c.nc els)))) :=
  ⟨h.set hg hog hj hl hsz ho d, by simp [app, Hp.put], fun i hi hn => ⟨by
    simp only [app, Hp.put, List.getElem?_set]
    rw [if_neg (fun (e : j = i) => hn g (by rw [← e]; exact hg))], hn⟩⟩
theorem KR.growF {ρ : Rh} {st : KSt} {S : St} (h : KR ρ st S) {g j : Nat} (hg : ρ g = some (some j)) {o : KO} (hog : st.obs[g]? = some o) {l : List o.c.ty} (ver : Nat) {els : List (List AV)} (ho : RO o.c l els) (d : Option Nat) :
    KRF ρ S ρ (kApp st d (.grow g (lo o.c l))) (app S d (.valH (.sl j ver 0 els.length) (S.hp.put j (.sl ver o.c.nc els)))) :=
  ⟨h.grow hg hog ver ho d, by simp [app, Hp.put], fun i hi hn => ⟨by
    simp only [app, Hp.put, List.getElem?_set]
    rw [if_neg (fun (e : j = i) => hn g (by rw [← e]; exact hg))], hn⟩⟩
theorem KR.wakeF {ρ : Rh} {st : KSt} {S : St} (h : KR ρ st S) {g : Nat} (hg : ρ g = some none) {o : KO} (hog : st.obs[g]? = some o) {l : List o.c.ty} {els : List (List AV)} (ho : RO o.c l els) (d : Option Nat) :
    KRF ρ S (ρ.up g (some S.hp.obs.length)) (kApp st d (.grow g (lo o.c l))) (app S d (.valH (.sl S.hp.obs.length 0 0 els.length) (S.hp.push (.sl 0 o.c.nc els)))) :=
  ⟨h.wake hg hog ho d, Fr.push _ _ (by simp [app, Hp.push]) (Nat.le_refl _) fun j hj => by simp only [app, Hp.push]; exact List.getElem?_append_left hj⟩
theorem KR.sameF {ρ : Rh} {st : KSt} {S : St} (h : KR ρ st S) {g : Nat} (hg : ρ g = some none) {o : KO} (hog : st.obs[g]? = some o) (hom : o.mp = false) {l : List o.c.ty} (hl : l = []) (d : Option Nat) :
    KRF ρ S ρ (kApp st d (.grow g (lo o.c l))) (app S d (.valH (.v (.slice none 0 0)) S.hp)) := ⟨h.same hg hog hom hl d, Fr.refl⟩

/-- A new object that a call made: whatever else it made. -/
theorem KR.given {ρ : Rh} {st : KSt} {S : St} (h : KR ρ st S) {c : CK} {l : List c.ty} {els : List (List AV)} (ho : RO c l els) {H' : Hp} {j ver : Nat} (hj : S.hp.obs.length ≤ j) (hl : S.hp.obs.length ≤ H'.obs.length) (hk : ∀ i, i < S.hp.obs.length → H'.obs[i]? = S.hp.obs[i]?) (hH : H'.obs[j]? = some (.sl ver c.nc els)) (hlim : H'.lim = 0) (d : Option Nat) :
    KRF ρ S (ρ.up st.obs.length (some j)) (kApp st d (.push (.own st.obs.length) (lo c l))) (app S d (.valH (.sl j ver 0 els.length) H')) := by
  refine ⟨⟨KE.put (KE.mono h.env (up_old h.hr _) (fun h' j' ver' sz' els' _ hr hH => ⟨els', by
      have : j' < S.hp.obs.length := (List.getElem?_eq_some_iff.1 hH).1
      show H'.obs[j']? = _
      rw [hk j' this]; exact hH, rfl⟩)) (.own (sz := c.nc) (by simp [Rh.up]) hH) d, ?_, hlim⟩, Fr.push _ _ hl hj hk⟩
  show HRel _ H'.obs (st.obs ++ [lo c l])
  refine ⟨fun h1 h2 i e1 e2 => ?_, fun g => ?_, fun g o i hg e => ?_, fun g o hg e => ?_⟩
  · simp only [Rh.up] at e1 e2
    split at e1 <;> split at e2
    · rename_i a b; rw [a, b]
    · cases e1
      exact absurd (h.hr.lt e2) (by omega)
    · cases e2
      exact absurd (h.hr.lt e1) (by omega)
    · exact h.hr.inj _ _ _ e1 e2
  · simp only [Rh.up, List.length_append, List.length_cons, List.length_nil]
    split
    · rename_i e; subst e; simp
    · rename_i e; rw [h.hr.dom g]; omega
  · simp only [Rh.up] at e
    split at e
    · rename_i e'; subst e'
      cases e
      simp at hg
      subst hg
      exact ⟨_, hH, .sl ho⟩
    · have hlt : g < st.obs.length := (h.hr.dom g).1 (by simp [e])
      rw [List.getElem?_append_left hlt] at hg
      obtain ⟨ao', h1, h2⟩ := h.hr.real g o i hg e
      exact ⟨ao', by rw [hk i (List.getElem?_eq_some_iff.1 h1).1]; exact h1, h2⟩
  · simp only [Rh.up] at e
    split at e
    · cases e
    · have hlt : g < st.obs.length := (h.hr.dom g).1 (by simp [e])
      rw [List.getElem?_append_left hlt] at hg
      exact h.hr.virt g o hg e

/-- As above, but there is no object: a list of nothing. -/
theorem KR.given0 {ρ : Rh} {st : KSt} {S : St} (h : KR ρ st S) (c : CK) {l : List c.ty} (h0 : l = []) {H' : Hp} (hl : S.hp.obs.length ≤ H'.obs.length) (hk : ∀ i, i < S.hp.obs.length → H'.obs[i]? = S.hp.obs[i]?) (hlim : H'.lim = 0) (d : Option Nat) :
    KRF ρ S (ρ.up st.obs.length none) (kApp st d (.push (.own st.obs.length) (lo c l))) (app S d (.valH (.v (.slice none 0 0)) H')) := by
  subst h0
  refine ⟨⟨KE.put (KE.mono h.env (up_old h.hr _) (fun h' j' ver' sz' els' _ hr hH => ⟨els', by
      have : j' < S.hp.obs.length := (List.getElem?_eq_some_iff.1 hH).1
      show H'.obs[j']? = _
      rw [hk j' this]; exact hH, rfl⟩)) (.own0 (by simp [Rh.up])) d, ?_, hlim⟩, hl, fun j hj hn => ⟨hk j hj, fun k => by
    simp only [Rh.up]
    split
    · intro e; cases e
    · exact hn k⟩⟩
  have q := h.hr.pushV c
  refine ⟨q.inj, q.dom, fun g o i hg e => ?_, q.virt⟩
  obtain ⟨ao', h1, h2⟩ := q.real g o i hg e
  exact ⟨ao', by show H'.obs[i]? = _; rw [hk i (List.getElem?_eq_some_iff.1 h1).1]; exact h1, h2⟩
end Sx
