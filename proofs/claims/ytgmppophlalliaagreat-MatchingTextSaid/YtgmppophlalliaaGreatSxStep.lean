/-
  Sx: the steps of a memory, one by one.
-/
import Derived.Test.YtgmppophlalliaaGreatSxRel
namespace Sx
open Go
set_option linter.unusedSimpArgs false
set_option linter.unusedVariables false
variable {φ : Nat → Option Nat}

theorem TR.since {B lim : Nat} {T T' : Nat → Prop} {w w' : World} {ρ ρ' : Rho} {tm : Env} {tmps : Array Value} (h : TR φ B T w ρ tm tmps) (s : Since lim T w ρ T' w' ρ') : TR φ B T' w' ρ' tm tmps where
  slot k := by
    have hk := h.slot k
    unfold SR at hk ⊢
    split
    · rename_i z hz
      rw [hz] at hk
      obtain ⟨b, arr, t, e1, e2, e3, e4, e5, e6⟩ := hk
      have hb : b < w.heap.size := (Array.getElem?_eq_some_iff.1 e2).1
      refine ⟨b, arr, t, e1, (s.frame b hb fun h i _ hi => e5 h i hi).trans e2, e3, fun q => ?_, fun h i hi => ?_, e6⟩
      · rcases s.tnew b q with q | q
        · exact e4 q
        · omega
      · by_cases hl : h < lim
        · rw [s.low h hl] at hi; exact e5 h i hi
        · rcases s.wb h i (by omega) hi with q | ⟨i0, q1, q2⟩
          · omega
          · rw [← q2]; exact e5 h i0 q1
    · rename_i hn
      split at hk
      · rename_i hz; exact absurd hz (hn _)
      · exact hk.mono s.ext
  apart := h.apart

theorem get_cons (d s : Nat) (x : AV) (tm : Env) : get s ((d, x) :: tm) = if d = s then x else get s tm := rfl

theorem getD_set (tmps : Array Value) (d s : Nat) (v : Value) (hd : d < tmps.size) : (tmps.setIfInBounds d v).getD s undef = if d = s then v else tmps.getD s undef := by
  by_cases h : d = s
  · subst h; simp [Array.getD, hd]
  · simp [h, Array.getD_eq_getD_getElem?, Array.getElem?_setIfInBounds]

/-- A slot gets a value that is no variable of its own. -/
theorem TR.put {B : Nat} {T : Nat → Prop} {w : World} {ρ : Rho} {tm : Env} {tmps : Array Value} (h : TR φ B T w ρ tm tmps) {d : Nat} {x : AV} {v : Value} (hd : d < tmps.size) (hx : VR φ T w ρ true x v) : TR φ B T w ρ ((d, x) :: tm) (tmps.setIfInBounds d v) where
  slot s := by
    rw [get_cons, getD_set _ _ _ _ hd]
    by_cases e : d = s
    · simp only [e, if_true]; unfold SR; split
      · cases hx
      · exact hx
    · simp only [e, if_false]; exact h.slot s
  apart s s' z z' hn hz hz' := by
    rw [get_cons] at hz hz'
    by_cases e : d = s
    · simp only [e, if_true] at hz; subst hz; cases hx
    · by_cases e' : d = s'
      · simp only [e', if_true] at hz'; subst hz'; cases hx
      · simp only [e, e', if_false] at hz hz'
        rw [getD_set _ _ _ _ hd, getD_set _ _ _ _ hd, if_neg e, if_neg e']
        exact h.apart s s' z z' hn hz hz'

/-- A slot gets a fresh variable. -/
theorem TR.putUn {B : Nat} {T : Nat → Prop} {w : World} {ρ : Rho} {tm : Env} {tmps : Array Value} (h : TR φ B T w ρ tm tmps) {d b : Nat} {z : List AV} (hd : d < tmps.size)
    (hx : SR φ B T w ρ (.un z) (.pointer (some ⟨b, 0, none⟩))) (hn : ∀ s z', get s tm = .un z' → tmps.getD s undef ≠ .pointer (some ⟨b, 0, none⟩)) : TR φ B T w ρ ((d, .un z) :: tm) (tmps.setIfInBounds d (.pointer (some ⟨b, 0, none⟩))) where
  slot s := by
    rw [get_cons, getD_set _ _ _ _ hd]
    by_cases e : d = s
    · simp only [e, if_true]; exact hx
    · simp only [e, if_false]; exact h.slot s
  apart s s' y y' hne hz hz' := by
    rw [get_cons] at hz hz'
    rw [getD_set _ _ _ _ hd, getD_set _ _ _ _ hd]
    by_cases e : d = s
    · have e' : ¬ d = s' := fun q => hne (e.symm.trans q)
      simp only [e, if_true, e', if_false] at hz hz' ⊢
      rw [if_neg (fun q : s = s' => hne q)] at hz' ⊢
      exact fun q => hn s' _ hz' q.symm
    · by_cases e' : d = s'
      · simp only [e, if_false, e', if_true] at hz hz' ⊢
        rw [if_neg (fun q : s' = s => hne q.symm)] at hz ⊢
        exact hn s _ hz
      · simp only [e, e', if_false] at hz hz' ⊢
        exact h.apart s s' y y' hne hz hz'

theorem HR.since {lim : Nat} {T T' : Nat → Prop} {w w' : World} {ρ : Rho} {obs : List AO} (H : HR φ T w ρ obs) (s : Since lim T w ρ T' w' ρ) (hl : ∀ h, lim ≤ h → ρ h = none) (hT : ∀ b, T' b → b < w'.heap.size) : HR φ T' w' ρ obs where
  ob h o ho := by
    have hh := H.ob h o ho
    have key : ∀ i, ρ h = some i → w'.heap[i.blk]? = w.heap[i.blk]? ∧ ¬ T' i.blk := fun i hi => by
      have hb := H.has hi
      refine ⟨s.frame _ hb.1 (fun h' i' hl' hi' => by rw [hl h' hl'] at hi'; cases hi'), fun q => ?_⟩
      rcases s.tnew _ q with q | q
      · exact hb.2 q
      · exact absurd hb.1 (Nat.not_lt.2 q)
    cases o with
    | sl ver sz els =>
      obtain ⟨i, arr, t, e1, e2, e3, e4, e5, e6, e7, e8, e9, e10, e11⟩ := hh
      exact ⟨i, arr, t, e1, e2, e3, e4, (key i e1).1.trans e5, e6, e7, e8, fun k j e c a b => let ⟨u, q1, q2⟩ := e9 k j e c a b; ⟨u, q1, q2.mono s.ext⟩, e10, (key i e1).2⟩
    | mp es =>
      obtain ⟨i, ents, t, e1, e2, e3, e5, e6, e7, e8⟩ := hh
      exact ⟨i, ents, t, e1, e2, e3, (key i e1).1.trans e5, e6, fun k p e a b => ⟨(e7 k p e a b).1.mono s.ext, (e7 k p e a b).2.mono s.ext⟩, (key i e1).2⟩
    | it m n a =>
      obtain ⟨i, mi, seen, e1, e2, e3, e4, e5, e6, e7⟩ := hh
      exact ⟨i, mi, seen, e1, e2, e3, e4, (key i e1).1.trans e5, e6, (key i e1).2⟩
  out := H.out
  inj := H.inj
  old := hT
  gl := H.gl.ext s.ext

def pushW (w : World) (o : Obj) : World := { w with heap := w.heap.push o }

theorem push_old (w : World) (o : Obj) (b : Nat) (h : b < w.heap.size) : (pushW w o).heap[b]? = w.heap[b]? := by
  show (w.heap.push o)[b]? = _
  rw [Array.getElem?_push, if_neg (by omega)]

theorem push_new (w : World) (o : Obj) : (pushW w o).heap[w.heap.size]? = some o := by
  show (w.heap.push o)[w.heap.size]? = _
  simp

theorem thaws_push (w : World) (o : Obj) (ho : Thaw o) : Thaws w (pushW w o) := fun b h x hx => by
  have hx' : (w.heap.push o)[b]? = some x := hx
  rw [Array.getElem?_push] at hx'
  split at hx'
  · cases hx'; exact ho
  · exact h x hx'

/-- A new block; T may take it in. -/
theorem since_push {lim : Nat} {T : Nat → Prop} {w : World} {ρ : Rho} {obs : List AO} (H : HR φ T w ρ obs) (o : Obj) (T' : Nat → Prop) (h1 : ∀ b, T b → T' b) (h2 : ∀ b, T' b → T b ∨ b = w.heap.size) (ho : Thaw o := by first | rfl | trivial | assumption) :
    Since lim T w ρ T' (pushW w o) ρ where
  nf := thaws_push w o ho
  size := by simp [pushW]
  os := rfl
  tape := rfl
  output := rfl
  ext := ⟨h1, fun b hb => push_old w o b (H.old b hb), fun h i hi => ⟨i, hi, Nat.le_refl _, fun _ => rfl, fun _ => rfl⟩⟩
  tnew b hb := (h2 b hb).imp id (fun q => by omega)
  wb h i _ hi := .inr ⟨i, hi, rfl⟩
  low _ _ := rfl
  frame b hb _ := push_old w o b hb

theorem HR.pushOld {T : Nat → Prop} {w : World} {ρ : Rho} {obs : List AO} (H : HR φ T w ρ obs) (o : Obj) (T' : Nat → Prop) (h1 : ∀ b, T b → T' b) (h2 : ∀ b, T' b → T b ∨ b = w.heap.size) (ho : Thaw o := by first | rfl | trivial | assumption) : HR φ T' (pushW w o) ρ obs :=
  H.since (since_push (lim := obs.length) H o T' h1 h2) H.out (fun b hb => by
    rcases h2 b hb with q | q
    · have := H.old b q; simp [pushW]; omega
    · simp [pushW, q])

/-- A new object. -/
def setR (ρ : Rho) (h : Nat) (i : Info) : Rho := fun k => if k = h then some i else ρ k

theorem since_setR {lim : Nat} {T T' : Nat → Prop} {w w' : World} {ρ : Rho} (s : Since lim T w ρ T' w' ρ) (h : Nat) (i : Info) (hl : lim ≤ h) (hb : w.heap.size ≤ i.blk) (hn : ρ h = none) : Since lim T w ρ T' w' (setR ρ h i) where
  size := s.size
  os := s.os
  tape := s.tape
  output := s.output
  ext := ⟨s.ext.st, s.ext.heap, fun k j hj => ⟨j, by
    unfold setR
    rw [if_neg (fun q => by subst q; rw [hn] at hj; cases hj)]; exact hj, Nat.le_refl _, fun _ => rfl, fun _ => rfl⟩⟩
  tnew := s.tnew
  wb k j hk hj := by
    unfold setR at hj
    split at hj
    · cases hj; exact .inl hb
    · exact .inr ⟨j, hj, rfl⟩
  low k hk := by unfold setR; rw [if_neg (by omega)]
  frame := s.frame
  nf := s.nf

theorem Ext.setR_new {T : Nat → Prop} {w : World} {ρ : Rho} {h : Nat} {i : Info} (hn : ρ h = none) : Ext T w ρ T w (setR ρ h i) :=
  ⟨fun _ q => q, fun _ _ => rfl, fun k j hj => ⟨j, by
    unfold setR
    rw [if_neg (fun q => by subst q; rw [hn] at hj; cases hj)]; exact hj, Nat.le_refl _, fun _ => rfl, fun _ => rfl⟩⟩

theorem HR.pushObj {T : Nat → Prop} {w : World} {ρ : Rho} {obs : List AO} (H : HR φ T w ρ obs) (o : AO) (i : Info) (hb : ∀ h k, ρ h = some k → k.blk ≠ i.blk)
    (ho : OR φ T w (setR ρ obs.length i) obs.length o) : HR φ T w (setR ρ obs.length i) (obs ++ [o]) where
  ob h o' ho' := by
    have hn : ρ obs.length = none := H.out _ (Nat.le_refl _)
    rw [List.getElem?_append] at ho'
    split at ho'
    · rename_i hlt
      have hh := H.ob h o' ho'
      have e : setR ρ obs.length i h = ρ h := by unfold setR; rw [if_neg (by omega)]
      cases o' with
      | sl ver sz els =>
        obtain ⟨i', arr, t, e1, e2, e3, e4, e5, e6, e7, e8, e9, e10, e11⟩ := hh
        exact ⟨i', arr, t, e.trans e1, e2, e3, e4, e5, e6, e7, e8, fun k j e c a b => let ⟨u, q1, q2⟩ := e9 k j e c a b; ⟨u, q1, q2.mono (Ext.setR_new hn)⟩, e10, e11⟩
      | mp es =>
        obtain ⟨i', ents, t, e1, e2, e3, e5, e6, e7, e8⟩ := hh
        exact ⟨i', ents, t, e.trans e1, e2, e3, e5, e6, fun k p e a b => ⟨(e7 k p e a b).1.mono (Ext.setR_new hn), (e7 k p e a b).2.mono (Ext.setR_new hn)⟩, e8⟩
      | it m n a =>
        obtain ⟨i', mi, seen, e1, e2, e3, e4, e5, e6, e7⟩ := hh
        obtain ⟨mi', q1, _, _, q2⟩ := (Ext.setR_new (T := T) (w := w) (i := i) hn).rho _ _ e4.1
        have := q2 e4.2
        subst this
        exact ⟨i', mi', seen, e.trans e1, e2, e3, ⟨q1, e4.2⟩, e5, e6, e7⟩
    · rename_i hge
      have : h = obs.length := by
        rcases Nat.lt_or_ge (h - obs.length) 1 with q | q
        · omega
        · rw [List.getElem?_eq_none (by simpa using q)] at ho'; cases ho'
      subst this
      simp at ho'
      subst ho'
      exact ho
  out h hh := by
    simp at hh
    unfold setR
    rw [if_neg (by omega)]
    exact H.out h (by omega)
  inj h h' a b ha hb' e := by
    unfold setR at ha hb'
    split at ha <;> split at hb'
    · omega
    · cases ha; exact absurd e.symm (hb _ _ hb')
    · cases hb'; exact absurd e (hb _ _ ha)
    · exact H.inj h h' a b ha hb' e
  old := H.old
  gl := H.gl

/-- A block of an object is written. -/
def setB (w : World) (b : Nat) (o : Obj) : World := { w with heap := w.heap.setIfInBounds b o }

theorem setB_far (w : World) (b : Nat) (o : Obj) (k : Nat) (h : k ≠ b) : (setB w b o).heap[k]? = w.heap[k]? := by
  show (w.heap.setIfInBounds b o)[k]? = _
  rw [Array.getElem?_setIfInBounds, if_neg (fun q => h q.symm)]

theorem setB_at (w : World) (b : Nat) (o : Obj) (h : b < w.heap.size) : (setB w b o).heap[b]? = some o := by
  show (w.heap.setIfInBounds b o)[b]? = _
  simp [h]

theorem thaws_setB (w : World) (b : Nat) (o : Obj) (ho : Thaw o) : Thaws w (setB w b o) := fun k h x hx => by
  have hx' : (w.heap.setIfInBounds b o)[k]? = some x := hx
  rw [Array.getElem?_setIfInBounds] at hx'
  split at hx'
  · split at hx'
    · cases hx'; exact ho
    · cases hx'
  · exact h x hx'

theorem since_setB {lim : Nat} {T : Nat → Prop} {w : World} {ρ : Rho} {obs : List AO} (H : HR φ T w ρ obs) {h : Nat} {i : Info} (hi : ρ h = some i) (hl : lim ≤ h) (o : Obj) (j : Info)
    (hj : j.blk = i.blk ∧ i.ver ≤ j.ver ∧ (i.ver = j.ver → j = i) ∧ i.sz ≠ 0) (ho : Thaw o := by first | rfl | trivial | assumption) : Since lim T w ρ T (setB w i.blk o) (setR ρ h j) where
  nf := thaws_setB w i.blk o ho
  size := by simp [setB]
  os := rfl
  tape := rfl
  output := rfl
  ext := ⟨fun _ q => q, fun b hb => setB_far _ _ _ _ (fun e => (H.has hi).2 (e ▸ hb)), fun k i' hk => by
    unfold setR
    by_cases e : k = h
    · subst e; rw [hi] at hk; cases hk
      exact ⟨j, by simp, hj.2.1, hj.2.2.1, fun q => absurd q hj.2.2.2⟩
    · exact ⟨i', by rw [if_neg e]; exact hk, Nat.le_refl _, fun _ => rfl, fun _ => rfl⟩⟩
  tnew b hb := .inl hb
  wb k i' hk hi' := by
    unfold setR at hi'
    split at hi'
    · rename_i e; cases hi'; subst e; exact .inr ⟨i, hi, hj.1.symm⟩
    · exact .inr ⟨i', hi', rfl⟩
  low k hk := by unfold setR; rw [if_neg (by omega)]
  frame b hb hn := setB_far _ _ _ _ (fun e => hn h i hl hi e.symm)

/-- An object moves to another block. -/
theorem since_move {lim : Nat} {T T' : Nat → Prop} {w w' : World} {ρ : Rho} (s : Since lim T w ρ T' w' ρ) {h : Nat} {i : Info} (hi : ρ h = some i) (hl : lim ≤ h) (j : Info)
    (hj : w.heap.size ≤ j.blk ∧ i.ver < j.ver ∧ i.sz ≠ 0) : Since lim T w ρ T' w' (setR ρ h j) where
  size := s.size
  os := s.os
  tape := s.tape
  output := s.output
  ext := ⟨s.ext.st, s.ext.heap, fun k i' hk => by
    unfold setR
    by_cases e : k = h
    · subst e; rw [hi] at hk; cases hk
      exact ⟨j, by simp, by omega, fun q => by omega, fun q => absurd q hj.2.2⟩
    · exact ⟨i', by rw [if_neg e]; exact hk, Nat.le_refl _, fun _ => rfl, fun _ => rfl⟩⟩
  tnew := s.tnew
  wb k i' hk hi' := by
    unfold setR at hi'
    split at hi'
    · cases hi'; exact .inl hj.1
    · exact .inr ⟨i', hi', rfl⟩
  low k hk := by unfold setR; rw [if_neg (by omega)]
  frame := s.frame
  nf := s.nf

/-- One object is another one now; the others are as they were. -/
theorem HR.putObj {T T' : Nat → Prop} {w w' : World} {ρ : Rho} {obs : List AO} (H : HR φ T w ρ obs) {h : Nat} (hh : h < obs.length) (j : Info) (o : AO)
    (hs : Ext T w ρ T' w' (setR ρ h j)) (hT : ∀ b, T' b → T b ∨ w.heap.size ≤ b) (hT2 : ∀ b, T' b → b < w'.heap.size)
    (hk : ∀ k i, k ≠ h → ρ k = some i → i.blk ≠ j.blk ∧ w'.heap[i.blk]? = w.heap[i.blk]?) (ho : OR φ T' w' (setR ρ h j) h o) : HR φ T' w' (setR ρ h j) (obs.set h o) where
  ob k o' ho' := by
    by_cases e : k = h
    · subst e
      rw [List.getElem?_set_self hh] at ho'
      cases ho'
      exact ho
    · rw [List.getElem?_set_ne (fun q => e q.symm)] at ho'
      have hh := H.ob k o' ho'
      have er : setR ρ h j k = ρ k := by unfold setR; rw [if_neg e]
      have nt : ∀ i, ρ k = some i → ¬ T' i.blk := fun i hi q => by
        have hb := H.has hi
        rcases hT _ q with q | q
        · exact hb.2 q
        · omega
      cases o' with
      | sl ver sz els =>
        obtain ⟨i', arr, t, e1, e2, e3, e4, e5, e6, e7, e8, e9, e10, e11⟩ := hh
        exact ⟨i', arr, t, er.trans e1, e2, e3, e4, (hk k i' e e1).2.trans e5, e6, e7, e8, fun k j e c a b => let ⟨u, q1, q2⟩ := e9 k j e c a b; ⟨u, q1, q2.mono hs⟩, e10, nt i' e1⟩
      | mp es =>
        obtain ⟨i', ents, t, e1, e2, e3, e5, e6, e7, e8⟩ := hh
        exact ⟨i', ents, t, er.trans e1, e2, e3, (hk k i' e e1).2.trans e5, e6, fun k p e a b => ⟨(e7 k p e a b).1.mono hs, (e7 k p e a b).2.mono hs⟩, nt i' e1⟩
      | it m n a =>
        obtain ⟨i', mi, seen, e1, e2, e3, e4, e5, e6, e7⟩ := hh
        obtain ⟨mi', q1, _, _, q2⟩ := hs.rho _ _ e4.1
        have := q2 e4.2
        subst this
        exact ⟨i', mi', seen, er.trans e1, e2, e3, ⟨q1, e4.2⟩, (hk k i' e e1).2.trans e5, e6, nt i' e1⟩
  out k hk' := by
    simp at hk'
    unfold setR
    rw [if_neg (by omega)]
    exact H.out k hk'
  inj k k' a b ha hb e := by
    unfold setR at ha hb
    split at ha <;> split at hb
    · omega
    · rename_i q q'; cases ha; exact absurd e.symm (hk _ _ q' hb).1
    · rename_i q q'; cases hb; exact absurd e (hk _ _ q ha).1
    · exact H.inj k k' a b ha hb e
  old := hT2
  gl := H.gl.ext hs

/-- What a live handle is. -/
theorem HR.live {T : Nat → Prop} {w : World} {ρ : Rho} {H : Hp} (R : HR φ T w ρ H.obs) {h ver : Nat} {ob : Nat × List (List AV)} (hg : H.get h ver = some ob) :
    h < H.obs.length ∧ H.obs[h]? = some (.sl ver ob.1 ob.2) ∧ ∃ i arr t, ρ h = some i ∧ i.ver = ver ∧ i.sz = ob.1 ∧ 0 < ob.1 ∧ w.heap[i.blk]? = some (.cells arr t (0, 0)) ∧ arr.size = i.cap * ob.1 ∧ ob.2.length ≤ i.cap ∧
      (∀ e ∈ ob.2, e.length = ob.1) ∧ (∀ (k j : Nat) (e : List AV) (c : AV), ob.2[k]? = some e → e[j]? = some c → ∃ u, arr[k * ob.1 + j]? = some u ∧ VR φ T w ρ true c u) ∧ (∀ u ∈ arr.toList, u.oneCell' = true) ∧ ¬ T i.blk := by
  unfold Hp.get at hg
  cases ho : H.obs[h]? with
  | none => rw [ho] at hg; cases hg
  | some o =>
    rw [ho] at hg
    cases o with
    | mp es => cases hg
    | it m n a => cases hg
    | sl ver' sz els =>
      simp only at hg
      split at hg
      · rename_i e
        cases hg
        subst e
        exact ⟨(List.getElem?_eq_some_iff.1 ho).1, rfl, R.ob h _ ho⟩
      · cases hg
end Sx
