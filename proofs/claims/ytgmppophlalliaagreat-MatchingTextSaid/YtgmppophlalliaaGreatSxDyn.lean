/-
  Sx: regions whose operations are told apart by the objects that they look at.
-/
import Derived.Test.YtgmppophlalliaaGreatSxSound
namespace Sx
open Go
set_option linter.unusedSimpArgs false
set_option linter.unusedVariables false

/-- What becomes of the heap. -/
inductive HE where
  | no
  | put (h : Nat) (o : AO)
  | push (o : AO)

def HE.app (H : Hp) : HE → Hp
  | .no => H
  | .put h o => H.put h o
  | .push o => H.push o

def HE.inn (fp : FP) : HE → Prop
  | .no => True
  | .put h _ => h ∈ fp.wr ∧ fp.push = false
  | .push _ => fp.push = true

theorem get_agree {H H' : Hp} {h ver : Nat} (e : H'.obs[h]? = H.obs[h]?) : H'.get h ver = H.get h ver := by
  unfold Hp.get; rw [e]

theorem evLoad_agree {H H' : Hp} {k : Option Nat} {p : AV} (e : ∀ h ∈ hOf p, H'.obs[h]? = H.obs[h]?) : evLoad H' k p = evLoad H k p := by
  unfold evLoad
  split
  · rfl
  · rw [get_agree (e _ (by simp [hOf]))]
  · rfl

theorem evIadr_agree {H H' : Hp} {sz : Nat} {x i : AV} (e : ∀ h ∈ hOf x, H'.obs[h]? = H.obs[h]?) : evIadr H' sz x i = evIadr H sz x i := by
  unfold evIadr
  split
  · rfl
  · rw [get_agree (e _ (by simp [hOf]))]
  · rfl

theorem evLen_agree {H H' : Hp} {k : Nat} {x : AV} (e : ∀ h ∈ hOf x, H'.obs[h]? = H.obs[h]?) : evLen H' k x = evLen H k x := by
  unfold evLen
  split <;> first | rfl | skip
  · rw [get_agree (e _ (by simp [hOf]))]
  · rw [e _ (by simp [hOf])]

theorem evNil_agree {H H' : Hp} {x : AV} (e : ∀ h ∈ hOf x, H'.obs[h]? = H.obs[h]?) : evNil H' x = evNil H x := by
  unfold evNil
  split <;> first | rfl | skip
  rw [evLen_agree e]

theorem evSlcH_agree {H H' : Hp} {sz : Nat} {tm : Env} {x : AV} {lo hi mx : Option Opd} (e : ∀ h ∈ hOf x, H'.obs[h]? = H.obs[h]?) : evSlcH H' sz tm x lo hi mx = evSlcH H sz tm x lo hi mx := by
  unfold evSlcH
  split <;> first | rfl | skip
  rw [get_agree (e _ (by simp [hOf]))]

theorem evEls_agree {H H' : Hp} {sz : Nat} {x : AV} (e : ∀ h ∈ hOf x, H'.obs[h]? = H.obs[h]?) : evEls H' sz x = evEls H sz x := by
  unfold evEls
  split <;> first | rfl | skip
  rw [get_agree (e _ (by simp [hOf]))]

/-- What an operation does to the heap, whatever the rest of the heap is. -/
def Alike (call : CallF) (tm : Env) (H : Hp) (op : MO) (e : Eff) (he : HE) : Prop :=
  effH H e = he.app H ∧ he.inn (evFP tm H op) ∧
  ∀ H' : Hp, H'.lim = H.lim → (∀ h ∈ (evFP tm H op).rd, H'.obs[h]? = H.obs[h]?) → ((evFP tm H op).push = true → H'.obs.length = H.obs.length) →
    evFP tm H' op = evFP tm H op ∧ ∃ e', evO call tm H' op = some e' ∧ effH H' e' = he.app H' ∧ ∀ d, effW d e' = effW d e

theorem alike_still {call : CallF} {tm : Env} {H : Hp} {op : MO} {e : Eff} (hr : op.readsH = false) (hw : op.writesH (fun _ => false) = false) (hf : ∀ H', evFP tm H' op = evFP tm H op) (he : evO call tm H op = some e) : Alike call tm H op e .no := by
  have hp : PureOK (fun _ => false) call := fun _ _ _ _ h => by cases h
  refine ⟨effH_same hp hw he, trivial, fun H' _ _ _ => ⟨hf H', e, ?_, ?_, fun _ => rfl⟩⟩
  · rw [← he]; exact evO_congr call op (fun _ _ => rfl) (fun h => by rw [hr] at h; cases h)
  · have : evO call tm H' op = some e := by rw [← he]; exact evO_congr call op (fun _ _ => rfl) (fun h => by rw [hr] at h; cases h)
    exact effH_same hp hw this

theorem alike {call : CallF} {tm : Env} {H : Hp} {op : MO} {e : Eff} (hall : (evFP tm H op).all = false) (he : evO call tm H op = some e) : ∃ x, Alike call tm H op e x := by
  cases op with
  | mv x => exact ⟨_, alike_still rfl rfl (fun _ => rfl) he⟩
  | pick c a b => exact ⟨_, alike_still rfl rfl (fun _ => rfl) he⟩
  | alloc z => exact ⟨_, alike_still rfl rfl (fun _ => rfl) he⟩
  | box n x => exact ⟨_, alike_still rfl rfl (fun _ => rfl) he⟩
  | build z ps => exact ⟨_, alike_still rfl rfl (fun _ => rfl) he⟩
  | bin op x y => exact ⟨_, alike_still rfl rfl (fun _ => rfl) he⟩
  | eqn n ks x y => exact ⟨_, alike_still rfl rfl (fun _ => rfl) he⟩
  | eqb n x y => exact ⟨_, alike_still rfl rfl (fun _ => rfl) he⟩
  | un op x => exact ⟨_, alike_still rfl rfl (fun _ => rfl) he⟩
  | conv k x => exact ⟨_, alike_still rfl rfl (fun _ => rfl) he⟩
  | fld o k x => exact ⟨_, alike_still rfl rfl (fun _ => rfl) he⟩
  | fadr o x => exact ⟨_, alike_still rfl rfl (fun _ => rfl) he⟩
  | idx l s k x i => exact ⟨_, alike_still rfl rfl (fun _ => rfl) he⟩
  | sidx x i => exact ⟨_, alike_still rfl rfl (fun _ => rfl) he⟩
  | mx xs => exact ⟨_, alike_still rfl rfl (fun _ => rfl) he⟩
  | mn xs => exact ⟨_, alike_still rfl rfl (fun _ => rfl) he⟩
  | ext x i => exact ⟨_, alike_still rfl rfl (fun _ => rfl) he⟩
  | nck x => exact ⟨_, alike_still rfl rfl (fun _ => rfl) he⟩
  | s2b x => exact ⟨_, alike_still rfl rfl (fun _ => rfl) he⟩
  | mkf g xs => exact ⟨_, alike_still rfl rfl (fun _ => rfl) he⟩
  | mkb g xs => exact ⟨_, alike_still rfl rfl (fun _ => rfl) he⟩
  | nop => exact ⟨_, alike_still rfl rfl (fun _ => rfl) he⟩
  | call g xs => cases hall
  | callv f xs => cases hall
  | look s ks z ok m k => cases hall
  | mput s ks m k x => cases hall
  | rng m => cases hall
  | ent x => cases hall
  | lit sz z ps m =>
    cases m with
    | false => exact ⟨_, alike_still rfl rfl (fun _ => rfl) he⟩
    | true =>
      simp only [evO, Option.bind_eq_some_iff, if_true, Option.some.injEq] at he
      obtain ⟨cs, hcs, rfl⟩ := he
      refine ⟨.push _, rfl, rfl, fun H' h1 h2 h3 => ?_⟩
      have hl := h3 rfl
      exact ⟨by simp only [evFP, hl], _, by simp only [evO, hcs, Option.bind_some, if_true]; rfl, rfl, fun d => by simp only [effW, hl]⟩
  | new z =>
    cases he
    refine ⟨.push _, rfl, rfl, fun H' h1 h2 h3 => ?_⟩
    have hl := h3 rfl
    exact ⟨by simp only [evFP, hl], _, rfl, rfl, fun d => by simp only [effW, hl]⟩
  | mat n s x =>
    simp only [evO] at he
    split at he
    · rename_i z hz
      split at he
      · rename_i hc
        cases he
        refine ⟨.push _, rfl, rfl, fun H' h1 h2 h3 => ?_⟩
        have hl := h3 rfl
        exact ⟨by simp only [evFP, hl], _, by simp only [evO, hz, if_pos hc]; rfl, rfl, fun d => by simp only [effW, hl]⟩
      · cases he
    · cases he
  | boxm n x =>
    simp only [evO] at he
    split at he
    · rename_i hc
      cases he
      refine ⟨.push _, rfl, rfl, fun H' h1 h2 h3 => ?_⟩
      have hl := h3 rfl
      exact ⟨by simp only [evFP, hl], _, by simp only [evO, if_pos hc]; rfl, rfl, fun d => by simp only [effW, hl]⟩
    · cases he
  | mkmap =>
    cases he
    refine ⟨.push _, rfl, rfl, fun H' h1 h2 h3 => ?_⟩
    have hl := h3 rfl
    exact ⟨by simp only [evFP, hl], _, rfl, rfl, fun d => by simp only [effW, hl]⟩
  | mks sz b z l c =>
    simp only [evO] at he
    split at he
    · rename_i k n k' m hn hm
      split at he
      · rename_i hc
        cases he
        refine ⟨.push _, rfl, rfl, fun H' h1 h2 h3 => ?_⟩
        have hl := h3 rfl
        exact ⟨by simp only [evFP, hl], _, by simp only [evO, hn, hm, if_pos hc]; rfl, rfl, fun d => by simp only [effW, hl]⟩
      · cases he
    · cases he
  | load k x =>
    simp only [evO, Option.map_eq_some_iff] at he
    obtain ⟨v, hv, rfl⟩ := he
    refine ⟨.no, rfl, trivial, fun H' h1 h2 h3 => ⟨rfl, .val v, ?_, rfl, fun _ => rfl⟩⟩
    simp only [evO, evLoad_agree h2, hv, Option.map_some]
  | iadr sz x i =>
    simp only [evO, Option.map_eq_some_iff] at he
    obtain ⟨v, hv, rfl⟩ := he
    refine ⟨.no, rfl, trivial, fun H' h1 h2 h3 => ⟨rfl, .val v, ?_, rfl, fun _ => rfl⟩⟩
    simp only [evO, evIadr_agree h2, hv, Option.map_some]
  | len k x =>
    simp only [evO, Option.map_eq_some_iff] at he
    obtain ⟨v, hv, rfl⟩ := he
    refine ⟨.no, rfl, trivial, fun H' h1 h2 h3 => ⟨rfl, .val v, ?_, rfl, fun _ => rfl⟩⟩
    simp only [evO, evLen_agree h2, hv, Option.map_some]
  | nilq neg x =>
    simp only [evO, Option.map_eq_some_iff] at he
    obtain ⟨v, hv, rfl⟩ := he
    refine ⟨.no, rfl, trivial, fun H' h1 h2 h3 => ⟨rfl, .val _, ?_, rfl, fun _ => rfl⟩⟩
    simp only [evO, evNil_agree h2, hv, Option.map_some]
  | slc s x lo hi mx =>
    simp only [evO, Option.map_eq_some_iff] at he
    obtain ⟨v, hv, rfl⟩ := he
    refine ⟨.no, rfl, trivial, fun H' h1 h2 h3 => ⟨rfl, .val v, ?_, rfl, fun _ => rfl⟩⟩
    simp only [evO, evSlcH_agree h2, hv, Option.map_some]
  | store n a x =>
    simp only [evO] at he
    split at he
    · rename_i hc
      split at he
      · rename_i av s z hz
        split at he
        · rename_i hzl
          cases he
          refine ⟨.no, rfl, trivial, fun H' h1 h2 h3 => ⟨rfl, .slot s (.rp (ev tm x).cells), ?_, rfl, fun _ => rfl⟩⟩
          simp only [evO, if_pos hc, hz, if_pos hzl]
        · cases he
      · rename_i a0 a1 q h ver i o hs
        simp only [Option.bind_eq_some_iff] at he
        obtain ⟨ob, hg, he⟩ := he
        split at he
        · rename_i hl
          simp only [Option.bind_eq_some_iff, Option.map_eq_some_iff] at he
          obtain ⟨el, hel, e', he', rfl⟩ := he
          refine ⟨.put h (.sl ver ob.1 (ob.2.set i e')), rfl, ⟨by simp only [evFP, hs, hOf, List.mem_singleton], rfl⟩, fun H' h1 h2 h3 => ⟨rfl, .hp (H'.put h (.sl ver ob.1 (ob.2.set i e'))), ?_, rfl, fun _ => rfl⟩⟩
          have hg' : H'.get h ver = some ob := by rw [get_agree (h2 h (by simp only [evFP, hs, hOf, List.mem_singleton]))]; exact hg
          cases a0 with
          | t n => simp only [evO, if_pos hc, hs, hg', Option.bind_some, h1, if_pos hl, hel, he', Option.map_some]
          | c v => simp only [evO, if_pos hc, hs, hg', Option.bind_some, h1, if_pos hl, hel, he', Option.map_some]
          | f g => simp only [evO, if_pos hc, hs, hg', Option.bind_some, h1, if_pos hl, hel, he', Option.map_some]
        · cases he
      · cases he
    · cases he
  | app sz b x y =>
    simp only [evO, Option.map_eq_some_iff] at he
    obtain ⟨r, hr, rfl⟩ := he
    unfold evApp at hr
    simp only [Option.bind_eq_some_iff] at hr
    obtain ⟨ys, hys, hr⟩ := hr
    split at hr
    · rename_i hx
      have hfp : ∀ H' : Hp, evFP tm H' (.app sz b x y) = ⟨hOf (ev tm y), [H'.obs.length], true, false⟩ := fun H' => by simp only [evFP, hx]
      split at hr
      · rename_i hc
        split at hr
        · rename_i h0
          cases hr
          refine ⟨.no, rfl, trivial, fun H' h1 h2 h3 => ?_⟩
          rw [hfp] at h2 h3
          have hl := h3 rfl
          exact ⟨by rw [hfp, hfp, hl], .valH (.v (.slice none 0 0)) H', by simp only [evO, evApp, evEls_agree h2, hys, Option.bind_some, hx, if_pos hc, if_pos h0, Option.map_some], rfl, fun _ => rfl⟩
        · rename_i h0
          cases hr
          refine ⟨.push (.sl 0 sz ys), rfl, by rw [hfp]; rfl, fun H' h1 h2 h3 => ?_⟩
          rw [hfp] at h2 h3
          have hl := h3 rfl
          exact ⟨by rw [hfp, hfp, hl], .valH (.sl H'.obs.length 0 0 ys.length) (H'.push (.sl 0 sz ys)), by simp only [evO, evApp, evEls_agree h2, hys, Option.bind_some, hx, if_pos hc, if_neg h0, Option.map_some], rfl, fun d => by simp only [effW, hl]⟩
      · cases hr
    · rename_i h ver off len hx
      simp only [Option.bind_eq_some_iff] at hr
      obtain ⟨ob, hg, hr⟩ := hr
      have hfp : ∀ H' : Hp, evFP tm H' (.app sz b x y) = ⟨h :: hOf (ev tm y), [h], false, false⟩ := fun H' => by simp only [evFP, hx]
      split at hr
      · rename_i hc
        cases hr
        refine ⟨.put h (.sl (ver + 1) sz (ob.2.take len ++ ys)), rfl, by rw [hfp]; exact ⟨by simp, rfl⟩, fun H' h1 h2 h3 => ?_⟩
        rw [hfp] at h2 h3
        have hg' : H'.get h ver = some ob := by rw [get_agree (h2 h (by simp))]; exact hg
        exact ⟨by rw [hfp, hfp], .valH (.sl h (ver + 1) 0 (len + ys.length)) (H'.put h (.sl (ver + 1) sz (ob.2.take len ++ ys))),
          by simp only [evO, evApp, evEls_agree (x := ev tm y) (fun q hq => h2 q (List.mem_cons_of_mem _ hq)), hys, Option.bind_some, hx, hg', h1, if_pos hc, Option.map_some], rfl, fun d => rfl⟩
      · cases hr
    · cases hr
/-- The bound never turns, and no object goes. -/
def HpLe (H H' : Hp) : Prop := H'.lim = H.lim ∧ H.obs.length ≤ H'.obs.length

theorem HpLe.refl (H : Hp) : HpLe H H := ⟨rfl, Nat.le_refl _⟩
theorem HpLe.trans {a b c : Hp} (h : HpLe a b) (k : HpLe b c) : HpLe a c := ⟨k.1.trans h.1, Nat.le_trans h.2 k.2⟩
theorem HpLe.push (H : Hp) (o : AO) : HpLe H (H.push o) := ⟨rfl, by simp [Hp.push]⟩
theorem HpLe.put (H : Hp) (h : Nat) (o : AO) : HpLe H (H.put h o) := ⟨rfl, by simp [Hp.put]⟩

def LimOK (call : CallF) : Prop := ∀ (g : Nat) (as : List AV) (H : Hp) (r : AV × Hp), call g as H = some r → HpLe H r.2

theorem evApp_le {H : Hp} {sz bytes : Nat} {x y : AV} {r : AV × Hp} (h : evApp H sz bytes x y = some r) : HpLe H r.2 := by
  unfold evApp at h
  simp only [Option.bind_eq_some_iff] at h
  obtain ⟨ys, _, h⟩ := h
  split at h
  · split at h
    · split at h
      · cases h; exact .refl _
      · cases h; exact .push _ _
    · cases h
  · simp only [Option.bind_eq_some_iff] at h
    obtain ⟨o, _, h⟩ := h
    split at h
    · cases h; exact .put _ _ _
    · cases h
  · cases h

theorem effH_le {call : CallF} (hc : LimOK call) {tm : Env} {H : Hp} {op : MO} {e : Eff} (he : evO call tm H op = some e) : HpLe H (effH H e) := by
  cases op <;> simp only [evO] at he
  case nilq neg x =>
    simp only [Option.map_eq_some_iff] at he
    obtain ⟨b, _, rfl⟩ := he
    exact .refl _
  case lit sz z ps b =>
    simp only [Option.bind_eq_some_iff] at he
    obtain ⟨cs, _, he⟩ := he
    split at he
    · cases he; exact .push _ _
    · split at he
      · cases he; exact .refl _
      · cases he
  case new z => cases he; exact .push _ _
  case mat n s x =>
    split at he
    · split at he
      · cases he; exact .push _ _
      · cases he
    · cases he
  case boxm n x =>
    split at he
    · cases he; exact .push _ _
    · cases he
  case mks =>
    split at he
    · split at he
      · cases he; exact .push _ _
      · cases he
    · cases he
  case app =>
    simp only [Option.map_eq_some_iff] at he
    obtain ⟨r, hr, rfl⟩ := he
    exact evApp_le hr
  case store n a x =>
    split at he
    · split at he
      · split at he
        · cases he; exact .refl _
        · cases he
      · simp only [Option.bind_eq_some_iff] at he
        obtain ⟨ob, _, he⟩ := he
        split at he
        · simp only [Option.bind_eq_some_iff, Option.map_eq_some_iff] at he
          obtain ⟨_, _, _, _, rfl⟩ := he
          exact .put _ _ _
        · cases he
      · cases he
    · cases he
  case call g xs =>
    split at he
    · simp only [Option.map_eq_some_iff] at he
      obtain ⟨r, hr, rfl⟩ := he
      exact hc g _ H r hr
    · cases he
  case callv f xs =>
    split at he
    · split at he
      · simp only [Option.map_eq_some_iff] at he
        obtain ⟨r, hr, rfl⟩ := he
        exact hc _ _ H r hr
      · cases he
    · cases he
  case mkmap => cases he; exact .push _ _
  case rng m =>
    split at he
    · split at he
      · cases he; exact .push _ _
      · cases he
    · cases he
  case mput st ks m k x =>
    split at he
    · split at he
      · split at he
        · simp only [Option.map_eq_some_iff] at he
          obtain ⟨_, _, rfl⟩ := he
          exact .put _ _ _
        · cases he
      · cases he
    · cases he
  case ent x =>
    split at he
    · split at he
      · split at he
        · split at he
          · simp only [Option.bind_eq_some_iff, Option.map_eq_some_iff] at he
            obtain ⟨_, _, _, _, rfl⟩ := he
            exact .refl _
          · cases he
        · cases he
      · cases he
    · cases he
  case eqn n ks x y =>
    simp only [Option.map_eq_some_iff] at he
    obtain ⟨_, _, rfl⟩ := he
    exact .refl _
  case eqb n x y =>
    simp only [Option.map_eq_some_iff] at he
    obtain ⟨_, _, rfl⟩ := he
    exact .refl _
  all_goals (repeat' split at he) <;> simp at he
  all_goals (try (obtain ⟨_, _, he⟩ := he)) <;> (try subst he) <;> first | exact .refl _ | skip


/-! ### Two operations, one behind the other -/

theorem evFP_congr {tm tm' : Env} (H : Hp) : ∀ (op : MO), (∀ x ∈ op.opds, ev tm x = ev tm' x) → evFP tm H op = evFP tm' H op := by
  intro op h
  cases op with
  | lit sz z ps m => cases m <;> rfl
  | load k x => simp only [evFP, h x (by simp [MO.opds, opdsOf])]
  | iadr s x i => simp only [evFP, h x (by simp [MO.opds, opdsOf])]
  | len k x => simp only [evFP, h x (by simp [MO.opds, opdsOf])]
  | nilq k x => simp only [evFP, h x (by simp [MO.opds, opdsOf])]
  | slc sz x lo hi mx => simp only [evFP, h x (by simp [MO.opds, opdsOf])]
  | store n a x => simp only [evFP, h a (by simp [MO.opds, opdsOf])]
  | app s b x y => simp only [evFP, h x (by simp [MO.opds, opdsOf]), h y (by simp [MO.opds, opdsOf])]
  | _ => rfl

theorem evFP_push {tm : Env} {H : Hp} {op : MO} (h : (evFP tm H op).push = true) : (evFP tm H op).wr = [H.obs.length] := by
  cases op with
  | lit sz z ps m => cases m <;> first | rfl | (simp [evFP] at h)
  | app s b x y =>
    simp only [evFP] at h ⊢
    split at h
    · cases h
    · rfl
  | _ => first | rfl | (simp [evFP] at h)

theorem fpOf_push {st : St} {m : MOp} (h : (fpOf st m).push = true) : (fpOf st m).wr = [st.hp.obs.length] := by
  unfold fpOf at h ⊢
  split at h
  · exact evFP_push h
  · cases h

def SameR (m : MOp) (a b : St) : Prop := ∀ s ∈ m.reads, get s a.tmps = get s b.tmps

theorem SameR.want {m : MOp} {a b : St} (h : SameR m a b) : wanted a.tmps m.guard = wanted b.tmps m.guard :=
  wanted_congr m.guard (fun s w e => h s (by simp [MOp.reads, e]))

theorem SameR.opds {m : MOp} {a b : St} (h : SameR m a b) : ∀ x ∈ m.op.opds, ev a.tmps x = ev b.tmps x := fun x hx => slots_congr fun s hs => h s (by
  unfold MOp.reads
  rw [List.mem_append, List.mem_flatMap]
  exact .inr ⟨x, hx, hs⟩)

theorem fpOf_same {m : MOp} {a b : St} (h : SameR m a b) (hh : a.hp = b.hp) : fpOf a m = fpOf b m := by
  unfold fpOf
  rw [h.want, hh]
  split
  · exact evFP_congr _ _ h.opds
  · rfl

def AlikeM (call : CallF) (st : St) (m : MOp) (e : Eff) (he : HE) : Prop :=
  effH st.hp e = he.app st.hp ∧ he.inn (fpOf st m) ∧
  ∀ st' : St, SameR m st' st → st'.hp.lim = st.hp.lim → (∀ h ∈ (fpOf st m).rd, st'.hp.obs[h]? = st.hp.obs[h]?) → ((fpOf st m).push = true → st'.hp.obs.length = st.hp.obs.length) →
    fpOf st' m = fpOf st m ∧ ∃ e', evE call st' m = some e' ∧ effH st'.hp e' = he.app st'.hp ∧ ∀ d, effW d e' = effW d e

theorem alikeM {call : CallF} {st : St} {m : MOp} {e : Eff} (hall : (fpOf st m).all = false) (he : evE call st m = some e) : ∃ x, AlikeM call st m e x := by
  unfold evE at he
  cases hw : wanted st.tmps m.guard with
  | none => rw [hw] at he; cases he
  | some b =>
    cases b with
    | true =>
      rw [hw] at he
      simp only at he
      have hf : fpOf st m = evFP st.tmps st.hp m.op := by unfold fpOf; rw [hw]
      rw [hf] at hall
      obtain ⟨x, h1, h2, h3⟩ := alike hall he
      refine ⟨x, h1, by rw [hf]; exact h2, fun st' s1 s2 s3 s4 => ?_⟩
      rw [hf] at s3 s4
      obtain ⟨q1, e', q2, q3, q4⟩ := h3 st'.hp s2 s3 s4
      have hw' : wanted st'.tmps m.guard = some true := by rw [s1.want, hw]
      refine ⟨?_, e', ?_, q3, q4⟩
      · rw [hf, ← q1]; unfold fpOf; rw [hw']; exact evFP_congr _ _ s1.opds
      · unfold evE; rw [hw']; simp only; rw [← q2]; exact evO_congr call m.op s1.opds (fun _ => rfl)
    | false =>
      rw [hw] at he
      cases he
      have hf : fpOf st m = ⟨[], [], false, false⟩ := by unfold fpOf; rw [hw]
      refine ⟨.no, rfl, trivial, fun st' s1 s2 s3 s4 => ?_⟩
      have hw' : wanted st'.tmps m.guard = some false := by rw [s1.want, hw]
      exact ⟨by rw [hf]; unfold fpOf; rw [hw'], _, by unfold evE; rw [hw'], rfl, fun _ => rfl⟩

theorem HE.app_lim (H : Hp) (x : HE) : (x.app H).lim = H.lim := by cases x <;> rfl

theorem HE.app_len {fp : FP} (H : Hp) (x : HE) (h : x.inn fp) (hp : fp.push = false) : (x.app H).obs.length = H.obs.length := by
  cases x with
  | no => rfl
  | put h o => simp [HE.app, Hp.put]
  | push o => rw [show fp.push = true from h] at hp; cases hp

theorem HE.app_get {fp : FP} (H : Hp) (x : HE) (hi : x.inn fp) (hp : fp.push = true → fp.wr = [H.obs.length]) {h : Nat} (hh : h ∉ fp.wr) : (x.app H).obs[h]? = H.obs[h]? := by
  cases x with
  | no => rfl
  | put k o =>
    have : k ≠ h := fun e => hh (e ▸ hi.1)
    simp only [HE.app, Hp.put]
    rw [List.getElem?_set_ne this]
  | push o =>
    have hw := hp hi
    rw [hw] at hh
    have hne : h ≠ H.obs.length := by simpa using hh
    simp only [HE.app, Hp.push]
    rw [List.getElem?_append]
    split
    · rfl
    · rw [List.getElem?_eq_none (by simp; omega), List.getElem?_eq_none (by omega)]

theorem he_comm {fa fb : FP} (H : Hp) (x y : HE) (hx : x.inn fa) (hy : y.inn fb) (hd : ∀ h ∈ fa.wr, h ∉ fb.wr) (hn : ¬ (fa.push = true ∧ fb.push = true)) (ha : fa.push = true → fa.wr = [H.obs.length]) (hb : fb.push = true → fb.wr = [H.obs.length]) :
    x.app (y.app H) = y.app (x.app H) := by
  cases x with
  | no => rfl
  | put h o =>
    cases y with
    | no => rfl
    | put k p =>
      have hne : h ≠ k := fun e => hd h hx.1 (e ▸ hy.1)
      simp only [HE.app, Hp.put]
      rw [List.set_comm _ _ (Ne.symm hne)]
    | push p =>
      have hw := hb hy
      have hne : h ≠ H.obs.length := fun e => hd h hx.1 (by rw [hw]; simp [e])
      simp only [HE.app, Hp.put, Hp.push]
      rw [List.set_append]
      split
      · rfl
      · rw [List.set_eq_of_length_le (by simp; omega), List.set_eq_of_length_le (by omega)]
  | push o =>
    cases y with
    | no => rfl
    | put k p =>
      have hw := ha hx
      have hne : k ≠ H.obs.length := fun e => hd H.obs.length (by rw [hw]; simp) (e ▸ hy.1)
      simp only [HE.app, Hp.put, Hp.push]
      rw [List.set_append]
      split
      · rfl
      · rw [List.set_eq_of_length_le (by omega), List.set_eq_of_length_le (by simp; omega)]
    | push p => exact absurd ⟨hx, hy⟩ hn

theorem dindep_spec {a b : MOp} {fa fb : FP} (h : dindep a fa b fb = true) :
    (∀ x ∈ a.writes, x ∉ b.reads ∧ x ∉ b.writes) ∧ (∀ x ∈ b.writes, x ∉ a.reads) ∧ (fa.all = true → fb.rd = [] ∧ fb.wr = [] ∧ fb.all = false ∧ fb.push = false) ∧ (fb.all = true → fa.rd = [] ∧ fa.wr = [] ∧ fa.all = false ∧ fa.push = false) ∧
    ¬ (fa.push = true ∧ fb.push = true) ∧ (∀ h ∈ fa.wr, h ∉ fb.rd ∧ h ∉ fb.wr) ∧ (∀ h ∈ fb.wr, h ∉ fa.rd) := by
  unfold dindep fpIndep at h
  simp only [Bool.and_eq_true] at h
  obtain ⟨⟨h1, h2⟩, ⟨⟨⟨⟨h3, h4⟩, h5⟩, h6⟩, h7⟩⟩ := h
  have app : ∀ {l m n : List Nat}, disj l (m ++ n) = true → ∀ x ∈ l, x ∉ m ∧ x ∉ n := fun hd x hx => by
    have := disj_spec hd x hx
    simpa only [List.mem_append, not_or] using this
  refine ⟨app h1, disj_spec h2, fun q => ?_, fun q => ?_, ?_, app h6, disj_spec h7⟩
  · rw [q] at h3; simp at h3; exact ⟨h3.1.1.1, h3.1.1.2, h3.1.2, h3.2⟩
  · rw [q] at h4; simp at h4; exact ⟨h4.1.1.1, h4.1.1.2, h4.1.2, h4.2⟩
  · rintro ⟨q1, q2⟩; rw [q1, q2] at h5; cases h5

theorem same_final {st : St} {a b : MOp} {ea eb ea' eb' : Eff} {s1 s2 s1' s2' : St} (e1 : s1 = app st b.dst eb) (e2 : s2 = app s1 a.dst ea) (e3 : s1' = app st a.dst ea') (e4 : s2' = app s1' b.dst eb') (ka : ∀ k ∈ (effW a.dst ea).map (·.1), k ∈ a.writes)
    (kb : ∀ k ∈ (effW b.dst eb).map (·.1), k ∈ b.writes) (wa : effW a.dst ea' = effW a.dst ea) (wb : effW b.dst eb' = effW b.dst eb) (hd : ∀ x ∈ a.writes, x ∉ b.writes) (hh : s2'.hp = s2.hp) : Same s2' s2 := by
  subst e1 e2 e3 e4
  refine ⟨fun k => ?_, hh⟩
  rw [app_get, app_get, app_get, app_get, wa, wb]
  by_cases q1 : k ∈ (effW b.dst eb).map (·.1)
  · by_cases q2 : k ∈ (effW a.dst ea).map (·.1)
    · exact absurd (kb k q1) (hd k (ka k q2))
    · simp only [q1, q2, if_true, if_false]
  · simp only [q1, if_false]

theorem commD {call : CallF} (hle : LimOK call) {a b : MOp} {st s1 s2 : St} (hi : dindep a (fpOf s1 a) b (fpOf st b) = true) (h1 : evOp call st b = some s1) (h2 : evOp call s1 a = some s2) :
    ∃ s1' s2', evOp call st a = some s1' ∧ evOp call s1' b = some s2' ∧ Same s2' s2 ∧ fpOf st a = fpOf s1 a ∧ fpOf s1' b = fpOf st b := by
  obtain ⟨i1, i2, i3, i4, i5, i6, i7⟩ := dindep_spec hi
  rw [evOp_eq, Option.map_eq_some_iff] at h1 h2
  obtain ⟨eb, hb, e1⟩ := h1
  obtain ⟨ea, ha, e2⟩ := h2
  have kb := evE_keys call hb
  have ka := evE_keys call ha
  have hp1 : s1.hp = effH st.hp eb := by rw [← e1, app_eq]
  have hlim : ∀ {s : St} {m : MOp} {e : Eff}, evE call s m = some e → (effH s.hp e).lim = s.hp.lim := fun {s m e} h => by
    unfold evE at h
    split at h
    · exact (effH_le hle h).1
    · cases h; rfl
    · cases h
  have ra : SameR a st s1 := fun s hs => by
    rw [← e1, app_get, if_neg]
    exact fun q => i2 s (kb s q) hs
  have rb : ∀ {e' : Eff}, effW a.dst e' = effW a.dst ea → SameR b (app st a.dst e') st := fun {e'} hw s hs => by
    rw [app_get, if_neg]
    rw [hw]
    exact fun q => (i1 s (ka s q)).1 hs
  have hd : ∀ x ∈ a.writes, x ∉ b.writes := fun x hx => (i1 x hx).2
  cases hfa : (fpOf s1 a).all with
  | true =>
    obtain ⟨j1, j2, j3, j4⟩ := i3 hfa
    obtain ⟨xb, b1, b2, b3⟩ := alikeM j3 hb
    have hno : xb = .no := by
      cases xb with
      | no => rfl
      | put h o => rw [HE.inn, j2] at b2; simp at b2
      | push o => rw [HE.inn, j4] at b2; cases b2
    subst hno
    have hh : st.hp = s1.hp := by rw [hp1, b1]; rfl
    have ha' : evE call st a = some ea := by rw [← ha]; exact evE_congr call a ra (fun _ => hh)
    have hhp : (app st a.dst ea).hp = effH st.hp ea := by rw [app_eq]
    obtain ⟨q1, eb', q2, q3, q4⟩ := b3 (app st a.dst ea) (rb rfl) (by rw [hhp]; exact hlim ha') (fun h hm => by rw [j1] at hm; simp at hm) (fun hq => by rw [j4] at hq; cases hq)
    refine ⟨app st a.dst ea, app (app st a.dst ea) b.dst eb', by rw [evOp_eq, ha']; rfl, by rw [evOp_eq, q2]; rfl, same_final e1.symm e2.symm rfl rfl ka kb rfl (q4 _) hd ?_, fpOf_same ra hh, q1⟩
    rw [← e2, app_eq (app st a.dst ea)]
    simp only
    rw [q3, hhp, app_eq s1, ← hh]
    rfl
  | false =>
    obtain ⟨xa, a1, a2, a3⟩ := alikeM hfa ha
    cases hfb : (fpOf st b).all with
    | true =>
      obtain ⟨j1, j2, j3, j4⟩ := i4 hfb
      have hno : xa = .no := by
        cases xa with
        | no => rfl
        | put h o => rw [HE.inn, j2] at a2; simp at a2
        | push o => rw [HE.inn, j4] at a2; cases a2
      subst hno
      obtain ⟨q1, ea', q2, q3, q4⟩ := a3 st ra (by rw [hp1]; exact (hlim hb).symm) (fun h hm => by rw [j1] at hm; simp at hm) (fun hq => by rw [j4] at hq; cases hq)
      have hhp : (app st a.dst ea').hp = st.hp := by rw [app_eq]; exact q3
      have hb' : evE call (app st a.dst ea') b = some eb := by rw [← hb]; exact evE_congr call b (rb (q4 _)) (fun _ => hhp)
      refine ⟨app st a.dst ea', app (app st a.dst ea') b.dst eb, by rw [evOp_eq, q2]; rfl, by rw [evOp_eq, hb']; rfl, same_final e1.symm e2.symm rfl rfl ka kb (q4 _) rfl hd ?_, q1, fpOf_same (rb (q4 _)) hhp⟩
      rw [← e2, app_eq (app st a.dst ea'), app_eq s1]
      simp only
      rw [hhp, a1, hp1]
      rfl
    | false =>
      obtain ⟨xb, b1, b2, b3⟩ := alikeM hfb hb
      have hpb : (fpOf st b).push = true → (fpOf st b).wr = [st.hp.obs.length] := fpOf_push
      have hpa : (fpOf s1 a).push = true → (fpOf s1 a).wr = [st.hp.obs.length] := fun h => by
        have := fpOf_push h
        rw [this, hp1, b1, HE.app_len (fp := fpOf st b) st.hp xb b2 (by cases hq : (fpOf st b).push <;> first | rfl | exact absurd ⟨h, hq⟩ i5)]
      obtain ⟨q1, ea', q2, q3, q4⟩ := a3 st ra (by rw [hp1]; exact (hlim hb).symm) (fun h hm => by
          rw [hp1, b1]
          exact (HE.app_get (fp := fpOf st b) st.hp xb b2 hpb (fun hq => i7 h hq hm)).symm) (fun hq => by
          rw [hp1, b1]
          exact (HE.app_len (fp := fpOf st b) st.hp xb b2 (by cases hq' : (fpOf st b).push <;> first | rfl | exact absurd ⟨hq, hq'⟩ i5)).symm)
      have hhp : (app st a.dst ea').hp = xa.app st.hp := by rw [app_eq]; exact q3
      obtain ⟨r1, eb', r2, r3, r4⟩ := b3 (app st a.dst ea') (rb (q4 _)) (by rw [hhp, HE.app_lim]) (fun h hm => by
          rw [hhp]
          exact HE.app_get (fp := fpOf s1 a) st.hp xa a2 hpa (fun hq => (i6 h hq).1 hm)) (fun hq => by
          rw [hhp]
          exact HE.app_len (fp := fpOf s1 a) st.hp xa a2 (by cases hq' : (fpOf s1 a).push <;> first | rfl | exact absurd ⟨hq', hq⟩ i5))
      refine ⟨app st a.dst ea', app (app st a.dst ea') b.dst eb', by rw [evOp_eq, q2]; rfl, by rw [evOp_eq, r2]; rfl, same_final e1.symm e2.symm rfl rfl ka kb (q4 _) (r4 _) hd ?_, q1, r1⟩
      rw [← e2, app_eq (app st a.dst ea'), app_eq s1]
      simp only
      rw [r3, hhp, a1, hp1, b1]
      exact (he_comm st.hp xa xb a2 b2 (fun h hq => (i6 h hq).2) i5 hpa hpb).symm

/-! ### Lists of operations, with the objects that they look at -/

def runF (call : CallF) (ms : List MOp) (F : Nat → FP) : List Nat → St → Option St
  | [], st => some st
  | i :: r, st => match ms[i]? with
    | some m => if fpOf st m = F i then thenO (evOp call st m) (runF call ms F r) else none
    | none => runF call ms F r st

theorem runF_same {call : CallF} {ms : List MOp} {F : Nat → FP} : ∀ (l : List Nat) {a b s1 : St}, Same a b → runF call ms F l a = some s1 → ∃ s2, runF call ms F l b = some s2 ∧ Same s2 s1
  | [], a, b, s1, h, h1 => by cases h1; exact ⟨b, rfl, h.symm⟩
  | i :: r, a, b, s1, h, h1 => by
    simp only [runF] at h1 ⊢
    split at h1
    · rename_i m hm
      rw [← fpOf_same (m := m) (fun s _ => h.tm s) h.hp]
      split at h1
      · rename_i hf
        rw [if_pos hf]
        cases hq : evOp call a m with
        | none => rw [hq] at h1; cases h1
        | some c =>
          rw [hq] at h1
          simp only [thenO_some] at h1
          obtain ⟨d, d1, d2⟩ := evOp_same h hq
          rw [d1]
          simp only [thenO_some]
          exact runF_same r d2.symm h1
      · cases h1
    · exact runF_same r h h1

theorem runF_front {call : CallF} (hle : LimOK call) {ms : List MOp} {F : Nat → FP} {i : Nat} : ∀ (l : List Nat) {st s1 : St}, i ∈ l → l.Nodup → (∀ j ∈ l, j ≠ i → ∀ k, l.takeWhile (· ≠ i) = k → j ∈ k → ∀ a b, ms[i]? = some a → ms[j]? = some b → dindep a (F i) b (F j) = true) →
    runF call ms F l st = some s1 → ∃ s2, runF call ms F (i :: l.erase i) st = some s2 ∧ Same s2 s1
  | [], _, _, h, _, _, _ => by simp at h
  | j :: r, st, s1, hi, hn, hind, h => by
    by_cases hij : j = i
    · subst hij
      rw [List.erase_cons_head]
      exact ⟨s1, h, Same.rfl' _⟩
    · have hir : i ∈ r := by simpa [Ne.symm hij] using hi
      rw [List.erase_cons_tail (by simpa using hij)]
      have ih := fun {st s1 : St} => runF_front hle (ms := ms) (F := F) (i := i) r (st := st) (s1 := s1) hir (List.nodup_cons.1 hn).2 (fun q hq hqi k hk hqk => hind q (by simp [hq]) hqi _ rfl (by
        rw [List.takeWhile_cons_of_pos (by simpa using hij)]
        subst hk
        exact List.mem_cons_of_mem _ hqk))
      simp only [runF] at h ⊢
      cases hmj : ms[j]? with
      | none =>
        rw [hmj] at h
        simp only at h
        obtain ⟨s2, g1, g2⟩ := ih h
        simp only [runF] at g1
        exact ⟨s2, g1, g2⟩
      | some mj =>
        rw [hmj] at h
        simp only at h
        split at h
        case isFalse => cases h
        rename_i hfj
        cases hq : evOp call st mj with
        | none => rw [hq] at h; cases h
        | some c =>
          rw [hq] at h
          simp only [thenO_some] at h
          obtain ⟨s2, g1, g2⟩ := ih h
          simp only [runF] at g1
          cases hmi : ms[i]? with
          | none =>
            rw [hmi] at g1
            simp only at g1 ⊢
            rw [if_pos hfj, hq]
            exact ⟨s2, g1, g2⟩
          | some mi =>
            rw [hmi] at g1
            simp only at g1 ⊢
            split at g1
            case isFalse => cases g1
            rename_i hfi
            cases hq2 : evOp call c mi with
            | none => rw [hq2] at g1; cases g1
            | some d =>
              rw [hq2] at g1
              simp only [thenO_some] at g1
              have hindep := hind j (by simp) hij _ rfl (by rw [List.takeWhile_cons_of_pos (by simpa using hij)]; simp) mi mj hmi hmj
              rw [← hfi, ← hfj] at hindep
              obtain ⟨c', d', e1, e2, e3, e4, e5⟩ := commD hle hindep hq hq2
              rw [if_pos (e4.trans hfi), e1]
              simp only [thenO_some]
              rw [if_pos (e5.trans hfj), e2]
              simp only [thenO_some]
              obtain ⟨s3, f1, f2⟩ := runF_same _ e3.symm g1
              exact ⟨s3, f1, f2.trans g2⟩

theorem runF_of {call : CallF} : ∀ (ms pre : List MOp) (pf : List FP) (st st' : St), pf.length = pre.length → evOps call ms st = some st' →
    runF call (pre ++ ms) (fun i => (pf ++ fpsOf call ms st).getD i ⟨[], [], false, false⟩) (List.range' pre.length ms.length) st = some st'
  | [], pre, pf, st, st', _, h => by simpa [evOps, runF] using h
  | m :: ms, pre, pf, st, st', hl, h => by
    simp only [evOps] at h
    cases hq : evOp call st m with
    | none => rw [hq] at h; cases h
    | some s1 =>
      rw [hq] at h
      simp only [thenO_some] at h
      have ih := runF_of ms (pre ++ [m]) (pf ++ [fpOf st m]) s1 st' (by simp [hl]) h
      simp only [List.length_cons, List.range'_succ, runF]
      have : (pre ++ m :: ms)[pre.length]? = some m := by simp
      rw [this]
      simp only
      have hF : (pf ++ fpsOf call (m :: ms) st).getD pre.length ⟨[], [], false, false⟩ = fpOf st m := by
        rw [← hl]; simp [fpsOf, List.getD]
      rw [if_pos hF.symm, hq]
      simp only [thenO_some]
      have e1 : pre ++ m :: ms = (pre ++ [m]) ++ ms := by simp
      have e2 : pf ++ fpsOf call (m :: ms) st = (pf ++ [fpOf st m]) ++ fpsOf call ms s1 := by simp [fpsOf, hq]
      rw [e1, e2]
      simpa using ih

section
variable {P : Program} {φ : Nat → Option Nat} {A : Ann} {T0 : Nat → Prop} {w0 : World} {ρ0 : Rho}

/-- A region whose order is drawn, its operations told apart when they are done. -/
theorem region_dyn (hL : Linked P φ) {call : CallF} (hS : Sound P φ call) (hle : LimOK call) {ops : Array Oper} {ms : List MOp} (hms : ops.toList.mapM (trOper P φ A ops.toList) = some ms) {F : Nat → FP} (hdown : edgesDown ops.toList = true) (hfree : ∀ i j, i < ms.length → j < i → ((ancs ops.toList []).getD i 0).testBit j = true ∨ ∀ a b, ms[i]? = some a → ms[j]? = some b → dindep a (F i) b (F j) = true) {Q : Exit → Act → World → Prop} :
    ∀ (fuel : Nat) (listed : Array Bool) {st st' : St} {T : Nat → Prop} {ρ : Rho} {a : Act} {w : World}, (restOf ops.size listed).length = fuel →
    (∀ (i : Nat) (o : Oper), ops.toList[i]? = some o → listed.getD i true = true → ∀ e ∈ o.after.toList, Edge.firm e = true → listed.getD e.on true = true) → listed.size = ops.size →
    runF call ms F (restOf ops.size listed) st = some st' → RL φ A.nt T0 w0 ρ0 T ρ st.tmps st.hp a w →
    (∀ st'' a' w' T' ρ', Same st'' st' → RL φ A.nt T0 w0 ρ0 T' ρ' st''.tmps st''.hp a' w' → Q .normal a' w') → wpAny P .any ops Q fuel listed a w := by
  obtain ⟨hlen, hat⟩ := mapM_at _ _ _ hms
  have firm_binds : ∀ e : Edge, Region.binds .any e = Edge.firm e := fun e => by
    unfold Region.binds Edge.firm
    cases e.ground <;> rfl
  have ready_rest : ∀ listed i, i ∈ Region.ready .any ops listed → i ∈ restOf ops.size listed := fun listed i hi => by
    unfold Region.ready at hi
    rw [List.mem_filter] at hi
    have := hi.2
    rw [Bool.and_eq_true] at this
    refine restOf_mem.2 ⟨by simpa using hi.1, by simpa using this.1⟩
  intro fuel
  induction fuel with
  | zero =>
    intro listed st st' T ρ a w hf hcl hsz he hR hQ
    have hnil : restOf ops.size listed = [] := List.eq_nil_of_length_eq_zero hf
    refine ⟨?_, ?_⟩
    · cases hr : Region.ready .any ops listed with
      | nil => rfl
      | cons i r =>
        have := ready_rest listed i (by rw [hr]; simp)
        rw [hnil] at this
        simp at this
    · rw [hnil] at he
      cases he
      exact hQ st a w T ρ (Same.rfl' _) hR
  | succ fuel ih =>
    intro listed st st' T ρ a w hf hcl hsz he hR hQ
    refine ⟨fun hr => ?_, fun i hi => ?_⟩
    · -- the least that is left is ready
      exfalso
      cases hrest : restOf ops.size listed with
      | nil => rw [hrest] at hf; simp at hf
      | cons i r =>
        have hi := restOf_mem.1 (show i ∈ restOf ops.size listed by rw [hrest]; simp)
        have hsort := restOf_sorted ops.size listed
        rw [hrest, List.pairwise_cons] at hsort
        have hready : i ∈ Region.ready .any ops listed := by
          unfold Region.ready
          rw [List.mem_filter]
          refine ⟨by simpa using hi.1, ?_⟩
          rw [hi.2]
          have hoi : ops[i]? = some ops[i] := by simp [hi.1]
          rw [hoi]
          simp only [Option.map_some, Option.getD_some, Bool.not_false, Bool.true_and]
          rw [Array.all_eq_true_iff_forall_mem]
          intro e hemem
          have hemem' : e ∈ (ops[i]).after.toList := by simpa using hemem
          rw [firm_binds]
          cases hfe : Edge.firm e with
          | false => rfl
          | true =>
            have hd : e.on < i := by
              unfold edgesDown at hdown
              rw [List.all_eq_true] at hdown
              have := hdown i (by simpa using hi.1)
              have hol : ops.toList[i]? = some ops[i] := by simp [hi.1]
              rw [hol] at this
              simp only at this
              rw [List.all_eq_true] at this
              have := this e hemem'
              rw [hfe] at this
              simpa using this
            simp only [Bool.not_true, Bool.false_or]
            have hlt : e.on < listed.size := by omega
            cases hq : listed.getD e.on true with
            | true => simpa [Array.getD, hlt] using hq
            | false =>
              have hm := restOf_mem.2 (⟨by omega, hq⟩ : e.on < ops.size ∧ listed.getD e.on true = false)
              rw [hrest, List.mem_cons] at hm
              rcases hm with hm | hm
              · omega
              · have := hsort.1 _ hm; omega
        rw [hr] at hready
        simp at hready
    · have hir := ready_rest listed i hi
      have himem := restOf_mem.1 hir
      have hoi : ops.toList[i]? = some ops[i] := by simp [himem.1]
      -- the edges of i
      have hedges : ∀ e ∈ (ops[i]).after.toList, Edge.firm e = true → listed.getD e.on true = true := by
        intro e he' hfe
        unfold Region.ready at hi
        rw [List.mem_filter, Bool.and_eq_true] at hi
        have h2 := hi.2.2
        have : ops[i]? = some ops[i] := by simp [himem.1]
        rw [this] at h2
        simp only [Option.map_some, Option.getD_some] at h2
        rw [Array.all_eq_true_iff_forall_mem] at h2
        have := h2 e (by simpa using he')
        rw [firm_binds, hfe] at this
        simp at this
        rw [Array.getD_eq_getD_getElem?]
        cases hq : listed[e.on]? with
        | none => rw [hq] at this; simp at this
        | some x => rw [hq] at this; simpa using this
      have hanc := anc_listed (n := ops.size) (listed := listed) hdown (by simp) hcl (i + 1) i _ (by omega) hoi hedges
      obtain ⟨s2, g1, g2⟩ := runF_front hle (ms := ms) (F := F) (i := i) (restOf ops.size listed) hir (restOf_nodup _ _) (fun j hj hji k hk hjk x y hx hy => by
        subst hk
        have hlt := sorted_before (restOf_sorted ops.size listed) j hjk hir
        have him : i < ms.length := (List.getElem?_eq_some_iff.1 hx).1
        rcases hfree i j him hlt with h2 | h2
        · have := hanc j h2
          rw [(restOf_mem.1 hj).2] at this
          cases this
        · exact h2 x y hx hy) he
      simp only [runF] at g1
      obtain ⟨m, h1, h2⟩ := hat i ops[i] hoi
      rw [h1] at g1
      simp only at g1
      split at g1
      case isFalse => cases g1
      cases hq : evOp call st m with
      | none => rw [hq] at g1; cases g1
      | some s1 =>
        rw [hq] at g1
        simp only [thenO_some] at g1
        refine op_step hL hS (by simp [himem.1]) h2 hq hR (fun a' w' T' ρ' hr => ?_)
        refine ih (listed.setIfInBounds i true) (st := s1) (st' := s2) ?_ ?_ (by simp [hsz]) (by rw [restOf_set hir]; exact g1) hr (fun st'' a' w' T' ρ' hs => hQ st'' a' w' T' ρ' (hs.trans g2))
        · rw [restOf_set hir, List.length_erase_of_mem hir, hf]; rfl
        · intro k o hk hlk e he' hfe
          have hset : ∀ q, (listed.setIfInBounds i true).getD q true = true ↔ (q = i ∨ listed.getD q true = true) := fun q => by
            have hil : i < listed.size := by omega
            by_cases h : i = q
            · subst h; simp [Array.getD_eq_getD_getElem?, hil]
            · have : ¬ q = i := fun e => h e.symm
              simp [Array.getD_eq_getD_getElem?, Array.getElem?_setIfInBounds, h, this]
          rw [hset] at hlk ⊢
          right
          rcases hlk with rfl | hlk
          · rw [hoi] at hk; cases hk
            exact hedges e he' hfe
          · exact hcl k o hk hlk e he' hfe

end
end Sx
