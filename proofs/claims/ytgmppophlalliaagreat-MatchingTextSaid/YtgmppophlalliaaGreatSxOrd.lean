/-
  Sx: operations of a region in whatever order its edges allow.
-/
import Derived.Test.YtgmppophlalliaaGreatSxOpH
import Derived.Orders
namespace Sx
open Go
set_option linter.unusedSimpArgs false
set_option linter.unusedVariables false

/-! ### What an operation looks at -/

theorem evBuild_congr {tm tm' : Env} : ∀ (ps : List (Nat × Nat × Opd)) (z : List AV), (∀ p ∈ ps, ev tm p.2.2 = ev tm' p.2.2) → evBuild tm z ps = evBuild tm' z ps
  | [], z, _ => rfl
  | (off, n, x) :: ps, z, h => by
    have h1 := h _ List.mem_cons_self
    simp only at h1
    simp only [evBuild, h1]
    split
    · congr 1
      funext z'
      exact evBuild_congr ps z' (fun p hp => h p (by simp [hp]))
    · rfl

theorem evSlcB_congr {tm tm' : Env} {x : Option Opd} (d top : Nat) (h : ∀ y ∈ x.toList, ev tm y = ev tm' y) : evSlcB x tm d top = evSlcB x tm' d top := by
  cases x with
  | none => rfl
  | some o => simp only [evSlcB, h o (by simp)]

theorem evO_congr (call : CallF) {tm tm' : Env} {H H' : Hp} : ∀ (op : MO), (∀ x ∈ op.opds, ev tm x = ev tm' x) → (op.readsH = true → H = H') → evO call tm H op = evO call tm' H' op
  | .mv x, h, _ => by simp only [evO, h x (by simp [MO.opds, opdsOf])]
  | .pick a b c, h, _ => by simp only [evO, h a (by simp [MO.opds, opdsOf]), h b (by simp [MO.opds, opdsOf]), h c (by simp [MO.opds, opdsOf])]
  | .alloc z, h, _ => rfl
  | .new z, h, hH => by rw [hH rfl]; rfl
  | .box n x, h, _ => by simp only [evO, h x (by simp [MO.opds, opdsOf])]
  | .boxm n x, h, hH => by rw [hH rfl]; simp only [evO, h x (by simp [MO.opds, opdsOf])]
  | .build z ps, h, _ => by simp only [evO, evBuild_congr ps z (fun p hp => h _ (by simp only [MO.opds, opdsOf]; exact List.mem_map_of_mem hp))]
  | .lit sz z ps true, h, hH => by rw [hH rfl]; simp only [evO, evBuild_congr ps z (fun p hp => h _ (by simp only [MO.opds, opdsOf]; exact List.mem_map_of_mem hp))]
  | .lit sz z ps false, h, hH => by simp only [evO, evBuild_congr ps z (fun p hp => h _ (by simp only [MO.opds, opdsOf]; exact List.mem_map_of_mem hp)), Bool.false_eq_true, if_false]
  | .load k x, h, hH => by rw [hH rfl]; simp only [evO, h x (by simp [MO.opds, opdsOf])]
  | .store n a x, h, hH => by rw [hH rfl]; simp only [evO, h x (by simp [MO.opds, opdsOf]), h a (by simp [MO.opds, opdsOf])]
  | .mat n s x, h, hH => by
    have hs : get s tm = get s tm' := h (.t s) (by simp [MO.opds, opdsOf])
    rw [hH rfl]; simp only [evO, h x (by simp [MO.opds, opdsOf]), hs]
  | .bin op x y, h, _ => by simp only [evO, h x (by simp [MO.opds, opdsOf]), h y (by simp [MO.opds, opdsOf])]
  | .eqn n ks x y, h, _ => by simp only [evO, h x (by simp [MO.opds, opdsOf]), h y (by simp [MO.opds, opdsOf])]
  | .eqb n x y, h, _ => by simp only [evO, h x (by simp [MO.opds, opdsOf]), h y (by simp [MO.opds, opdsOf])]
  | .un op x, h, _ => by simp only [evO, h x (by simp [MO.opds, opdsOf])]
  | .conv k x, h, _ => by simp only [evO, h x (by simp [MO.opds, opdsOf])]
  | .fld off k x, h, _ => by simp only [evO, h x (by simp [MO.opds, opdsOf])]
  | .fadr off x, h, _ => by simp only [evO, h x (by simp [MO.opds, opdsOf])]
  | .iadr sz x i, h, hH => by rw [hH rfl]; simp only [evO, h x (by simp [MO.opds, opdsOf]), h i (by simp [MO.opds, opdsOf])]
  | .idx len sz k x i, h, _ => by simp only [evO, h x (by simp [MO.opds, opdsOf]), h i (by simp [MO.opds, opdsOf])]
  | .sidx x i, h, _ => by simp only [evO, h x (by simp [MO.opds, opdsOf]), h i (by simp [MO.opds, opdsOf])]
  | .nilq k x, h, hH => by rw [hH rfl]; simp only [evO, h x (by simp [MO.opds, opdsOf])]
  | .len k x, h, hH => by rw [hH rfl]; simp only [evO, h x (by simp [MO.opds, opdsOf])]
  | .mx xs, h, _ => by
    have : xs.map (ev tm) = xs.map (ev tm') := List.map_congr_left (fun x hx => h x (by simpa [MO.opds, opdsOf] using hx))
    simp only [evO, this]
  | .mn xs, h, _ => by
    have : xs.map (ev tm) = xs.map (ev tm') := List.map_congr_left (fun x hx => h x (by simpa [MO.opds, opdsOf] using hx))
    simp only [evO, this]
  | .app sz b x y, h, hH => by rw [hH rfl]; simp only [evO, h x (by simp [MO.opds, opdsOf]), h y (by simp [MO.opds, opdsOf])]
  | .mks sz b z l c, h, hH => by rw [hH rfl]; simp only [evO, h l (by simp [MO.opds, opdsOf]), h c (by simp [MO.opds, opdsOf])]
  | .slc sz x lo hi mx, h, hH => by
    rw [hH rfl]
    have h1 := h x (by simp [MO.opds, opdsOf])
    have e1 : ∀ d t, evSlcB lo tm d t = evSlcB lo tm' d t := fun d t => evSlcB_congr d t (fun y hy => h y (by simp only [MO.opds, opdsOf, List.mem_cons, List.mem_append]; exact .inr (.inl (.inl hy))))
    have e2 : ∀ d t, evSlcB hi tm d t = evSlcB hi tm' d t := fun d t => evSlcB_congr d t (fun y hy => h y (by simp only [MO.opds, opdsOf, List.mem_cons, List.mem_append]; exact .inr (.inl (.inr hy))))
    have e3 : ∀ d t, evSlcB mx tm d t = evSlcB mx tm' d t := fun d t => evSlcB_congr d t (fun y hy => h y (by simp only [MO.opds, opdsOf, List.mem_cons, List.mem_append]; exact .inr (.inr hy)))
    simp only [evO, h1, evSlcH, evSlcQ, evSlc3, evSlc, e1, e2, e3]
  | .ext x i, h, _ => by simp only [evO, h x (by simp [MO.opds, opdsOf])]
  | .nck x, h, _ => by simp only [evO, h x (by simp [MO.opds, opdsOf])]
  | .s2b x, h, _ => by simp only [evO, h x (by simp [MO.opds, opdsOf])]
  | .mkf g xs, h, _ => by
    have : xs.map (ev tm) = xs.map (ev tm') := List.map_congr_left (fun x hx => h x (by simpa [MO.opds, opdsOf] using hx))
    simp only [evO, this]
  | .mkb g xs, h, _ => by
    have : xs.map (ev tm) = xs.map (ev tm') := List.map_congr_left (fun x hx => h x (by simpa [MO.opds, opdsOf] using hx))
    simp only [evO, this]
  | .call g xs, h, hH => by
    have : xs.map (ev tm) = xs.map (ev tm') := List.map_congr_left (fun x hx => h x (by simpa [MO.opds, opdsOf] using hx))
    rw [hH rfl]; simp only [evO, this]
  | .callv f xs, h, hH => by
    have : xs.map (ev tm) = xs.map (ev tm') := List.map_congr_left (fun x hx => h x (by simp [MO.opds, opdsOf, hx]))
    rw [hH rfl]; simp only [evO, this, h f (by simp [MO.opds, opdsOf])]
  | .mkmap, _, hH => by rw [hH rfl]; rfl
  | .look st ks z ok m k, h, hH => by rw [hH rfl]; simp only [evO, h m (by simp [MO.opds, opdsOf]), h k (by simp [MO.opds, opdsOf])]
  | .mput st ks m k x, h, hH => by rw [hH rfl]; simp only [evO, h m (by simp [MO.opds, opdsOf]), h k (by simp [MO.opds, opdsOf]), h x (by simp [MO.opds, opdsOf])]
  | .rng m, h, hH => by rw [hH rfl]; simp only [evO, h m (by simp [MO.opds, opdsOf])]
  | .ent x, h, hH => by rw [hH rfl]; simp only [evO, h x (by simp [MO.opds, opdsOf])]
  | .nop, _, _ => rfl

/-- What an operation's effect writes. -/
def effW (dst : Option Nat) : Eff → Env
  | .val x | .valH x _ => putD dst x []
  | .slot s x => putD dst (.v (.tuple #[])) [(s, x)]
  | .slotH s x _ => putD dst (.v (.tuple #[])) [(s, x)]
  | .hp _ => putD dst (.v (.tuple #[])) []

def effH (H : Hp) : Eff → Hp
  | .val _ | .slot _ _ => H
  | .valH _ H' | .hp H' | .slotH _ _ H' => H'

theorem app_eq (st : St) (dst : Option Nat) (e : Eff) : app st dst e = { tmps := effW dst e ++ st.tmps, hp := effH st.hp e } := by
  cases e <;> cases dst <;> rfl

theorem get_append (k : Nat) : ∀ (l tm : Env), get k (l ++ tm) = if k ∈ l.map (·.1) then get k l else get k tm
  | [], tm => by simp
  | (s, x) :: l, tm => by
    simp only [List.cons_append, get_cons, List.map_cons, List.mem_cons, get_append k l tm]
    by_cases h : s = k
    · subst h; simp
    · have : ¬ k = s := fun e => h e.symm
      simp only [h, if_false, this, false_or]

theorem effW_keys (call : CallF) {tm : Env} {H : Hp} {m : MOp} {e : Eff} (he : evO call tm H m.op = some e) : ∀ k ∈ (effW m.dst e).map (·.1), k ∈ m.writes := by
  intro k hk
  have hdst : ∀ (x : AV) (l : Env), k ∈ (putD m.dst x l).map (·.1) → k ∈ m.dst.toList ∨ k ∈ l.map (·.1) := by
    intro x l h
    cases hd : m.dst with
    | none => rw [hd] at h; exact .inr h
    | some d => rw [hd] at h; simp [putD] at h; simp; rcases h with h | h; exact .inl h; exact .inr h
  unfold MOp.writes
  rw [List.mem_append]
  cases e with
  | val x => exact (hdst _ _ hk).imp id (fun h => by simp at h)
  | valH x H' => exact (hdst _ _ hk).imp id (fun h => by simp at h)
  | hp H' => exact (hdst _ _ hk).imp id (fun h => by simp at h)
  | slotH s x H' =>
    refine (hdst _ _ hk).imp id (fun h => ?_)
    simp at h
    subst h
    cases hop : m.op <;> rw [hop] at he <;> simp only [evO] at he
    case mat n a y =>
      split at he
      · split at he
        · cases he; simp
        · cases he
      · cases he
    case store n a y =>
      split at he
      · split at he
        · split at he
          · cases he
          · cases he
        · simp only [Option.bind_eq_some_iff] at he
          obtain ⟨ob, _, he⟩ := he
          split at he
          · simp only [Option.bind_eq_some_iff, Option.map_eq_some_iff] at he
            obtain ⟨_, _, _, _, he⟩ := he
            cases he
          · cases he
        · cases he
      · cases he
    case lit sz z ps b =>
      simp only [Option.bind_eq_some_iff] at he
      obtain ⟨cs, _, he⟩ := he
      split at he
      · cases he
      · split at he
        · cases he
        · cases he
    case ent x =>
      split at he
      · split at he
        · split at he
          · split at he
            · simp only [Option.bind_eq_some_iff, Option.map_eq_some_iff] at he
              obtain ⟨_, _, _, _, he⟩ := he
              cases he
            · cases he
          · cases he
        · cases he
      · cases he
    all_goals (repeat' split at he) <;> simp at he
    all_goals (try (obtain ⟨_, _, he⟩ := he)) <;> (try (split at he)) <;> simp_all
  | slot s x =>
    refine (hdst _ _ hk).imp id (fun h => ?_)
    simp at h
    subst h
    cases hop : m.op <;> rw [hop] at he <;> simp only [evO] at he
    case store n a y =>
      split at he
      · split at he
        · split at he
          · cases he; simp
          · cases he
        · simp only [Option.bind_eq_some_iff] at he
          obtain ⟨ob, _, he⟩ := he
          split at he
          · simp only [Option.bind_eq_some_iff, Option.map_eq_some_iff] at he
            obtain ⟨_, _, _, _, he⟩ := he
            cases he
          · cases he
        · cases he
      · cases he
    case lit sz z ps b =>
      simp only [Option.bind_eq_some_iff] at he
      obtain ⟨cs, _, he⟩ := he
      split at he
      · cases he
      · split at he
        · cases he
        · cases he
    case ent x =>
      split at he
      · split at he
        · split at he
          · split at he
            · simp only [Option.bind_eq_some_iff, Option.map_eq_some_iff] at he
              obtain ⟨_, _, _, _, he⟩ := he
              cases he
            · cases he
          · cases he
        · cases he
      · cases he
    all_goals (repeat' split at he) <;> simp at he
    all_goals (try (obtain ⟨_, _, he⟩ := he)) <;> (try (split at he)) <;> simp_all

def PureOK (pu : Nat → Bool) (call : CallF) : Prop := ∀ (g : Nat) (as : List AV) (H : Hp) (r : AV × Hp), pu g = true → call g as H = some r → r.2 = H

theorem effH_same {pu : Nat → Bool} {call : CallF} (hp : PureOK pu call) {tm : Env} {H : Hp} {op : MO} {e : Eff} (hw : op.writesH pu = false) (he : evO call tm H op = some e) : effH H e = H := by
  cases op <;> simp only [MO.writesH] at hw <;> simp only [evO] at he
  case lit sz z ps b =>
    cases b with
    | true => simp at hw
    | false =>
      simp only [Option.bind_eq_some_iff] at he
      obtain ⟨cs, _, he⟩ := he
      simp only [Bool.false_eq_true, if_false] at he
      split at he
      · cases he; rfl
      · cases he
  case nilq neg x =>
    simp only [Option.map_eq_some_iff] at he
    obtain ⟨b, _, rfl⟩ := he
    rfl
  case call g xs =>
    split at he
    · simp only [Option.map_eq_some_iff] at he
      obtain ⟨r, hr, rfl⟩ := he
      exact hp g _ H r (by simpa using hw) hr
    · cases he
  case ent x =>
    split at he
    · split at he
      · split at he
        · split at he
          · simp only [Option.bind_eq_some_iff, Option.map_eq_some_iff] at he
            obtain ⟨_, _, _, _, rfl⟩ := he
            rfl
          · cases he
        · cases he
      · cases he
    · cases he
  case eqn n ks x y =>
    simp only [Option.map_eq_some_iff] at he
    obtain ⟨_, _, rfl⟩ := he
    rfl
  case eqb n x y =>
    simp only [Option.map_eq_some_iff] at he
    obtain ⟨_, _, rfl⟩ := he
    rfl
  all_goals first
    | (simp at hw; done)
    | skip
  all_goals (repeat' split at he) <;> simp at he
  all_goals (try (obtain ⟨_, _, he⟩ := he)) <;> (try subst he) <;> first | rfl | simp_all [effH]

/-! ### Two operations -/

/-- The effect of an operation that may be unwanted. -/
def evE (call : CallF) (st : St) (m : MOp) : Option Eff :=
  match wanted st.tmps m.guard with
  | some true => evO call st.tmps st.hp m.op
  | some false => some (.val (.v (.tuple #[])))
  | none => none

theorem evOp_eq (call : CallF) (st : St) (m : MOp) : evOp call st m = (evE call st m).map (app st m.dst) := by
  unfold evOp evE
  cases wanted st.tmps m.guard with
  | none => rfl
  | some b => cases b <;> rfl

structure Same (a b : St) : Prop where
  tm : ∀ s, get s a.tmps = get s b.tmps
  hp : a.hp = b.hp

theorem Same.rfl' (a : St) : Same a a := ⟨fun _ => rfl, rfl⟩
theorem Same.symm {a b : St} (h : Same a b) : Same b a := ⟨fun s => (h.tm s).symm, h.hp.symm⟩
theorem Same.trans {a b c : St} (h : Same a b) (k : Same b c) : Same a c := ⟨fun s => (h.tm s).trans (k.tm s), h.hp.trans k.hp⟩

theorem wanted_congr {tm tm' : Env} (g : Option (Nat × Bool)) (h : ∀ s w, g = some (s, w) → get s tm = get s tm') : wanted tm g = wanted tm' g := by
  cases g with
  | none => rfl
  | some p => obtain ⟨s, w⟩ := p; simp only [wanted, h s w rfl]

theorem slots_congr {tm tm' : Env} {x : Opd} (h : ∀ s ∈ x.slots, get s tm = get s tm') : ev tm x = ev tm' x := by
  cases x with
  | t n => exact h n (by simp [Opd.slots])
  | c v => rfl
  | f g => rfl

theorem evE_congr (call : CallF) {a b : St} (m : MOp) (h : ∀ s ∈ m.reads, get s a.tmps = get s b.tmps) (hH : m.op.readsH = true → a.hp = b.hp) : evE call a m = evE call b m := by
  unfold evE
  rw [wanted_congr m.guard (fun s w e => h s (by simp [MOp.reads, e]))]
  split
  · refine evO_congr call m.op (fun x hx => slots_congr fun s hs => h s ?_) hH
    unfold MOp.reads
    rw [List.mem_append, List.mem_flatMap]
    exact .inr ⟨x, hx, hs⟩
  · rfl
  · rfl

theorem evE_keys (call : CallF) {st : St} {m : MOp} {e : Eff} (he : evE call st m = some e) : ∀ k ∈ (effW m.dst e).map (·.1), k ∈ m.writes := by
  unfold evE at he
  split at he
  · exact effW_keys call he
  · cases he
    intro k hk
    cases hd : m.dst with
    | none => rw [hd] at hk; simp [effW, putD] at hk
    | some d => rw [hd] at hk; simp [effW, putD] at hk; simp [MOp.writes, hd, hk]
  · cases he

theorem evE_same {pu : Nat → Bool} {call : CallF} (hp : PureOK pu call) {st : St} {m : MOp} {e : Eff} (hw : m.op.writesH pu = false) (he : evE call st m = some e) : effH st.hp e = st.hp := by
  unfold evE at he
  split at he
  · exact effH_same hp hw he
  · cases he; rfl
  · cases he

theorem disj_spec {a b : List Nat} (h : disj a b = true) : ∀ x ∈ a, x ∉ b := by
  intro x hx hb
  unfold disj at h
  rw [List.all_eq_true] at h
  have := h x hx
  simp at this
  exact this hb

theorem indep_spec {pu : Nat → Bool} {a b : MOp} (h : indep pu a b = true) :
    (∀ x ∈ a.writes, x ∉ b.reads ∧ x ∉ b.writes) ∧ (∀ x ∈ b.writes, x ∉ a.reads) ∧ (a.op.writesH pu = true → b.op.readsH = false ∧ b.op.writesH pu = false) ∧ (b.op.writesH pu = true → a.op.readsH = false) := by
  unfold indep at h
  simp only [Bool.and_eq_true] at h
  obtain ⟨⟨⟨h1, h2⟩, h3⟩, h4⟩ := h
  refine ⟨fun x hx => ?_, disj_spec h2, fun hw => ?_, fun hw => ?_⟩
  · have := disj_spec h1 x hx
    simp only [List.mem_append, not_or] at this
    exact this
  · rw [hw] at h3; simp at h3; exact h3
  · rw [hw] at h4; simpa using h4

theorem app_get (st : St) (m : MOp) (e : Eff) (k : Nat) : get k (app st m.dst e).tmps = if k ∈ (effW m.dst e).map (·.1) then get k (effW m.dst e) else get k st.tmps := by
  rw [app_eq]; exact get_append k _ _

/-- Two operations that have nothing to do with each other, one behind the other: the other way round. -/
theorem comm {pu : Nat → Bool} {call : CallF} (hp : PureOK pu call) {a b : MOp} (hi : indep pu a b = true) {st s1 s2 : St} (h1 : evOp call st b = some s1) (h2 : evOp call s1 a = some s2) :
    ∃ s1' s2', evOp call st a = some s1' ∧ evOp call s1' b = some s2' ∧ Same s2' s2 := by
  obtain ⟨i1, i2, i3, i4⟩ := indep_spec hi
  rw [evOp_eq, Option.map_eq_some_iff] at h1 h2
  obtain ⟨eb, hb, rfl⟩ := h1
  obtain ⟨ea, ha, rfl⟩ := h2
  have kb := evE_keys call hb
  have ha' : evE call st a = some ea := by
    rw [← ha]
    refine evE_congr call a (fun s hs => ?_) (fun hr => ?_)
    · rw [app_get, if_neg]
      exact fun q => i2 s (kb s q) hs
    · rw [app_eq]
      show st.hp = effH st.hp eb
      have : b.op.writesH pu = false := by cases hw : b.op.writesH pu <;> first | rfl | (have := i4 hw; rw [this] at hr; cases hr)
      exact (evE_same hp this hb).symm
  have ka := evE_keys call ha'
  have hb' : evE call (app st a.dst ea) b = some eb := by
    rw [← hb]
    refine evE_congr call b (fun s hs => ?_) (fun hr => ?_)
    · rw [app_get, if_neg]
      exact fun q => (i1 s (ka s q)).1 hs
    · rw [app_eq]
      have : a.op.writesH pu = false := by cases hw : a.op.writesH pu <;> first | rfl | (have := (i3 hw).1; rw [this] at hr; cases hr)
      exact evE_same hp this ha'
  refine ⟨app st a.dst ea, app (app st a.dst ea) b.dst eb, by rw [evOp_eq, ha']; rfl, by rw [evOp_eq, hb']; rfl, ⟨fun k => ?_, ?_⟩⟩
  · rw [app_get, app_get, app_get, app_get]
    by_cases q1 : k ∈ (effW b.dst eb).map (·.1)
    · by_cases q2 : k ∈ (effW a.dst ea).map (·.1)
      · exact absurd (kb k q1) (i1 k (ka k q2)).2
      · simp only [q1, q2, if_true, if_false]
    · simp only [q1, if_false]
  · simp only [app_eq]
    cases hwa : a.op.writesH pu with
    | true =>
      have hb0 := (i3 hwa).2
      have e1 := evE_same hp hb0 hb
      have e2 := evE_same hp hb0 hb'
      rw [app_eq] at e2
      simp only at e2
      rw [e2, e1]
    | false =>
      have e1 := evE_same hp hwa ha'
      have e2 := evE_same hp hwa ha
      rw [app_eq] at e2
      simp only at e2
      rw [e1, e2]

/-! ### Lists of operations -/

def evIdx (call : CallF) (ms : List MOp) : List Nat → St → Option St
  | [], st => some st
  | i :: r, st => match ms[i]? with
    | some m => thenO (evOp call st m) (evIdx call ms r)
    | none => evIdx call ms r st

theorem evOp_same {call : CallF} {a b s1 : St} {m : MOp} (h : Same a b) (h1 : evOp call a m = some s1) : ∃ s2, evOp call b m = some s2 ∧ Same s2 s1 := by
  rw [evOp_eq, Option.map_eq_some_iff] at h1
  obtain ⟨e, he, rfl⟩ := h1
  have : evE call b m = some e := by rw [← he]; exact (evE_congr call m (fun s _ => h.tm s) (fun _ => h.hp)).symm
  refine ⟨app b m.dst e, by rw [evOp_eq, this]; rfl, fun k => ?_, ?_⟩
  · rw [app_get, app_get, h.tm]
  · simp only [app_eq, h.hp]

theorem evIdx_same {call : CallF} {ms : List MOp} : ∀ (l : List Nat) {a b s1 : St}, Same a b → evIdx call ms l a = some s1 → ∃ s2, evIdx call ms l b = some s2 ∧ Same s2 s1
  | [], a, b, s1, h, h1 => by cases h1; exact ⟨b, rfl, h.symm⟩
  | i :: r, a, b, s1, h, h1 => by
    simp only [evIdx] at h1 ⊢
    split at h1
    · cases hq : evOp call a _ with
      | none => rw [hq] at h1; cases h1
      | some c =>
        rw [hq] at h1
        simp only [thenO_some] at h1
        obtain ⟨d, d1, d2⟩ := evOp_same h hq
        rw [d1]
        simp only [thenO_some]
        exact evIdx_same r d2.symm h1
    · exact evIdx_same r h h1

/-- An operation may be taken first. -/
theorem evIdx_front {pu : Nat → Bool} {call : CallF} (hp : PureOK pu call) {ms : List MOp} {i : Nat} : ∀ (l : List Nat) {st s1 : St}, i ∈ l → l.Nodup → (∀ j ∈ l, j ≠ i → ∀ k, l.takeWhile (· ≠ i) = k → j ∈ k → ∀ a b, ms[i]? = some a → ms[j]? = some b → indep pu a b = true) →
    evIdx call ms l st = some s1 → ∃ s2, evIdx call ms (i :: l.erase i) st = some s2 ∧ Same s2 s1
  | [], _, _, h, _, _, _ => by simp at h
  | j :: r, st, s1, hi, hn, hind, h => by
    by_cases hij : j = i
    · subst hij
      rw [List.erase_cons_head]
      exact ⟨s1, h, Same.rfl' _⟩
    · have hir : i ∈ r := by simpa [Ne.symm hij] using hi
      rw [List.erase_cons_tail (by simpa using hij)]
      have ih := fun {st s1 : St} => evIdx_front hp (ms := ms) (i := i) r (st := st) (s1 := s1) hir (List.nodup_cons.1 hn).2 (fun q hq hqi k hk hqk => hind q (by simp [hq]) hqi _ rfl (by
        rw [List.takeWhile_cons_of_pos (by simpa using hij)]
        subst hk
        exact List.mem_cons_of_mem _ hqk))
      simp only [evIdx] at h ⊢
      cases hmj : ms[j]? with
      | none =>
        rw [hmj] at h
        simp only at h
        obtain ⟨s2, g1, g2⟩ := ih h
        simp only [evIdx] at g1
        exact ⟨s2, g1, g2⟩
      | some mj =>
        rw [hmj] at h
        simp only at h
        cases hq : evOp call st mj with
        | none => rw [hq] at h; cases h
        | some c =>
          rw [hq] at h
          simp only [thenO_some] at h
          obtain ⟨s2, g1, g2⟩ := ih h
          simp only [evIdx] at g1
          cases hmi : ms[i]? with
          | none =>
            rw [hmi] at g1
            simp only at g1 ⊢
            rw [hq]
            exact ⟨s2, g1, g2⟩
          | some mi =>
            rw [hmi] at g1
            simp only at g1 ⊢
            cases hq2 : evOp call c mi with
            | none => rw [hq2] at g1; cases g1
            | some d =>
              rw [hq2] at g1
              simp only [thenO_some] at g1
              have hindep := hind j (by simp) hij _ rfl (by rw [List.takeWhile_cons_of_pos (by simpa using hij)]; simp) mi mj hmi hmj
              obtain ⟨c', d', e1, e2, e3⟩ := comm hp hindep hq hq2
              rw [e1]
              simp only [thenO_some]
              rw [e2]
              simp only [thenO_some]
              obtain ⟨s3, f1, f2⟩ := evIdx_same _ e3.symm g1
              exact ⟨s3, f1, f2.trans g2⟩

/-! ### Whatever order the edges allow -/

def restOf (n : Nat) (listed : Array Bool) : List Nat := (List.range n).filter fun i => !listed.getD i true

theorem ancs_spec : ∀ (os : List Oper) (acc : List Nat) (pre : List Oper), acc.length = pre.length →
    (∀ (i : Nat) (o : Oper), pre[i]? = some o → acc.getD i 0 = edgeBits (acc.take i) (o.after.toList.filter Edge.firm)) →
    ∀ (i : Nat) (o : Oper), (pre ++ os)[i]? = some o → (ancs os acc).getD i 0 = edgeBits ((ancs os acc).take i) (o.after.toList.filter Edge.firm)
  | [], acc, pre, hl, h, i, o, ho => by
    rw [List.append_nil] at ho
    exact h i o ho
  | x :: os, acc, pre, hl, h, i, o, ho => by
    simp only [ancs]
    refine ancs_spec os _ (pre ++ [x]) (by simp [hl]) (fun k q hk => ?_) i o (by simpa using ho)
    rw [List.getElem?_append] at hk
    split at hk
    · rename_i hlt
      have h1 : k < acc.length := by omega
      have happ : ∀ (y : List Nat), (acc ++ y).getD k 0 = acc.getD k 0 := fun y => by simp [List.getD, List.getElem?_append_left h1]
      rw [happ, h k q hk]
      rw [List.take_append_of_le_length (by omega)]
    · rename_i hge
      have hkl : k = pre.length := by
        have := (List.getElem?_eq_some_iff.1 hk).1
        simp at this; omega
      subst hkl
      simp at hk
      subst hk
      rw [← hl]
      rw [List.take_left]
      simp [List.getD, List.getElem?_append_right]

theorem edgeBits_spec (acc : List Nat) (j : Nat) : ∀ (es : List Edge), (edgeBits acc es).testBit j = true → ∃ e ∈ es, e.on = j ∨ (acc.getD e.on 0).testBit j = true
  | [], h => by simp [edgeBits] at h
  | e :: es, h => by
    have h' : (2 ^ e.on ||| (acc.getD e.on 0 ||| edgeBits acc es)).testBit j = true := h
    rw [Nat.testBit_or, Nat.testBit_or, Bool.or_eq_true, Bool.or_eq_true, Nat.testBit_two_pow] at h'
    rcases h' with h' | h' | h'
    · exact ⟨e, by simp, .inl (by simpa using h')⟩
    · exact ⟨e, by simp, .inr h'⟩
    · obtain ⟨e', h1, h2⟩ := edgeBits_spec acc j es h'
      exact ⟨e', by simp [h1], h2⟩

theorem anc_listed {ops : List Oper} {n : Nat} {listed : Array Bool} (hdown : edgesDown ops = true) (hn : ops.length = n)
    (hcl : ∀ (i : Nat) (o : Oper), ops[i]? = some o → listed.getD i true = true → ∀ e ∈ o.after.toList, Edge.firm e = true → listed.getD e.on true = true) :
    ∀ (m i : Nat) (o : Oper), i < m → ops[i]? = some o → (∀ e ∈ o.after.toList, Edge.firm e = true → listed.getD e.on true = true) → ∀ j, ((ancs ops []).getD i 0).testBit j = true → listed.getD j true = true
  | 0, i, o, h, _, _, _, _ => by omega
  | m + 1, i, o, hi, ho, ha, j, hj => by
    have hs := ancs_spec ops [] [] rfl (fun i o h => by simp at h) i o (by simpa using ho)
    rw [hs] at hj
    obtain ⟨e, he, hj⟩ := edgeBits_spec _ _ _ hj
    rw [List.mem_filter] at he
    have hlist := ha e he.1 he.2
    rcases hj with rfl | hj
    · exact hlist
    · have hd : e.on < i := by
        unfold edgesDown at hdown
        rw [List.all_eq_true] at hdown
        have hil : i < ops.length := (List.getElem?_eq_some_iff.1 ho).1
        have := hdown i (by simpa using hil)
        rw [ho] at this
        simp only at this
        rw [List.all_eq_true] at this
        have := this e he.1
        rw [he.2] at this
        simpa using this
      have hjt : ((ancs ops []).getD e.on 0).testBit j = true := by
        rw [List.getD_eq_getElem?_getD, List.getElem?_take, if_pos hd, ← List.getD_eq_getElem?_getD] at hj
        exact hj
      have hol : e.on < ops.length := by have := (List.getElem?_eq_some_iff.1 ho).1; omega
      exact anc_listed hdown hn hcl m e.on ops[e.on] (by omega) (List.getElem?_eq_getElem hol) (hcl e.on _ (List.getElem?_eq_getElem hol) hlist) j hjt

theorem restOf_nodup (n : Nat) (listed : Array Bool) : (restOf n listed).Nodup := List.Pairwise.filter _ List.nodup_range

theorem restOf_sorted (n : Nat) (listed : Array Bool) : (restOf n listed).Pairwise (· < ·) := List.Pairwise.filter _ List.pairwise_lt_range

theorem restOf_mem {n : Nat} {listed : Array Bool} {i : Nat} : i ∈ restOf n listed ↔ i < n ∧ listed.getD i true = false := by
  simp [restOf, List.mem_filter]

theorem restOf_set {n : Nat} {listed : Array Bool} {i : Nat} (hi : i ∈ restOf n listed) : restOf n (listed.setIfInBounds i true) = (restOf n listed).erase i := by
  rw [(restOf_nodup n listed).erase_eq_filter]
  unfold restOf
  rw [List.filter_filter]
  apply List.filter_congr
  intro j hj
  obtain ⟨h1, h2⟩ := restOf_mem.1 hi
  by_cases h : i = j
  · subst h
    have : i < listed.size := by
      rcases Nat.lt_or_ge i listed.size with q | q
      · exact q
      · simp [Array.getD, Nat.not_lt.2 q] at h2
    simp [Array.getD_eq_getD_getElem?, this]
  · have : ¬ j = i := fun q => h q.symm
    simp [Array.getD_eq_getD_getElem?, Array.getElem?_setIfInBounds, h, this]

theorem sorted_before {l : List Nat} (h : l.Pairwise (· < ·)) {i : Nat} : ∀ j ∈ l.takeWhile (· ≠ i), i ∈ l → j < i := by
  induction l with
  | nil => intro j hj; simp at hj
  | cons x l ih =>
    intro j hj hi
    rw [List.pairwise_cons] at h
    by_cases hx : x = i
    · subst hx; simp at hj
    · rw [List.takeWhile_cons_of_pos (by simpa using hx), List.mem_cons] at hj
      have hil : i ∈ l := by simpa [Ne.symm hx] using hi
      rcases hj with rfl | hj
      · exact h.1 i hil
      · exact ih h.2 j hj hil
end Sx
