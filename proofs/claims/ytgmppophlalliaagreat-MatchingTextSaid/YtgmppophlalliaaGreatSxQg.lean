/-
  Q: code and functions are the evaluator's.
-/
import Derived.Test.YtgmppophlalliaaGreatSxQf
namespace Sx.Q
open Go
set_option linter.unusedVariables false
set_option linter.unusedSimpArgs false

section
variable {ρ : Type} {r : ρ}
variable {call : QCall ρ} {call' : CallF}

/-! ### One operation -/

theorem want_ok {e : E} {tm : Env} (he : EqE e tm) {g : Option (Nat × Bool)} {ky kn : Option ρ} (h : want e g ky kn = some r) : (wanted tm g = some true ∧ ky = some r) ∨ (wanted tm g = some false ∧ kn = some r) := by
  cases g with
  | none => exact .inl ⟨rfl, h⟩
  | some p =>
    obtain ⟨s, w⟩ := p
    obtain ⟨v, h1, h2⟩ := lk_ok h
    have h3 := he s v h1
    cases v with
    | b b =>
      rcases bool_ok h2 with ⟨rfl, h4⟩ | ⟨rfl, h4⟩ <;> rcases bool_ok h4 with ⟨h5, h6⟩ | ⟨h5, h6⟩
      · exact .inl ⟨by simp only at h5; subst h5; simp [wanted, h3, dec], h6⟩
      · exact .inr ⟨by simp only at h5; subst h5; simp [wanted, h3, dec], h6⟩
      · exact .inr ⟨by simp only at h5; subst h5; simp [wanted, h3, dec], h6⟩
      · exact .inl ⟨by simp only at h5; subst h5; simp [wanted, h3, dec], h6⟩
    | us => exact .inr ⟨by simp [wanted, h3, dec], h2⟩
    | _ => cases h2

theorem putD_ok {e : E} {tm : Env} (he : EqE e tm) {dst : Option Nat} {v : V} {k : E → Option ρ} (h : putD' dst v e k = some r) : ∃ e', k e' = some r ∧ EqE e' (putD dst (dec v) tm) := by
  cases dst with
  | none => exact ⟨e, h, he⟩
  | some d => exact ⟨_, h, he.cons d v⟩

theorem qOp_ok (hc : Snd call call') {e : E} {tm : Env} (he : EqE e tm) {m : MOp} {n : Nat} {t : V} {k : KE ρ} (h : qOp call m e n t k = some r) :
    ∃ e' n' t' st', k e' n' t' = some r ∧ evOp call' ⟨tm, decH n t⟩ m = some st' ∧ EqE e' st'.tmps ∧ st'.hp = decH n' t' := by
  rcases want_ok he h with ⟨hw, h1⟩ | ⟨hw, h1⟩
  · rcases qO_ok hc he m.op h1 with ⟨v, n', t', h2, eff, h3, h4⟩ | ⟨s, v, n', t', h2, eff, h3, h4⟩
    · obtain ⟨e', h5, h6⟩ := putD_ok he h2
      exact ⟨e', n', t', ⟨putD m.dst (dec v) tm, decH n' t'⟩, h5, by simp only [evOp, hw, h3, Option.map_some, h4], h6, rfl⟩
    · obtain ⟨e', h5, h6⟩ := putD_ok (he.cons s v) h2
      exact ⟨e', n', t', ⟨putD m.dst (.v (.tuple #[])) ((s, dec v) :: tm), decH n' t'⟩, h5, by simp only [evOp, hw, h3, Option.map_some, h4], h6, rfl⟩
  · obtain ⟨e', h5, h6⟩ := putD_ok he h1
    exact ⟨e', n, t, _, h5, by simp only [evOp, hw]; rfl, h6, rfl⟩

theorem qOps_ok (hc : Snd call call') : ∀ {ms : List MOp} {e : E} {tm : Env} {n : Nat} {t : V} {k : KE ρ}, EqE e tm → qOps call ms e n t k = some r →
    ∃ e' n' t' st', k e' n' t' = some r ∧ evOps call' ms ⟨tm, decH n t⟩ = some st' ∧ EqE e' st'.tmps ∧ st'.hp = decH n' t'
  | [], e, tm, n, t, k, he, h => ⟨e, n, t, _, h, rfl, he, rfl⟩
  | m :: ms, e, tm, n, t, k, he, h => by
    have h0 : qOp call m e n t (fun e' n' t' => qOps call ms e' n' t' k) = some r := h
    obtain ⟨e1, n1, t1, st1, h1, h2, h3, h4⟩ := qOp_ok hc he h0
    obtain ⟨tm1, hp1⟩ := st1
    simp only at h3 h4
    subst h4
    obtain ⟨e', n', t', st', h5, h6, h7, h8⟩ := qOps_ok hc h3 h1
    exact ⟨e', n', t', st', h5, by simp only [evOps, h2, thenO_some]; exact h6, h7, h8⟩

/-! ### Which objects -/

theorem hOf_eq (v : V) : hOf' v = hOf (dec v) := by cases v <;> rfl

theorem fpO_ok {e : E} {tm : Env} (he : EqE e tm) {m : MO} {n : Nat} (t : V) {k : FP → Option ρ} (h : fpO e n m k = some r) : k (evFP tm (decH n t) m) = some r := by
  have hl := obs_len n t
  cases m
  case load | iadr | len | nilq | slc =>
    obtain ⟨v, h1, h2⟩ := opd_ok he h
    simp only [evFP, h2, ← hOf_eq]; exact h1
  case store =>
    obtain ⟨v, h1, h2⟩ := opd_ok he h
    simp only [evFP, h2, ← hOf_eq]; exact h1
  case app sz bytes x y =>
    obtain ⟨v, h1, h2⟩ := opd_ok he (show opd e x _ = some r from h)
    obtain ⟨w, h3, h4⟩ := opd_ok he h1
    rcases onSl_ok h3 with ⟨hv, h5⟩ | ⟨_, _, _, _, _, _, h5⟩ | ⟨_, _, _, _, hv, h5⟩
    · subst hv
      simp only [evFP, h2, h4, dec, ← hOf_eq, hl]; exact h5
    · cases h5
    · subst hv
      simp only [evFP, h2, h4, dec, ← hOf_eq]; exact h5
  case lit sz z ps m =>
    cases m with
    | true => simp only [evFP, hl]; exact h
    | false => exact h
  case new | boxm | mat | mks | mkmap => simp only [evFP, hl]; exact h
  all_goals exact h

theorem fpOp_ok {e : E} {tm : Env} (he : EqE e tm) {m : MOp} {n : Nat} (t : V) {k : FP → Option ρ} (h : fpOp e n m k = some r) : k (fpOf ⟨tm, decH n t⟩ m) = some r := by
  rcases want_ok he h with ⟨hw, h1⟩ | ⟨hw, h1⟩
  · have := fpO_ok he t h1
    simp only [fpOf, hw]; exact this
  · simp only [fpOf, hw]; exact h1

theorem qOpsF_ok (hc : Snd call call') : ∀ {ms : List MOp} {e : E} {tm : Env} {n : Nat} {t : V} {k : List FP → KE ρ}, EqE e tm → qOpsF call ms e n t k = some r →
    ∃ e' n' t' st', k (fpsOf call' ms ⟨tm, decH n t⟩) e' n' t' = some r ∧ evOps call' ms ⟨tm, decH n t⟩ = some st' ∧ EqE e' st'.tmps ∧ st'.hp = decH n' t'
  | [], e, tm, n, t, k, he, h => ⟨e, n, t, _, h, rfl, he, rfl⟩
  | m :: ms, e, tm, n, t, k, he, h => by
    have h0 : fpOp e n m (fun f => qOp call m e n t fun e' n' t' => qOpsF call ms e' n' t' fun fs => k (f :: fs)) = some r := h
    have h01 := fpOp_ok he t h0
    obtain ⟨e1, n1, t1, st1, h1, h2, h3, h4⟩ := qOp_ok hc he h01
    obtain ⟨tm1, hp1⟩ := st1
    simp only at h3 h4
    subst h4
    obtain ⟨e', n', t', st', h5, h6, h7, h8⟩ := qOpsF_ok hc h3 h1
    refine ⟨e', n', t', st', ?_, by simp only [evOps, h2, thenO_some]; exact h6, h7, h8⟩
    simp only [fpsOf, h2]; exact h5

/-! ### Code -/

theorem onEx_ok {x : Ex} {kn : Option ρ} {kx : Nat → Option ρ} {kr : Option ρ} (h : onEx x kn kx kr = some r) : (x = .nrm ∧ kn = some r) ∨ (∃ id, x = .exit id ∧ kx id = some r) ∨ (x = .ret ∧ kr = some r) := by
  cases x with
  | nrm => exact .inl ⟨rfl, h⟩
  | exit id => exact .inr (.inl ⟨id, rfl, h⟩)
  | ret => exact .inr (.inr ⟨rfl, h⟩)

/-- What a code answers. -/
def CodeOK (f : CodeF ρ) (g : St → Option (Ex × St)) : Prop := ∀ (e : E) (tm : Env) (n : Nat) (t : V) (k : KX ρ) (r : ρ), EqE e tm → f e n t k = some r →
    ∃ x e' n' t' tm', k x e' n' t' = some r ∧ g ⟨tm, decH n t⟩ = some (x, ⟨tm', decH n' t'⟩) ∧ EqE e' tm'

theorem loop_ok {N : Nat} {ks : List Nat} {f : CodeF ρ} {g : St → Option (Ex × St)} (h : CodeOK f g) : CodeOK (c_loop N ks f) (loopN g ks N) := by
  induction N with
  | zero => intro e tm n t k r he h'; cases h'
  | succ N ih =>
    intro e tm n t k r he h'
    have h0 : keep ks e (fun e1 => f e1 n t fun x e' n' t' => onEx x (c_loop N ks f e' n' t' k) (fun id => k (.exit id) e' n' t') (k .ret e' n' t')) = some r := h'
    obtain ⟨e1, h1, h2⟩ := keep_ok he h0
    obtain ⟨x, e', n', t', tm', h3, h4, h5⟩ := h _ _ _ _ _ _ h2 h1
    rcases onEx_ok h3 with ⟨rfl, h6⟩ | ⟨id, rfl, h6⟩ | ⟨rfl, h6⟩
    · obtain ⟨x2, e2, n2, t2, tm2, h7, h8, h9⟩ := ih _ _ _ _ _ _ h5 h6
      exact ⟨x2, e2, n2, t2, tm2, h7, by simp only [loopN, h4, thenC_nrm, h8], h9⟩
    · exact ⟨_, e', n', t', tm', h6, by simp only [loopN, h4, thenC_exit], h5⟩
    · exact ⟨_, e', n', t', tm', h6, by simp only [loopN, h4, thenC_ret], h5⟩

theorem qC_ok {N : Nat} (hc : Snd call call') (c : MC) : CodeOK (qC N call c) (evC N call' c) := by
  induction c with
  | skip => intro e tm n t k r he h; exact ⟨_, e, n, t, tm, h, rfl, he⟩
  | reg ops live =>
    intro e tm n t k r he h
    have h0 : qOps call ops e n t (fun e' n' t' => keep live e' fun e2 => k .nrm e2 n' t') = some r := h
    obtain ⟨e1, n1, t1, st1, h1, h2, h3, h4⟩ := qOps_ok hc he h0
    obtain ⟨e2, h5, h6⟩ := keep_ok h3 h1
    obtain ⟨tm1, hp1⟩ := st1
    simp only at h4 h6
    subst h4
    exact ⟨_, e2, n1, t1, _, h5, by simp only [evC, h2, thenO_some], h6⟩
  | regd an ops live =>
    intro e tm n t k r he h
    have h0 : qOpsF call ops e n t (fun fs e' n' t' => ck (dynFree an ops fs) (keep live e' fun e2 => k .nrm e2 n' t')) = some r := h
    obtain ⟨e1, n1, t1, st1, h1, h2, h3, h4⟩ := qOpsF_ok hc he h0
    obtain ⟨h1a, h1b⟩ := ck_ok h1
    obtain ⟨e2, h5, h6⟩ := keep_ok h3 h1b
    obtain ⟨tm1, hp1⟩ := st1
    simp only at h4 h6
    subst h4
    exact ⟨_, e2, n1, t1, _, h5, by simp only [evC, h2, thenO_some, h1a, if_true], h6⟩
  | seq a b iha ihb =>
    intro e tm n t k r he h
    have h0 : qC N call a e n t (fun x e' n' t' => onEx x (qC N call b e' n' t' k) (fun id => k (.exit id) e' n' t') (k .ret e' n' t')) = some r := h
    obtain ⟨x, e', n', t', tm', h3, h4, h5⟩ := iha _ _ _ _ _ _ he h0
    rcases onEx_ok h3 with ⟨rfl, h6⟩ | ⟨id, rfl, h6⟩ | ⟨rfl, h6⟩
    · obtain ⟨x2, e2, n2, t2, tm2, h7, h8, h9⟩ := ihb _ _ _ _ _ _ h5 h6
      exact ⟨x2, e2, n2, t2, tm2, h7, by simp only [evC, h4, thenC_nrm, h8], h9⟩
    · exact ⟨_, e', n', t', tm', h6, by simp only [evC, h4, thenC_exit], h5⟩
    · exact ⟨_, e', n', t', tm', h6, by simp only [evC, h4, thenC_ret], h5⟩
  | cond c a b iha ihb =>
    intro e tm n t k r he h
    obtain ⟨v, h1, h2⟩ := opd_ok he (show opd e c _ = some r from h)
    obtain ⟨tt, hv, h3⟩ := onB_ok h1
    subst hv
    rcases bool_ok h3 with ⟨rfl, h4⟩ | ⟨rfl, h4⟩
    · obtain ⟨x, e', n', t', tm', h5, h6, h7⟩ := ihb _ _ _ _ _ _ he h4
      exact ⟨x, e', n', t', tm', h5, by simp only [evC, h2, dec, condB_bool]; exact h6, h7⟩
    · obtain ⟨x, e', n', t', tm', h5, h6, h7⟩ := iha _ _ _ _ _ _ he h4
      exact ⟨x, e', n', t', tm', h5, by simp only [evC, h2, dec, condB_bool]; exact h6, h7⟩
  | block id c ih =>
    intro e tm n t k r he h
    have h0 : qC N call c e n t (fun x e' n' t' => onEx x (k .nrm e' n' t') (fun id' => Bool.rec (motive := fun _ => Option ρ) (k (.exit id') e' n' t') (k .nrm e' n' t') (Nat.beq id' id)) (k .ret e' n' t')) = some r := h
    obtain ⟨x, e', n', t', tm', h3, h4, h5⟩ := ih _ _ _ _ _ _ he h0
    rcases onEx_ok h3 with ⟨rfl, h6⟩ | ⟨id', rfl, h6⟩ | ⟨rfl, h6⟩
    · exact ⟨_, e', n', t', tm', h6, by simp only [evC, h4, endB_nrm], h5⟩
    · rcases beqr_ok h6 with ⟨h7, h8⟩ | ⟨h7, h8⟩
      · exact ⟨_, e', n', t', tm', h8, by simp only [evC, h4, endB_exit, if_neg h7], h5⟩
      · exact ⟨_, e', n', t', tm', h8, by simp only [evC, h4, endB_exit, if_pos h7], h5⟩
    · exact ⟨_, e', n', t', tm', h6, by simp only [evC, h4, endB_ret], h5⟩
  | loop ks c ih =>
    intro e tm n t k r he h
    obtain ⟨x, e', n', t', tm', h3, h4, h5⟩ := loop_ok ih _ _ _ _ _ _ he (show c_loop N ks (qC N call c) e n t k = some r from h)
    exact ⟨x, e', n', t', tm', h3, by simp only [evC]; exact h4, h5⟩
  | each => intro e tm n t k r he h; cases h
  | exit id => intro e tm n t k r he h; exact ⟨_, e, n, t, tm, h, rfl, he⟩
  | ret => intro e tm n t k r he h; exact ⟨_, e, n, t, tm, h, rfl, he⟩

/-! ### Values that lean on nothing -/

abbrev MapF (ρ : Type) := V → (V → Option ρ) → Option ρ
def MapOK (f : MapF ρ) (g : AV → Option AV) : Prop := ∀ v k (r : ρ), f v k = some r → ∃ v', k v' = some r ∧ g (dec v) = some (dec v')

theorem mapL_ok {f : MapF ρ} {g : AV → Option AV} (hf : MapOK f g) : ∀ {l : V} {k : V → Option ρ} {r : ρ}, mapL f l k = some r → ∃ l', k l' = some r ∧ (decL l).mapM g = some (decL l') := by
  intro l
  induction l with
  | nil => intro k r h; exact ⟨_, h, rfl⟩
  | cons a b _ ih =>
    intro k r h
    have h0 : f a (fun a' => mapL f b fun r => k (.cons a' r)) = some r := h
    obtain ⟨a', h1, h2⟩ := hf _ _ _ h0
    obtain ⟨b', h3, h4⟩ := ih h1
    exact ⟨_, h3, by simp [decL, List.mapM_cons, h2, h4]⟩
  | _ => intro k r h; cases h

theorem mapT_ok {f : MapF ρ} {g : AV → Option AV} (hf : MapOK f g) {src : V} : ∀ {c i j : Nat} {t : V} {k : V → Option ρ} {r : ρ}, mapT f c src i j t k = some r →
    ∃ t', k t' = some r ∧ (∀ x, x < j → tget t' x = tget t x) ∧ ∀ x, x < c → (decL (tget src (i + x))).mapM g = some (decL (tget t' (j + x)))
  | 0, i, j, t, k, r, h => ⟨t, h, fun _ _ => rfl, fun x hx => by omega⟩
  | c + 1, i, j, t, k, r, h => by
    have h0 : tgt src i (fun x => mapL f x fun x' => tset t j x' fun t' => fN (i + 1) fun i' => fN (j + 1) fun j' => mapT f c src i' j' t' k) = some r := h
    have h1 := tgt_ok h0
    obtain ⟨x', h2, h3⟩ := mapL_ok hf h1
    obtain ⟨t1, h4, h5⟩ := tset_ok h2
    have h6 := fN_ok (k := fun j' => mapT f c src (i + 1) j' t1 k) (fN_ok (k := fun i' => fN (j + 1) fun j' => mapT f c src i' j' t1 k) h4)
    obtain ⟨t', h7, h8, h9⟩ := mapT_ok hf h6
    refine ⟨t', h7, fun x hx => ?_, fun x hx => ?_⟩
    · rw [h8 x (by omega), h5, if_neg (by omega)]
    · cases x with
      | zero => rw [Nat.add_zero, Nat.add_zero, h8 j (by omega), h5, if_pos rfl]; exact h3
      | succ x =>
        have := h9 x (by omega)
        rw [show i + (x + 1) = i + 1 + x by omega, show j + (x + 1) = j + 1 + x by omega]
        exact this

theorem mapM_ext {α β : Type} (f : α → Option β) : ∀ (l : List α) (r : List β), l.length = r.length → (∀ (i : Nat) (x : α) (y : β), l[i]? = some x → r[i]? = some y → f x = some y) → l.mapM f = some r
  | [], [], _, _ => rfl
  | [], _ :: _, h, _ => by simp at h
  | _ :: _, [], h, _ => by simp at h
  | x :: l, y :: r, h, hf => by
    rw [List.mapM_cons, hf 0 x y rfl rfl, mapM_ext f l r (by simpa using h) (fun i a b ha hb => hf (i + 1) a b (by simpa using ha) (by simpa using hb))]
    rfl

theorem freeze_free {H : Hp} {d : Nat} {a : AV} (h : a.free = true) : freeze H d a = some a := by
  cases a with
  | v x => cases d <;> rfl
  | ro sz n f => cases d <;> rfl
  | _ => cases h
theorem mapM_free {H : Hp} {d : Nat} : ∀ {l : List AV}, l.all AV.free = true → l.mapM (freeze H d) = some l
  | [], _ => rfl
  | a :: l, h => by
    simp only [List.all_cons, Bool.and_eq_true] at h
    rw [List.mapM_cons, freeze_free h.1, mapM_free h.2]; rfl

theorem frz0_ok {H : Hp} : MapOK (ρ := ρ) frz0 (freeze H 0) := by
  intro v k r h
  obtain ⟨h1, h2⟩ := ck_ok h
  exact ⟨v, h2, freeze_free (isFree_ok h1)⟩

theorem frzS_ok {n : Nat} {t : V} {d : Nat} {f : MapF ρ} (hf : MapOK f (freeze (decH n t) d)) {h0 ver off len : Nat} {k : V → Option ρ} {r : ρ} (h : frzS n t f h0 ver off len k = some r) :
    ∃ v', k v' = some r ∧ freeze (decH n t) (d + 1) (.sl h0 ver off len) = some (dec v') := by
  obtain ⟨sz, c, t', h1, h2, h3, h4⟩ := obj_ok h
  obtain ⟨h5, h6⟩ := ble_ok h1
  have h5' : off + len ≤ c := h5
  have hlim : (decH n t).lim ≤ h0 := Nat.zero_le _
  have key : ∀ t2 off2, (∀ x, x < len → (decT t' (off + x)).mapM (freeze (decH n t) d) = some (decT t2 (off2 + x))) →
      freeze (decH n t) (d + 1) (.sl h0 ver off len) = some (dec (.ro sz off2 len (off2 + len) t2)) := by
    intro t2 off2 hx
    simp only [freeze, h4, Option.bind_some, List.length_map, List.length_range, h5', hlim, and_self, if_true, cut_range t' off len c h5']
    have hm : ((List.range len).map fun i => decT t' (off + i)).mapM (fun (e : List AV) => e.mapM (freeze (decH n t) d)) = some ((List.range len).map fun i => decT t2 (off2 + i)) := by
      apply mapM_ext
      · simp
      · intro i x y hx' hy
        by_cases hi : i < len
        · simp [hi] at hx' hy
          subst hx'; subst hy
          exact hx i hi
        · have : (List.range len)[i]? = none := by simp; omega
          simp [this] at hx'
    rw [hm]
    simp only [Option.map_some, dec]
    congr 2
    funext i
    by_cases hi : i < len
    · have : off2 + i < off2 + len := by omega
      simp [hi, this]
    · have : ¬ off2 + i < off2 + len := by omega
      simp [hi, this]
  rcases bool_ok h6 with ⟨_, h7⟩ | ⟨hfr, h7⟩
  · obtain ⟨t2, h8, h9, h10⟩ := mapT_ok hf h7
    refine ⟨_, h8, ?_⟩
    have := key t2 0 (fun x hx => by rw [decT_eq, decT_eq]; exact h10 x hx)
    rw [Nat.zero_add] at this
    exact this
  · exact ⟨_, h7, key t' off (fun x hx => by rw [decT_eq]; exact mapM_free (trieFree_ok hfr _))⟩

theorem frz_ok {n : Nat} {t : V} : ∀ d, MapOK (ρ := ρ) (frz n t d) (freeze (decH n t) d)
  | 0 => frz0_ok
  | d + 1 => by
    intro v k r h
    have hf : MapOK (ρ := ρ) (frz n t d) (freeze (decH n t) d) := frz_ok d
    have h0 : frz1 n t (frz n t d) v k = some r := h
    cases v with
    | agg l => obtain ⟨l', h1, h2⟩ := mapL_ok hf (l := l) (k := fun r => k (.agg r)) h0; exact ⟨_, h1, by simp [freeze, dec, h2]⟩
    | tup l => obtain ⟨l', h1, h2⟩ := mapL_ok hf (l := l) (k := fun r => k (.tup r)) h0; exact ⟨_, h1, by simp [freeze, dec, h2]⟩
    | sl a b c e => exact frzS_ok hf (k := k) h0
    | i _ _ | m _ _ | b _ | s _ _ | us | zs | w _ | ro _ _ _ _ _ => exact ⟨_, h0, by simp [freeze, dec]⟩
    | _ => cases h0

theorem still_free {H : Hp} {d : Nat} {a : AV} (h : a.free = true) : still H d a = some a := by
  cases a with
  | v x => cases d <;> rfl
  | ro sz n f => cases d <;> rfl
  | _ => cases h

theorem still_apart : ∀ (d : Nat) (H : Hp) (a : AV), apart d a = true → still H d a = some a := by
  intro d
  induction d with
  | zero => intro H a h; cases a <;> first | rfl | (cases h; done)
  | succ d ih =>
    intro H a h
    have hm : ∀ l : List AV, l.all (apart d) = true → l.mapM (still H d) = some l := by
      intro l
      induction l with
      | nil => intro _; rfl
      | cons a l ihl =>
        intro h
        simp only [List.all_cons, Bool.and_eq_true] at h
        rw [List.mapM_cons, ih H a h.1, ihl h.2]; rfl
    cases a with
    | v => rfl
    | ro => rfl
    | agg cs => simp only [still, hm cs h, Option.map_some]
    | tup cs => simp only [still, hm cs h, Option.map_some]
    | rp cs => simp only [still, hm cs h, Option.map_some]
    | fn g cs => simp only [still, hm cs h, Option.map_some]
    | _ => cases h
theorem stills_apart (H : Hp) : ∀ l : List AV, l.all (apart 8) = true → l.mapM (still H 8) = some l := by
  intro l
  induction l with
  | nil => intro _; rfl
  | cons a l ihl =>
    intro h
    simp only [List.all_cons, Bool.and_eq_true] at h
    rw [List.mapM_cons, still_apart 8 _ a h.1, ihl h.2]; rfl
/-- A call of a pure function whose answer points nowhere. -/
theorem pure_call {args as : List AV} {H : Hp} {f : List AV → Option AV} {v : AV} (h6 : args.mapM (still H 8) = some as) (hev : f as = some v) (hs : v.scalar = true) :
    (if args.all (apart 8) then some args else args.mapM (still H 8)).bind (fun as => (f as).bind (handP (args.all (apart 8)) H)) = some (v, H) := by
  by_cases hall : args.all (apart 8) = true
  · rw [if_pos hall]
    have := stills_apart H _ hall
    rw [h6] at this
    simp only [Option.some.injEq] at this
    rw [Option.bind_some, ← this, hev]
    simp [handP, hs]
  · rw [if_neg hall, h6, Option.bind_some, hev]
    simp [handP, hs]

theorem stl_ok {n : Nat} {t : V} : ∀ d, MapOK (ρ := ρ) (stl n t d) (still (decH n t) d)
  | 0 => by
    intro v k r h
    obtain ⟨h1, h2⟩ := ck_ok h
    exact ⟨v, h2, still_free (isFree_ok h1)⟩
  | d + 1 => by
    intro v k r h
    have hf : MapOK (ρ := ρ) (stl n t d) (still (decH n t) d) := stl_ok d
    have h0 : stl1 n t (frz n t d) (stl n t d) v k = some r := h
    cases v with
    | agg l => obtain ⟨l', h1, h2⟩ := mapL_ok hf (l := l) (k := fun r => k (.agg r)) h0; exact ⟨_, h1, by simp [still, dec, h2]⟩
    | tup l => obtain ⟨l', h1, h2⟩ := mapL_ok hf (l := l) (k := fun r => k (.tup r)) h0; exact ⟨_, h1, by simp [still, dec, h2]⟩
    | rp l => obtain ⟨l', h1, h2⟩ := mapL_ok hf (l := l) (k := fun r => k (.rp r)) h0; exact ⟨_, h1, by simp [still, dec, h2]⟩
    | fn g l => obtain ⟨l', h1, h2⟩ := mapL_ok hf (l := l) (k := fun r => k (.fn g r)) h0; exact ⟨_, h1, by simp [still, dec, h2]⟩
    | sl a b c e =>
      obtain ⟨v', h1, h2⟩ := frzS_ok (frz_ok d) (k := k) h0
      refine ⟨v', h1, ?_⟩
      simp only [still, dec]
      exact h2
    | i _ _ | m _ _ | b _ | s _ _ | us | zs | w _ | ro _ _ _ _ _ => exact ⟨_, h0, by simp [still, dec]⟩
    | _ => cases h0

theorem all1_ok {f : V → Bool} {g : AV → Bool} (hf : ∀ v, f v = true → g (dec v) = true) : ∀ {l : V}, all1 f l = true → (decL l).all g = true := by
  intro l
  induction l with
  | nil => intro _; rfl
  | cons a b _ ih =>
    intro h
    have h' : Bool.rec (motive := fun _ => Bool) false (all1 f b) (f a) = true := h
    cases ha : f a with
    | false => rw [ha] at h'; cases h'
    | true => rw [ha] at h'; simp only [decL, List.all_cons, hf a ha, Bool.true_and]; exact ih h'
  | _ => intro h; cases h
theorem apart_free {d : Nat} {a : AV} (h : a.free = true) : apart d a = true := by
  cases a with
  | v x => cases d <;> rfl
  | ro sz n f => cases d <;> rfl
  | _ => cases h
theorem apt_ok : ∀ d v, apt d v = true → apart d (dec v) = true
  | 0, v, h => apart_free (isFree_ok h)
  | d + 1, v, h => by
    have hf := apt_ok d
    have h0 : apt1 (apt d) v = true := h
    cases v with
    | agg l => exact all1_ok hf (l := l) h0
    | tup l => exact all1_ok hf (l := l) h0
    | rp l => exact all1_ok hf (l := l) h0
    | fn g l => exact all1_ok hf (l := l) h0
    | i _ _ | m _ _ | b _ | s _ _ | us | zs | w _ | ro _ _ _ _ _ => rfl
    | _ => cases h0
theorem isVal_ok {v : V} (h : isVal v = true) : (dec v).isV = true := by
  cases v <;> first | (cases h; done) | rfl
theorem scal_ok {v : V} (h : scal v = true) : (dec v).scalar = true := by
  cases v with
  | agg l => exact all1_ok (fun _ => isVal_ok) (l := l) h
  | tup l => exact all1_ok (fun _ => isVal_ok) (l := l) h
  | _ => first | (cases h; done) | rfl

/-! ### Functions -/

theorem res1_ok {e : E} {tm : Env} (he : EqE e tm) {n : Nat} {t : V} {q : Res} {k : V → Option ρ} {r : ρ} (h : res1 e n t q k = some r) : ∃ v, k v = some r ∧ evRes ⟨tm, decH n t⟩ q = some (dec v) := by
  cases q with
  | tmp s =>
    obtain ⟨v, h1, h2⟩ := lk_ok h
    obtain ⟨h3, h4⟩ := known_ok h2
    exact ⟨v, h4, by simp [evRes, he s v h1, h3]⟩
  | cell s kk =>
    obtain ⟨v, h1, h2⟩ := lk_ok h
    have h3 := he s v h1
    rcases onP_ok h2 with ⟨l, rfl, h4⟩ | ⟨a, b, c, d, rfl, h4⟩
    · obtain ⟨w, h5, h6⟩ := takeK'_ok h4
      exact ⟨w, h5, by simp [evRes, h3, dec, evLoad, h6]⟩
    · obtain ⟨sz, n', t', h5, h6, h7, h8⟩ := obj_ok h4
      obtain ⟨h9, h10, h11⟩ := elem_ok h5
      obtain ⟨l', h12, h13, h14⟩ := dropL_ok h10
      obtain ⟨w, h15, hw⟩ := takeK'_ok h12
      refine ⟨w, h15, ?_⟩
      simp only [evRes, h3, dec, evLoad, h8, Option.bind_some, h11, ← h13, hw]

theorem resL_ok {e : E} {tm : Env} (he : EqE e tm) {n : Nat} {t : V} : ∀ {rs : List Res} {k : V → Option ρ} {r : ρ}, resL e n t rs k = some r → ∃ l, k l = some r ∧ rs.mapM (evRes ⟨tm, decH n t⟩) = some (decL l)
  | [], k, r, h => ⟨_, h, rfl⟩
  | q :: rs, k, r, h => by
    have h0 : res1 e n t q (fun v => resL e n t rs fun l => k (.cons v l)) = some r := h
    obtain ⟨v, h1, h2⟩ := res1_ok he h0
    obtain ⟨l, h3, h4⟩ := resL_ok he h1
    exact ⟨_, h3, by simp [List.mapM_cons, h2, h4, decL]⟩
theorem oneV_ok {l : V} {k : V → Option ρ} {r : ρ} (h : oneV l k = some r) : ∃ v, k v = some r ∧ one (decL l) = dec v := by
  rcases onL_ok h with ⟨rfl, h1⟩ | ⟨a, b, rfl, h1⟩
  · exact ⟨_, h1, by simp [one, decL, dec]⟩
  · rcases onL_ok h1 with ⟨rfl, h2⟩ | ⟨c, d, rfl, h2⟩
    · exact ⟨_, h2, by simp [one, decL]⟩
    · exact ⟨_, h2, by simp [one, decL, dec]⟩

theorem argE_ok : ∀ {l : V} {i : Nat} {k : E → Option ρ} {r : ρ}, argE l i k = some r → ∃ e, k e = some r ∧ EqE e (argEnv i (decL l)) := by
  intro l
  induction l with
  | nil => intro i k r h; exact ⟨_, h, fun s v q => by cases q⟩
  | cons a b _ ih =>
    intro i k r h
    have h0 : argE b (i + 1) (fun e => k (.cons i a e)) = some r := h
    obtain ⟨e, h1, h2⟩ := ih h0
    exact ⟨_, h1, by simp only [decL, argEnv]; exact h2.cons i a⟩
  | _ => intro i k r h; cases h

theorem onEnd_ok {x : Ex} {k : Option ρ} {r : ρ} (h : onEnd x k = some r) : k = some r ∧ (x = .nrm ∨ x = .ret) := by
  cases x with
  | nrm => exact ⟨h, .inl rfl⟩
  | ret => exact ⟨h, .inr rfl⟩
  | exit => cases h

theorem decH0 : (⟨0, []⟩ : Hp) = decH 0 .nil := rfl

theorem qRun_ok {N : Nat} (hc : Snd call call') {mf : MF} {args : V} {n : Nat} {t : V} {k : KV ρ} {r : ρ} (h : qRun N call mf args n t k = some r) :
    ∃ v n' t', k v n' t' = some r ∧ (if mf.pure then (if (decL args).all (apart 8) then some (decL args) else (decL args).mapM (still (decH n t) 8)).bind fun as =>
            (evP N call' mf as).bind (handP ((decL args).all (apart 8)) (decH n t))
        else if (decL args).length ≤ mf.ntmps then evRet (decH n t) mf (evC N call' mf.body { tmps := argEnv 0 (decL args), hp := decH n t })
        else none) = some (dec v, decH n' t') := by
  obtain ⟨h1, h2⟩ := ble_ok h
  rw [lenL_eq] at h1
  rcases bool_ok h2 with ⟨hp, h3⟩ | ⟨hp, h3⟩
  · obtain ⟨e, h4, h5⟩ := argE_ok h3
    obtain ⟨x, e', n', t', tm', h6, h7, h8⟩ := qC_ok (N := N) hc mf.body _ _ _ _ _ _ h5 h4
    obtain ⟨h9, h10⟩ := onEnd_ok h6
    obtain ⟨l, h11, h12⟩ := resL_ok h8 h9
    obtain ⟨v, h13, h14⟩ := oneV_ok h11
    refine ⟨v, n', t', h13, ?_⟩
    rw [hp]
    simp only [Bool.false_eq_true, if_false, if_pos h1, h7]
    rcases h10 with rfl | rfl <;> simp only [evRet, h12, Option.bind_some, h14] <;> rfl
  · have h3' := fB_ok (k := fun ap => Bool.rec (motive := fun _ => Option ρ)
      (mapL (stl n t 8) args fun as => argE as 0 fun e => qC N call mf.body e 0 .nil fun x e' n' t' => onEnd x (resL e' n' t' mf.res fun l => oneV l fun v => frz n' t' 8 v fun v' => ck (scal v') (k v' n t)))
      (argE args 0 fun e => qC N call mf.body e 0 .nil fun x e' n' t' => onEnd x (resL e' n' t' mf.res fun l => oneV l fun v => frz n' t' 8 v fun v' => k v' n t)) ap) h3
    rw [hp]
    simp only [if_true]
    rcases bool_ok h3' with ⟨hap, h4⟩ | ⟨hap, h4⟩
    · obtain ⟨as, h5, h6⟩ := mapL_ok (stl_ok 8) h4
      obtain ⟨e, h7, h8⟩ := argE_ok h5
      obtain ⟨x, e', n', t', tm', h9, h10, h11⟩ := qC_ok (N := N) hc mf.body _ _ _ _ _ _ h8 h7
      obtain ⟨h12, h13⟩ := onEnd_ok h9
      obtain ⟨l, h14, h15⟩ := resL_ok h11 h12
      obtain ⟨v, h16, h17⟩ := oneV_ok h14
      obtain ⟨v', h18, h19⟩ := frz_ok 8 _ _ _ h16
      obtain ⟨h20, h21⟩ := ck_ok h18
      refine ⟨v', n, t, h21, ?_⟩
      have hlen : (decL as).length = (decL args).length := by
        have : ∀ (l : List AV) (r : List AV), l.mapM (still (decH n t) 8) = some r → r.length = l.length := by
          intro l
          induction l with
          | nil => intro r h; cases h; rfl
          | cons a l ih =>
            intro r h
            rw [List.mapM_cons] at h
            simp only [Option.bind_eq_bind, Option.bind_eq_some_iff] at h
            obtain ⟨y, _, q, hq, h⟩ := h
            cases h
            simp [ih q hq]
        exact this _ _ h6
      have hev : evP N call' mf (decL as) = some (dec v') := by
        unfold evP
        rw [hlen, if_pos h1, decH0, h10]
        rcases h13 with rfl | rfl <;> simp only [evRetP, h15, Option.bind_some, h17, h19]
      exact pure_call h6 hev (scal_ok h20)
    · obtain ⟨e, h7, h8⟩ := argE_ok h4
      obtain ⟨x, e', n', t', tm', h9, h10, h11⟩ := qC_ok (N := N) hc mf.body _ _ _ _ _ _ h8 h7
      obtain ⟨h12, h13⟩ := onEnd_ok h9
      obtain ⟨l, h14, h15⟩ := resL_ok h11 h12
      obtain ⟨v, h16, h17⟩ := oneV_ok h14
      obtain ⟨v', h18, h19⟩ := frz_ok 8 _ _ _ h16
      refine ⟨v', n, t, h18, ?_⟩
      have hall : (decL args).all (apart 8) = true := all1_ok (apt_ok 8) hap
      have hev : evP N call' mf (decL args) = some (dec v') := by
        unfold evP
        rw [if_pos h1, decH0, h10]
        rcases h13 with rfl | rfl <;> simp only [evRetP, h15, Option.bind_some, h17, h19]
      rw [if_pos hall, Option.bind_some, hev]
      simp [handP, hall]

theorem find_ok {t : QT} {g : Nat} {k : MF → Option ρ} {r : ρ} (h : t.find g k = some r) : ∃ mf, (g, mf) ∈ t.all ∧ k mf = some r := by
  induction t with
  | nil => cases h
  | node j v l r' ihl ihr =>
    rcases beqr_ok (show Bool.rec (motive := fun _ => Option ρ) (Bool.rec (motive := fun _ => Option ρ) (r'.find g k) (l.find g k) (Nat.ble g j)) (k v) (Nat.beq g j) = some r from h) with ⟨_, h1⟩ | ⟨h1, h2⟩
    · rcases bool_ok h1 with ⟨_, h2⟩ | ⟨_, h2⟩
      · obtain ⟨mf, h3, h4⟩ := ihr h2; exact ⟨mf, by simp [QT.all, h3], h4⟩
      · obtain ⟨mf, h3, h4⟩ := ihl h2; exact ⟨mf, by simp [QT.all, h3], h4⟩
    · subst h1; exact ⟨v, by simp [QT.all], h2⟩

/-- Functions that are not entered: what they answer here, the evaluator answers, entered deep enough. -/
def OvOK (x : QX ρ) (M : Prg) (N D : Nat) : Prop := (∀ g, x g = none → M.ext g = none) ∧ ∀ g f, x g = some f → ∀ d l n t k (r : ρ), f l n t k = some r → ∃ v n' t', k v n' t' = some r ∧ evF M N (d + D) g (decL l) (decH n t) = some (dec v, decH n' t')

theorem qF_ov {M : Prg} {x : QX ρ} {t : QT} {N D : Nat} (hx : OvOK x M N D) (ht : ∀ p ∈ t.all, M.fns p.1 = some p.2) : ∀ d, Snd (qF x t N d) (evF M N (d + D))
  | 0 => fun g l n tr k r h => by cases h
  | d + 1 => fun g l n tr k r h => by
    have ih := qF_ov hx ht (N := N) d
    have h' : Option.rec (motive := fun _ => Option ρ) (t.find g fun mf => qRun N (qF x t N d) mf l n tr k) (fun f => f l n tr k) (x g) = some r := h
    cases hg : x g with
    | some f =>
      rw [hg] at h'
      exact hx.2 g f hg (d + 1) _ _ _ _ _ h'
    | none =>
      rw [hg] at h'
      rw [show d + 1 + D = d + D + 1 by omega]
      simp only [evF]
      rw [hx.1 g hg]
      obtain ⟨mf, h1, h2⟩ := find_ok h'
      have hm := ht _ h1
      simp only at hm
      simp only [hm]
      exact qRun_ok ih h2

/-- Functions of the program's that are not entered. -/
def ExtOK (x : QX ρ) (M : Prg) : Prop := (∀ g, x g = none → M.ext g = none) ∧ ∀ g f, x g = some f → ∀ l n t k (r : ρ), f l n t k = some r → ∃ v n' t', k v n' t' = some r ∧ ∃ y, M.ext g = some y ∧ y (decL l) (decH n t) = some (dec v, decH n' t')
theorem ExtOK.ov {x : QX ρ} {M : Prg} (h : ExtOK x M) (N D : Nat) : OvOK x M N (D + 1) := by
  refine ⟨h.1, fun g f hg d l n t k r hr => ?_⟩
  obtain ⟨v, n', t', h1, y, h2, h3⟩ := h.2 g f hg l n t k r hr
  exact ⟨v, n', t', h1, by rw [← Nat.add_assoc]; simp only [evF, h2, h3]⟩

/-- One more function. -/
theorem OvOK.more {x : QX ρ} {M : Prg} {N D : Nat} (h : OvOK x M N D) (g0 : Nat) (f0 : V → Nat → V → KV ρ → Option ρ)
    (h0 : ∀ d l n t k (r : ρ), f0 l n t k = some r → ∃ v n' t', k v n' t' = some r ∧ evF M N (d + D) g0 (decL l) (decH n t) = some (dec v, decH n' t')) :
    OvOK (fun g => Bool.rec (motive := fun _ => Option (V → Nat → V → KV ρ → Option ρ)) (x g) (some f0) (Nat.beq g g0)) M N D := by
  constructor
  · intro g hg
    cases h1 : Nat.beq g g0 with
    | true => simp only [h1] at hg; cases hg
    | false => simp only [h1] at hg; exact h.1 g hg
  · intro g f hg
    cases h1 : Nat.beq g g0 with
    | true =>
      simp only [h1] at hg
      cases hg
      obtain rfl := Nat.eq_of_beq_eq_true h1
      exact h0
    | false => simp only [h1] at hg; exact h.2 g f hg
theorem OvOK.deep {x : QX ρ} {M : Prg} {N D D' : Nat} (h : OvOK x M N D) (hd : D ≤ D') : OvOK x M N D' := by
  refine ⟨h.1, fun g f hg d l n t k r hr => ?_⟩
  have := h.2 g f hg (d + (D' - D)) l n t k r hr
  rwa [show d + (D' - D) + D = d + D' by omega] at this
end
end Sx.Q
