/-
  Q: operations are the evaluator's.
-/
import Derived.Test.YtgmppophlalliaaGreatSxQd
namespace Sx.Q
open Go
set_option linter.unusedVariables false
set_option linter.unusedSimpArgs false

section
variable {ρ : Type} {r : ρ}

/-- What a call answers here, it answers there. -/
def Snd (c : QCall ρ) (c' : CallF) : Prop := ∀ g l n t k r, c g l n t k = some r → ∃ v n' t', k v n' t' = some r ∧ c' g (decL l) (decH n t) = some (dec v, decH n' t')

/-- What an operation answers: a value and a heap; or a slot's value. -/
def OpR (tm : Env) (H : Hp) (o : Option Eff) (kv : KV ρ) (ks : KS ρ) (r : ρ) : Prop :=
  (∃ v n' t', kv v n' t' = some r ∧ ∃ eff, o = some eff ∧ ∀ dst, app ⟨tm, H⟩ dst eff = ⟨putD dst (dec v) tm, decH n' t'⟩) ∨
  (∃ s v n' t', ks s v n' t' = some r ∧ ∃ eff, o = some eff ∧ ∀ dst, app ⟨tm, H⟩ dst eff = ⟨putD dst (.v (.tuple #[])) ((s, dec v) :: tm), decH n' t'⟩)

section
variable {tm : Env} {kv : KV ρ} {ks : KS ρ} {o : Option Eff}
theorem OpR.val {n : Nat} {t v : V} (h : kv v n t = some r) (ho : o = some (.val (dec v))) : OpR tm (decH n t) o kv ks r :=
  .inl ⟨v, n, t, h, _, ho, fun _ => rfl⟩
theorem OpR.valH {H : Hp} {n' : Nat} {t' v : V} (h : kv v n' t' = some r) (ho : o = some (.valH (dec v) (decH n' t'))) : OpR tm H o kv ks r :=
  .inl ⟨v, n', t', h, _, ho, fun _ => rfl⟩
theorem OpR.hp {H : Hp} {n' : Nat} {t' : V} (h : kv .us n' t' = some r) (ho : o = some (.hp (decH n' t'))) : OpR tm H o kv ks r :=
  .inl ⟨.us, n', t', h, _, ho, fun _ => rfl⟩
theorem OpR.slot {n : Nat} {t v : V} {s : Nat} (h : ks s v n t = some r) (ho : o = some (.slot s (dec v))) : OpR tm (decH n t) o kv ks r :=
  .inr ⟨s, v, n, t, h, _, ho, fun _ => rfl⟩
theorem OpR.slotH {H : Hp} {n' : Nat} {t' v : V} {s : Nat} (h : ks s v n' t' = some r) (ho : o = some (.slotH s (dec v) (decH n' t'))) : OpR tm H o kv ks r :=
  .inr ⟨s, v, n', t', h, _, ho, fun _ => rfl⟩
end

variable {call : QCall ρ} {call' : CallF} {e : E} {tm : Env} {n : Nat} {t : V} {kv : KV ρ} {ks : KS ρ}

abbrev OkO (call : QCall ρ) (call' : CallF) (e : E) (tm : Env) (n : Nat) (t : V) (kv : KV ρ) (ks : KS ρ) (r : ρ) (f : OpF ρ) (m : MO) : Prop :=
  f call e n t kv ks = some r → OpR tm (decH n t) (evO call' tm (decH n t) m) kv ks r

theorem o_mv (he : EqE e tm) (x : Opd) : OkO call call' e tm n t kv ks r (q_mv x) (.mv x) := by
  intro h
  obtain ⟨v, h, hv⟩ := opd_ok he h
  obtain ⟨h1, h⟩ := known_ok h
  exact .val h (by simp [evO, hv, h1])

theorem o_pick (he : EqE e tm) (c a b : Opd) : OkO call call' e tm n t kv ks r (q_pick c a b) (.pick c a b) := by
  intro h
  obtain ⟨v, h, hv⟩ := opd_ok he h
  obtain ⟨tt, rfl, h⟩ := onB_ok h
  rcases bool_ok h with ⟨rfl, h⟩ | ⟨rfl, h⟩
  · obtain ⟨w, h, hw⟩ := opd_ok he h
    obtain ⟨h1, h⟩ := known_ok h
    exact .val h (by simp [evO, hv, hw, h1, dec])
  · obtain ⟨w, h, hw⟩ := opd_ok he h
    obtain ⟨h1, h⟩ := known_ok h
    exact .val h (by simp [evO, hv, hw, h1, dec])

theorem o_alloc (z : List AV) : OkO call call' e tm n t kv ks r (q_alloc z) (.alloc z) := by
  intro h
  obtain ⟨l, h', rfl⟩ := encL_ok h
  clear h; have h := h'; clear h'
  exact .val h (by simp [evO, dec])

theorem decO_one (c : Nat) (l : V) : decO (.os 0 c 1 (.nd l .nil .nil)) = .sl 0 c [decL l] := by simp [decO, List.range_succ, decT_eq, tget]

theorem o_new (z : List AV) : OkO call call' e tm n t kv ks r (q_new z) (.new z) := by
  intro h
  obtain ⟨l, h', rfl⟩ := encL_ok h
  clear h; have h := h'; clear h'
  obtain ⟨t', h, hp⟩ := push_ok h
  exact .valH h (by simp [evO, dec, hp, obs_len, decO_one, lenL_eq])

theorem o_box (he : EqE e tm) (c : Nat) (x : Opd) : OkO call call' e tm n t kv ks r (q_box c x) (.box c x) := by
  intro h
  obtain ⟨v, h, hv⟩ := opd_ok he h
  obtain ⟨l, h, h1, h2⟩ := solid_ok h
  obtain ⟨h3, h⟩ := beq_ok h
  rw [lenL_eq] at h3
  exact .val h (by simp [evO, hv, h1, h2, h3, dec])

theorem o_boxm (he : EqE e tm) (c : Nat) (x : Opd) : OkO call call' e tm n t kv ks r (q_boxm c x) (.boxm c x) := by
  intro h
  obtain ⟨v, h, hv⟩ := opd_ok he h
  obtain ⟨l, h, h1, h2⟩ := solid_ok h
  obtain ⟨h3, h⟩ := beq_ok h
  rw [lenL_eq] at h3
  obtain ⟨t', h, hp⟩ := push_ok h
  exact .valH h (by simp [evO, hv, h1, h2, h3, dec, hp, obs_len, decO_one])

theorem fillC_of {c off : Nat} {z l z' : V} (h1 : lenL l = c) (h2 : decL z' = (decL z).take off ++ decL l ++ (decL z).drop (off + (decL l).length)) (h3 : off + (decL l).length ≤ (decL z).length) : fillC c (decL z) off (decL l) = some (decL z') := by
  rw [lenL_eq] at h1
  subst h1
  unfold fillC
  rw [if_pos ⟨rfl, h3⟩, h2]

theorem build_ok (he : EqE e tm) : ∀ {ps : List (Nat × Nat × Opd)} {z : V} {k : V → Option ρ}, build e ps z k = some r → ∃ z', k z' = some r ∧ evBuild tm (decL z) ps = some (decL z')
  | [], z, k, h => ⟨z, h, rfl⟩
  | p :: ps, z, k, h => by
    have e1 : build e (p :: ps) z k = opd e p.2.2 fun v => solid v fun l => ck (Nat.beq (lenL l) p.2.1) (fillL z p.1 l fun z' => build e ps z' k) := rfl
    rw [e1] at h
    obtain ⟨v, h, hv⟩ := opd_ok he h
    obtain ⟨l, h, h1, h2⟩ := solid_ok h
    obtain ⟨h3, h⟩ := beq_ok h
    obtain ⟨z1, h, h4, h5⟩ := fillL_ok h
    obtain ⟨z', h, h6⟩ := build_ok he h
    refine ⟨z', h, ?_⟩
    obtain ⟨off, c, x⟩ := p
    simp only [evBuild, hv, h1, if_true, h2]
    rw [fillC_of h3 h4 h5]
    exact h6

theorem o_build (he : EqE e tm) (z : List AV) (ps : List (Nat × Nat × Opd)) : OkO call call' e tm n t kv ks r (q_build z ps) (.build z ps) := by
  intro h
  obtain ⟨l, h', rfl⟩ := encL_ok h
  clear h; have h := h'; clear h'
  obtain ⟨l', h, hb⟩ := build_ok he h
  exact .val h (by simp [evO, hb, dec])

theorem isFree_ok {v : V} (h : isFree v = true) : (dec v).free = true := by
  cases v <;> first | (cases h; done) | rfl
theorem allFree_ok : ∀ {l : V}, allFree l = true → (decL l).all AV.free = true := by
  intro l
  induction l with
  | nil => intro _; rfl
  | cons a b _ ih =>
    intro h
    have h' : Bool.rec (motive := fun _ => Bool) false (allFree b) (isFree a) = true := h
    cases ha : isFree a with
    | false => rw [ha] at h'; cases h'
    | true => rw [ha] at h'; simp only [decL, List.all_cons, isFree_ok ha, Bool.true_and]; exact ih h'
  | _ => intro h; cases h
theorem trieFree_ok : ∀ {t : V}, trieFree t = true → ∀ j, (decL (tget t j)).all AV.free = true := by
  intro t
  induction t with
  | nil => intro _ j; rfl
  | nd x l r' _ ihl ihr =>
    intro h j
    have h' : Bool.rec (motive := fun _ => Bool) false (Bool.rec (motive := fun _ => Bool) false (trieFree r') (trieFree l)) (allFree x) = true := h
    cases ha : allFree x with
    | false => rw [ha] at h'; cases h'
    | true =>
      rw [ha] at h'
      cases hl : trieFree l with
      | false => rw [hl] at h'; cases h'
      | true =>
        rw [hl] at h'
        simp only [tget]
        split
        · exact allFree_ok ha
        · split
          · exact ihl hl _
          · exact ihr h' _
  | _ => intro h; cases h

theorem o_lit (he : EqE e tm) (sz : Nat) (z : List AV) (ps : List (Nat × Nat × Opd)) (m : Bool) : OkO call call' e tm n t kv ks r (q_lit sz z ps m) (.lit sz z ps m) := by
  intro h
  obtain ⟨l, h', rfl⟩ := encL_ok h
  clear h; have h := h'; clear h'
  obtain ⟨l', h, hb⟩ := build_ok he h
  have h := fN_ok (k := fun c => chunks sz c l' 0 .nil fun tr => Bool.rec (motive := fun _ => Option ρ) (Bool.rec (motive := fun _ => Option ρ) none (kv (.ro sz 0 c c tr) n t) (trieFree tr)) (push n t (.os 0 sz c tr) fun n' t' => kv (.sl n 0 0 c) n' t') m) h
  obtain ⟨tr, h, htr⟩ := chunks_ok h
  have hels : (List.range ((decL l).length / sz)).map (fun i => ((decL l').drop (i * sz)).take sz) = (List.range (Nat.div (lenL l) sz)).map (decT tr) := by
    rw [lenL_eq]
    show (List.range ((decL l).length / sz)).map _ = (List.range ((decL l).length / sz)).map _
    apply List.map_congr_left
    intro i hi
    have hi' := List.mem_range.1 hi
    rw [decT_eq, htr, if_pos ⟨Nat.zero_le _, by rw [Nat.zero_add, lenL_eq]; exact hi'⟩]
    simp
  rcases bool_ok h with ⟨rfl, h⟩ | ⟨rfl, h⟩
  · rcases bool_ok h with ⟨_, h⟩ | ⟨hf, h⟩
    · cases h
    · refine .val h ?_
      simp only [evO, hb, Option.bind_some, hels]
      have hall : ((List.range (Nat.div (lenL l) sz)).map (decT tr)).all (fun e => e.all AV.free) = true := by
        rw [List.all_eq_true]
        intro x hx
        obtain ⟨i, _, rfl⟩ := List.mem_map.1 hx
        rw [decT_eq]
        exact trieFree_ok hf i
      simp only [Bool.false_eq_true, if_false, hall, if_true, dec]
      congr 2
      rw [List.length_map, List.length_range]
      congr 1
      funext j
      by_cases hj : j < Nat.div (lenL l) sz
      · simp [hj]
      · simp [hj]
  · obtain ⟨t', h, hp⟩ := push_ok h
    refine .valH h ?_
    simp only [evO, hb, Option.bind_some, hels, if_true, hp, dec, obs_len, decO, List.length_map, List.length_range]
    rw [lenL_eq]; rfl

theorem o_load (he : EqE e tm) (k : Option Nat) (x : Opd) : OkO call call' e tm n t kv ks r (q_load k x) (.load k x) := by
  intro h
  obtain ⟨v, h, hv⟩ := opd_ok he h
  rcases onP_ok h with ⟨l, rfl, h⟩ | ⟨a, b, c, d, rfl, h⟩
  · obtain ⟨w, h, hw⟩ := takeK'_ok h
    exact .val h (by simp [evO, hv, dec, evLoad, hw])
  · obtain ⟨sz, n', t', h, h1, h2, h3⟩ := obj_ok h
    obtain ⟨h4, h, h5⟩ := elem_ok h
    obtain ⟨l', h, h6, h7⟩ := dropL_ok h
    obtain ⟨w, h, hw⟩ := takeK'_ok h
    refine .val h ?_
    simp only [evO, hv, dec, evLoad, h3, Option.bind_some, h5, ← h6, hw, Option.map_some]

theorem set_range {n i : Nat} {t t' x : V} (h : ∀ j, tget t' j = if j = i then x else tget t j) : ((List.range n).map (decT t)).set i (decL x) = (List.range n).map (decT t') := by
  apply List.ext_getElem?
  intro j
  rw [List.getElem?_set]
  simp only [List.length_map, List.length_range, List.getElem?_map]
  by_cases hj : j < n
  · simp only [List.getElem?_range hj, Option.map_some, decT_eq, h]
    by_cases q : j = i
    · subst q; simp [hj]
    · have : ¬ i = j := fun w => q w.symm
      simp [q, this]
  · have : (List.range n)[j]? = none := by simp; omega
    simp only [this, Option.map_none]
    split
    · split
      · omega
      · rfl
    · rfl

theorem o_store (he : EqE e tm) (c : Nat) (a x : Opd) : OkO call call' e tm n t kv ks r (q_store c a x) (.store c a x) := by
  intro h
  obtain ⟨v, h, hv⟩ := opd_ok he h
  obtain ⟨l, h, h1, h2⟩ := solid_ok h
  obtain ⟨h3, h⟩ := beq_ok h
  obtain ⟨p, h, hp⟩ := opd_ok he h
  have h3' : (decL l).length = c := by rw [← lenL_eq]; exact h3
  rcases onA_ok h with ⟨z, rfl, h⟩ | ⟨h0, ver, i, o, rfl, h⟩
  · obtain ⟨h4, h⟩ := beq_ok h
    rw [lenL_eq] at h4
    cases a with
    | t s =>
      refine .slot h ?_
      simp only [evO, hv, h1, h2, h3', and_self, if_true, hp, dec, h4]
    | c _ => cases h
    | f _ => cases h
  · obtain ⟨sz, n', t', h, h4, h5, h6⟩ := obj_ok h
    obtain ⟨h7, h, h8⟩ := elem_ok h
    obtain ⟨l1, h, h9, h10⟩ := fillL_ok h
    obtain ⟨t1, h, h11⟩ := tset_ok h
    obtain ⟨t2, h, h12⟩ := tset_ok h
    refine .hp h ?_
    have hf := fillC_of h3 h9 h10
    have e1 : evO call' tm (decH n t) (.store c a x) = ((decH n t).get h0 ver).bind fun ob => if (decH n t).lim ≤ h0 then (ob.2[i]?).bind fun e => (fillC c e o (decL l)).map fun e' => .hp ((decH n t).put h0 (.sl ver ob.1 (ob.2.set i e'))) else none := by
      simp only [evO, hv, h1, h2, h3', and_self, if_true, hp, dec]
    rw [e1, h6]
    have hl : (decH n t).lim ≤ h0 := Nat.zero_le _
    simp only [Option.bind_some, if_pos hl, h8, hf, Option.map_some]
    rw [set_range h11, decH_put h12]
    simp only [decO]

theorem o_mat (he : EqE e tm) (c s : Nat) (x : Opd) : OkO call call' e tm n t kv ks r (q_mat c s x) (.mat c s x) := by
  intro h
  obtain ⟨p, hp, h⟩ := lk_ok h
  obtain ⟨z, rfl, h⟩ := onUn_ok h
  obtain ⟨v, h, hv⟩ := opd_ok he h
  obtain ⟨l, h, h1, h2⟩ := solid_ok h
  obtain ⟨h3, h⟩ := beq_ok h
  obtain ⟨h4, h⟩ := beq_ok h
  obtain ⟨h5, h⟩ := ble_ok h
  obtain ⟨t', h, h6⟩ := push_ok h
  rw [lenL_eq] at h3 h4
  refine .slotH h ?_
  have hs := he s _ hp
  have h5' : 0 < c := h5
  simp only [evO, hs, dec, hv, h1, h2, h3, h4, h5', and_self, if_true, obs_len, h6, decO_one]

theorem o_bin (he : EqE e tm) (op : BinOp) (x y : Opd) : OkO call call' e tm n t kv ks r (q_bin op x y) (.bin op x y) := by
  intro h
  obtain ⟨a, h, ha⟩ := opd_ok he h
  obtain ⟨b, h, hb⟩ := opd_ok he h
  obtain ⟨v, h, hv⟩ := bin_ok h
  exact .val h (by simp [evO, ha, hb, hv])

theorem o_eqn (he : EqE e tm) (neg : Bool) (kk : List Nat) (x y : Opd) : OkO call call' e tm n t kv ks r (q_eqn neg kk x y) (.eqn neg kk x y) := by
  intro h
  obtain ⟨a, h, ha⟩ := opd_ok he h
  obtain ⟨b, h, hb⟩ := opd_ok he h
  cases hq : evEq kk (dec a) (dec b) with
  | none => rw [hq] at h; cases h
  | some tt => rw [hq] at h; exact .val h (by simp [evO, ha, hb, hq, dec])

theorem o_eqb (he : EqE e tm) (neg : Bool) (x y : Opd) : OkO call call' e tm n t kv ks r (q_eqb neg x y) (.eqb neg x y) := by
  intro h
  obtain ⟨a, h, ha⟩ := opd_ok he h
  obtain ⟨b, h, hb⟩ := opd_ok he h
  obtain ⟨p, hp, h1⟩ := onB_ok h
  obtain ⟨q, hq, h2⟩ := onB_ok h1
  subst hp; subst hq
  have h := fB_ok (k := fun tt => kv (.b (if neg then !tt else tt)) n t) h2
  exact .val h (by simp [evO, ha, hb, eqCell, dec])

theorem o_un (he : EqE e tm) (op : UnOp) (x : Opd) : OkO call call' e tm n t kv ks r (q_un op x) (.un op x) := by
  intro h
  obtain ⟨a, h, ha⟩ := opd_ok he h
  obtain ⟨v, h, hv, _⟩ := valV_ok h
  exact .val h (by simp [evO, ha, hv])

theorem o_conv (he : EqE e tm) (k : IntKind) (x : Opd) : OkO call call' e tm n t kv ks r (q_conv k x) (.conv k x) := by
  intro h
  obtain ⟨a, h, ha⟩ := opd_ok he h
  rcases onI_ok h with ⟨c, y, rfl, h⟩ | ⟨c, y, rfl, h⟩
  · rcases bool_ok h with ⟨_, h⟩ | ⟨h1, h⟩
    · exact .val h (by simp [evO, ha, encV_ok, dec])
    · refine .val h ?_
      have h2 := wrap_of (Nat.le_of_ble_eq_true h1)
      rw [kd_kc] at h2
      simp only [evO, ha, dec, h2, kd_kc]
  · exact .val h (by simp [evO, ha, encV_ok, dec])

theorem o_fld (he : EqE e tm) (off : Nat) (k : Option Nat) (x : Opd) : OkO call call' e tm n t kv ks r (q_fld off k x) (.fld off k x) := by
  intro h
  obtain ⟨a, h, ha⟩ := opd_ok he h
  obtain ⟨l, rfl, h⟩ := onAgg_ok h
  obtain ⟨l', h, h1, h2⟩ := dropL_ok h
  obtain ⟨w, h, hw⟩ := takeK'_ok h
  exact .val h (by simp [evO, ha, dec, ← h1, hw])

theorem o_fadr (he : EqE e tm) (off : Nat) (x : Opd) : OkO call call' e tm n t kv ks r (q_fadr off x) (.fadr off x) := by
  intro h
  obtain ⟨a, h, ha⟩ := opd_ok he h
  rcases onP_ok h with ⟨l, rfl, h⟩ | ⟨h0, ver, i, o, rfl, h⟩
  · obtain ⟨l', h, h1, h2⟩ := dropL_ok h
    exact .val h (by simp [evO, ha, dec, evFadr, h1, h2])
  · have h := fN_ok (k := fun o' => kv (.hp h0 ver i o') n t) h
    exact .val h (by simp [evO, ha, dec, evFadr])

theorem o_iadr (he : EqE e tm) (sz : Nat) (x i : Opd) : OkO call call' e tm n t kv ks r (q_iadr sz x i) (.iadr sz x i) := by
  intro h
  obtain ⟨a, h, ha⟩ := opd_ok he h
  obtain ⟨b, h, hb⟩ := opd_ok he h
  obtain ⟨c0, j, rfl, h⟩ := onI1_ok h
  rcases onSl_ok h with ⟨_, h⟩ | ⟨sz', off, c, bd, tr, rfl, h⟩ | ⟨h0, ver, off, len, rfl, h⟩
  · cases h
  · obtain ⟨hq, hh⟩ := beq_ok h
    subst hq; clear h; have h := hh; clear hh
    obtain ⟨h1, h⟩ := ble_ok h
    obtain ⟨h1b, h⟩ := ble_ok h
    have h := tgt_ok h
    refine .val h ?_
    have h1' : j < c := h1
    have h2 : (0 : Int) ≤ (j : Int) ∧ (j : Int) < (c : Int) := by omega
    have h1c : off + j < bd := h1b
    simp [evO, ha, hb, dec, evIadr, h1', h1c, decT_eq]
  · obtain ⟨sz', n', t', h, h1, h2, h3⟩ := obj_ok h
    obtain ⟨hq, hh⟩ := beq_ok h
    subst hq; clear h; have h := hh; clear hh
    obtain ⟨h4, h⟩ := ble_ok h
    have h := fN_ok (k := fun j' => kv (.hp h0 ver j' 0) n t) h
    have h4' : j < len := h4
    refine .val h ?_
    simp [evO, ha, hb, dec, evIadr, h3, h4']

theorem o_idx (he : EqE e tm) (len sz : Nat) (k : Option Nat) (x i : Opd) : OkO call call' e tm n t kv ks r (q_idx len sz k x i) (.idx len sz k x i) := by
  intro h
  obtain ⟨a, h, ha⟩ := opd_ok he h
  obtain ⟨b, h, hb⟩ := opd_ok he h
  obtain ⟨l, rfl, h⟩ := onAgg_ok h
  obtain ⟨c0, j, rfl, h⟩ := onI1_ok h
  obtain ⟨h1, h⟩ := ble_ok h
  obtain ⟨l', h, h2, h3⟩ := dropL_ok h
  obtain ⟨w, h, hw⟩ := takeK'_ok h
  refine .val h ?_
  have h1' : j < len := h1
  have h2' : List.drop (j * sz) (decL l) = decL l' := h2.symm
  simp [evO, ha, hb, dec, h1', h2', hw]

theorem o_sidx (he : EqE e tm) (x i : Opd) : OkO call call' e tm n t kv ks r (q_sidx x i) (.sidx x i) := by
  intro h
  obtain ⟨a, h, ha⟩ := opd_ok he h
  obtain ⟨b, h, hb⟩ := opd_ok he h
  obtain ⟨c, y, rfl, h⟩ := onS_ok h
  obtain ⟨c0, j, rfl, h⟩ := onI1_ok h
  obtain ⟨h1, h⟩ := ble_ok h
  have h := fN_ok (k := fun r => kv (.i 4 r) n t) h
  refine .val h ?_
  have h2 := byte_get c y j h1
  have h3 : (UInt8.ofNat (y >>> (8 * j))).toNat = Nat.land (Nat.shiftRight y (Nat.mul 8 j)) 255 := by
    rw [UInt8.toNat_ofNat']
    have := Nat.and_two_pow_sub_one_eq_mod (y >>> (8 * j)) 8
    exact this.symm
  simp only [evO, ha, hb, dec, Int.ofNat_eq_natCast, Int.natCast_nonneg, if_true, Int.toNat_natCast, h2, Option.map_some, h3]
  rfl
end
end Sx.Q
