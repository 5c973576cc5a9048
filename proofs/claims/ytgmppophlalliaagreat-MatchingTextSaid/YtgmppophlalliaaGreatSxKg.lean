/-
  K: functions, and tables of functions.
-/
import Derived.Test.YtgmppophlalliaaGreatSxKf
namespace Sx
open Go
set_option linter.unusedSimpArgs false
set_option linter.unusedVariables false

section
variable {R : Type} {r : R}

theorem toTy_nil : ∀ (c : CK), toTy c [] = none
  | .int _ => rfl
  | .bool => rfl
  | .str => rfl
  | .arr _ => rfl
  | .pair a b => by simp [toTy, toTy_nil a]

theorem toTy_plain : ∀ (c : CK) {v : KV} {x : c.ty}, toTy c [v] = some x → v.plain = true
  | .int k, v, x, h => by cases v <;> first | rfl | (simp [toTy, toTy1] at h)
  | .bool, v, x, h => by cases v <;> first | rfl | (simp [toTy, toTy1] at h)
  | .str, v, x, h => by cases v <;> first | rfl | (simp [toTy, toTy1] at h)
  | .arr e, v, x, h => by cases v <;> first | rfl | (simp [toTy, toTy1] at h)
  | .pair a b, v, x, h => by
    have hp := nc_pos a
    have : [v].drop a.nc = [] := List.drop_eq_nil_of_le (by simp; omega)
    simp only [toTy, this, toTy_nil b] at h
    split at h <;> cases h

theorem cell_ok {c : CK} {v : KV} {x : c.ty} (h : toTy c [v] = some x) {a : AV} (f : FV v a) : FV (one1 (ofTy c x)) a := by
  have h1 := toTy_ok c h (.one f)
  cases hc : ofTy c x with
  | nil => rw [hc] at h1; have := h1.1; simp at this
  | cons u l =>
    rw [hc] at h1
    obtain ⟨b, bs, e, h2, h3⟩ := h1.head
    cases e
    cases l with
    | nil => exact h2
    | cons => have := h3.1; simp at this

theorem capDec_ok : ∀ (l : List (Bool × CK)) {cs : List KV} {k : capTy l → Option R}, capDec l cs k = some r → ∃ x, k x = some r ∧ ∀ as, FL cs as → FL (capEnc l x) as
  | [], [], k, h => ⟨(), h, fun as f => f⟩
  | (true, c) :: l, v :: vs, k, h => by
    cases v with
    | rp cs =>
      simp only [capDec] at h
      obtain ⟨x, hx, h⟩ := kO?_some h
      obtain ⟨y, hy, h2⟩ := capDec_ok l h
      refine ⟨(x, y), hy, fun as f => ?_⟩
      obtain ⟨a, as', rfl, h3, h4⟩ := f.head
      cases h3 with
      | rp hl hf =>
        have := toTy_ok c hx ⟨hl, hf⟩
        exact .cons (.rp this.1 this.2) (h2 _ h4)
    | _ => cases h
  | (false, c) :: l, v :: vs, k, h => by
    simp only [capDec] at h
    obtain ⟨x, hx, h⟩ := kO?_some h
    obtain ⟨y, hy, h2⟩ := capDec_ok l h
    refine ⟨(x, y), hy, fun as f => ?_⟩
    obtain ⟨a, as', rfl, h3, h4⟩ := f.head
    exact .cons (cell_ok hx h3) (h2 _ h4)
  | [], _ :: _, k, h => by cases h
  | (true, _) :: _, [], k, h => by cases h
  | (false, _) :: _, [], k, h => by cases h

theorem SS.dec_ok (s : SS) {v : KV} {k : s.ty → Option R} (h : s.dec v k = some r) : ∃ x, k x = some r ∧ (∀ a, FV v a → FV (s.enc x) a) ∧ ∀ ρ H a, RV ρ H v a → RV ρ H (s.enc x) a := by
  cases s with
  | cell c =>
    obtain ⟨x, hx, h⟩ := kO?_some h
    exact ⟨x, h, fun a f => cell_ok hx f, fun ρ H a f => .free (cell_ok hx (plain_free (toTy_plain c hx) f))⟩
  | tup c =>
    cases v with
    | tup cs =>
      obtain ⟨x, hx, h⟩ := kO?_some h
      have q : ∀ a, FV (.tup cs) a → FV ((SS.tup c).enc x) a := fun a f => by
        cases f with | tup hl hf => have := toTy_ok c hx ⟨hl, hf⟩; exact .tup this.1 this.2
      exact ⟨x, h, q, fun ρ H a f => .free (q a (by cases f with | free f => exact f))⟩
    | _ => cases h
  | agg c =>
    cases v with
    | agg cs =>
      obtain ⟨x, hx, h⟩ := kO?_some h
      have q : ∀ a, FV (.agg cs) a → FV ((SS.agg c).enc x) a := fun a f => by
        cases f with | agg hl hf => have := toTy_ok c hx ⟨hl, hf⟩; exact .agg this.1 this.2
      exact ⟨x, h, q, fun ρ H a f => .free (q a (by cases f with | free f => exact f))⟩
    | _ => cases h
  | rp c =>
    cases v with
    | rp cs =>
      obtain ⟨x, hx, h⟩ := kO?_some h
      have q : ∀ a, FV (.rp cs) a → FV ((SS.rp c).enc x) a := fun a f => by
        cases f with | rp hl hf => have := toTy_ok c hx ⟨hl, hf⟩; exact .rp this.1 this.2
      exact ⟨x, h, q, fun ρ H a f => .free (q a (by cases f with | free f => exact f))⟩
    | _ => cases h
  | fn g cap =>
    cases v with
    | fn g' cs =>
      obtain ⟨h1, h⟩ := chk_some.1 h
      have := Nat.eq_of_beq_eq_true h1
      subst this
      obtain ⟨x, hx, h2⟩ := capDec_ok cap h
      have q : ∀ a, FV (.fn g' cs) a → FV ((SS.fn g' cap).enc x) a := fun a f => by
        cases f with | fn hl hf => have := h2 _ ⟨hl, hf⟩; exact .fn this.1 this.2
      exact ⟨x, hx, q, fun ρ H a f => .free (q a (by cases f with | free f => exact f))⟩
    | _ => cases h
  | own g =>
    cases v with
    | own g' =>
      obtain ⟨h1, h⟩ := chk_some.1 h
      have := Nat.eq_of_beq_eq_true h1
      subst this
      exact ⟨(), h, fun a f => f, fun ρ H a f => f⟩
    | _ => cases h
  | mp g =>
    cases v with
    | mp g' =>
      obtain ⟨h1, h⟩ := chk_some.1 h
      have := Nat.eq_of_beq_eq_true h1
      subst this
      exact ⟨(), h, fun a f => f, fun ρ H a f => f⟩
    | _ => cases h
  | un n =>
    cases v with
    | un n' =>
      obtain ⟨h1, h⟩ := chk_some.1 h
      have := Nat.eq_of_beq_eq_true h1
      subst this
      exact ⟨(), h, fun a f => f, fun ρ H a f => f⟩
    | _ => cases h
  | unit =>
    cases v with
    | unit => exact ⟨(), h, fun a f => f, fun ρ H a f => f⟩
    | _ => cases h

theorem argDec_ok : ∀ (l : List SS) {vs : List KV} {k : argTy l → Option R}, argDec l vs k = some r → ∃ x, k x = some r ∧ ∀ as, FL vs as → FL (argEnc l x) as
  | [], [], k, h => ⟨(), h, fun as f => f⟩
  | s :: l, v :: vs, k, h => by
    simp only [argDec] at h
    obtain ⟨x, h, h1, _⟩ := s.dec_ok h
    obtain ⟨y, hy, h2⟩ := argDec_ok l h
    refine ⟨(x, y), hy, fun as f => ?_⟩
    obtain ⟨a, as', rfl, h3, h4⟩ := f.head
    exact .cons (h1 _ h3) (h2 _ h4)
  | [], _ :: _, k, h => by cases h
  | _ :: _, [], k, h => by cases h

theorem slotDec_ok : ∀ (l : List (Nat × SS)) {tm : KEnv} {k : slotTy l → Option R}, slotDec l tm k = some r → ∃ x, k x = some r ∧ ∀ ρ H am, KE ρ H tm am → KE ρ H (slotEnc l x) am
  | [], tm, k, h => ⟨(), h, fun ρ H am f s => .U⟩
  | (n, s) :: l, tm, k, h => by
    simp only [slotDec] at h
    obtain ⟨x, h, _, h1⟩ := s.dec_ok h
    obtain ⟨y, hy, h2⟩ := slotDec_ok l h
    exact ⟨(x, y), hy, fun ρ H am f => KE.left (h2 ρ H am f) (h1 _ _ _ (f n))⟩

theorem obDec_ok : ∀ (l : List (Bool × CK)) {os : List KO} {k : obTy l → Option R}, obDec l os k = some r → ∃ x, k x = some r ∧ obEnc l x = os
  | [], [], k, h => ⟨(), h, rfl⟩
  | c :: l, o :: os, k, h => by
    simp only [obDec] at h
    split at h
    · rename_i e _
      obtain ⟨h0, h⟩ := chk_some.1 h
      obtain ⟨y, hy, h2⟩ := obDec_ok l h
      cases o with
      | mk oc ol om =>
        simp only at e h0
        subst e
        have : om = c.1 := by simpa using h0
        subst this
        exact ⟨(ol, y), hy, by simp only [obEnc, h2]⟩
    · cases h
  | [], _ :: _, k, h => by cases h
  | _ :: _, [], k, h => by cases h

theorem SH.dec_ok (s : SH) {st : KSt} {k : s.ty → Option R} (h : s.dec st k = some r) : ∃ x, k x = some r ∧ ∀ ρ S, KR ρ st S → KR ρ (s.enc x) S := by
  obtain ⟨x, h, h1⟩ := slotDec_ok s.slots h
  obtain ⟨y, h, h2⟩ := obDec_ok s.obs h
  refine ⟨(x, y), h, fun ρ S q => ⟨h1 _ _ _ q.env, ?_, q.lim⟩⟩
  show HRel ρ S.hp.obs (obEnc s.obs y)
  rw [h2]; exact q.hr

variable {ck : KCall R} {call : CallF}

/-- A loop of a shape, by its rounds. -/
theorem loop_of {N n : Nat} (hC : CkOK ck call) {lp : Nat → KSt → KK R → Option R} {keep : List Nat} {c : KC} (hl : LoopsOK N call lp c) {sh : SH} (L : Nat → sh.ty → KK R → Option R)
    (h0 : ∀ x k, L 0 x k = none)
    (hs : ∀ m x k, kC ck lp c (sh.enc x) (nxt (fun s => sh.dec { tmps := kkeep keep s.tmps, obs := s.obs } (fun y => L m y k)) k) = L (m + 1) x k)
    (hlp : ∀ st k, lp n st k = sh.dec { tmps := kkeep keep st.tmps, obs := st.obs } (fun y => L N y k)) : LoopOK N call keep c.mc (lp n) := by
  intro st k r ρ S h hS
  rw [hlp] at h
  refine loop_ok hC hl (fun m st k => sh.dec { tmps := kkeep keep st.tmps, obs := st.obs } (fun y => L m y k)) (fun st k r h => ?_) (fun m st k r h => ?_) N st k r ρ S h hS
  · obtain ⟨x, h, _⟩ := sh.dec_ok h
    rw [h0] at h; cases h
  · obtain ⟨x, h, h1⟩ := sh.dec_ok h
    exact ⟨sh.enc x, h1, by rw [hs]; exact h⟩

theorem frzR {ρ : Rh} {st : KSt} {S : St} (hS : KR ρ st S) {v : KV} {a : AV} (hv : RV ρ S.hp.obs v a) (ha : (kFrz st.obs v).solid = true) : ∃ b, (∀ d, freeze S.hp (d + 2) a = some b) ∧ FV (kFrz st.obs v) b := by
  have flat : ∀ {cs : List KV} {as : List AV} (d : Nat), FL cs as → cs.all KV.plain = true → as.mapM (freeze S.hp d) = some as := by
    intro cs as d f h
    apply still_apart.mapM_self
    intro x hx
    obtain ⟨i, hi⟩ := List.getElem?_of_mem hx
    have hil : i < cs.length := by rw [f.1]; exact (List.getElem?_eq_some_iff.1 hi).1
    have h1 := f.2 i _ x (List.getElem?_eq_getElem hil) hi
    have h2 := List.all_eq_true.1 h _ (List.getElem_mem hil)
    exact fz h2 h1
  cases hv with
  | free f =>
    have e : kFrz st.obs v = v := by cases f <;> rfl
    rw [e] at ha ⊢
    refine ⟨a, fun d => ?_, f⟩
    cases f with
    | agg hl hf =>
      simp only [freeze, flat (d + 1) ⟨hl, hf⟩ ha]; rfl
    | i => rfl
    | b => rfl
    | s => rfl
    | nil => rfl
    | ro => rfl
    | ro0 => rfl
    | tup => simp [KV.solid, KV.cells, KV.plain] at ha
    | rp => simp [KV.solid, KV.cells, KV.plain] at ha
    | fn => simp [KV.solid, KV.cells, KV.plain] at ha
  | U => simp [kFrz, KV.solid, KV.cells, KV.plain] at ha
  | unit => simp [kFrz, KV.solid, KV.cells, KV.plain] at ha
  | un => simp [kFrz, KV.solid, KV.cells, KV.plain] at ha
  | hp => simp [kFrz, KV.solid, KV.cells, KV.plain] at ha
  | mp => simp [kFrz, KV.solid, KV.cells, KV.plain] at ha
  | @own0 g hr =>
    simp only [kFrz] at ha ⊢
    split at ha
    · rename_i o ho
      refine ⟨_, fun d => rfl, ?_⟩
      exact .ro0 (by simp [arrL, hS.hr.virtL g o ho hr])
    · simp [KV.solid, KV.cells, KV.plain] at ha
  | @own g j ver sz els hr hH =>
    simp only [kFrz] at ha ⊢
    split at ha
    · rename_i o ho
      obtain ⟨rfl, hro⟩ := hS.real hr ho hH
      have hm : ∀ d, els.mapM (fun (e : List AV) => e.mapM (freeze S.hp d)) = some els := by
        intro d
        apply still_apart.mapM_self
        intro e he
        obtain ⟨i, hi⟩ := List.getElem?_of_mem he
        have hil : i < o.l.length := by rw [hro.1]; exact (List.getElem?_eq_some_iff.1 hi).1
        obtain ⟨e', he', hf⟩ := hro.nth hil
        rw [hi] at he'; cases he'
        exact flat d hf (List.all_eq_true.2 fun v hv => frz_ok.ofTy_plain _ _ v hv)
      refine ⟨.ro o.c.nc els.length (fun i => els.getD i []), fun d => ?_, ?_⟩
      · simp only [freeze, Hp.get_of hH, Option.bind]
        rw [if_pos ⟨by rw [hS.lim]; omega, by omega⟩]
        simp only [List.drop_zero, List.take_length, hm, Option.map]
      · have e : els.length = (arrL o.c.dflt o.l).n := hro.1.symm
        rw [e]
        refine .mkRo fun i hi => ?_
        obtain ⟨e', he', hf⟩ := hro.nth hi
        simp only [arrL]
        have : els.getD i [] = e' := by simp [List.getD, he']
        rw [this]; exact hf
    · simp [KV.solid, KV.cells, KV.plain] at ha
where
  fz {H : Hp} {v : KV} {a : AV} {d : Nat} (hp : v.plain = true) (h : FV v a) : freeze H d a = some a := by
    cases h <;> first | (cases d <;> rfl) | cases hp

theorem kRes_ok {ρ : Rh} {st : KSt} {S : St} (hS : KR ρ st S) : ∀ (rs : List Res) {k : List KV → Option R}, kRes st rs k = some r → ∃ vs raw fs, k vs = some r ∧ rs.mapM (evRes S) = some raw ∧ (∀ d, raw.mapM (freeze S.hp (d + 2)) = some fs) ∧ FL vs fs
  | [], k, h => ⟨[], [], [], h, rfl, fun d => rfl, .nil⟩
  | q :: rs, k, h => by
    simp only [kRes] at h
    have one : ∃ v a b, kRes st rs (fun vs => k (v :: vs)) = some r ∧ evRes S q = some a ∧ (∀ d, freeze S.hp (d + 2) a = some b) ∧ FV v b := by
      cases q with
      | tmp t =>
        obtain ⟨h1, h2, h3⟩ := kKnown_some h
        obtain ⟨h4, h5⟩ := chk_some.1 h1
        have hr := hS.env t
        obtain ⟨b, h6, h7⟩ := frzR hS hr h4
        exact ⟨_, _, b, h5, by simp only [evRes]; rw [if_pos (hr.known h2 h3)], h6, h7⟩
      | cell t kd =>
        obtain ⟨v, a, h1, h2, h3⟩ := load_ok hS (hS.env t) h
        obtain ⟨h4, h5⟩ := chk_some.1 h1
        have e : kFrz st.obs v = v := by cases h3 <;> rfl
        obtain ⟨b, h6, h7⟩ := frzR hS (.free h3) (by rw [e]; exact h4)
        rw [e] at h7
        exact ⟨v, a, b, h5, by simpa only [evRes] using h2, h6, h7⟩
    obtain ⟨v, a, b, h, h1, h2, h3⟩ := one
    obtain ⟨vs, raw, fs, h4, h5, h6, h7⟩ := kRes_ok hS rs h
    refine ⟨v :: vs, a :: raw, b :: fs, h4, ?_, fun d => ?_, .cons h3 h7⟩
    · rw [List.mapM_cons, h1]; simp [h5]
    · rw [List.mapM_cons, h2 d]; simp [h6 d]

theorem kArgs_get : ∀ (l : List KV) (i s : Nat), kget s (kArgs i l) = if i ≤ s then l.getD (s - i) .U else .U
  | [], i, s => by simp [kArgs, kget]
  | x :: l, i, s => by
    rw [kArgs, kget_cons, kArgs_get l (i + 1) s]
    by_cases h : i = s
    · subst h; simp
    · rw [if_neg h]
      by_cases h2 : i ≤ s
      · have h3 : i + 1 ≤ s := by omega
        rw [if_pos h2, if_pos h3]
        have : s - i = (s - (i + 1)) + 1 := by omega
        rw [this]; rfl
      · rw [if_neg h2, if_neg (by omega)]

/-- A function. -/
theorem kF_ok {N : Nat} (hC : CkOK ck call) {lp : Nat → KSt → KK R → Option R} {f : KF} (hl : LoopsOK N call lp f.body) {args : List KV} {as : List AV} (ha : FL args as) {k : KV → Option R} (h : kF ck lp f args k = some r) :
    ∃ y a, k y = some r ∧ FV y a ∧ evP N call f.mf as = some a := by
  unfold kF at h
  obtain ⟨h1, h⟩ := chk_some.1 h
  have hn : as.length ≤ f.mf.ntmps := by rw [← ha.1]; exact Nat.le_of_ble_eq_true h1
  have start : KR (fun _ => none) { tmps := kArgs 0 args, obs := [] } { tmps := argEnv 0 as, hp := ⟨0, []⟩ } := {
    env := fun s => by
      rw [kArgs_get, get_arg]
      simp only [Nat.zero_le, if_true, Nat.sub_zero]
      by_cases hs : s < args.length
      · have h3 : args[s]? = some (args.getD s .U) := by simp [List.getD, hs]
        have h4 : as[s]? = some (as.getD s .U) := by rw [ha.1] at hs; simp [List.getD, hs]
        exact .free (ha.2 s _ _ h3 h4)
      · have h3 : args.getD s .U = .U := by
          have h5 : args[s]? = none := by rw [List.getElem?_eq_none_iff]; omega
          simp only [List.getD, h5, Option.getD_none]
        rw [h3]; exact .U
    hr := ⟨fun _ _ _ h => by (cases h), fun h => by simp, fun _ _ _ h => by simp at h, fun _ _ h => by simp at h⟩
    lim := rfl }
  obtain ⟨e, st', S', ρ', h2, h3, h4, _⟩ := kC_ok hC f.body hl start h
  have fin : kRes st' f.res (fun rs => k (kOne rs)) = some r → (e = .nrm ∨ e = .ret) → ∃ y a, k y = some r ∧ FV y a ∧ evP N call f.mf as = some a := by
    intro h5 he
    obtain ⟨vs, raw, fs, h6, h7, h8, h9⟩ := kRes_ok h4 f.res h5
    have : ∃ b, freeze S'.hp 8 (one raw) = some b ∧ FV (kOne vs) b := by
      have hraw := h8 6
      have hlr : fs.length = raw.length := (mapM_args _ hraw).1
      match vs, fs, h9, raw, hlr, hraw with
      | [v], fs, h9, raw, hlr, hraw =>
        obtain ⟨b, bs, rfl, h10, h11⟩ := h9.head
        obtain rfl := h11.nil'
        match raw, hlr, hraw with
        | [a], _, hraw =>
          refine ⟨b, ?_, h10⟩
          rw [List.mapM_cons] at hraw
          cases hx : freeze S'.hp 8 a with
          | none => rw [hx] at hraw; cases hraw
          | some x =>
            rw [hx] at hraw
            simp at hraw
            simp only [one, hx, hraw]
      | [], fs, h9, raw, hlr, hraw =>
        obtain rfl := h9.nil'
        match raw, hlr with
        | [], _ => exact ⟨.tup [], rfl, .tup rfl (by simp)⟩
      | v :: w :: vs, fs, h9, raw, hlr, hraw =>
        have h9l := h9.1
        match raw, hlr, h8 5 with
        | [], hlr, _ => simp at hlr; subst hlr; simp at h9l
        | [a], hlr, _ => simp at hlr h9l; omega
        | a :: b :: l, hlr, h85 =>
          refine ⟨.tup fs, ?_, .tup h9.1 h9.2⟩
          simp only [one, freeze, h85]; rfl
    obtain ⟨b, h10, h11⟩ := this
    refine ⟨_, b, h6, h11, ?_⟩
    simp only [evP]
    rw [if_pos hn]
    have h3' : evC N call f.mf.body { tmps := argEnv 0 as, hp := ⟨0, []⟩ } = some (e, S') := h3
    have h7' : f.mf.res.mapM (evRes S') = some raw := h7
    rcases he with rfl | rfl <;> simp only [evRetP, h3', h7', Option.bind, h10]
  cases e with
  | nrm => exact fin h2 (.inl rfl)
  | ret => exact fin h2 (.inr rfl)
  | exit id => cases h2

/-- A function that hands back a list of its own. -/
theorem kFF_ok {N : Nat} (hC : CkOK ck call) {lp : Nat → KSt → KK R → Option R} {f : KF} (hl : LoopsOK N call lp f.body) {args : List KV} {as : List AV} (ha : FL args as) {k : KV → Option R} (h : kFF ck lp f args k = some r) :
    as.length ≤ f.ntmps ∧ ∀ H : Hp, H.lim = 0 → ∃ v, k v = some r ∧ (∃ c x, v = .ro c x) ∧ FreshR H v (evRet H f.mf (evC N call f.mf.body { tmps := argEnv 0 as, hp := H })) := by
  unfold kFF at h
  obtain ⟨h1, h⟩ := chk_some.1 h
  have hn : as.length ≤ f.ntmps := by rw [← ha.1]; exact Nat.le_of_ble_eq_true h1
  refine ⟨hn, fun H hH => ?_⟩
  have start : KR (fun _ => none) { tmps := kArgs 0 args, obs := [] } { tmps := argEnv 0 as, hp := H } := {
    env := fun s => by
      rw [kArgs_get, get_arg]
      simp only [Nat.zero_le, if_true, Nat.sub_zero]
      by_cases hs : s < args.length
      · have h3 : args[s]? = some (args.getD s .U) := by simp [List.getD, hs]
        have h4 : as[s]? = some (as.getD s .U) := by rw [ha.1] at hs; simp [List.getD, hs]
        exact .free (ha.2 s _ _ h3 h4)
      · have h3 : args.getD s .U = .U := by
          have h5 : args[s]? = none := by rw [List.getElem?_eq_none_iff]; omega
          simp only [List.getD, h5, Option.getD_none]
        rw [h3]; exact .U
    hr := ⟨fun _ _ _ h => by (cases h), fun h => by simp, fun _ _ _ h => by simp at h, fun _ _ h => by simp at h⟩
    lim := hH }
  obtain ⟨e, st', S', ρ', h2, h3, h4, h5⟩ := kC_ok hC f.body hl start h
  have fr : ∀ j, j < H.obs.length → S'.hp.obs[j]? = H.obs[j]? ∧ ∀ h, ρ' h ≠ some (some j) := fun j hj => h5.2 j hj (fun h e => by cases e)
  have fin : (match f.res with
      | [.tmp t] => (match kget t st'.tmps with
        | .own h => kO? (lob st'.obs h) fun o => k (.ro o.c (arrL o.c.dflt o.l))
        | _ => none)
      | _ => none) = some r → (e = .nrm ∨ e = .ret) → ∃ v, k v = some r ∧ (∃ c x, v = .ro c x) ∧ FreshR H v (evRet H f.mf (evC N call f.mf.body { tmps := argEnv 0 as, hp := H })) := by
    intro h6 he
    split at h6
    · rename_i t hres
      split at h6
      · rename_i g hg
        obtain ⟨o, ho, h6⟩ := kO?_some h6
        have hv := h4.env t
        rw [hg] at hv
        have hrun : ∀ a, a.known = true → get t S'.tmps = a → evRet H f.mf (evC N call f.mf.body { tmps := argEnv 0 as, hp := H }) = some (a, { S'.hp with lim := H.lim }) := by
          intro a hk hga
          have h3' : evC N call f.mf.body { tmps := argEnv 0 as, hp := H } = some (e, S') := h3
          have hres' : f.mf.res = [.tmp t] := hres
          rcases he with rfl | rfl <;> (simp only [evRet, h3', hres', List.mapM_cons, List.mapM_nil, evRes, hga]; rw [if_pos hk]; rfl)
        have hmap : (List.range (arrL o.c.dflt o.l).n).map (arrL o.c.dflt o.l).f = o.l := by
          apply List.ext_getElem?
          intro i
          by_cases hi : i < o.l.length
          · simp [arrL, hi, List.getD]
          · simp [arrL, hi]
        refine ⟨_, h6, ⟨_, _, rfl⟩, fun c x hcx => ?_⟩
        cases hcx
        rcases hv.own_inv with ⟨j, ver, sz, els, e1, hr, hH'⟩ | ⟨e1, hr⟩
        · obtain ⟨rfl, hro⟩ := h4.real hr ho hH'
          refine ⟨_, _, hrun _ rfl e1, hH, h5.1, fun j hj => (fr j hj).1, .inr ⟨j, ver, els, ?_, rfl, hH', by rw [hmap]; exact hro⟩⟩
          apply Nat.le_of_not_lt
          intro hlt
          exact (fr j hlt).2 g hr
        · exact ⟨_, _, hrun _ rfl e1, hH, h5.1, fun j hj => (fr j hj).1, .inl ⟨rfl, by simp [arrL, h4.hr.virtL g o ho hr]⟩⟩
      · cases h6
    · cases h6
  cases e with
  | nrm => exact fin h2 (.inl rfl)
  | ret => exact fin h2 (.inr rfl)
  | exit id => cases h2

/-- What a function of a table owes. -/
def EntOK (M : Prg) (N D : Nat) (e : Ent) : Prop :=
  M.ext e.g = none ∧ ∃ mf, M.fns e.g = some mf ∧ mf.pure = !e.fresh ∧ ∀ d, D ≤ d → ∀ x y, e.f x = some y → ∀ as, FL (argEnc e.a x) as →
    (e.fresh = false → ∃ a, FV (e.r.enc y) a ∧ evP N (evF M N d) mf as = some a) ∧
    (e.fresh = true → as.length ≤ mf.ntmps ∧ ∀ H : Hp, H.lim = 0 → FreshR H (e.r.enc y) (evRet H mf (evC N (evF M N d) mf.body { tmps := argEnv 0 as, hp := H })))

def EntsOK (M : Prg) (N D : Nat) : List Ent → Prop
  | [] => True
  | e :: es => EntOK M N D e ∧ EntsOK M N D es

theorem ckOf_ok {M : Prg} {N D d : Nat} (hd : D ≤ d) : ∀ (es : List Ent), EntsOK M N D es → CkOK (R := R) (ckOf es) (evF M N (d + 1))
  | [], _, g, args, k, r, h, as, f, ha => by cases h
  | e :: es, hE, g, args, k, r, h, as, f, ha => by
    simp only [ckOf] at h
    split at h
    · rename_i hb
      simp only [Bool.and_eq_true] at hb
      have hg := Nat.eq_of_beq_eq_true hb.1
      subst hg
      obtain ⟨x, h, h1⟩ := argDec_ok e.a h
      obtain ⟨y, hy, h⟩ := kO?_some h
      obtain ⟨hx, mf, hm, hp, hr⟩ := hE.1
      obtain ⟨r1, r2⟩ := hr d hd x y hy as (h1 as f)
      cases hfr : e.fresh with
      | false =>
        rw [hfr] at h hp
        have hp : mf.pure = true := hp
        obtain ⟨a, h2, h3⟩ := r1 hfr
        refine .inl ⟨_, a, h, h2, fun H => ?_, fun hs H as0 h0 => ?_⟩
        · have hap := f.apart' 8 ha
          simp only [evF, hx, hm, hp, if_true, hap, Option.bind, h3, handP, Bool.true_or]
        · simp only [evF, hx, hm, hp, if_true]
          split
          · rename_i hap
            have e1 : as0.mapM (still H 8) = some as0 := still_apart.mapM_self as0 fun x hx => still_apart 8 (List.all_eq_true.1 hap x hx)
            rw [h0] at e1; cases e1
            simp only [Option.bind, h3, handP, hap, Bool.true_or, if_true]
          · simp only [h0, Option.bind, h3, handP, hs, Bool.or_true, if_true]
      | true =>
        rw [hfr] at h hp
        have hp : mf.pure = false := hp
        obtain ⟨h2, h3⟩ := r2 hfr
        refine .inr ⟨_, h, fun H hH => ?_⟩
        have : evF M N (d + 1) e.g as H = evRet H mf (evC N (evF M N d) mf.body { tmps := argEnv 0 as, hp := H }) := by
          simp only [evF, hx, hm, hp]
          rw [if_neg (by simp), if_pos h2]
        rw [this]
        exact h3 H hH
    · exact ckOf_ok hd es hE.2 g args k r h as f ha

/-- A function of the table, out of its code. -/
theorem ent_ok {M : Prg} {N D : Nat} {es : List Ent} (hE : EntsOK M N D es) {e : Ent} {f : KF} (hx : M.ext e.g = none) (hm : M.fns e.g = some f.mf) (hp : f.pure = true) (hfr : e.fresh = false)
    (lp : Nat → KSt → KK e.r.ty → Option e.r.ty) (hl : ∀ d, D ≤ d → ∀ call, call = evF M N (d + 1) → CkOK (R := e.r.ty) (ckOf es) call → LoopsOK N call lp f.body)
    (hf : ∀ x, kF (ckOf es) lp f (argEnc e.a x) (fun v => e.r.dec v some) = e.f x) : EntOK M N (D + 1) e := by
  refine ⟨hx, f.mf, hm, by rw [hfr]; exact hp, fun d hd x y hy as fl => ⟨fun _ => ?_, fun h => by rw [hfr] at h; cases h⟩⟩
  obtain ⟨d, rfl⟩ : ∃ d', d = d' + 1 := ⟨d - 1, by omega⟩
  have hC := ckOf_ok (R := e.r.ty) (M := M) (N := N) (D := D) (d := d) (by omega) es hE
  obtain ⟨v, a, h1, h2, h3⟩ := kF_ok hC (hl d (by omega) _ rfl hC) fl (by rw [hf]; exact hy)
  obtain ⟨z, h4, h5, _⟩ := e.r.dec_ok h1
  cases h4
  exact ⟨a, h5 a h2, h3⟩

/-- As above, of a function that hands back a list of its own. -/
theorem ent_okF {M : Prg} {N D : Nat} {es : List Ent} (hE : EntsOK M N D es) {g : Nat} {fns : List Nat} {sa : List SS} {c : CK} {F : argTy sa → Option (Arr c.ty)} {f : KF} (hx : M.ext g = none) (hm : M.fns g = some f.mf) (hp : f.pure = false)
    (lp : Nat → KSt → KK (Arr c.ty) → Option (Arr c.ty)) (hl : ∀ d, D ≤ d → ∀ call, call = evF M N (d + 1) → CkOK (R := Arr c.ty) (ckOf es) call → LoopsOK N call lp f.body)
    (hf : ∀ x, kFF (ckOf es) lp f (argEnc sa x) (fun v => (SS.cell (.arr c)).dec v some) = F x) : EntOK M N (D + 1) ⟨g, fns, sa, .cell (.arr c), F, true⟩ := by
  refine ⟨hx, f.mf, hm, hp, fun d hd x y hy as fl => ⟨fun h => (by cases h), fun _ => ?_⟩⟩
  obtain ⟨d, rfl⟩ : ∃ d', d = d' + 1 := ⟨d - 1, by omega⟩
  have hC := ckOf_ok (R := Arr c.ty) (M := M) (N := N) (D := D) (d := d) (by omega) es hE
  obtain ⟨h1, h2⟩ := kFF_ok hC (hl d (by omega) _ rfl hC) fl (by rw [hf]; exact hy)
  refine ⟨h1, fun H hH => ?_⟩
  obtain ⟨v, h3, ⟨c', x', rfl⟩, h5⟩ := h2 H hH
  have : (SS.cell (.arr c)).enc y = .ro c' x' := by
    obtain ⟨z, hz, h3⟩ := kO?_some h3
    cases h3
    simp only [toTy, toTy1] at hz
    split at hz
    · rename_i e
      subst e
      cases hz
      rfl
    · cases hz
  rw [this]
  exact h5

theorem EntOK.mono {M : Prg} {N D D' : Nat} {e : Ent} (h : EntOK M N D e) (hd : D ≤ D') : EntOK M N D' e := by
  obtain ⟨h1, mf, h2, h3, h4⟩ := h
  exact ⟨h1, mf, h2, h3, fun d hd' => h4 d (by omega)⟩
end
end Sx
