/-
  K: code and functions are Sx's.
-/
import Derived.Test.YtgmppophlalliaaGreatSxKe
namespace Sx
open Go
set_option linter.unusedSimpArgs false
set_option linter.unusedVariables false

section
variable {R : Type} {ck : KCall R} {call : CallF} {ρ : Rh} {st : KSt} {S : St} {r : R} {k : KEff → Option R}

theorem plainZ : ∀ (z : List AV), (z.map ofAV).all KV.plain = true → FL (z.map ofAV) z
  | [], _ => .nil
  | a :: z, h => by
    simp only [List.map_cons, List.all_cons, Bool.and_eq_true] at h
    refine .cons ?_ (plainZ z h.2)
    cases a with
    | v x => exact plain_free h.1 (ofV_ok (ρ := fun _ => none) (H := []) x)
    | _ => cases h.1

theorem kZero_some {z : List AV} {k : List KV → Option R} {r : R} (h : kZero z k = some r) : FL (z.map ofAV) z ∧ k (z.map ofAV) = some r := by
  obtain ⟨h1, h2⟩ := chk_some.1 h
  exact ⟨plainZ z h1, h2⟩

theorem free_all : ∀ {cs : List KV} {as : List AV}, FL cs as → cs.all KV.plain = true → as.all AV.free = true
  | [], as, f, _ => by rw [f.nil']; rfl
  | c :: cs, as, f, h => by
    obtain ⟨a, as', rfl, h1, h2⟩ := f.head
    simp only [List.all_cons, Bool.and_eq_true] at h ⊢
    have h3 := h.1
    exact ⟨by cases h1 <;> first | rfl | (cases h3), free_all h2 h.2⟩

theorem args_rel {H : List AO} {as : List KV} {bs : List AV} (hl : as.length = bs.length) (h : ∀ (i : Nat) (u : KV) (b : AV), as[i]? = some u → bs[i]? = some b → RV ρ H u b) (ha : as.all (kApart 8) = true) : FL as bs := by
  refine ⟨hl, fun i u b h1 h2 => ?_⟩
  have h3 := h i u b h1 h2
  have h4 : kApart 8 u = true := List.all_eq_true.1 ha u (List.mem_of_getElem? h1)
  cases h3 with
  | free f => exact f
  | _ => cases h4

theorem args_rel7 {H : List AO} {as : List KV} {bs : List AV} (hl : as.length = bs.length) (h : ∀ (i : Nat) (u : KV) (b : AV), as[i]? = some u → bs[i]? = some b → RV ρ H u b) (ha : as.all (kApart 7) = true) : FL as bs := by
  refine ⟨hl, fun i u b h1 h2 => ?_⟩
  have h3 := h i u b h1 h2
  have h4 : kApart 7 u = true := List.all_eq_true.1 ha u (List.mem_of_getElem? h1)
  cases h3 with
  | free f => exact f
  | _ => cases h4

theorem apart_known7 {a : AV} (h : apart 7 a = true) : a.known = true := by cases a <;> first | rfl | cases h
theorem apart_known {a : AV} (h : apart 8 a = true) : a.known = true := by cases a <;> first | rfl | cases h

theorem still_known {H : Hp} {a b : AV} (h : still H 8 a = some b) : a.known = true := by cases a <;> first | rfl | cases h

theorem mapM_frz (hS : KR ρ st S) : ∀ (as : List KV) (bs : List AV), as.length = bs.length → (∀ (i : Nat) (u : KV) (b : AV), as[i]? = some u → bs[i]? = some b → RV ρ S.hp.obs u b) → (as.map (kFrz st.obs)).all (kApart 8) = true → ∃ cs, bs.mapM (still S.hp 8) = some cs ∧ FL (as.map (kFrz st.obs)) cs
  | [], [], _, _, _ => ⟨[], rfl, .nil⟩
  | u :: as, b :: bs, hl, h, ha => by
    simp only [List.map_cons, List.all_cons, Bool.and_eq_true] at ha
    obtain ⟨c, h1, h2⟩ := frz_ok hS (h 0 u b rfl rfl) ha.1
    obtain ⟨cs, h3, h4⟩ := mapM_frz hS as bs (by simpa using hl) (fun i u' b' e1 e2 => h (i + 1) u' b' (by simpa using e1) (by simpa using e2)) ha.2
    exact ⟨c :: cs, by rw [List.mapM_cons, h1]; simp [h3], .cons h2 h4⟩
  | [], _ :: _, hl, _, _ => by simp at hl
  | _ :: _, [], hl, _, _ => by simp at hl

theorem mapM_known {H : Hp} : ∀ (bs cs : List AV), bs.mapM (still H 8) = some cs → bs.all AV.known = true
  | [], _, _ => rfl
  | b :: bs, cs, h => by
    rw [List.mapM_cons] at h
    cases e1 : still H 8 b with
    | none => rw [e1] at h; cases h
    | some x =>
      cases e2 : bs.mapM (still H 8) with
      | none => rw [e1, e2] at h; cases h
      | some y => simp [still_known e1, mapM_known bs y e2]

theorem kCall_ok (hC : CkOK ck call) (hS : KR ρ st S) {g : Nat} {as : List KV} {bs : List AV} (hl : as.length = bs.length) (hr : ∀ (i : Nat) (u : KV) (b : AV), as[i]? = some u → bs[i]? = some b → RV ρ S.hp.obs u b) (h : kCall ck st.obs g as k = some r) :
    bs.all AV.known = true ∧ ∃ ke a H' ρ', k ke = some r ∧ call g bs S.hp = some (a, H') ∧ ∀ d, KRF ρ S ρ' (kApp st d ke) (app S d (.valH a H')) := by
  unfold kCall at h
  split at h
  · rename_i ha
    have hf := args_rel hl hr ha
    have hkn : bs.all AV.known = true := by
      rw [List.all_eq_true]
      exact fun x hx => apart_known (List.all_eq_true.1 (hf.apart' 8 ha) x hx)
    refine ⟨hkn, ?_⟩
    rcases hC _ _ _ _ h bs hf ha with ⟨y, a, h1, h2, h3, _⟩ | ⟨y, h1, h2⟩
    · obtain ⟨h4, h5⟩ := chk_some.1 h1
      exact ⟨.val y, a, S.hp, ρ, h5, h3 _, fun d => hS.valF (.free h2) d⟩
    · cases y with
      | ro c x =>
        obtain ⟨a, H', h3, h4, h5, h6, h7⟩ := h2 S.hp hS.lim c x rfl
        rcases h7 with ⟨rfl, h0⟩ | ⟨j, ver, els, h8, rfl, h9, h10⟩
        · exact ⟨_, _, H', _, h1, h3, fun d => hS.given0 c (l := (List.range x.n).map x.f) (by rw [h0]; rfl) h5 h6 h4 d⟩
        · exact ⟨_, _, H', _, h1, h3, fun d => hS.given (c := c) h10 h8 h5 h6 h9 h4 d⟩
      | _ => cases h1
  · obtain ⟨ha, h⟩ := chk_some.1 h
    obtain ⟨cs, h6, h7⟩ := mapM_frz hS as bs hl hr ha
    rcases hC _ _ _ _ h cs h7 ha with ⟨y, a, h1, h2, _, h3⟩ | ⟨y, h1, _⟩
    · obtain ⟨h4, h5⟩ := chk_some.1 h1
      exact ⟨mapM_known _ _ h6, .val y, a, S.hp, ρ, h5, h3 (h2.scal h4) _ _ h6, fun d => hS.valF (.free h2) d⟩
    · cases h1

theorem int_known {f : AV → AV → Option AV} (hf : ∀ x y z, f x y = some z → x.known = true ∧ y.known = true) : ∀ (ys : List AV) (x z : AV), evFold f x ys = some z → ys ≠ [] → x.known = true ∧ ys.all AV.known = true
  | [], _, _, _, h => absurd rfl h
  | y :: ys, x, z, h, _ => by
    simp only [evFold] at h
    cases e : f x y with
    | none => rw [e] at h; cases h
    | some w =>
      rw [e] at h
      obtain ⟨h1, h2⟩ := hf _ _ _ e
      refine ⟨h1, ?_⟩
      cases ys with
      | nil => simp [h2]
      | cons u us => simp only [List.all_cons, h2, Bool.true_and]; exact (int_known hf (u :: us) w z h (by simp)).2

theorem known_fold {f : AV → AV → Option AV} (hf : ∀ x y z, f x y = some z → x.known = true ∧ y.known = true) (l : List AV) (z : AV) (h : evFolds f l = some z) (hz : z.known = true) : l.all AV.known = true := by
  cases l with
  | nil => rfl
  | cons x ys =>
    cases ys with
    | nil => simp only [evFolds, evFold] at h; cases h; simp [hz]
    | cons y ys =>
      obtain ⟨h1, h2⟩ := int_known hf (y :: ys) x z h (by simp)
      simp only [List.all_cons, h1, Bool.true_and]
      exact h2

theorem max_known (x y z : AV) (h : evMax2 x y = some z) : x.known = true ∧ y.known = true := by
  unfold evMax2 at h
  split at h
  · exact ⟨rfl, rfl⟩
  · cases h
theorem min_known (x y z : AV) (h : evMin2 x y = some z) : x.known = true ∧ y.known = true := by
  unfold evMin2 at h
  split at h
  · exact ⟨rfl, rfl⟩
  · cases h

theorem eqTy_ok : ∀ (kc : CK) {ks : List Nat} (x y : kc.ty) {as bs : List AV}, keyKs kc = some ks → FL (ofTy kc x) as → FL (ofTy kc y) bs → eqCells ks as bs = some (eqTy kc x y)
  | .int k, ks, x, y, as, bs, h, f1, f2 => by
    simp only [keyKs] at h; cases h
    obtain ⟨a, as', rfl, h1, h2⟩ := f1.head
    obtain ⟨b, bs', rfl, h3, h4⟩ := f2.head
    obtain rfl := h2.nil'; obtain rfl := h4.nil'
    cases h1; cases h3
    have e : eqCell 0 (.v (.int k x)) (.v (.int k y)) = some (eqTy (.int k) x y) := if_pos rfl
    unfold eqCells
    rw [e]; simp [eqCells]
  | .bool, ks, x, y, as, bs, h, f1, f2 => by
    simp only [keyKs] at h; cases h
    obtain ⟨a, as', rfl, h1, h2⟩ := f1.head
    obtain ⟨b, bs', rfl, h3, h4⟩ := f2.head
    obtain rfl := h2.nil'; obtain rfl := h4.nil'
    cases h1; cases h3
    have e : eqCell 1 (.v (.bool x)) (.v (.bool y)) = some (eqTy .bool x y) := rfl
    unfold eqCells
    rw [e]; simp [eqCells]
  | .str, ks, x, y, as, bs, h, f1, f2 => by
    simp only [keyKs] at h; cases h
    obtain ⟨a, as', rfl, h1, h2⟩ := f1.head
    obtain ⟨b, bs', rfl, h3, h4⟩ := f2.head
    obtain rfl := h2.nil'; obtain rfl := h4.nil'
    cases h1; cases h3
    have e : eqCell 2 (.v (.string x)) (.v (.string y)) = some (eqTy .str x y) := rfl
    unfold eqCells
    rw [e]; simp [eqCells]
  | .pair a b, ks, x, y, as, bs, h, f1, f2 => by
    simp only [keyKs] at h
    split at h
    · rename_i p q h1 h2
      cases h
      have e1 := eqTy_ok a x.1 y.1 h1 (split_fl f1).1 (split_fl f2).1
      have e2 := eqTy_ok b x.2 y.2 h2 (split_fl f1).2 (split_fl f2).2
      have hl : p.length = a.nc := keyKs_len a h1
      have := eqCells_app p q (as.take a.nc) (as.drop a.nc) (bs.take a.nc) (bs.drop a.nc) _ _ e1 e2
      rw [List.take_append_drop, List.take_append_drop] at this
      exact this
    · cases h
  | .arr _, ks, x, y, as, bs, h, f1, f2 => by cases h
where
  split_fl {a b : CK} {x : (CK.pair a b).ty} {as : List AV} (f : FL (ofTy (.pair a b) x) as) : FL (ofTy a x.1) (as.take a.nc) ∧ FL (ofTy b x.2) (as.drop a.nc) := by
    have h1 := f.take a.nc
    have h2 := f.drop a.nc
    simp only [ofTy] at h1 h2
    rw [List.take_left' (ofTy_length a x.1)] at h1
    rw [List.drop_left' (ofTy_length a x.1)] at h2
    exact ⟨h1, h2⟩
  keyKs_len : ∀ (c : CK) {ks : List Nat}, keyKs c = some ks → ks.length = c.nc
    | .int _, ks, h => by cases h; rfl
    | .bool, ks, h => by cases h; rfl
    | .str, ks, h => by cases h; rfl
    | .arr _, ks, h => by cases h
    | .pair a b, ks, h => by
      simp only [keyKs] at h
      split at h
      · rename_i p q h1 h2
        cases h
        simp [CK.nc, keyKs_len a h1, keyKs_len b h2]
      · cases h
  eqCells_app : ∀ (p q : List Nat) (a1 a2 b1 b2 : List AV) (s t : Bool), eqCells p a1 b1 = some s → eqCells q a2 b2 = some t → eqCells (p ++ q) (a1 ++ a2) (b1 ++ b2) = some (s && t)
    | [], q, [], a2, [], b2, s, t, h1, h2 => by simp only [eqCells] at h1; cases h1; simpa using h2
    | k :: p, q, a :: a1, a2, b :: b1, b2, s, t, h1, h2 => by
      simp only [eqCells, Option.bind_eq_some_iff, Option.map_eq_some_iff] at h1
      obtain ⟨u, hu, w, hw, rfl⟩ := h1
      have := eqCells_app p q a1 a2 b1 b2 w t hw h2
      simp only [List.cons_append, eqCells, hu, this, Option.bind, Option.map, Bool.and_assoc]
    | [], q, _ :: _, _, _, _, _, _, h1, _ => by cases h1
    | [], q, [], _, _ :: _, _, _, _, h1, _ => by cases h1
    | _ :: _, q, [], _, _, _, _, _, h1, _ => by cases h1
    | _ :: _, q, _ :: _, _, [], _, _, _, h1, _ => by cases h1

theorem evKey_ok {kc : CK} {ks : List Nat} (hk : keyKs kc = some ks) {x y : kc.ty} {a b : AV} (h1 : KeyR kc x a) (h2 : KeyR kc y b) : evKey (isPair kc) ks a b = some (eqTy kc x y) := by
  unfold KeyR at h1 h2
  cases hp : isPair kc with
  | true =>
    rw [if_pos hp] at h1 h2
    obtain ⟨as, rfl, f1⟩ := h1
    obtain ⟨bs, rfl, f2⟩ := h2
    simp only [evKey, if_true, evEq]
    exact eqTy_ok kc x y hk f1 f2
  | false =>
    rw [if_neg (by simp [hp])] at h1 h2
    have := eqTy_ok kc x y hk h1 h2
    have hl := eqTy_ok.keyKs_len kc hk
    have hn : kc.nc = 1 := by cases kc <;> first | rfl | cases hp
    rw [hn] at hl
    match ks, hl with
    | [k], _ =>
      simp only [eqCells, Option.bind_eq_some_iff, Option.map_eq_some_iff] at this
      obtain ⟨u, hu, w, hw, e⟩ := this
      cases hw
      simp only [evKey, hu, ← e, Bool.and_true]
      rfl

theorem keyOK_ok {kc : CK} {ks : List Nat} (hk : keyKs kc = some ks) {x : kc.ty} {a : AV} (h : KeyR kc x a) : keyOK (isPair kc) ks a = true := by
  have hl := eqTy_ok.keyKs_len kc hk
  unfold KeyR at h
  cases hp : isPair kc with
  | true =>
    rw [if_pos hp] at h
    obtain ⟨as, rfl, f⟩ := h
    simp [keyOK, hl, ← f.1, ofTy_length]
  | false =>
    rw [if_neg (by simp [hp])] at h
    cases kc with
    | int k =>
      simp only [keyKs] at hk; cases hk
      obtain ⟨b, bs, e, f, _⟩ := h.head
      cases e; cases f; rfl
    | bool =>
      simp only [keyKs] at hk; cases hk
      obtain ⟨b, bs, e, f, _⟩ := h.head
      cases e; cases f; rfl
    | str =>
      simp only [keyKs] at hk; cases hk
      obtain ⟨b, bs, e, f, _⟩ := h.head
      cases e; cases f; rfl
    | arr e => cases hk
    | pair a b => cases hp

theorem find_ok {kc vc : CK} {ks : List Nat} (hk : keyKs kc = some ks) {key : kc.ty} {a : AV} (ha : KeyR kc key a) : ∀ (l : List (kc.ty × vc.ty)) (es : List (AV × AV)) (i : Nat), RM kc vc l es →
    ∃ o, evFind (isPair kc) ks a es i = some o ∧ (match mfind kc vc key l with
      | some v => ∃ j b, o = some (j, b) ∧ FL (ofTy vc v) [b] ∧ i ≤ j ∧ ∀ (v' : vc.ty) (b' : AV), FL (ofTy vc v') [b'] → RM kc vc (mput kc vc key v' l) (es.set (j - i) (a, b'))
      | none => o = none ∧ ∀ (v' : vc.ty) (b' : AV), FL (ofTy vc v') [b'] → RM kc vc (mput kc vc key v' l) (es ++ [(a, b')]))
  | [], [], i, _ => ⟨none, rfl, rfl, fun v' b' f => ⟨rfl, fun j x e h1 h2 => by
      cases j with
      | zero => simp [mput] at h1 h2; subst h1; subst h2; exact ⟨ha, f⟩
      | succ j => simp [mput] at h1⟩⟩
  | x :: l, e :: es, i, hr => by
    have h0 := hr.2 0 x e rfl rfl
    have ht : RM kc vc l es := ⟨by simpa using hr.1, fun j y e' h1 h2 => hr.2 (j + 1) y e' (by simpa using h1) (by simpa using h2)⟩
    have hkey := evKey_ok hk ha h0.1
    simp only [evFind, hkey, mfind, mput]
    cases hb : eqTy kc key x.1 with
    | true =>
      refine ⟨_, rfl, i, e.2, rfl, h0.2, Nat.le_refl _, fun v' b' f => ?_⟩
      simp only [Nat.sub_self, List.set_cons_zero]
      exact ⟨by simpa using ht.1, fun j y e' h1 h2 => by
        cases j with
        | zero => simp at h1 h2; subst h1; subst h2; exact ⟨ha, f⟩
        | succ j => exact ht.2 j y e' (by simpa using h1) (by simpa using h2)⟩
    | false =>
      obtain ⟨o, h1, h2⟩ := find_ok hk ha l es (i + 1) ht
      refine ⟨o, h1, ?_⟩
      cases hm : mfind kc vc key l with
      | some v =>
        rw [hm] at h2
        obtain ⟨j, b, rfl, h3, h4, h5⟩ := h2
        refine ⟨j, b, rfl, h3, by omega, fun v' b' f => ?_⟩
        have h6 := h5 v' b' f
        have e1 : j - i = (j - (i + 1)) + 1 := by omega
        rw [e1, List.set_cons_succ]
        exact ⟨by simpa using h6.1, fun q y e' g1 g2 => by
          cases q with
          | zero => simp at g1 g2; subst g1; subst g2; exact h0
          | succ q => exact h6.2 q y e' (by simpa using g1) (by simpa using g2)⟩
      | none =>
        rw [hm] at h2
        obtain ⟨rfl, h5⟩ := h2
        refine ⟨rfl, fun v' b' f => ?_⟩
        have h6 := h5 v' b' f
        exact ⟨by simpa using h6.1, fun q y e' g1 g2 => by
          cases q with
          | zero => simp at g1 g2; subst g1; subst g2; exact h0
          | succ q => exact h6.2 q y e' (by simpa using g1) (by simpa using g2)⟩
  | [], _ :: _, i, hr => by have := hr.1; simp at this
  | _ :: _, [], i, hr => by have := hr.1; simp at this

theorem toTy_nil0 : ∀ (c : CK), toTy c [] = none
  | .int _ => rfl
  | .bool => rfl
  | .str => rfl
  | .arr _ => rfl
  | .pair a b => by simp [toTy, toTy_nil0 a]

theorem toTy_plain0 : ∀ {c : CK} {v : KV} {x : c.ty}, toTy c [v] = some x → v.plain = true
  | .int k, v, x, h => by cases v <;> first | rfl | (simp [toTy, toTy1] at h)
  | .bool, v, x, h => by cases v <;> first | rfl | (simp [toTy, toTy1] at h)
  | .str, v, x, h => by cases v <;> first | rfl | (simp [toTy, toTy1] at h)
  | .arr e, v, x, h => by cases v <;> first | rfl | (simp [toTy, toTy1] at h)
  | .pair a b, v, x, h => by
    have hp := nc_pos a
    have : [v].drop a.nc = [] := List.drop_eq_nil_of_le (by simp; omega)
    simp only [toTy, this, toTy_nil0 b] at h
    split at h <;> cases h

theorem fv_known {v : KV} {a : AV} (h : FV v a) : a.known = true := by cases h <;> rfl

theorem zplain {c : CK} {v : KV} {x : c.ty} (h : toTy c [v] = some x) : v.plain = true := toTy_plain0 h

theorem RV.mp_inv {ρ : Rh} {H : List AO} {g : Nat} {a : AV} (h : RV ρ H (.mp g) a) : ∃ j, a = .mp j ∧ ρ g = some (some j) := by
  cases h with
  | free f => cases f
  | mp hr => exact ⟨_, rfl, hr⟩

theorem hd1_ok {c : CK} {x : c.ty} {b : AV} (h1 : c.nc = 1) (h : FL (ofTy c x) [b]) : FV (hd1 (ofTy c x)) b := by
  cases hc : ofTy c x with
  | nil => rw [hc] at h; have := h.1; simp at this
  | cons u l =>
    rw [hc] at h
    obtain ⟨b', bs, e, h2, _⟩ := h.head
    cases e
    exact h2

theorem key_ok {ρ : Rh} {H : List AO} {tm : KEnv} {am : Env} (hE : KE ρ H tm am) {kc : CK} {x : Opd} {key : kc.ty} (h : toTy kc (kev tm x).cells = some key) (h1 : isPair kc = !(kev tm x).one) : KeyR kc key (ev am x) := by
  have hr := kev_ok hE x
  unfold KeyR
  cases hk : kev tm x with
  | agg cs =>
    rw [hk] at hr h h1
    obtain ⟨as, e, f⟩ := hr.agg_inv
    rw [if_pos (by rw [h1]; rfl)]
    exact ⟨as, e, toTy_ok kc h f⟩
  | _ =>
    rw [hk] at hr h h1
    rw [if_neg (by rw [h1]; simp [KV.one])]
    have hp := toTy_plain0 (c := kc) h
    first
      | exact toTy_ok kc h (.one (plain_free hp hr))
      | cases hp

theorem kOp_ok (hC : CkOK ck call) (hS : KR ρ st S) {vc : Option CK} {op : MO} (h : kOp ck st.tmps st.obs vc op k = some r) : OpOK call ρ st S op k r := by
  have hE : KE ρ S.hp.obs st.tmps S.tmps := hS.env
  cases op with
  | mv x =>
    simp only [kOp] at h
    split at h
    · obtain ⟨h1, h2, h3⟩ := kKnown_some h
      have hr := kev_ok hE x
      exact .val hS h1 (by simp only [evO]; rw [if_pos (hr.known h2 h3)]) hr
    · split at h
      · rename_i c _ hn
        have hr := kev_ok hE x
        rw [hn] at hr
        refine ⟨_, .val (.v (.slice none 0 0)), ρ.up st.obs.length none, h, ?_, fun d => hS.pushVF _ d⟩
        simp only [evO, hr.nil_inv]; rfl
      · cases h
  | pick c a b =>
    simp only [kOp] at h
    obtain ⟨t, hc, h⟩ := kB_some h
    have hr := kev_ok hE c
    rw [hc] at hr
    rcases sel_some h with ⟨rfl, h⟩ | ⟨rfl, h⟩
    · obtain ⟨h1, h2, h3⟩ := kKnown_some h
      have hr2 := kev_ok hE a
      exact .val hS h1 (by simp only [evO, hr.b_inv]; rw [if_pos (by simpa using hr2.known h2 h3)]; simp) hr2
    · obtain ⟨h1, h2, h3⟩ := kKnown_some h
      have hr2 := kev_ok hE b
      exact .val hS h1 (by simp only [evO, hr.b_inv]; rw [if_pos (by simpa using hr2.known h2 h3)]; simp) hr2
  | alloc z =>
    exact .val hS h rfl .un
  | new z =>
    simp only [kOp] at h
    obtain ⟨hz, h⟩ := kZero_some h
    obtain ⟨c, hc, h⟩ := kO?_some h
    obtain ⟨x, hx, h⟩ := kO?_some h
    obtain ⟨h1, h⟩ := chk_some.1 h
    have hz := toTy_ok c hx hz
    have hn : z.length = c.nc := Nat.eq_of_beq_eq_true h1
    refine ⟨_, .valH (.hp S.hp.obs.length 0 0 0) (S.hp.push (.sl 0 c.nc [z])), ρ.up st.obs.length (some S.hp.obs.length), h, by rw [← hn]; rfl, fun d => ?_⟩
    exact hS.pushF (.one hz) (.hp (sz := c.nc) (els := [z]) (by simp [Rh.up]) (by simp)) d
  | box n x =>
    simp only [kOp] at h
    obtain ⟨h1, h⟩ := chk_some.1 h
    simp only [Bool.and_eq_true] at h1
    obtain ⟨h2, h3⟩ := solid_ok h1.1 (kev_ok hE x)
    have hn := Nat.eq_of_beq_eq_true h1.2
    exact .val hS h (by simp only [evO]; rw [if_pos ⟨h2, by rw [← h3.1]; exact hn⟩]) (.free (.rp h3.1 h3.2))
  | boxm n x =>
    simp only [kOp] at h
    obtain ⟨h1, h⟩ := chk_some.1 h
    simp only [Bool.and_eq_true] at h1
    obtain ⟨h2, h3⟩ := solid_ok h1.1 (kev_ok hE x)
    have hn := Nat.eq_of_beq_eq_true h1.2
    obtain ⟨c, hc, h⟩ := kO?_some h
    obtain ⟨y, hy, h⟩ := kO?_some h
    obtain ⟨h4, h⟩ := chk_some.1 h
    have hz := toTy_ok c hy h3
    have hn2 : n = c.nc := Nat.eq_of_beq_eq_true h4
    refine ⟨_, .valH (.hp S.hp.obs.length 0 0 0) (S.hp.push (.sl 0 c.nc [(ev S.tmps x).cells])), ρ.up st.obs.length (some S.hp.obs.length), h, by simp only [evO]; rw [if_pos ⟨h2, by rw [← h3.1]; exact hn⟩, hn2], fun d => ?_⟩
    exact hS.pushF (.one hz) (.hp (sz := c.nc) (els := [(ev S.tmps x).cells]) (by simp [Rh.up]) (by simp)) d
  | build z ps =>
    simp only [kOp] at h
    obtain ⟨hz, h⟩ := kZero_some h
    obtain ⟨cs, hc, h⟩ := kO?_some h
    obtain ⟨bs, h1, h2⟩ := kBuild_ok hE _ _ _ _ hc hz
    exact .val hS h (by simp only [evO, h1]; rfl) (.free (.agg h2.1 h2.2))
  | lit sz z ps m =>
    simp only [kOp] at h
    obtain ⟨hz, h⟩ := kZero_some h
    obtain ⟨cs, hc, h⟩ := kO?_some h
    obtain ⟨hp, h⟩ := chk_some.1 h
    obtain ⟨c, hs, h⟩ := kO?_some h
    obtain ⟨h1, h⟩ := chk_some.1 h
    obtain ⟨l, hl, h9⟩ := kO?_some h
    obtain ⟨bs, h2, h3⟩ := kBuild_ok hE _ _ _ _ hc hz
    have hn : sz = c.nc := Nat.eq_of_beq_eq_true h1
    subst hn
    obtain ⟨q1, q2⟩ := chunks_rel (sz := c.nc) (n := z.length / c.nc) h3
    have hro := kTys_ok _ _ _ hl q1 q2
    cases m with
    | true =>
      refine ⟨_, .valH (.sl S.hp.obs.length 0 0 ((List.range (z.length / c.nc)).map fun i => (bs.drop (i * c.nc)).take c.nc).length) (S.hp.push (.sl 0 c.nc ((List.range (z.length / c.nc)).map fun i => (bs.drop (i * c.nc)).take c.nc))), ρ.up st.obs.length (some S.hp.obs.length), h9, by simp only [evO, h2, Option.bind]; rw [if_pos trivial], fun d => ?_⟩
      exact hS.pushF hro (.own (sz := c.nc) (by simp [Rh.up]) (by simp)) d
    | false =>
      have hfr : (((List.range (z.length / c.nc)).map fun i => (bs.drop (i * c.nc)).take c.nc).all fun e => e.all AV.free) = true := by
        rw [List.all_eq_true]
        intro e he
        obtain ⟨i, _, rfl⟩ := List.mem_map.1 he
        have := free_all h3 hp
        rw [List.all_eq_true] at this ⊢
        intro x hx
        exact this x (List.mem_of_mem_drop (List.mem_of_mem_take hx))
      refine .val hS h9 (by simp only [evO, h2, Option.bind]; rw [if_neg (by simp), if_pos hfr]) (.free ?_)
      have e : ((List.range (z.length / c.nc)).map fun i => (bs.drop (i * c.nc)).take c.nc).length = (arrL c.dflt l).n := hro.1.symm
      rw [e]
      refine .mkRo fun i hi => ?_
      obtain ⟨e', he', hf⟩ := hro.nth hi
      simp only [arrL]
      have : ((List.range (z.length / c.nc)).map fun i => (bs.drop (i * c.nc)).take c.nc).getD i [] = e' := by simp only [List.getD, he']; rfl
      rw [this]; exact hf
  | load kd x =>
    obtain ⟨v, b, h1, h2, h3⟩ := load_ok hS (kev_ok hE x) h
    exact .val hS h1 (by simp only [evO, h2]; rfl) (.free h3)
  | store n a x =>
    simp only [kOp] at h
    obtain ⟨h1, h⟩ := chk_some.1 h
    simp only [Bool.and_eq_true] at h1
    obtain ⟨h2, h3⟩ := solid_ok h1.1 (kev_ok hE x)
    have hn : (ev S.tmps x).cells.length = n := by rw [← h3.1]; exact Nat.eq_of_beq_eq_true h1.2
    have hc : (ev S.tmps x).solid = true ∧ (ev S.tmps x).cells.length = n := ⟨h2, hn⟩
    have key : ∀ (g i o : Nat), kev st.tmps a = .hp g i o → (kO? (lob st.obs g) fun ob => chk (decide (i < ob.l.length)) (kO? (kFill n (ofTy ob.c (ob.l.getD i ob.c.dflt)) o (kev st.tmps x).cells) fun e => kO? (toTy ob.c e) fun y => k (.set g (lo ob.c (ob.l.set i y))))) = some r → OpOK call ρ st S (.store n a x) k r := by
      intro g i o ha h
      obtain ⟨ob, hob, h⟩ := kO?_some h
      obtain ⟨h4, h⟩ := chk_some.1 h
      obtain ⟨e, he, h⟩ := kO?_some h
      obtain ⟨y, hy, h⟩ := kO?_some h
      have hi : i < ob.l.length := by simpa using h4
      have h5 := kev_ok hE a
      rw [ha] at h5
      obtain ⟨j, ver, sz, els, e1, hr, hH⟩ := h5.hp_inv
      obtain ⟨rfl, hro⟩ := hS.real hr hob hH
      obtain ⟨e0, he0, hf0⟩ := hro.nth hi
      obtain ⟨e2, h6, h7⟩ := kFill_ok he hf0 h3
      have hro2 := hro.set i (toTy_ok ob.c hy h7)
      refine ⟨_, .hp (S.hp.put j (.sl ver ob.c.nc (els.set i e2))), ρ, h, ?_, fun d => hS.setF hr (lob_some hob).1 hH (by simp) rfl hro2 d⟩
      simp only [evO]
      rw [if_pos hc]
      have : S.hp.lim ≤ j := by rw [hS.lim]; omega
      cases a <;> simp only [e1, Hp.get_of hH, Option.bind, he0, h6, if_pos this, Option.map]
    cases a with
    | t s =>
      cases ha : kev st.tmps (.t s) with
      | un m =>
        rw [ha] at h
        obtain ⟨h4, h⟩ := chk_some.1 h
        have hm := Nat.eq_of_beq_eq_true h4
        have h5 := kev_ok hE (.t s)
        rw [ha] at h5
        obtain ⟨z, e1, hz⟩ := h5.un_inv
        refine ⟨_, .slot s (.rp (ev S.tmps x).cells), ρ, h, ?_, fun d => hS.slotF s (.free (.rp h3.1 h3.2)) d⟩
        simp only [evO]
        rw [if_pos hc]
        simp only [e1]
        rw [if_pos (by omega)]
      | hp g i o => rw [ha] at h; exact key g i o ha h
      | _ => rw [ha] at h; cases h
    | c v =>
      cases ha : kev st.tmps (.c v) with
      | hp g i o => rw [ha] at h; exact key g i o ha h
      | _ => rw [ha] at h; cases h
    | f q =>
      cases ha : kev st.tmps (.f q) with
      | hp g i o => rw [ha] at h; exact key g i o ha h
      | _ => rw [ha] at h; cases h
  | bin op x y =>
    simp only [kOp] at h
    obtain ⟨v, b, h1, h2, h3⟩ := kBin_ok h (kev_ok hE x) (kev_ok hE y)
    exact .val hS h1 (by simp only [evO, h2]; rfl) (.free h3)
  | eqn neg ks x y =>
    simp only [kOp] at h
    split at h
    · rename_i xs ys hx hy
      obtain ⟨t, ht, h⟩ := kO?_some h
      have h1 := kev_ok hE x
      have h2 := kev_ok hE y
      rw [hx] at h1; rw [hy] at h2
      obtain ⟨as, e1, f1⟩ := h1.agg_inv
      obtain ⟨bs, e2, f2⟩ := h2.agg_inv
      exact .val hS h (by simp only [evO, e1, e2, evEq, kEqs_ok _ _ _ _ _ _ ht f1 f2]; rfl) (.free .b)
    · cases h
  | eqb neg x y =>
    simp only [kOp] at h
    obtain ⟨a, hx, h⟩ := kB_some h
    obtain ⟨b, hy, h⟩ := kB_some h
    have h1 := kev_ok hE x
    have h2 := kev_ok hE y
    rw [hx] at h1; rw [hy] at h2
    exact .val hS h (by simp only [evO, h1.b_inv, h2.b_inv]; rfl) (.free .b)
  | un op x =>
    simp only [kOp] at h
    obtain ⟨v, b, h1, h2, h3⟩ := kUn_ok h (kev_ok hE x)
    exact .val hS h1 (by simp only [evO, h2]; rfl) (.free h3)
  | conv kd x =>
    simp only [kOp] at h
    obtain ⟨kd', n, hx, h⟩ := kI_some h
    have h1 := kev_ok hE x
    rw [hx] at h1
    exact .val hS h (by simp only [evO, h1.i_inv]) (.free .i)
  | fld off kd x =>
    simp only [kOp] at h
    split at h
    · rename_i cs hx
      have h1 := kev_ok hE x
      rw [hx] at h1
      obtain ⟨as, e1, f1⟩ := h1.agg_inv
      obtain ⟨v, a, h2, h3, h4⟩ := kTake_ok h (f1.drop off)
      exact .val hS h2 (by simp only [evO, e1, h3]; rfl) (.free h4)
    · cases h
  | fadr off x =>
    simp only [kOp] at h
    split at h
    · rename_i cs hx
      obtain ⟨h0, h⟩ := chk_some.1 h
      have h1 := kev_ok hE x
      rw [hx] at h1
      obtain ⟨as, e1, f1⟩ := h1.rp_inv
      have hle := Nat.le_of_ble_eq_true h0
      exact .val hS h (by simp only [evO, e1, evFadr]; rw [if_pos (by rw [← f1.1]; exact hle)]; rfl) (.free (.rp (f1.drop off).1 (f1.drop off).2))
    · rename_i g i o hx
      have h1 := kev_ok hE x
      rw [hx] at h1
      obtain ⟨j, ver, sz, els, e1, hr, hH⟩ := h1.hp_inv
      exact .val hS h (by simp only [evO, e1, evFadr]; rfl) (.hp hr hH)
    · cases h
  | iadr sz x i =>
    simp only [kOp] at h
    obtain ⟨kd, j, hi, h⟩ := kI_some h
    have h1 := kev_ok hE i
    rw [hi] at h1
    obtain ⟨v, b, h2, h3, h4⟩ := iadr_ok (kd := kd) hS (kev_ok hE x) h
    exact .val hS h2 (by simp only [evO, h1.i_inv, h3]; rfl) h4
  | idx len sz kd x i =>
    simp only [kOp] at h
    split at h
    · rename_i cs hx
      obtain ⟨kd', j, hi, h⟩ := kI_some h
      obtain ⟨h0, h⟩ := chk_some.1 h
      have h3 : 0 ≤ j ∧ j < len := by simpa [inr] using h0
      have h1 := kev_ok hE i
      rw [hi] at h1
      have h2 := kev_ok hE x
      rw [hx] at h2
      obtain ⟨as, e1, f1⟩ := h2.agg_inv
      obtain ⟨v, a, h4, h5, h6⟩ := kTake_ok h (f1.drop _)
      exact .val hS h4 (by simp only [evO, e1, h1.i_inv]; rw [if_pos h3, h5]; rfl) (.free h6)
    · cases h
  | sidx x i =>
    simp only [kOp] at h
    split at h
    · rename_i s hx
      obtain ⟨kd', j, hi, h⟩ := kI_some h
      obtain ⟨h0, h⟩ := chk_some.1 h
      have h3 : 0 ≤ j ∧ j < s.size := by simpa [inr] using h0
      have h1 := kev_ok hE i
      rw [hi] at h1
      have h2 := kev_ok hE x
      rw [hx] at h2
      have hlt : j.toNat < s.data.size := by have : s.data.size = s.size := rfl; omega
      exact .val hS h (by simp only [evO, h2.s_inv, h1.i_inv]; rw [if_pos h3.1]; simp only [byteAt, Array.getElem?_eq_getElem hlt]; rfl) (.free .i)
    · cases h
  | len q x =>
    simp only [kOp] at h
    obtain ⟨v, b, h1, h2, h3⟩ := len_ok hS (kev_ok hE x) h
    exact .val hS h1 (by simp only [evO, h2]; rfl) (.free h3)
  | mx xs =>
    simp only [kOp] at h
    obtain ⟨v, hv, h⟩ := kO?_some h
    obtain ⟨h0, h⟩ := chk_some.1 h
    obtain ⟨az, h1, h2⟩ := kFolds_ok (g := evMax2) (fun h hx hy => kMax2_ok h hx hy) hE hv
    exact .val hS h (by simp only [evO, h1]; rw [if_pos (known_fold max_known _ _ h1 (h2.known (fun e => by rw [e] at h0; cases h0) (fun n e => by rw [e] at h0; cases h0)))]; rfl) h2
  | mn xs =>
    simp only [kOp] at h
    obtain ⟨v, hv, h⟩ := kO?_some h
    obtain ⟨h0, h⟩ := chk_some.1 h
    obtain ⟨az, h1, h2⟩ := kFolds_ok (g := evMin2) (fun h hx hy => kMin2_ok h hx hy) hE hv
    exact .val hS h (by simp only [evO, h1]; rw [if_pos (known_fold min_known _ _ h1 (h2.known (fun e => by rw [e] at h0; cases h0) (fun n e => by rw [e] at h0; cases h0)))]; rfl) h2
  | app sz bytes x y =>
    simp only [kOp] at h
    split at h
    · rename_i g hx
      obtain ⟨o, ho, h⟩ := kO?_some h
      obtain ⟨h1, h⟩ := chk_some.1 h
      have hn : sz = o.c.nc := Nat.eq_of_beq_eq_true h1
      obtain ⟨ys, els, h, h2, h3⟩ := els_ok hS (kev_ok hE y) h
      obtain ⟨h4, h⟩ := chk_some.1 h
      have h5 : (o.l.length + ys.length) * bytes ≤ 2 ^ 44 ∧ o.l.length + ys.length ≤ 2 ^ 44 := by simpa [roomA] using h4
      have h6 := kev_ok hE x
      rw [hx] at h6
      rcases h6.own_inv with ⟨j, ver, sz', els0, e1, hr, hH⟩ | ⟨e1, hr⟩
      · obtain ⟨rfl, hro⟩ := hS.real hr ho hH
        have hro2 := hro.append h3
        refine ⟨_, .valH (.sl j (ver + 1) 0 (els0 ++ els).length) (S.hp.put j (.sl (ver + 1) o.c.nc (els0 ++ els))), ρ, h, ?_, fun d => hS.growF hr (lob_some ho).1 (ver + 1) hro2 d⟩
        have hlj : S.hp.lim ≤ j := by rw [hS.lim]; omega
        simp only [evO, evApp, hn, h2, Option.bind, e1, Hp.get_of hH]
        rw [if_pos ⟨trivial, hlj, trivial, Nat.le_refl _, by rw [← hro.1, ← h3.1]; exact h5.1, by rw [← hro.1, ← h3.1]; exact h5.2⟩]
        simp
      · have hl0 := hS.hr.virtL g o ho hr
        by_cases hz : els.length = 0
        · have hys : ys = [] := by have := h3.1; cases ys with
            | nil => rfl
            | cons => simp at this; omega
          refine ⟨_, .valH (.v (.slice none 0 0)) S.hp, ρ, h, ?_, fun d => hS.sameF hr (lob_some ho).1 (lob_some ho).2 (by rw [hl0, hys]; rfl) d⟩
          simp only [evO, evApp, hn, h2, Option.bind, e1]
          rw [if_pos (by rw [hz]; omega), if_pos hz]; rfl
        · have hro2 : RO o.c (o.l ++ ys) els := by rw [hl0]; exact h3
          refine ⟨_, .valH (.sl S.hp.obs.length 0 0 els.length) (S.hp.push (.sl 0 o.c.nc els)), ρ.up g (some S.hp.obs.length), h, ?_, fun d => hS.wakeF hr (lob_some ho).1 hro2 d⟩
          simp only [evO, evApp, hn, h2, Option.bind, e1]
          rw [hl0] at h5
          simp only [List.length_nil, Nat.zero_add, h3.1] at h5
          rw [if_pos h5, if_neg hz]; rfl
    · cases h
  | mks sz bytes z l c =>
    simp only [kOp] at h
    obtain ⟨k1, n, hl, h⟩ := kI_some h
    obtain ⟨k2, m, hc, h⟩ := kI_some h
    obtain ⟨h1, h⟩ := chk_some.1 h
    obtain ⟨h2, h⟩ := chk_some.1 h
    obtain ⟨h3, h⟩ := chk_some.1 h
    obtain ⟨hz, h⟩ := kZero_some h
    obtain ⟨q, hq, h⟩ := kO?_some h
    obtain ⟨x, hx, h⟩ := kO?_some h
    obtain ⟨h4, h⟩ := chk_some.1 h
    have e1 := kev_ok hE l
    have e2 := kev_ok hE c
    rw [hl] at e1; rw [hc] at e2
    have hnm : n = m := by
      rcases Bool.or_eq_true_iff.1 h1 with h1 | h1
      · unfold sameOpd at h1
        split at h1
        · have := Nat.eq_of_beq_eq_true h1
          subst this
          rw [hl] at hc; cases hc; rfl
        · cases h1
      · simpa using h1
    have h5 : 0 ≤ n ∧ n * bytes ≤ 2 ^ 44 ∧ n ≤ 2 ^ 44 := by simpa [roomM] using h3
    have hzs : z.length = sz := Nat.eq_of_beq_eq_true h2
    have hsz : sz = q.nc := Nat.eq_of_beq_eq_true h4
    have hf := toTy_ok q hx hz
    refine ⟨_, .valH (.sl S.hp.obs.length 0 0 (List.replicate n.toNat z).length) (S.hp.push (.sl 0 q.nc (List.replicate n.toNat z))), ρ.up st.obs.length (some S.hp.obs.length), h, ?_, fun d => hS.pushF (.replicate n.toNat hf) (.own (sz := q.nc) (by simp [Rh.up]) (by simp)) d⟩
    simp only [evO, e1.i_inv, e2.i_inv]
    rw [if_pos ⟨hnm, h5.1, h5.2.1, h5.2.2, hzs⟩, hsz]
    simp
  | slc sz x lo hi mx =>
    simp only [kOp] at h
    obtain ⟨v, b, h1, h2, h3⟩ := slc_ok hE (kev_ok hE x) h
    exact .val hS h1 (by simp only [evO, evSlcH_of h2]; rfl) (.free h3)
  | ext x i =>
    simp only [kOp] at h
    split at h
    · rename_i cs hx
      obtain ⟨v, hv, h⟩ := kO?_some h
      have h2 := kev_ok hE x
      rw [hx] at h2
      obtain ⟨as, e1, f1⟩ := h2.tup_inv
      have hi : i < as.length := by rw [← f1.1]; exact (List.getElem?_eq_some_iff.1 hv).1
      exact .val hS h (by simp only [evO, e1, List.getElem?_eq_getElem hi]; rfl) (.free (f1.2 i v _ hv (List.getElem?_eq_getElem hi)))
    · cases h
  | mkf g cap =>
    simp only [kOp] at h
    obtain ⟨h0, h⟩ := chk_some.1 h
    obtain ⟨hl, hr⟩ := map_rel hE cap
    have hf : FL (cap.map (kev st.tmps)) (cap.map (ev S.tmps)) := args_rel7 hl hr h0
    refine .val hS h ?_ (.free (.fn hf.1 hf.2))
    simp only [evO]
    rw [if_pos]
    have := hf.apart' 7 h0
    rw [List.all_eq_true] at this ⊢
    exact fun x hx => apart_known7 (this x hx)
  | call g args =>
    obtain ⟨hl, hr⟩ := map_rel hE args
    obtain ⟨h0, ke, a, H', ρ', h1, h2, h3⟩ := kCall_ok hC hS hl hr h
    exact ⟨ke, .valH a H', ρ', h1, by simp only [evO]; rw [if_pos h0, h2]; rfl, h3⟩
  | callv f args =>
    simp only [kOp] at h
    split at h
    · rename_i g cap hf
      have h1 := kev_ok hE f
      rw [hf] at h1
      obtain ⟨as, e1, f1⟩ := h1.fn_inv
      obtain ⟨hl, hr⟩ := map_rel hE args
      have hl' : (args.map (kev st.tmps) ++ cap).length = (args.map (ev S.tmps) ++ as).length := by simp [f1.1]
      have hr' : ∀ (i : Nat) (u : KV) (b : AV), (args.map (kev st.tmps) ++ cap)[i]? = some u → (args.map (ev S.tmps) ++ as)[i]? = some b → RV ρ S.hp.obs u b := fun i u b q1 q2 => by
        rw [List.getElem?_append] at q1 q2
        rw [hl] at q1
        split at q1
        · rename_i q; rw [if_pos q] at q2; exact hr i u b q1 q2
        · rename_i q; rw [if_neg q] at q2; exact .free (f1.2 _ u b q1 q2)
      obtain ⟨h0, ke, a, H', ρ', h1, h2, h3⟩ := kCall_ok hC hS hl' hr' h
      rw [List.all_append, Bool.and_eq_true] at h0
      exact ⟨ke, .valH a H', ρ', h1, by simp only [evO, e1]; rw [if_pos h0.1, h2]; rfl, h3⟩
    · cases h
  | mkmap =>
    simp only [kOp] at h
    split at h
    · rename_i kc q
      obtain ⟨h0, h⟩ := chk_some.1 h
      refine ⟨_, .valH (.mp S.hp.obs.length) (S.hp.push (.mp [])), ρ.up st.obs.length (some S.hp.obs.length), h, rfl, fun d => ?_⟩
      exact ⟨⟨KE.put (KE.mono hE (up_old hS.hr _) (HKeep.append _)) (.mp (by simp [Rh.up])) d, hS.hr.push (.mp ⟨rfl, by simp⟩), hS.lim⟩,
        Fr.push _ _ (by simp [app, Hp.push]) (Nat.le_refl _) fun j hj => by simp only [app, Hp.push]; exact List.getElem?_append_left hj⟩
    · cases h
  | look st' ks z ok m x =>
    simp only [kOp] at h
    split at h
    · rename_i g hm
      obtain ⟨o, ho, h⟩ := kO?_some h
      split at h
      · rename_i kc q l
        obtain ⟨h0, h⟩ := chk_some.1 h
        simp only [Bool.and_eq_true, decide_eq_true_eq, beq_iff_eq] at h0
        obtain ⟨key, hkey, h⟩ := kO?_some h
        obtain ⟨h1, h⟩ := chk_some.1 h
        obtain ⟨zz, hzz, h⟩ := kO?_some h
        obtain ⟨h2, h⟩ := chk_some.1 h
        have hq : q.nc = 1 := Nat.eq_of_beq_eq_true h2
        have hrm := kev_ok hE m
        rw [hm] at hrm
        obtain ⟨j, e1, hr⟩ := hrm.mp_inv
        obtain ⟨ao, hH, hob⟩ := hS.hr.real g _ j ho hr
        cases hob with
        | mp hrm =>
          rename_i es
          have hkr := key_ok hE hkey (by rw [← h0.1.2]; simpa using h1)
          obtain ⟨r0, hf, hmf⟩ := find_ok h0.1.1 hkr l es 0 hrm
          have hz : FL (ofTy q zz) [z] := by
            cases z with
            | v w => exact toTy_ok q hzz (.one (plain_free (zplain hzz) (ofV_ok (ρ := fun _ => none) (H := []) w)))
            | _ => exact absurd (zplain hzz) (by simp [ofAV, KV.plain])
          have val : ∃ b, FV (hd1 (ofTy q (optD (mfind kc q key l) zz))) b ∧ evLook S.hp st' ks z ok (ev S.tmps m) (ev S.tmps x) = some (if ok then .tup [b, .b (optS (mfind kc q key l))] else b) := by
            rw [e1, h0.1.2]
            simp only [evLook, keyOK_ok h0.1.1 hkr, if_true, hH, hf]
            cases hmm : mfind kc q key l with
            | some v =>
              rw [hmm] at hmf
              obtain ⟨i, b, rfl, h3, _⟩ := hmf
              exact ⟨b, hd1_ok hq h3, by cases ok <;> rfl⟩
            | none =>
              rw [hmm] at hmf
              obtain ⟨rfl, _⟩ := hmf
              exact ⟨z, hd1_ok hq hz, by cases ok <;> rfl⟩
          obtain ⟨b, hb, hl⟩ := val
          cases ok with
          | false => exact .val hS h (by simp only [evO, hl]; rfl) (.free hb)
          | true =>
            have hfl : FL [hd1 (ofTy q (optD (mfind kc q key l) zz)), .b (optS (mfind kc q key l))] [b, .b (optS (mfind kc q key l))] := .cons hb (.one .b)
            exact .val hS h (by simp only [evO, hl]; rfl) (.free (.tup hfl.1 hfl.2))
      · cases h
    · cases h
  | mput st' ks m x y =>
    simp only [kOp] at h
    split at h
    · rename_i g hm
      obtain ⟨o, ho, h⟩ := kO?_some h
      split at h
      · rename_i kc q l
        obtain ⟨h0, h⟩ := chk_some.1 h
        simp only [Bool.and_eq_true, decide_eq_true_eq, beq_iff_eq] at h0
        obtain ⟨key, hkey, h⟩ := kO?_some h
        obtain ⟨h1, h⟩ := chk_some.1 h
        obtain ⟨v, hv, h⟩ := kO?_some h
        have hrm := kev_ok hE m
        rw [hm] at hrm
        obtain ⟨j, e1, hr⟩ := hrm.mp_inv
        obtain ⟨ao, hH, hob⟩ := hS.hr.real g _ j ho hr
        cases hob with
        | mp hrm =>
          rename_i es
          have hkr := key_ok hE hkey (by rw [← h0.2]; simpa using h1)
          obtain ⟨r0, hf, hmf⟩ := find_ok h0.1 hkr l es 0 hrm
          have hvy := plain_free (toTy_plain0 hv) (kev_ok hE y)
          have hvf : FL (ofTy q v) [ev S.tmps y] := toTy_ok q hv (.one hvy)
          have hkn : (ev S.tmps y).known = true := fv_known hvy
          have new : RM kc q (mput kc q key v l) (putAt es (ev S.tmps x) (ev S.tmps y) r0) := by
            cases hmm : mfind kc q key l with
            | some w =>
              rw [hmm] at hmf
              obtain ⟨i, b, rfl, _, _, h5⟩ := hmf
              exact h5 v _ hvf
            | none =>
              rw [hmm] at hmf
              obtain ⟨rfl, h5⟩ := hmf
              exact h5 v _ hvf
          refine ⟨_, .hp (S.hp.put j (.mp (putAt es (ev S.tmps x) (ev S.tmps y) r0))), ρ, h, ?_, fun d => ⟨⟨KE.put (KE.mono hE (fun _ _ e => e) (fun g' j' ver' sz' els' _ hr' hH' => ⟨els', by
              simp only [app, Hp.put, List.getElem?_set]
              rw [if_neg (fun e => by subst e; rw [hH] at hH'; cases hH')]
              exact hH', rfl⟩)) .unit d, hS.hr.set hr (.mp new), hS.lim⟩, by simp [app, Hp.put], fun i hi hn => ⟨by
              simp only [app, Hp.put, List.getElem?_set]
              rw [if_neg (fun (e : j = i) => hn g (by rw [← e]; exact hr))], hn⟩⟩⟩
          have hlj : S.hp.lim ≤ j := by rw [hS.lim]; omega
          simp only [evO, e1, hH]
          rw [h0.2, if_pos ⟨hlj, keyOK_ok h0.1 hkr, hkn⟩, hf]; rfl
      · cases h
    · cases h
  | _ => cases h

theorem KR.know {s : Nat} {t : Bool} (hS : KR ρ st S) (hk : kget s st.tmps = .b t) : KR ρ { tmps := (s, .b t) :: st.tmps, obs := st.obs } S where
  env := KE.left (show KE ρ S.hp.obs st.tmps S.tmps from hS.env) (by have := hS.env s; rw [hk] at this; exact this)
  hr := hS.hr
  lim := hS.lim

theorem kOpG_ok (hC : CkOK ck call) (hS : KR ρ st S) {m : KOp} {q : KSt → Option R} (h : kOpG ck st m q = some r) : ∃ st' S' ρ', q st' = some r ∧ evOp call S m.mop = some S' ∧ KRF ρ S ρ' st' S' := by
  have run : ∀ {st1 : KSt}, KR ρ st1 S → (kOp ck st1.tmps st1.obs m.vc m.op fun e => q (kApp st1 m.dst e)) = some r → wanted S.tmps m.guard = some true → ∃ st' S' ρ', q st' = some r ∧ evOp call S m.mop = some S' ∧ KRF ρ S ρ' st' S' := by
    intro st1 h1 h2 h3
    obtain ⟨ke, e, ρ', h4, h5, h6⟩ := kOp_ok (k := fun e => q (kApp st1 m.dst e)) hC h1 h2
    exact ⟨_, app S m.dst e, ρ', h4, by simp only [evOp, KOp.mop, h3, h5]; rfl, h6 m.dst⟩
  have pass : ∀ {st1 : KSt}, KR ρ st1 S → q { tmps := kPut m.dst .unit st1.tmps, obs := st1.obs } = some r → wanted S.tmps m.guard = some false → ∃ st' S' ρ', q st' = some r ∧ evOp call S m.mop = some S' ∧ KRF ρ S ρ' st' S' := by
    intro st1 h1 h2 h3
    exact ⟨_, { S with tmps := putD m.dst (.v (.tuple #[])) S.tmps }, ρ, h2, by simp only [evOp, KOp.mop, h3], ⟨KE.put (show KE ρ S.hp.obs st1.tmps S.tmps from h1.env) .unit m.dst, h1.hr, h1.lim⟩, Fr.refl⟩
  unfold kOpG at h
  split at h
  · rename_i hg
    exact run hS h (by rw [hg]; rfl)
  · rename_i s want hg
    split at h
    · rename_i t hk
      have hr := hS.env s
      rw [hk] at hr
      have hw : wanted S.tmps m.guard = some (t == want) := by rw [hg]; simp only [wanted, hr.b_inv]
      rcases sel_some h with ⟨rfl, h⟩ | ⟨rfl, h⟩
      · cases want with
        | true => exact run (hS.know hk) h (by rw [hw]; rfl)
        | false => exact pass (hS.know hk) h (by rw [hw]; rfl)
      · cases want with
        | false => exact run (hS.know hk) h (by rw [hw]; rfl)
        | true => exact pass (hS.know hk) h (by rw [hw]; rfl)
    · rename_i hk
      have hr := hS.env s
      rw [hk] at hr
      obtain ⟨t, e⟩ := hr.unit_inv
      exact pass hS h (by rw [hg]; simp only [wanted, e])
    · cases h

theorem kOps_ok (hC : CkOK ck call) {q : KSt → Option R} : ∀ (ms : List KOp) {ρ : Rh} {st : KSt} {S : St}, KR ρ st S → kOps ck ms st q = some r → ∃ st' S' ρ', q st' = some r ∧ evOps call (ms.map KOp.mop) S = some S' ∧ KRF ρ S ρ' st' S'
  | [], ρ, st, S, hS, h => ⟨st, S, ρ, h, rfl, hS, Fr.refl⟩
  | m :: ms, ρ, st, S, hS, h => by
    simp only [kOps] at h
    obtain ⟨st1, S1, ρ1, h1, h2, h3⟩ := kOpG_ok hC hS h
    obtain ⟨st2, S2, ρ2, h4, h5, h6⟩ := kOps_ok hC ms h3.1 h1
    exact ⟨st2, S2, ρ2, h4, by simp only [List.map_cons, evOps_cons, h2, thenO_some, h5], h6.1, h3.2.trans h6.2⟩

theorem kkeep_get : ∀ (ks : List Nat) (tm : KEnv) (s : Nat), kget s (kkeep ks tm) = if s ∈ ks then kget s tm else .U
  | [], tm, s => rfl
  | k :: ks, tm, s => by
    simp only [kkeep, kget_cons, kkeep_get ks tm s, List.mem_cons]
    by_cases h : k = s
    · subst h; simp
    · simp [h, Ne.symm h]

theorem keepL_get : ∀ (ks : List Nat) (tm : Env) (s : Nat), get s (keepL ks tm) = if s ∈ ks then get s tm else .U
  | [], tm, s => rfl
  | k :: ks, tm, s => by
    simp only [keepL_cons, get_cons', keepL_get ks tm s, List.mem_cons]
    by_cases h : k = s
    · subst h; simp
    · simp [h, Ne.symm h]

theorem KR.keep (hS : KR ρ st S) (ks : List Nat) : KR ρ { tmps := kkeep ks st.tmps, obs := st.obs } { S with tmps := keepL ks S.tmps } where
  env s := by
    show RV ρ S.hp.obs (kget s (kkeep ks st.tmps)) (get s (keepL ks S.tmps))
    rw [kkeep_get, keepL_get]
    split
    · exact hS.env s
    · exact .U
  hr := hS.hr
  lim := hS.lim

theorem kget_kset (s : Nat) (v : KV) : ∀ (tm : KEnv) (q : Nat), kget q (kset s v tm) = kget q tm ∨ (q = s ∧ kget q (kset s v tm) = v)
  | [], q => .inl rfl
  | (k, x) :: r, q => by
    simp only [kset]
    split
    · rename_i hb
      have := Nat.eq_of_beq_eq_true hb
      subst this
      rw [kget_cons, kget_cons]
      by_cases h : k = q
      · subst h; simp
      · simp [h]
    · rw [kget_cons, kget_cons]
      by_cases h : k = q
      · simp [h]
      · simp only [if_neg h]
        exact kget_kset s v r q

theorem KR.knowc {c : Opd} {t : Bool} (hS : KR ρ st S) (hk : kev st.tmps c = .b t) : KR ρ { tmps := kknow c t st.tmps, obs := st.obs } S where
  env q := by
    cases c with
    | t s =>
      rcases kget_kset s (.b t) st.tmps q with h | ⟨rfl, h⟩
      · show RV ρ S.hp.obs (kget q (kset s (.b t) st.tmps)) _
        rw [h]; exact hS.env q
      · show RV ρ S.hp.obs (kget q (kset q (.b t) st.tmps)) _
        rw [h, ← hk]; exact hS.env q
    | _ => exact hS.env q
  hr := hS.hr
  lim := hS.lim

/-- What a loop owes. -/
def LoopOK (N : Nat) (call : CallF) (keep : List Nat) (c : MC) (F : KSt → KK R → Option R) : Prop :=
  ∀ (st : KSt) (k : KK R) (r : R) (ρ : Rh) (S : St), F st k = some r → KR ρ st S → ∃ e st' S' ρ', k e st' = some r ∧ loopN (evC N call c) keep N S = some (e, S') ∧ KRF ρ S ρ' st' S'

def OraOK (N : Nat) (call : CallF) (c : MC) (F : KSt → KK R → Option R) : Prop :=
  ∀ (st : KSt) (k : KK R) (r : R) (ρ : Rh) (S : St), F st k = some r → KR ρ st S → ∃ e st' S' ρ', k e st' = some r ∧ evC N call c S = some (e, S') ∧ KRF ρ S ρ' st' S'

def LoopsOK (N : Nat) (call : CallF) (lp : Nat → KSt → KK R → Option R) : KC → Prop
  | .seq a b => LoopsOK N call lp a ∧ LoopsOK N call lp b
  | .cond _ a b => LoopsOK N call lp a ∧ LoopsOK N call lp b
  | .block _ c => LoopsOK N call lp c
  | .loop n keep c => LoopOK N call keep c.mc (lp n)
  | .ora n c => OraOK N call c (lp n)
  | _ => True

theorem kC_ok {N : Nat} (hC : CkOK ck call) {lp : Nat → KSt → KK R → Option R} : ∀ (c : KC) {k : KK R} {ρ : Rh} {st : KSt} {S : St}, LoopsOK N call lp c → KR ρ st S → kC ck lp c st k = some r → ∃ e st' S' ρ', k e st' = some r ∧ evC N call c.mc S = some (e, S') ∧ KRF ρ S ρ' st' S'
  | .skip, k, ρ, st, S, _, hS, h => ⟨.nrm, st, S, ρ, h, rfl, hS, Fr.refl⟩
  | .reg ops live, k, ρ, st, S, _, hS, h => by
    simp only [kC] at h
    obtain ⟨st1, S1, ρ1, h1, h2, h3⟩ := kOps_ok hC ops hS h
    exact ⟨.nrm, _, _, ρ1, h1, by simp only [KC.mc, evC_reg, h2, thenO_some], h3.1.keep live, h3.2⟩
  | .seq a b, k, ρ, st, S, hl, hS, h => by
    simp only [kC] at h
    obtain ⟨e, st1, S1, ρ1, h1, h2, h3⟩ := kC_ok hC a hl.1 hS h
    cases e with
    | nrm =>
      obtain ⟨e, st2, S2, ρ2, h4, h5, h6⟩ := kC_ok hC b hl.2 h3.1 h1
      exact ⟨e, st2, S2, ρ2, h4, by simp only [KC.mc, evC_seq, h2, thenC_nrm, h5], h6.1, h3.2.trans h6.2⟩
    | exit id => exact ⟨_, st1, S1, ρ1, h1, by simp only [KC.mc, evC_seq, h2, thenC_exit], h3⟩
    | ret => exact ⟨_, st1, S1, ρ1, h1, by simp only [KC.mc, evC_seq, h2, thenC_ret], h3⟩
  | .cond c a b, k, ρ, st, S, hl, hS, h => by
    simp only [kC] at h
    obtain ⟨t, hc, h⟩ := kB_some h
    have hr := kev_ok (show KE ρ S.hp.obs st.tmps S.tmps from hS.env) c
    rw [hc] at hr
    rcases sel_some h with ⟨rfl, h⟩ | ⟨rfl, h⟩
    · obtain ⟨e, st2, S2, ρ2, h4, h5, h6⟩ := kC_ok hC a hl.1 (hS.knowc hc) h
      exact ⟨e, st2, S2, ρ2, h4, by simp only [KC.mc, evC_cond, hr.b_inv, condB_bool, if_true, h5], h6⟩
    · obtain ⟨e, st2, S2, ρ2, h4, h5, h6⟩ := kC_ok hC b hl.2 (hS.knowc hc) h
      exact ⟨e, st2, S2, ρ2, h4, by simp only [KC.mc, evC_cond, hr.b_inv, condB_bool, h5, if_false, Bool.false_eq_true], h6⟩
  | .block id c, k, ρ, st, S, hl, hS, h => by
    simp only [kC] at h
    obtain ⟨e, st1, S1, ρ1, h1, h2, h3⟩ := kC_ok hC c hl hS h
    cases e with
    | nrm => exact ⟨_, st1, S1, ρ1, h1, by simp only [KC.mc, evC_block, h2, endB_nrm], h3⟩
    | ret => exact ⟨_, st1, S1, ρ1, h1, by simp only [KC.mc, evC_block, h2, endB_ret], h3⟩
    | exit id' =>
      simp only at h1
      split at h1
      · rename_i hb
        have := Nat.eq_of_beq_eq_true hb
        subst this
        exact ⟨.nrm, st1, S1, ρ1, h1, by simp only [KC.mc, evC_block, h2, endB_exit, if_true], h3⟩
      · rename_i hb
        have hne : id' ≠ id := fun e => by subst e; simp at hb
        exact ⟨_, st1, S1, ρ1, h1, by simp only [KC.mc, evC_block, h2, endB_exit, if_neg hne], h3⟩
  | .loop n keep c, k, ρ, st, S, hl, hS, h => by
    obtain ⟨e, st', S', ρ', h1, h2, h3⟩ := hl st k r ρ S h hS
    exact ⟨e, st', S', ρ', h1, h2, h3⟩
  | .ora n c, k, ρ, st, S, hl, hS, h => hl st k r ρ S h hS
  | .exit id, k, ρ, st, S, _, hS, h => ⟨_, st, S, ρ, h, rfl, hS, Fr.refl⟩
  | .ret, k, ρ, st, S, _, hS, h => ⟨_, st, S, ρ, h, rfl, hS, Fr.refl⟩

/-- A loop, by its rounds. -/
theorem loop_ok {N : Nat} (hC : CkOK ck call) {lp : Nat → KSt → KK R → Option R} {keep : List Nat} {c : KC} (hl : LoopsOK N call lp c) (F : Nat → KSt → KK R → Option R)
    (h0 : ∀ st k r, F 0 st k ≠ some r)
    (hs : ∀ m st k r, F (m + 1) st k = some r → ∃ st1, (∀ ρ S, KR ρ { tmps := kkeep keep st.tmps, obs := st.obs } S → KR ρ st1 S) ∧ kC ck lp c st1 (nxt (fun s => F m s k) k) = some r) :
    ∀ m (st : KSt) (k : KK R) (r : R) (ρ : Rh) (S : St), F m st k = some r → KR ρ st S → ∃ e st' S' ρ', k e st' = some r ∧ loopN (evC N call c.mc) keep m S = some (e, S') ∧ KRF ρ S ρ' st' S'
  | 0, st, k, r, ρ, S, h, hS => absurd h (h0 st k r)
  | m + 1, st, k, r, ρ, S, h, hS => by
    obtain ⟨st1, h1, h2⟩ := hs m st k r h
    obtain ⟨e, st2, S2, ρ2, h3, h4, h5⟩ := kC_ok hC c hl (h1 ρ _ (hS.keep keep)) h2
    cases e with
    | nrm =>
      obtain ⟨e, st3, S3, ρ3, h6, h7, h8⟩ := loop_ok hC hl F h0 hs m st2 k r ρ2 S2 h3 h5.1
      exact ⟨e, st3, S3, ρ3, h6, by simp only [loopN, h4, thenC_nrm, h7], h8.1, h5.2.trans h8.2⟩
    | exit id => exact ⟨_, st2, S2, ρ2, h3, by simp only [loopN, h4, thenC_exit], h5⟩
    | ret => exact ⟨_, st2, S2, ρ2, h3, by simp only [loopN, h4, thenC_ret], h5⟩
end
end Sx
