/-
  K: its operations are Sx's, all of them.
-/
import Derived.Test.YtgmppophlalliaaGreatSxKd
namespace Sx
open Go
set_option linter.unusedSimpArgs false
set_option linter.unusedVariables false

section
variable {R : Type}

/-- A list of its own, handed back. -/
def FreshR (H : Hp) (v : KV) (o : Option (AV × Hp)) : Prop := ∀ (c : CK) (x : Arr c.ty), v = .ro c x → ∃ a H', o = some (a, H') ∧ H'.lim = 0 ∧ H.obs.length ≤ H'.obs.length ∧ (∀ j, j < H.obs.length → H'.obs[j]? = H.obs[j]?) ∧
    ((a = .v (.slice none 0 0) ∧ x.n = 0) ∨ ∃ j ver els, H.obs.length ≤ j ∧ a = .sl j ver 0 els.length ∧ H'.obs[j]? = some (.sl ver c.nc els) ∧ RO c ((List.range x.n).map x.f) els)

/-- What calls answer. -/
def CkOK (ck : KCall R) (call : CallF) : Prop := ∀ g args k r, ck g args k = some r → ∀ as, FL args as → args.all (kApart 8) = true →
  (∃ y a, k false y = some r ∧ FV y a ∧ (∀ H, call g as H = some (a, H)) ∧ (a.scalar = true → ∀ H as0, as0.mapM (still H 8) = some as → call g as0 H = some (a, H))) ∨
  (∃ y, k true y = some r ∧ ∀ H : Hp, H.lim = 0 → FreshR H y (call g as H))

theorem Hp.get_of {H : Hp} {j ver sz : Nat} {els : List (List AV)} (h : H.obs[j]? = some (.sl ver sz els)) : H.get j ver = some (sz, els) := by simp [Hp.get, h]

theorem lob_some {obs : List KO} {h : Nat} {o : KO} (e : lob obs h = some o) : obs[h]? = some o ∧ o.mp = false := by
  unfold lob at e
  split at e
  · rename_i o' ho
    split at e
    · rename_i hm; cases e; exact ⟨ho, hm⟩
    · cases e
  · cases e

theorem KR.real {ρ : Rh} {st : KSt} {S : St} (h : KR ρ st S) {g j : Nat} (hr : ρ g = some (some j)) {o : KO} (ho : lob st.obs g = some o) {ver sz : Nat} {els : List (List AV)} (hH : S.hp.obs[j]? = some (.sl ver sz els)) : sz = o.c.nc ∧ RO o.c o.l els := by
  obtain ⟨ho, hm⟩ := lob_some ho
  obtain ⟨ao, h1, h2⟩ := h.hr.real g o j ho hr
  rw [hH] at h1; cases h1
  cases h2 with
  | sl q => exact ⟨rfl, q⟩

theorem HRel.virtL {ρ : Rh} {H : List AO} {obs : List KO} (h : HRel ρ H obs) (g : Nat) (o : KO) (ho : lob obs g = some o) (hr : ρ g = some none) : o.l = [] := h.virt g o (lob_some ho).1 hr

theorem RO.nth {c : CK} {l : List c.ty} {els : List (List AV)} (h : RO c l els) {i : Nat} (hi : i < l.length) : ∃ e, els[i]? = some e ∧ FL (ofTy c (l.getD i c.dflt)) e := by
  have hi' : i < els.length := by rw [← h.1]; exact hi
  refine ⟨els[i], List.getElem?_eq_getElem hi', h.2 i _ _ ?_ (List.getElem?_eq_getElem hi')⟩
  simp [List.getD, hi]

theorem RO.nil {c : CK} : RO c [] [] := ⟨rfl, by simp⟩
theorem RO.one {c : CK} {x : c.ty} {e : List AV} (h : FL (ofTy c x) e) : RO c [x] [e] := ⟨rfl, fun i y e' h1 h2 => by
  cases i with
  | zero => simp at h1 h2; subst h1; subst h2; exact h
  | succ i => simp at h1⟩
theorem RO.cons {c : CK} {x : c.ty} {e : List AV} {l : List c.ty} {els : List (List AV)} (h : FL (ofTy c x) e) (t : RO c l els) : RO c (x :: l) (e :: els) := ⟨by simp [t.1], fun i y e' h1 h2 => by
  cases i with
  | zero => simp at h1 h2; subst h1; subst h2; exact h
  | succ i => exact t.2 i y e' (by simpa using h1) (by simpa using h2)⟩
theorem RO.append {c : CK} {l1 l2 : List c.ty} {e1 e2 : List (List AV)} (h : RO c l1 e1) (k : RO c l2 e2) : RO c (l1 ++ l2) (e1 ++ e2) :=
  ⟨by simp [h.1, k.1], fun i x e h1 h2 => by
    rw [List.getElem?_append] at h1 h2
    rw [h.1] at h1
    split at h1
    · rename_i q; rw [if_pos q] at h2; exact h.2 i x e h1 h2
    · rename_i q; rw [if_neg q] at h2; exact k.2 _ x e h1 h2⟩
theorem RO.set {c : CK} {l : List c.ty} {els : List (List AV)} (h : RO c l els) (i : Nat) {x : c.ty} {e : List AV} (hx : FL (ofTy c x) e) : RO c (l.set i x) (els.set i e) :=
  ⟨by simp [h.1], fun j y e' h1 h2 => by
    rw [List.getElem?_set] at h1 h2
    rw [h.1] at h1
    split at h1
    · rename_i q; rw [if_pos q] at h2
      split at h1
      · rename_i q2; rw [if_pos q2] at h2; cases h1; cases h2; exact hx
      · cases h1
    · rename_i q; rw [if_neg q] at h2; exact h.2 j y e' h1 h2⟩
theorem RO.replicate {c : CK} (n : Nat) {x : c.ty} {e : List AV} (h : FL (ofTy c x) e) : RO c (List.replicate n x) (List.replicate n e) := by
  induction n with
  | zero => exact .nil
  | succ n ih => rw [List.replicate_succ, List.replicate_succ]; exact .cons h ih

variable {ck : KCall R} {call : CallF} {ρ : Rh} {st : KSt} {S : St} {r : R} {k : KEff → Option R}

/-- What an operation owes. -/
def OpOK (call : CallF) (ρ : Rh) (st : KSt) (S : St) (op : MO) (k : KEff → Option R) (r : R) : Prop :=
  ∃ ke e ρ', k ke = some r ∧ evO call S.tmps S.hp op = some e ∧ ∀ d, KRF ρ S ρ' (kApp st d ke) (app S d e)

theorem OpOK.val (hS : KR ρ st S) {op : MO} {v : KV} {a : AV} (h1 : k (.val v) = some r) (h2 : evO call S.tmps S.hp op = some (.val a)) (h3 : RV ρ S.hp.obs v a) : OpOK call ρ st S op k r := ⟨_, _, ρ, h1, h2, fun d => hS.valF h3 d⟩

theorem load_ok (hS : KR ρ st S) {kd : Option Nat} {v : KV} {a : AV} {q : KV → Option R} (hv : RV ρ S.hp.obs v a) (h : kLoad st.obs kd v q = some r) : ∃ x b, q x = some r ∧ evLoad S.hp kd a = some b ∧ FV x b := by
  unfold kLoad at h
  split at h
  · obtain ⟨as, rfl, hf⟩ := hv.rp_inv
    exact kTake_ok h hf
  · rename_i g i o
    obtain ⟨j, ver, sz, els, rfl, hr, hH⟩ := hv.hp_inv
    obtain ⟨ob, hob, h⟩ := kO?_some h
    obtain ⟨h1, h⟩ := chk_some.1 h
    have hi : i < ob.l.length := by simpa using h1
    obtain ⟨rfl, hro⟩ := hS.real hr hob hH
    obtain ⟨e, he, hf⟩ := hro.nth hi
    obtain ⟨x, b, h2, h3, h4⟩ := kTake_ok h (hf.drop o)
    refine ⟨x, b, h2, ?_, h4⟩
    simp only [evLoad, Hp.get_of hH, Option.bind, he]
    exact h3
  · cases h

theorem len_ok (hS : KR ρ st S) {q : Nat} {v : KV} {a : AV} {f : KV → Option R} (hv : RV ρ S.hp.obs v a) (h : kLen st.obs q v f = some r) : ∃ x b, f x = some r ∧ evLen S.hp q a = some b ∧ FV x b := by
  unfold kLen at h
  split at h
  · rcases hv.ro_inv with ⟨g, rfl, hg⟩ | ⟨rfl, h0⟩
    · exact ⟨_, _, h, rfl, .i⟩
    · exact ⟨_, _, h, rfl, by rw [h0]; exact .i⟩
  · rename_i g
    obtain ⟨o, ho, h⟩ := kO?_some h
    rcases hv.own_inv with ⟨j, ver, sz, els, rfl, hr, hH⟩ | ⟨rfl, hr⟩
    · obtain ⟨rfl, hro⟩ := hS.real hr ho hH
      refine ⟨_, _, h, ?_, .i⟩
      simp only [evLen, Hp.get_of hH, Option.bind]
      rw [hro.1]
    · refine ⟨_, _, h, rfl, ?_⟩
      rw [hS.hr.virtL g o ho hr]; exact .i
  · obtain rfl := hv.nil_inv; exact ⟨_, _, h, rfl, .i⟩
  · obtain rfl := hv.s_inv; exact ⟨_, _, h, rfl, .i⟩
  · cases h

theorem iadr_ok (hS : KR ρ st S) {sz : Nat} {v : KV} {a : AV} {kd : IntKind} {j : Int} {f : KV → Option R} (hv : RV ρ S.hp.obs v a) (h : kIadr st.obs sz v j f = some r) : ∃ x b, f x = some r ∧ evIadr S.hp sz a (.v (.int kd j)) = some b ∧ RV ρ S.hp.obs x b := by
  unfold kIadr at h
  split at h
  · rename_i c x
    obtain ⟨h1, h⟩ := chk_some.1 h
    obtain ⟨h2, h⟩ := chk_some.1 h
    have h3 : 0 ≤ j ∧ j < x.n := by simpa [inr] using h2
    have h4 := Nat.eq_of_beq_eq_true h1
    rcases hv.ro_inv with ⟨g, rfl, hg⟩ | ⟨rfl, h0⟩
    · have := hg j.toNat (by omega)
      refine ⟨_, _, h, ?_, .free (.rp this.1 this.2)⟩
      simp only [evIadr]
      rw [if_pos h4, if_pos h3]
    · omega
  · rename_i g
    obtain ⟨o, ho, h⟩ := kO?_some h
    obtain ⟨h1, h⟩ := chk_some.1 h
    obtain ⟨h2, h⟩ := chk_some.1 h
    have h3 : 0 ≤ j ∧ j < o.l.length := by simpa [inr] using h2
    have h4 := Nat.eq_of_beq_eq_true h1
    rcases hv.own_inv with ⟨i, ver, sz', els, rfl, hr, hH⟩ | ⟨rfl, hr⟩
    · obtain ⟨rfl, hro⟩ := hS.real hr ho hH
      refine ⟨_, _, h, ?_, .hp hr hH⟩
      simp only [evIadr, Hp.get_of hH, Option.bind]
      rw [if_pos h4, if_pos (by rw [← hro.1]; exact h3), Nat.zero_add]
    · have := hS.hr.virtL g o ho hr
      rw [this] at h3
      simp at h3; omega
  · cases h

theorem els_ok (hS : KR ρ st S) {c : CK} {v : KV} {a : AV} {f : List c.ty → Option R} (hv : RV ρ S.hp.obs v a) (h : kEls st.obs c v f = some r) : ∃ l els, f l = some r ∧ evEls S.hp c.nc a = some els ∧ RO c l els := by
  unfold kEls at h
  split at h
  · rename_i c' x
    split at h
    · rename_i e _
      subst e
      rcases hv.ro_inv with ⟨g, rfl, hg⟩ | ⟨rfl, h0⟩
      · refine ⟨_, (List.range x.n).map g, h, by simp [evEls], by simp, fun i y e h1 h2 => ?_⟩
        have hi : i < x.n := by have := (List.getElem?_eq_some_iff.1 h2).1; simpa using this
        simp [hi] at h1 h2
        subst h1; subst h2
        exact hg i hi
      · refine ⟨_, [], h, rfl, ?_⟩
        simp [h0, RO]
    · cases h
  · rename_i g
    obtain ⟨o, ho, h⟩ := kO?_some h
    split at h
    · rename_i e _
      subst e
      rcases hv.own_inv with ⟨i, ver, sz', els, rfl, hr, hH⟩ | ⟨rfl, hr⟩
      · obtain ⟨rfl, hro⟩ := hS.real hr ho hH
        exact ⟨_, els, h, by simp [evEls, Hp.get_of hH], hro⟩
      · refine ⟨_, [], h, rfl, ?_⟩
        rw [hS.hr.virtL g o ho hr]; exact .nil
    · cases h
  · obtain rfl := hv.nil_inv
    exact ⟨_, [], h, rfl, .nil⟩
  · cases h

theorem kTys_ok {c : CK} : ∀ (es : List (List KV)) (as : List (List AV)) (l : List c.ty), kTys c es = some l → es.length = as.length → (∀ (i : Nat) (e : List KV) (a : List AV), es[i]? = some e → as[i]? = some a → FL e a) → RO c l as
  | [], as, l, h, hl, _ => by
    simp only [kTys] at h; cases h
    cases as with
    | nil => exact .nil
    | cons => simp at hl
  | e :: es, [], l, h, hl, _ => by simp at hl
  | e :: es, a :: as, l, h, hl, hr => by
    simp only [kTys] at h
    split at h
    · rename_i x t h1 h2
      cases h
      exact .cons (toTy_ok c h1 (hr 0 e a rfl rfl)) (kTys_ok es as t h2 (by simpa using hl) (fun i e' a' q1 q2 => hr (i + 1) e' a' (by simpa using q1) (by simpa using q2)))
    · cases h

theorem kChunks_eq {sz : Nat} : ∀ (n : Nat) (cs : List KV), kChunks sz n cs = (List.range n).map fun i => (cs.drop (i * sz)).take sz
  | 0, _ => rfl
  | n + 1, cs => by
    rw [List.range_succ_eq_map, List.map_cons, List.map_map]
    simp only [kChunks, Nat.zero_mul, List.drop_zero, kChunks_eq n (cs.drop sz)]
    congr 1
    apply List.map_congr_left
    intro i _
    simp only [Function.comp, List.drop_drop]
    congr 2
    rw [Nat.succ_mul]; omega

theorem chunks_rel {sz n : Nat} {cs : List KV} {as : List AV} (h : FL cs as) : ((kChunks sz n cs).length = ((List.range n).map fun i => (as.drop (i * sz)).take sz).length) ∧ ∀ (i : Nat) (e : List KV) (a : List AV), (kChunks sz n cs)[i]? = some e → ((List.range n).map fun i => (as.drop (i * sz)).take sz)[i]? = some a → FL e a := by
  rw [kChunks_eq]
  refine ⟨by simp, fun i e a h1 h2 => ?_⟩
  have hi : i < n := by have := (List.getElem?_eq_some_iff.1 h1).1; simpa using this
  simp [hi] at h1 h2
  subst h1; subst h2
  exact (h.drop _).take _

theorem nc_pos : ∀ c : CK, 0 < c.nc
  | .pair a b => by have := nc_pos a; simp only [CK.nc]; omega
  | .int _ => by simp [CK.nc]
  | .bool => by simp [CK.nc]
  | .str => by simp [CK.nc]
  | .arr _ => by simp [CK.nc]

theorem slcB_ok {tm : KEnv} {am : Env} {H : List AO} (hE : KE ρ H tm am) {x : Option Opd} {dflt top : Nat} {f : Nat → Option R} (h : kSlcB x tm dflt top f = some r) : ∃ n, f n = some r ∧ evSlcB x am dflt top = some n := by
  cases x with
  | none => exact ⟨_, h, rfl⟩
  | some o =>
    simp only [kSlcB] at h
    obtain ⟨kd, n, hv, h⟩ := kI_some h
    obtain ⟨h1, h⟩ := chk_some.1 h
    have h3 : 0 ≤ n ∧ n ≤ top := by simpa using h1
    have hr := kev_ok hE o
    rw [hv] at hr
    refine ⟨_, h, ?_⟩
    simp only [evSlcB, hr.i_inv]
    rw [if_pos h3]

theorem evSlcH_of {H : Hp} {sz : Nat} {tm : Env} {x b : AV} {lo hi mx : Option Opd} (h : evSlcQ sz tm x lo hi mx = some b) : evSlcH H sz tm x lo hi mx = some b := by
  unfold evSlcH
  split
  · simp [evSlcQ, evSlc3, evSlc] at h
  · exact h

theorem slcB_le {x : Option Opd} {am : Env} {d top n : Nat} (h : evSlcB x am d top = some n) (hd : d ≤ top) : n ≤ top := by
  cases x with
  | none => simp only [evSlcB] at h; cases h; exact hd
  | some o =>
    simp only [evSlcB] at h
    split at h
    · split at h
      · cases h; omega
      · cases h
    · cases h

theorem slc_ok {tm : KEnv} {am : Env} {H : List AO} (hE : KE ρ H tm am) {sz : Nat} {x : KV} {a : AV} {lo hi mx : Option Opd} {f : KV → Option R} (hx : RV ρ H x a) (h : kSlc sz tm x lo hi mx f = some r) : ∃ v b, f v = some r ∧ evSlcQ sz am a lo hi mx = some b ∧ FV v b := by
  unfold kSlc at h
  split at h
  · rename_i c x
    obtain ⟨h1, h⟩ := chk_some.1 h
    obtain ⟨h2, h⟩ := chk_some.1 h
    have h4 := Nat.eq_of_beq_eq_true h1
    have h5 : x.n ≠ 0 := by
      intro e; rw [e] at h2; simp at h2
    rcases hx.ro_inv with ⟨g, rfl, hg⟩ | ⟨rfl, h0⟩
    · obtain ⟨nh, h, q1⟩ := slcB_ok hE h
      obtain ⟨nl, h, q2⟩ := slcB_ok hE h
      have hnh : nh ≤ x.n := by
        cases hi with
        | none => simp only [evSlcB] at q1; cases q1; exact Nat.le_refl _
        | some o =>
          simp only [evSlcB] at q1
          split at q1
          · split at q1
            · cases q1; omega
            · cases q1
          · cases q1
      have hp := nc_pos c
      have e1 : evSlcQ sz am (.ro c.nc x.n g) lo hi none = some (.ro c.nc (nh - nl) fun i => g (nl + i)) := by
        simp only [evSlcQ, Option.isSome_none, Bool.false_eq_true, if_false, evSlc]; rw [if_pos ⟨h4, by omega⟩, q1]; simp only [Option.bind, q2]; rw [h4]
      exact ⟨_, _, h, e1, .mkRo (x := ⟨nh - nl, fun i => x.f (nl + i)⟩) (f := fun i => g (nl + i)) fun i hi => hg _ (by have : i < nh - nl := hi; omega)⟩
    · exact absurd h0 h5
  · rename_i c x m
    obtain ⟨h1, h⟩ := chk_some.1 h
    obtain ⟨h2, h⟩ := chk_some.1 h
    obtain ⟨h3, h⟩ := chk_some.1 h
    have h4 := Nat.eq_of_beq_eq_true h1
    have h5 : x.n ≠ 0 := by
      intro e; rw [e] at h2; simp at h2
    rcases hx.ro_inv with ⟨g, rfl, hg⟩ | ⟨rfl, h0⟩
    · obtain ⟨nt, h, q0⟩ := slcB_ok hE h
      obtain ⟨nh, h, q1⟩ := slcB_ok hE h
      obtain ⟨nl, h, q2⟩ := slcB_ok hE h
      have hnt : nt ≤ x.n := slcB_le q0 (Nat.zero_le _)
      have hnh : nh ≤ nt := slcB_le q1 (Nat.zero_le _)
      have hp := nc_pos c
      have e1 : evSlcQ sz am (.ro c.nc x.n g) lo hi (some m) = some (.ro c.nc (nh - nl) fun i => g (nl + i)) := by
        simp only [evSlcQ, Option.isSome_some, if_true, evSlc3]; rw [if_pos ⟨h4, by omega, h3⟩, q0]; simp only [Option.bind, q1, q2]; rw [h4]
      exact ⟨_, _, h, e1, .mkRo (x := ⟨nh - nl, fun i => x.f (nl + i)⟩) (f := fun i => g (nl + i)) fun i hi => hg _ (by have : i < nh - nl := hi; omega)⟩
    · exact absurd h0 h5
  · obtain ⟨h1, h⟩ := chk_some.1 h
    have h4 := Nat.eq_of_beq_eq_true h1
    obtain rfl := hx.s_inv
    obtain ⟨nh, h, q1⟩ := slcB_ok hE h
    obtain ⟨nl, h, q2⟩ := slcB_ok hE h
    refine ⟨_, _, h, ?_, .s⟩
    simp only [evSlcQ, Option.isSome_none, Bool.false_eq_true, if_false, evSlc]
    rw [if_pos h4, q1]
    simp only [Option.bind, q2]
  · cases h

/-- What the still value of an argument is. -/
theorem frz_ok (hS : KR ρ st S) {v : KV} {a : AV} (hv : RV ρ S.hp.obs v a) (ha : kApart 8 (kFrz st.obs v) = true) : ∃ b, still S.hp 8 a = some b ∧ FV (kFrz st.obs v) b := by
  cases hv with
  | free f =>
    have e : kFrz st.obs v = v := by cases f <;> rfl
    rw [e] at ha ⊢
    exact ⟨a, still_apart 8 (f.apart' 8 ha), f⟩
  | U => cases ha
  | unit => cases ha
  | un => cases ha
  | hp => cases ha
  | mp => cases ha
  | @own0 g hr =>
    simp only [kFrz] at ha ⊢
    split at ha
    · rename_i o ho
      refine ⟨_, rfl, ?_⟩
      exact .ro0 (by simp [arrL, hS.hr.virtL g o ho hr])
    · cases ha
  | @own g j ver sz els hr hH =>
    simp only [kFrz] at ha ⊢
    split at ha
    · rename_i o ho
      obtain ⟨rfl, hro⟩ := hS.real hr ho hH
      have hg : ({ S.hp with lim := 0 } : Hp).get j ver = some (o.c.nc, els) := Hp.get_of (H := { S.hp with lim := 0 }) hH
      have hm : els.mapM (fun (e : List AV) => e.mapM (freeze { S.hp with lim := 0 } 7)) = some els := by
        apply still_apart.mapM_self
        intro e he
        apply still_apart.mapM_self
        intro c hc
        obtain ⟨i, hi⟩ := List.getElem?_of_mem he
        have hil : i < o.l.length := by rw [hro.1]; exact (List.getElem?_eq_some_iff.1 hi).1
        obtain ⟨e', he', hf⟩ := hro.nth hil
        rw [hi] at he'; cases he'
        obtain ⟨q, hq⟩ := List.getElem?_of_mem hc
        have hql : q < (ofTy o.c (o.l.getD i o.c.dflt)).length := by rw [hf.1]; exact (List.getElem?_eq_some_iff.1 hq).1
        have hfv := hf.2 q _ c (List.getElem?_eq_getElem hql) hq
        have hpl := ofTy_plain o.c (o.l.getD i o.c.dflt) _ (List.getElem_mem hql)
        exact fz_plain hpl hfv
      refine ⟨.ro o.c.nc els.length (fun i => els.getD i []), ?_, ?_⟩
      · simp only [still, freeze, hg, Option.bind]
        rw [if_pos ⟨by simp, by omega⟩]
        simp only [List.drop_zero, List.take_length, hm, Option.map]
      · have e : els.length = (arrL o.c.dflt o.l).n := hro.1.symm
        rw [e]
        refine .mkRo fun i hi => ?_
        obtain ⟨e', he', hf⟩ := hro.nth hi
        simp only [arrL]
        have : els.getD i [] = e' := by simp [List.getD, he']
        rw [this]; exact hf
    · cases ha
where
  fz_plain {H : Hp} {v : KV} {a : AV} (hp : v.plain = true) (h : FV v a) : freeze H 7 a = some a := by
    cases h <;> first | rfl | cases hp
  ofTy_plain : ∀ (c : CK) (x : c.ty) (v : KV), v ∈ ofTy c x → v.plain = true
    | .int _, _, v, h => by simp [ofTy] at h; subst h; rfl
    | .bool, _, v, h => by simp [ofTy] at h; subst h; rfl
    | .str, _, v, h => by simp [ofTy] at h; subst h; rfl
    | .arr _, _, v, h => by simp [ofTy] at h; subst h; rfl
    | .pair a b, p, v, h => by
      simp only [ofTy, List.mem_append] at h
      rcases h with h | h
      · exact ofTy_plain a _ _ h
      · exact ofTy_plain b _ _ h
end
end Sx
