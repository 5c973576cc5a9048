/-
  Sx: code and functions: what the evaluator answers, the machine's call answers.
-/
import Derived.Test.YtgmppophlalliaaGreatSxEach
import Derived.LoopN
namespace Sx
open Go
set_option linter.unusedSimpArgs false
set_option linter.unusedVariables false

section
variable {P : Program} {φ : Nat → Option Nat} {A : Ann} {T0 : Nat → Prop} {w0 : World} {ρ0 : Rho}

theorem restOf_all (n : Nat) : restOf n (Array.replicate n false) = List.range' 0 n := by
  rw [← List.range_eq_range']
  unfold restOf
  rw [List.filter_eq_self]
  intro i hi
  have : i < n := by simpa using hi
  simp [Array.getD, this]

theorem region_sound (hL : Linked P φ) (hmix : P.follows .mixedOrders = true) {call : CallF} (hS : Sound P φ call) {pu : Nat → Bool} (hp : PureOK pu call) {id : Nat} {ops : Array Oper} {draw : Bool} {ms : List MOp}
    (hms : ops.toList.mapM (trOper P φ A ops.toList) = some ms) (hfree : draw = true → orderFree pu ops.toList ms = true) {Q : Exit → Act → World → Prop} {st st' : St} {T : Nat → Prop} {ρ : Rho} {a : Act} {w : World}
    (he : evOps call ms st = some st') (hR : RL φ A.nt T0 w0 ρ0 T ρ st.tmps st.hp a w) (hQ : ∀ st'' a' w' T' ρ', Same st'' st' → RL φ A.nt T0 w0 ρ0 T' ρ' st''.tmps st''.hp a' w' → Q .normal a' w') :
    (Code.region id ops draw).wp P Q a w := by
  obtain ⟨hlen, hat⟩ := mapM_at _ _ _ hms
  have he' : evIdx call ms (List.range' 0 ops.size) st = some st' := by
    have := evIdx_range call ms [] st
    simp only [List.nil_append, List.length_nil] at this
    rw [show ops.size = ms.length from by simp [hlen], ← this]
    exact he
  cases draw with
  | false =>
    refine wp_region ?_
    rw [List.range_eq_range']
    exact region_text hL hS hms _ (fun i hi => by simpa using hi) he' hR (fun a' w' T' ρ' hr => hQ st' a' w' T' ρ' (Same.rfl' _) hr)
  | true =>
    refine wp_region_any hmix ?_
    have hRd : RL φ A.nt T0 w0 ρ0 T ρ st.tmps st.hp a (drewW w) := hR.step (since_drew st.hp.lim T w ρ) hR.hr.drew rfl (Nat.le_refl _)
    refine region_any hL hS hp hms (hfree rfl) ops.size _ (st := st) (st' := st') (by rw [restOf_all]; simp) (fun i o hi hl e he' hf => ?_) (by simp) (by rw [restOf_all]; exact he') hRd hQ
    have : i < ops.size := by have := (List.getElem?_eq_some_iff.1 hi).1; simpa using this
    simp [Array.getD, this] at hl

theorem region_regd (hL : Linked P φ) (hmix : P.follows .mixedOrders = true) {call : CallF} (hS : Sound P φ call) (hle : LimOK call) {id : Nat} {ops : Array Oper} {ms : List MOp}
    (hms : ops.toList.mapM (trOper P φ A ops.toList) = some ms) (hdown : edgesDown ops.toList = true) {Q : Exit → Act → World → Prop} {st st' : St} {T : Nat → Prop} {ρ : Rho} {a : Act} {w : World} (hfree : dynFree (ancs ops.toList []) ms (fpsOf call ms st) = true)
    (he : evOps call ms st = some st') (hR : RL φ A.nt T0 w0 ρ0 T ρ st.tmps st.hp a w) (hQ : ∀ st'' a' w' T' ρ', Same st'' st' → RL φ A.nt T0 w0 ρ0 T' ρ' st''.tmps st''.hp a' w' → Q .normal a' w') :
    (Code.region id ops true).wp P Q a w := by
  obtain ⟨hlen, hat⟩ := mapM_at _ _ _ hms
  have he' := runF_of ms [] [] st st' rfl he
  simp only [List.nil_append, List.length_nil] at he'
  rw [show ms.length = ops.size from by simp [hlen]] at he'
  refine wp_region_any hmix ?_
  have hRd : RL φ A.nt T0 w0 ρ0 T ρ st.tmps st.hp a (drewW w) := hR.step (since_drew st.hp.lim T w ρ) hR.hr.drew rfl (Nat.le_refl _)
  refine region_dyn hL hS hle hms (F := fun i => (fpsOf call ms st).getD i ⟨[], [], false, false⟩) hdown (fun i j hi hj => ?_) ops.size _ (st := st) (st' := st') (by rw [restOf_all]; simp) (fun i o hi hl e he' hf => ?_) (by simp) (by rw [restOf_all]; exact he') hRd hQ
  · unfold dynFree at hfree
    rw [List.all_eq_true] at hfree
    have h1 := hfree i (by simpa using hi)
    rw [List.all_eq_true] at h1
    have h2 := h1 j (by simpa using hj)
    rw [Bool.or_eq_true] at h2
    rcases h2 with h2 | h2
    · exact .inl h2
    · refine .inr (fun x y hx hy => ?_)
      simpa [List.getD, hx, hy] using h2
  · have : i < ops.size := by have := (List.getElem?_eq_some_iff.1 hi).1; simpa using this
    simp [Array.getD, this] at hl

/-- What the evaluator answers of a piece of code is so. -/
def CS (P : Program) (φ : Nat → Option Nat) (A : Ann) (T0 : Nat → Prop) (w0 : World) (ρ0 : Rho) (call : CallF) (pu : Nat → Bool) (N : Nat) (c : Code) : Prop :=
  ∀ {c' : MC}, trC P φ A pu c = some c' →
    ∀ {st st' : St} {ex : Ex} {T : Nat → Prop} {ρ : Rho} {a : Act} {w : World} {Q : Exit → Act → World → Prop}, evC N call c' st = some (ex, st') → RL φ A.nt T0 w0 ρ0 T ρ st.tmps st.hp a w →
    (∀ a' w' T' ρ', RL φ A.nt T0 w0 ρ0 T' ρ' st'.tmps st'.hp a' w' → Q (exM ex) a' w') → c.wp P Q a w

theorem code_sound2 (hL : Linked P φ) (hmix : P.follows .mixedOrders = true) {call : CallF} (hS : Sound P φ call) (hle : LimOK call) {pu : Nat → Bool} (hp : PureOK pu call) (N : Nat) : ∀ (c : Code), CS P φ A T0 w0 ρ0 call pu N c ∧ ∀ x y, c = .seq x y → CS P φ A T0 w0 ρ0 call pu N y := by
  intro c
  induction c with
  | skip =>
    refine ⟨?_, fun _ _ h => by cases h⟩
    intro c' hc st st' ex T ρ a w Q he hR hQ
    simp [trC] at hc; subst hc
    simp [evC] at he; obtain ⟨rfl, rfl⟩ := he
    exact wp_skip (hQ _ _ _ _ hR)
  | region id ops draw =>
    refine ⟨?_, fun _ _ h => by cases h⟩
    intro c' hc st st' ex T ρ a w Q he hR hQ
    simp only [trC, Option.bind_eq_some_iff] at hc
    obtain ⟨ms, hms, hc⟩ := hc
    split at hc
    · rename_i hd
      split at hc
      · rename_i hdown
        cases hc
        have hdr : draw = true := by cases draw <;> simp_all
        subst hdr
        simp only [evC] at he
        cases hq : evOps call ms st with
        | none => rw [hq] at he; cases he
        | some s1 =>
          rw [hq] at he
          simp only [thenO_some] at he
          split at he
          · rename_i hfree
            simp at he
            obtain ⟨rfl, rfl⟩ := he
            exact region_regd hL hmix hS hle hms hdown hfree hq hR (fun st'' a' w' T' ρ' hs hr => hQ _ _ T' ρ' ((hr.same hs).keep _))
          · cases he
      · cases hc
    · rename_i hd
      cases hc
      simp only [evC] at he
      cases hq : evOps call ms st with
      | none => rw [hq] at he; cases he
      | some s1 =>
        rw [hq] at he
        simp at he
        obtain ⟨rfl, rfl⟩ := he
        refine region_sound hL hmix hS hp hms (fun hdr => ?_) hq hR (fun st'' a' w' T' ρ' hs hr => hQ _ _ T' ρ' ?_)
        · rw [hdr] at hd
          cases ho : orderFree pu ops.toList ms with
          | true => rfl
          | false => rw [ho] at hd; simp at hd
        · exact (hr.same hs).keep _
  | seq x y ihx ihy =>
    refine ⟨?_, fun _ _ h => by cases h; exact ihy.1⟩
    intro c' hc st st' ex T ρ a w Q he hR hQ
    simp only [trC, Option.bind_eq_some_iff, Option.map_eq_some_iff] at hc
    obtain ⟨x', hx, y', hy, rfl⟩ := hc
    simp only [evC] at he
    refine wp_seq ?_
    cases hq : evC N call x' st with
    | none => rw [hq] at he; cases he
    | some r =>
      obtain ⟨e1, s1⟩ := r
      rw [hq] at he
      cases e1 with
      | nrm =>
        simp only [thenC_nrm] at he
        exact ihx.1 hx hq hR (fun a' w' T' ρ' hr => ihy.1 hy he hr hQ)
      | exit id =>
        simp at he; obtain ⟨rfl, rfl⟩ := he
        exact ihx.1 hx hq hR (fun a' w' T' ρ' hr => hQ _ _ _ _ hr)
      | ret =>
        simp at he; obtain ⟨rfl, rfl⟩ := he
        exact ihx.1 hx hq hR (fun a' w' T' ρ' hr => hQ _ _ _ _ hr)
  | cond o x y ihx ihy =>
    refine ⟨?_, fun _ _ h => by cases h⟩
    intro c' hc st st' ex T ρ a w Q he hR hQ
    simp only [trC, Option.bind_eq_some_iff, Option.map_eq_some_iff] at hc
    obtain ⟨o', ho, x', hx, y', hy, rfl⟩ := hc
    simp only [evC] at he
    unfold condB at he
    split at he
    · rename_i t hq
      have hv := hR.opd ho
      rw [hq] at hv
      have hb : a.eval o = .bool t := hv.ofV
      refine wp_cond hb ?_
      cases t with
      | true => simp only [if_true] at he ⊢; exact ihx.1 hx he hR hQ
      | false => simp only [Bool.false_eq_true, if_false] at he ⊢; exact ihy.1 hy he hR hQ
    · cases he
  | block id x ih =>
    refine ⟨?_, fun _ _ h => by cases h⟩
    intro c' hc st st' ex T ρ a w Q he hR hQ
    simp only [trC, Option.map_eq_some_iff] at hc
    obtain ⟨x', hx, rfl⟩ := hc
    simp only [evC] at he
    refine wp_block ?_
    cases hq : evC N call x' st with
    | none => rw [hq] at he; cases he
    | some r =>
      obtain ⟨e1, s1⟩ := r
      rw [hq] at he
      cases e1 with
      | nrm =>
        simp at he; obtain ⟨rfl, rfl⟩ := he
        exact ih.1 hx hq hR (fun a' w' T' ρ' hr => hQ _ _ _ _ hr)
      | ret =>
        simp at he; obtain ⟨rfl, rfl⟩ := he
        exact ih.1 hx hq hR (fun a' w' T' ρ' hr => hQ _ _ _ _ hr)
      | exit id' =>
        simp only [endB_exit] at he
        refine ih.1 hx hq hR (fun a' w' T' ρ' hr => ?_)
        show Exit.inBlock id Q (.exit id') a' w'
        unfold Exit.inBlock
        simp only
        by_cases h : id' = id
        · simp only [h, if_true, Option.some.injEq, Prod.mk.injEq] at he ⊢
          obtain ⟨rfl, rfl⟩ := he
          exact hQ _ _ _ _ hr
        · simp only [h, if_false, Option.some.injEq, Prod.mk.injEq] at he ⊢
          obtain ⟨rfl, rfl⟩ := he
          exact hQ _ _ _ _ hr
  | loop x ih =>
    refine ⟨?_, fun _ _ h => by cases h⟩
    intro c' hc st st' ex T ρ a w Q he hR hQ
    simp only [trC, Option.bind_eq_some_iff] at hc
    obtain ⟨x', hx, hc⟩ := hc
    cases hh : eachHead A x with
    | some q =>
      obtain ⟨it, d1, d2, id⟩ := q
      rw [hh] at hc
      obtain ⟨ops, o1, o2, r, rfl, h0, h1, h2, h3, h4, h5, h6, h7, h8⟩ := eachHead_spec hh
      simp only [trC, Option.bind_eq_some_iff, Option.map_eq_some_iff] at hx
      obtain ⟨_, _, r'', hr, rfl⟩ := hx
      cases hc
      simp only [evC] at he
      exact each_sound rfl h0 h1 h2 h3 h4 h5 h6 h7 h8 (fun e1 e2 e3 => ih.2 _ _ rfl hr e1 e2 e3) he hR hQ
    | none =>
    rw [hh] at hc
    cases hc
    simp only [evC] at he
    refine wp_loop_rounds N ?_
    generalize (((headId x).bind fun i => (A.keep.find? (·.1 = i)).map (·.2)).getD []) = keep at he
    have key : ∀ (n : Nat) {st : St} {T : Nat → Prop} {ρ : Rho} {a : Act} {w : World}, loopN (evC N call x') keep n st = some (ex, st') → RL φ A.nt T0 w0 ρ0 T ρ st.tmps st.hp a w → Code.rounds P x Q n a w := by
      intro n
      induction n with
      | zero => intro st T ρ a w he _; cases he
      | succ n ihn =>
        intro st T ρ a w he hR
        rw [rounds_succ]
        simp only [loopN] at he
        have hR' := hR.keep keep
        cases hq : evC N call x' { st with tmps := keepL keep st.tmps } with
        | none => rw [hq] at he; cases he
        | some r =>
          obtain ⟨e1, s1⟩ := r
          rw [hq] at he
          cases e1 with
          | nrm =>
            simp only [thenC_nrm] at he
            exact ih.1 hx hq hR' (fun a' w' T' ρ' hr => ihn he hr)
          | exit id =>
            simp at he; obtain ⟨rfl, rfl⟩ := he
            exact ih.1 hx hq hR' (fun a' w' T' ρ' hr => hQ _ _ _ _ hr)
          | ret =>
            simp at he; obtain ⟨rfl, rfl⟩ := he
            exact ih.1 hx hq hR' (fun a' w' T' ρ' hr => hQ _ _ _ _ hr)
    exact key N he hR
  | rangeFunc => exact ⟨by intro c' hc; simp [trC] at hc, fun _ _ h => by cases h⟩
  | exit id =>
    refine ⟨?_, fun _ _ h => by cases h⟩
    intro c' hc st st' ex T ρ a w Q he hR hQ
    simp [trC] at hc; subst hc
    simp [evC] at he; obtain ⟨rfl, rfl⟩ := he
    exact wp_exit (hQ _ _ _ _ hR)
  | scope => exact ⟨by intro c' hc; simp [trC] at hc, fun _ _ h => by cases h⟩
  | label => exact ⟨by intro c' hc; simp [trC] at hc, fun _ _ h => by cases h⟩
  | goto => exact ⟨by intro c' hc; simp [trC] at hc, fun _ _ h => by cases h⟩
  | ret =>
    refine ⟨?_, fun _ _ h => by cases h⟩
    intro c' hc st st' ex T ρ a w Q he hR hQ
    simp [trC] at hc; subst hc
    simp [evC] at he; obtain ⟨rfl, rfl⟩ := he
    exact wp_ret (hQ _ _ _ _ hR)
  | refuse => exact ⟨by intro c' hc; simp [trC] at hc, fun _ _ h => by cases h⟩

theorem code_sound (hL : Linked P φ) (hmix : P.follows .mixedOrders = true) {call : CallF} (hS : Sound P φ call) (hle : LimOK call) {pu : Nat → Bool} (hp : PureOK pu call) (N : Nat) (c : Code) : CS P φ A T0 w0 ρ0 call pu N c := (code_sound2 hL hmix hS hle hp N c).1

/-! ### Results -/

def resF (tmps : Array Value) : ResultVar → Sem Value
  | .tmp t => pure (tmps.getD t undef)
  | .cell b t => do loadVar t (← asAddr (tmps.getD b undef))

theorem results_eq (fn : Func) (tmps : Array Value) : results fn tmps = (do let vs ← fn.results.mapM (resF tmps); pure (if h : vs.size = 1 then vs[0] else .tuple vs)) := by
  unfold results
  congr 1

theorem run_res {nt : Nat} {T : Nat → Prop} {ρ : Rho} {st : St} {a : Act} {w : World} (hR : RL φ nt T0 w0 ρ0 T ρ st.tmps st.hp a w) : ∀ (rs : List ResultVar) (qs : List Res) (xs : List AV), rs.mapM (trRes P) = some qs → qs.mapM (evRes st) = some xs →
    ∃ vs, (rs.mapM (resF a.tmps)).run P w = .ok vs w ∧ xs.length = vs.length ∧ ∀ (i : Nat) (c : AV) (u : Value), xs[i]? = some c → vs[i]? = some u → VR φ T w ρ true c u
  | [], qs, xs, hq, hx => by
    simp at hq; subst hq
    simp at hx; subst hx
    exact ⟨[], rfl, rfl, fun i c u h => by simp at h⟩
  | r :: rs, qs, xs, hq, hx => by
    rw [List.mapM_cons] at hq
    cases h1 : trRes P r with
    | none => rw [h1] at hq; cases hq
    | some q =>
      rw [h1] at hq
      cases h2 : rs.mapM (trRes P) with
      | none => rw [h2] at hq; cases hq
      | some qs' =>
        rw [h2] at hq
        simp at hq; subst hq
        rw [List.mapM_cons] at hx
        cases h3 : evRes st q with
        | none => rw [h3] at hx; cases hx
        | some x =>
          rw [h3] at hx
          cases h4 : qs'.mapM (evRes st) with
          | none => rw [h4] at hx; cases hx
          | some xs' =>
            rw [h4] at hx
            simp at hx; subst hx
            obtain ⟨vs, v1, v2, v3⟩ := run_res hR rs qs' xs' h2 h4
            have key : ∃ v, (resF a.tmps r).run P w = .ok v w ∧ VR φ T w ρ true x v := by
              cases r with
              | tmp t =>
                simp [trRes] at h1; subst h1
                simp only [evRes] at h3
                split at h3
                · rename_i hk; cases h3
                  exact ⟨_, rfl, (hR.tr.slot t).vr hk⟩
                · cases h3
              | cell b t =>
                simp only [trRes, Option.map_eq_some_iff] at h1
                obtain ⟨k, hk, rfl⟩ := h1
                simp only [evRes] at h3
                have hkn : (get b st.tmps).known = true := by cases hh : get b st.tmps <;> first | rfl | (rw [hh] at h3; simp [evLoad] at h3)
                obtain ⟨ad, e1, v, e2, e3⟩ := read_at (P := P) hR.hr ((hR.tr.slot b).vr hkn) h3 hk
                exact ⟨v, by simp only [resF, Sem.run_bind, e1, asAddr, Sem.run_pure, Result.andThen_ok, e2], e3⟩
            obtain ⟨v, k1, k2⟩ := key
            refine ⟨v :: vs, ?_, by simp [v2], fun i c u hc hu => ?_⟩
            · rw [List.mapM_cons]
              simp only [Sem.run_bind, k1, Result.andThen_ok, v1, Sem.run_pure]
            · cases i with
              | zero => simp at hc hu; subst hc; subst hu; exact k2
              | succ i => exact v3 i c u (by simpa using hc) (by simpa using hu)

theorem run_results {nt : Nat} {T : Nat → Prop} {ρ : Rho} {st : St} {a : Act} {w : World} (hR : RL φ nt T0 w0 ρ0 T ρ st.tmps st.hp a w) {fn : Func} {qs : List Res} {xs : List AV} (hq : fn.results.toList.mapM (trRes P) = some qs) (hx : qs.mapM (evRes st) = some xs) :
    ∃ v, (results fn a.tmps).run P w = .ok v w ∧ VR φ T w ρ true (one xs) v := by
  obtain ⟨vs, h1, h2, h3⟩ := run_res hR _ _ _ hq hx
  have hm : (fn.results.mapM (resF a.tmps)).run P w = .ok vs.toArray w := by
    rw [← Array.toArray_toList (xs := fn.results), List.mapM_toArray]
    simp only [Sem.run_map, h1, Result.andThen_ok]
  rw [results_eq]
  simp only [Sem.run_bind, hm, Result.andThen_ok, Sem.run_pure]
  cases vs with
  | nil =>
    cases xs with
    | nil => exact ⟨_, rfl, VR.tup (us := []) rfl (fun i c u h => by simp at h)⟩
    | cons => simp at h2
  | cons v vs =>
    cases xs with
    | nil => simp at h2
    | cons x xs =>
      cases vs with
      | nil =>
        cases xs with
        | nil => exact ⟨v, rfl, h3 0 x v rfl rfl⟩
        | cons => simp at h2
      | cons v' vs =>
        cases xs with
        | nil => simp at h2
        | cons x' xs => exact ⟨.tuple (v :: v' :: vs).toArray, by simp, VR.tup h2 h3⟩

/-! ### What is handed back for reading -/

theorem mapM_list {α β : Type} (f : α → Option β) (l : List α) (r : List β) (h : l.mapM f = some r) : r.length = l.length ∧ ∀ (i : Nat) (x : α) (y : β), l[i]? = some x → r[i]? = some y → f x = some y := by
  obtain ⟨h1, h2⟩ := mapM_at f l r h
  refine ⟨h1, fun i x y hx hy => ?_⟩
  obtain ⟨z, z1, z2⟩ := h2 i x hx
  rw [hy] at z1; cases z1; exact z2

/-- The blocks that may be handed back. -/
def frT (T : Nat → Prop) (ρ : Rho) (lim : Nat) (b : Nat) : Prop := T b ∨ ∃ h i, lim ≤ h ∧ ρ h = some i ∧ i.blk = b

theorem freeze_sound {T : Nat → Prop} {w : World} {ρ : Rho} {H : Hp} (hr : HR φ T w ρ H.obs) (ρ' : Rho) : ∀ (d : Nat) {x y : AV} {u : Value}, freeze H d x = some y → VR φ T w ρ true x u → VR φ (frT T ρ H.lim) w ρ' false y u
  | d, x, y, u, hf, hx => by
    cases x with
    | v z =>
      have : y = .v z := by cases d <;> simp [freeze] at hf <;> exact hf.symm
      subst this; cases hx; exact .v
    | ro sz n f =>
      have : y = .ro sz n f := by cases d <;> simp [freeze] at hf <;> exact hf.symm
      subst this
      exact (hx.down rfl).base rfl (fun _ q => .inl q) (fun _ _ => rfl) false
    | U => cases d <;> simp [freeze] at hf
    | rp cs => cases d <;> simp [freeze] at hf
    | un z => cases d <;> simp [freeze] at hf
    | fn g cap => cases d <;> simp [freeze] at hf
    | bm g cap => cases d <;> simp [freeze] at hf
    | hp h ver i o => cases d <;> simp [freeze] at hf
    | mp h => cases d <;> simp [freeze] at hf
    | it h => cases d <;> simp [freeze] at hf
    | iface t z => cases d <;> simp [freeze] at hf
    | agg cs =>
      cases d with
      | zero => simp [freeze] at hf
      | succ d =>
        simp only [freeze, Option.map_eq_some_iff] at hf
        obtain ⟨es, hes, rfl⟩ := hf
        obtain ⟨l1, l2⟩ := mapM_list _ _ _ hes
        cases hx with
        | agg a1 a2 a3 =>
          refine VR.agg (by omega) (fun i c u' hc hu => ?_) a3
          have hi : i < cs.length := by have := (List.getElem?_eq_some_iff.1 hc).1; omega
          exact freeze_sound hr ρ' d (l2 i _ c (List.getElem?_eq_getElem hi) hc) (a2 i _ u' (List.getElem?_eq_getElem hi) hu)
    | tup cs =>
      cases d with
      | zero => simp [freeze] at hf
      | succ d =>
        simp only [freeze, Option.map_eq_some_iff] at hf
        obtain ⟨es, hes, rfl⟩ := hf
        obtain ⟨l1, l2⟩ := mapM_list _ _ _ hes
        cases hx with
        | tup a1 a2 =>
          refine VR.tup (by omega) (fun i c u' hc hu => ?_)
          have hi : i < cs.length := by have := (List.getElem?_eq_some_iff.1 hc).1; omega
          exact freeze_sound hr ρ' d (l2 i _ c (List.getElem?_eq_getElem hi) hc) (a2 i _ u' (List.getElem?_eq_getElem hi) hu)
    | sl h ver off len =>
      cases d with
      | zero => simp [freeze] at hf
      | succ d =>
        simp only [freeze, Option.bind_eq_some_iff] at hf
        obtain ⟨ob, hg, hf⟩ := hf
        split at hf
        · rename_i hc
          simp only [Option.map_eq_some_iff] at hf
          obtain ⟨es, hes, rfl⟩ := hf
          obtain ⟨l1, l2⟩ := mapM_list _ _ _ hes
          obtain ⟨hlt, hob, inf, arr, ty, e1, e2, e3, e4, e5, e6, e7, e8, e9, e10, e11⟩ := hr.live hg
          cases hx with
          | sl g1 g2 g3 g4 =>
            rw [g1] at e1; cases e1
            obtain ⟨q1, q2, q3, q4⟩ := g4 e2.symm
            subst q1; subst q2; subst g3
            rename_i len cap
            by_cases hlen : len = 0
            · subst hlen; exact .ro0
            · have hll : es.length = len := by rw [l1]; simp; omega
              have hT : frT T ρ H.lim inf.blk := .inr ⟨h, inf, hc.1, g1, rfl⟩
              have hrow : ∀ i, i < len → (off + i) * ob.1 + ob.1 ≤ arr.size := fun i hi => by
                have : (off + i + 1) * ob.1 ≤ inf.cap * ob.1 := Nat.mul_le_mul_right _ (by omega)
                rw [Nat.add_mul] at this; omega
              have hel : ∀ i, i < len → ∃ e, ob.2[off + i]? = some e ∧ ∃ e', es[i]? = some e' ∧ e.mapM (freeze H d) = some e' := fun i hi => by
                have h1 : off + i < ob.2.length := by omega
                refine ⟨ob.2[off + i], List.getElem?_eq_getElem h1, es[i], List.getElem?_eq_getElem (by omega), ?_⟩
                refine l2 i ob.2[off + i] es[i] ?_ (List.getElem?_eq_getElem (by omega))
                rw [List.getElem?_take, if_pos hi, List.getElem?_drop]
                exact List.getElem?_eq_getElem h1
              refine VR.ro (us := fun i => (arr.toList.drop ((off + i) * ob.1)).take ob.1) (by omega) q3 hT (fun i hi => ?_) (fun i hi => ?_) (fun i j u hi hu => ?_) (fun i u hi hu => ?_) (fun i j c u hi hc' hu => ?_)
              · obtain ⟨e, k1, e', k2, k3⟩ := hel i hi
                obtain ⟨m1, _⟩ := mapM_list _ _ _ k3
                simp only [List.getD, k2, Option.getD_some]
                rw [m1]; exact e8 e (List.mem_of_getElem? k1)
              · have := hrow i hi
                simp only [List.length_take, List.length_drop, Array.length_toList]
                omega
              · rw [List.getElem?_take] at hu
                split at hu
                · rw [List.getElem?_drop] at hu
                  rw [add_mk]
                  simp only [World.cell?, e5]
                  rw [e3, show off * ob.1 + (i * ob.1 + j) = (off + i) * ob.1 + j from by rw [Nat.add_mul]; omega]
                  simpa using hu
                · cases hu
              · exact e10 u (List.mem_of_mem_drop (List.mem_of_mem_take hu))
              · obtain ⟨e, k1, e', k2, k3⟩ := hel i hi
                obtain ⟨m1, m2⟩ := mapM_list _ _ _ k3
                simp only [List.getD, k2, Option.getD_some] at hc'
                have hj : j < e.length := by have := (List.getElem?_eq_some_iff.1 hc').1; omega
                obtain ⟨u', u1, u2⟩ := e9 (off + i) j e _ k1 (List.getElem?_eq_getElem hj)
                rw [List.getElem?_take] at hu
                split at hu
                · rw [List.getElem?_drop] at hu
                  have : u = u' := by
                    have h3 : arr[(off + i) * ob.1 + j]? = some u := by simpa using hu
                    rw [u1] at h3; cases h3; rfl
                  subst this
                  exact freeze_sound hr ρ' d (m2 j _ c (List.getElem?_eq_getElem hj) hc') u2
                · cases hu
        · cases hf

/-! ### Functions -/

theorem get_arg : ∀ (l : List AV) (i s : Nat), get s (argEnv i l) = if i ≤ s then l.getD (s - i) .U else .U
  | [], i, s => by simp [argEnv, get]
  | x :: l, i, s => by
    simp only [argEnv, get_cons, get_arg l (i + 1) s]
    by_cases h : i = s
    · subst h; simp
    · by_cases h2 : i ≤ s
      · have : i + 1 ≤ s := by omega
        rw [if_neg h, if_pos this, if_pos h2]
        rw [show s - i = s - (i + 1) + 1 from by omega]
        simp [List.getD]
      · have : ¬ i + 1 ≤ s := by omega
        rw [if_neg h, if_neg this, if_neg h2]

theorem app_hp (st : St) (d : Option Nat) (e : Eff) : (app st d e).hp = effH st.hp e := by cases e <;> rfl

theorem evOps_le {call : CallF} (hc : LimOK call) : ∀ (ms : List MOp) {st st' : St}, evOps call ms st = some st' → HpLe st.hp st'.hp
  | [], st, st', h => by simp [evOps] at h; subst h; exact .refl _
  | m :: ms, st, st', h => by
    simp only [evOps] at h
    cases h1 : evOp call st m with
    | none => rw [h1] at h; cases h
    | some s1 =>
      rw [h1] at h
      have h2 : HpLe st.hp s1.hp := by
        unfold evOp at h1
        split at h1
        · rw [Option.map_eq_some_iff] at h1
          obtain ⟨e, he, rfl⟩ := h1
          rw [app_hp]; exact effH_le hc he
        · cases h1; exact .refl _
        · cases h1
      exact h2.trans (evOps_le hc ms h)

theorem evC_le {call : CallF} (hc : LimOK call) (N : Nat) : ∀ (c : MC) {st st' : St} {ex : Ex}, evC N call c st = some (ex, st') → HpLe st.hp st'.hp := by
  intro c
  induction c with
  | skip => intro st st' ex h; simp [evC] at h; obtain ⟨_, rfl⟩ := h; exact .refl _
  | reg ops live =>
    intro st st' ex h
    simp only [evC] at h
    cases hq : evOps call ops st with
    | none => rw [hq] at h; cases h
    | some s1 =>
      rw [hq] at h; simp at h; obtain ⟨_, rfl⟩ := h
      have h1 := evOps_le hc ops hq
      exact h1
  | regd an ops live =>
    intro st st' ex h
    simp only [evC] at h
    cases hq : evOps call ops st with
    | none => rw [hq] at h; cases h
    | some s1 =>
      rw [hq] at h; simp only [thenO_some] at h
      split at h
      · simp at h; obtain ⟨_, rfl⟩ := h
        have h1 := evOps_le hc ops hq
        exact h1
      · cases h
  | seq a b iha ihb =>
    intro st st' ex h
    simp only [evC] at h
    cases hq : evC N call a st with
    | none => rw [hq] at h; cases h
    | some r =>
      obtain ⟨e1, s1⟩ := r
      rw [hq] at h
      have h1 := iha hq
      cases e1 with
      | nrm => exact h1.trans (ihb h)
      | exit id => simp at h; obtain ⟨_, rfl⟩ := h; exact h1
      | ret => simp at h; obtain ⟨_, rfl⟩ := h; exact h1
  | cond c a b iha ihb =>
    intro st st' ex h
    simp only [evC] at h
    unfold condB at h
    split at h
    · split at h
      · exact iha h
      · exact ihb h
    · cases h
  | block id c ih =>
    intro st st' ex h
    simp only [evC] at h
    cases hq : evC N call c st with
    | none => rw [hq] at h; cases h
    | some r =>
      obtain ⟨e1, s1⟩ := r
      rw [hq] at h
      have h1 := ih hq
      cases e1 with
      | nrm => simp at h; obtain ⟨_, rfl⟩ := h; exact h1
      | ret => simp at h; obtain ⟨_, rfl⟩ := h; exact h1
      | exit id' =>
        simp only [endB_exit] at h
        split at h <;> (cases h; exact h1)
  | loop keep c ih =>
    intro st st' ex h
    simp only [evC] at h
    have key : ∀ (n : Nat) {st : St}, loopN (evC N call c) keep n st = some (ex, st') → HpLe st.hp st'.hp := by
      intro n
      induction n with
      | zero => intro st h; cases h
      | succ n ihn =>
        intro st h
        simp only [loopN] at h
        cases hq : evC N call c { st with tmps := keepL keep st.tmps } with
        | none => rw [hq] at h; cases h
        | some r =>
          obtain ⟨e1, s1⟩ := r
          rw [hq] at h
          have h1 : HpLe st.hp s1.hp := ih (st := { st with tmps := keepL keep st.tmps }) hq
          cases e1 with
          | nrm => exact h1.trans (ihn h)
          | exit id => simp at h; obtain ⟨_, rfl⟩ := h; exact h1
          | ret => simp at h; obtain ⟨_, rfl⟩ := h; exact h1
    exact key N h
  | each it d1 d2 keep rv c ih =>
    intro st st' ex h
    simp only [evC] at h
    unfold evEach at h
    split at h
    · split at h
      · split at h
        · split at h
          · unfold eachGo at h
            split at h
            · unfold noNrm at h
              split at h
              · cases h
              · exact (HpLe.put _ _ _).trans (ih h)
            · split at h
              · split at h
                · cases h; exact .put _ _ _
                · cases h
              · cases h
          · cases h
        · cases h
      · cases h
    · cases h
  | exit id => intro st st' ex h; simp [evC] at h; obtain ⟨_, rfl⟩ := h; exact .refl _
  | ret => intro st st' ex h; simp [evC] at h; obtain ⟨_, rfl⟩ := h; exact .refl _

/-- The functions that the evaluator knows are the program's. -/
structure Fits (P : Program) (φ : Nat → Option Nat) (M : Prg) (pu : Nat → Bool) : Prop where
  link : Linked P φ
  mix : P.follows .mixedOrders = true
  fns : ∀ (f g : Nat) (mf : MF), φ f = some g → M.ext g = none → M.fns g = some mf → ∃ (fn : Func) (A : Ann), P.funcs[f]? = some fn ∧ trF P φ A pu fn = some mf
  puF : ∀ (g : Nat) (mf : MF), pu g = true → M.ext g = none → M.fns g = some mf → mf.pure = true
  limX : ∀ (g : Nat) (x : List AV → Hp → Option (AV × Hp)) (as : List AV) (H : Hp) (r : AV × Hp), M.ext g = some x → x as H = some r → HpLe H r.2
  puX : ∀ (g : Nat) (x : List AV → Hp → Option (AV × Hp)) (as : List AV) (H : Hp) (r : AV × Hp), pu g = true → M.ext g = some x → x as H = some r → r.2 = H

/-- What the evaluator says of the functions that it doesn't enter is so. -/
def ExtSound (P : Program) (φ : Nat → Option Nat) (M : Prg) : Prop :=
  Sound P φ (fun g args H => match M.ext g with | some x => x args H | none => none)

theorem handP_some {ap : Bool} {H : Hp} {x : AV} {r : AV × Hp} (h : handP ap H x = some r) : r = (x, H) ∧ (ap = true ∨ x.scalar = true) := by
  unfold handP at h
  split at h
  · rename_i hc
    cases h
    exact ⟨rfl, by simpa using hc⟩
  · cases h

theorem evF_pure {M : Prg} {pu : Nat → Bool} (hF : Fits P φ M pu) (N : Nat) : ∀ d, PureOK pu (evF M N d)
  | 0 => fun g as H r _ h => by simp [evF] at h
  | d + 1 => fun g as H r hp h => by
    simp only [evF] at h
    cases he : M.ext g with
    | some x => rw [he] at h; exact hF.puX g x as H r hp he h
    | none =>
      rw [he] at h
      cases hm : M.fns g with
      | none => rw [hm] at h; cases h
      | some mf =>
        rw [hm] at h
        simp only at h
        have hpure := hF.puF g mf hp he hm
        rw [hpure] at h
        simp only [if_true, Option.bind_eq_some_iff] at h
        obtain ⟨as', _, x, _, h⟩ := h
        obtain ⟨rfl, _⟩ := handP_some h
        rfl

theorem evF_lim {M : Prg} {pu : Nat → Bool} (hF : Fits P φ M pu) (N : Nat) : ∀ d, LimOK (evF M N d)
  | 0 => fun g as H r h => by simp [evF] at h
  | d + 1 => fun g as H r h => by
    simp only [evF] at h
    cases he : M.ext g with
    | some x => rw [he] at h; exact hF.limX g x as H r he h
    | none =>
      rw [he] at h
      cases hm : M.fns g with
      | none => rw [hm] at h; cases h
      | some mf =>
        rw [hm] at h
        simp only at h
        split at h
        · simp only [Option.bind_eq_some_iff] at h
          obtain ⟨as', _, x, _, h⟩ := h
          obtain ⟨rfl, _⟩ := handP_some h
          exact .refl _
        · split at h
          · unfold evRet at h
            split at h
            · cases h
            · cases h
            · rename_i hcode
              simp only [Option.bind_eq_some_iff] at h
              obtain ⟨rs, _, h⟩ := h
              have hle := evC_le (evF_lim hF N d) N _ hcode
              cases h
              exact ⟨rfl, hle.2⟩
          · cases h

/-! ### Values for a call of a pure function -/

theorem apart_sound {T : Nat → Prop} {w : World} {ρ ρ' : Rho} : ∀ (d : Nat) {x : AV} {u : Value}, apart d x = true → VR φ T w ρ true x u → VR φ T w ρ' true x u
  | d, x, u, ha, hx => by
    cases hx with
    | U => cases d <;> cases ha
    | v => exact .v
    | ro0 => exact .ro0
    | ro h1 h2 h3 h4 h5 h6 h7 h8 => exact .ro h1 h2 h3 h4 h5 h6 h7 (fun i j c u a b c' => (h8 i j c u a b c').up false)
    | hp => cases d <;> cases ha
    | sl => cases d <;> cases ha
    | mp => cases d <;> cases ha
    | it => cases d <;> cases ha
    | agg h1 h2 h3 =>
      cases d with
      | zero => cases ha
      | succ d =>
        simp only [apart, List.all_eq_true] at ha
        exact .agg h1 (fun i c u a b => apart_sound d (ha c (List.mem_of_getElem? a)) (h2 i c u a b)) h3
    | tup h1 h2 =>
      cases d with
      | zero => cases ha
      | succ d =>
        simp only [apart, List.all_eq_true] at ha
        exact .tup h1 (fun i c u a b => apart_sound d (ha c (List.mem_of_getElem? a)) (h2 i c u a b))
    | rp h1 h2 h3 h4 h5 =>
      cases d with
      | zero => cases ha
      | succ d =>
        simp only [apart, List.all_eq_true] at ha
        exact .rp h1 h2 h3 h4 (fun i c u a b => apart_sound d (ha c (List.mem_of_getElem? a)) (h5 i c u a b))
    | fn h1 h2 h3 =>
      cases d with
      | zero => cases ha
      | succ d =>
        simp only [apart, List.all_eq_true] at ha
        exact .fn h1 h2 (fun i c u a b => apart_sound d (ha c (List.mem_of_getElem? a)) (h3 i c u a b))
    | bm h1 h2 h3 => cases d <;> cases ha

theorem still_sound {T : Nat → Prop} {w : World} {ρ : Rho} {H : Hp} (hr : HR φ T w ρ H.obs) (ρ' : Rho) : ∀ (d : Nat) {x y : AV} {u : Value}, still H d x = some y → VR φ T w ρ true x u → VR φ (frT T ρ 0) w ρ' true y u
  | d, x, y, u, hf, hx => by
    cases x with
    | v z =>
      have : y = .v z := by cases d <;> simp [still] at hf <;> exact hf.symm
      subst this; cases hx; exact .v
    | ro sz n f =>
      have : y = .ro sz n f := by cases d <;> simp [still] at hf <;> exact hf.symm
      subst this
      exact (hx.down rfl).base rfl (fun _ q => .inl q) (fun _ _ => rfl) true
    | U => cases d <;> simp [still] at hf
    | un z => cases d <;> simp [still] at hf
    | hp h ver i o => cases d <;> simp [still] at hf
    | mp h => cases d <;> simp [still] at hf
    | it h => cases d <;> simp [still] at hf
    | iface t z => cases d <;> simp [still] at hf
    | sl h ver off len =>
      cases d with
      | zero => simp [still] at hf
      | succ d =>
        simp only [still] at hf
        have := freeze_sound (H := { H with lim := 0 }) hr ρ' (d + 1) hf hx
        exact this.up true
    | agg cs =>
      cases d with
      | zero => simp [still] at hf
      | succ d =>
        simp only [still, Option.map_eq_some_iff] at hf
        obtain ⟨es, hes, rfl⟩ := hf
        obtain ⟨l1, l2⟩ := mapM_list _ _ _ hes
        cases hx with
        | agg a1 a2 a3 =>
          refine VR.agg (by omega) (fun i c u' hc hu => ?_) a3
          have hi : i < cs.length := by have := (List.getElem?_eq_some_iff.1 hc).1; omega
          exact still_sound hr ρ' d (l2 i _ c (List.getElem?_eq_getElem hi) hc) (a2 i _ u' (List.getElem?_eq_getElem hi) hu)
    | tup cs =>
      cases d with
      | zero => simp [still] at hf
      | succ d =>
        simp only [still, Option.map_eq_some_iff] at hf
        obtain ⟨es, hes, rfl⟩ := hf
        obtain ⟨l1, l2⟩ := mapM_list _ _ _ hes
        cases hx with
        | tup a1 a2 =>
          refine VR.tup (by omega) (fun i c u' hc hu => ?_)
          have hi : i < cs.length := by have := (List.getElem?_eq_some_iff.1 hc).1; omega
          exact still_sound hr ρ' d (l2 i _ c (List.getElem?_eq_getElem hi) hc) (a2 i _ u' (List.getElem?_eq_getElem hi) hu)
    | rp cs =>
      cases d with
      | zero => simp [still] at hf
      | succ d =>
        simp only [still, Option.map_eq_some_iff] at hf
        obtain ⟨es, hes, rfl⟩ := hf
        obtain ⟨l1, l2⟩ := mapM_list _ _ _ hes
        cases hx with
        | rp a1 a2 a3 a4 a5 =>
          refine VR.rp (.inl a1) (by omega) a3 a4 (fun i c u' hc hu => ?_)
          have hi : i < cs.length := by have := (List.getElem?_eq_some_iff.1 hc).1; omega
          exact still_sound hr ρ' d (l2 i _ c (List.getElem?_eq_getElem hi) hc) (a5 i _ u' (List.getElem?_eq_getElem hi) hu)
    | bm g cs => cases d <;> simp [still] at hf
    | fn g cs =>
      cases d with
      | zero => simp [still] at hf
      | succ d =>
        simp only [still, Option.map_eq_some_iff] at hf
        obtain ⟨es, hes, rfl⟩ := hf
        obtain ⟨l1, l2⟩ := mapM_list _ _ _ hes
        cases hx with
        | fn a1 a2 a3 =>
          refine VR.fn a1 (by omega) (fun i c u' hc hu => ?_)
          have hi : i < cs.length := by have := (List.getElem?_eq_some_iff.1 hc).1; omega
          exact still_sound hr ρ' d (l2 i _ c (List.getElem?_eq_getElem hi) hc) (a3 i _ u' (List.getElem?_eq_getElem hi) hu)

theorem isV_sound {T T' : Nat → Prop} {w w' : World} {ρ ρ' : Rho} {l l' : Bool} {x : AV} {u : Value} (hs : x.isV = true) (h : VR φ T w ρ l x u) : VR φ T' w' ρ' l' x u := by
  cases h with
  | v => exact .v
  | _ => cases hs

theorem scalar_sound {T T' : Nat → Prop} {w w' : World} {ρ ρ' : Rho} {l l' : Bool} {x : AV} {u : Value} (hs : x.scalar = true) (h : VR φ T w ρ l x u) : VR φ T' w' ρ' l' x u := by
  cases h with
  | v => exact .v
  | agg h1 h2 h3 =>
    simp only [AV.scalar, List.all_eq_true] at hs
    exact .agg h1 (fun i c u a b => isV_sound (hs c (List.mem_of_getElem? a)) (h2 i c u a b)) h3
  | tup h1 h2 =>
    simp only [AV.scalar, List.all_eq_true] at hs
    exact .tup h1 (fun i c u a b => isV_sound (hs c (List.mem_of_getElem? a)) (h2 i c u a b))
  | _ => cases hs

theorem rl_start {T : Nat → Prop} {w : World} {ρ : Rho} {nt ntf : Nat} {args : List AV} {H : Hp} {vs : List Value} (hl : args.length = vs.length) (hv : ∀ (i : Nat) (c : AV) (u : Value), args[i]? = some c → vs[i]? = some u → VR φ T w ρ true c u) (hr : HR φ T w ρ H.obs)
    (hlim : H.lim ≤ H.obs.length) (hargs : args.length ≤ ntf) (hnt : nt = ntf) : RL φ nt T w ρ T ρ (argEnv 0 args) H { tmps := vs.toArray ++ Array.replicate (ntf - vs.toArray.size) undef, defers := [] } w := by
  have hsz : vs.toArray.size = args.length := by simp [hl]
  refine ⟨⟨fun s => ?_, fun s s' z z' _ h1 _ => ?_⟩, hr, Since.refl _ _ _ _, rfl, by simp; omega, hlim⟩
  · rw [get_arg]
    simp only [Nat.zero_le, if_true, Nat.sub_zero]
    cases ha : args[s]? with
    | none => simp only [List.getD, ha, Option.getD_none]; exact VR.U
    | some x =>
      have hs : s < vs.length := by rw [← hl]; exact (List.getElem?_eq_some_iff.1 ha).1
      have hvr := hv s x vs[s] ha (List.getElem?_eq_getElem hs)
      simp only [List.getD, ha, Option.getD_some]
      have hval : (vs.toArray ++ Array.replicate (ntf - vs.toArray.size) undef).getD s undef = vs[s] := by
        rw [Array.getD_eq_getD_getElem?, Array.getElem?_append_left (by simpa using hs)]
        simp [hs]
      rw [hval]
      unfold SR
      split
      · cases hvr
      · exact hvr
  · rw [get_arg] at h1
    simp only [Nat.zero_le, if_true, Nat.sub_zero] at h1
    cases ha : args[s]? with
    | none => simp only [List.getD, ha, Option.getD_none] at h1; cases h1
    | some x =>
      have hs : s < vs.length := by rw [← hl]; exact (List.getElem?_eq_some_iff.1 ha).1
      have hvr := hv s x vs[s] ha (List.getElem?_eq_getElem hs)
      simp only [List.getD, ha, Option.getD_some] at h1
      subst h1
      cases hvr

theorem hr_empty {T : Nat → Prop} {w : World} (h : ∀ b, T b → b < w.heap.size) (hG : GL T w) : HR φ T w (fun _ => none) [] :=
  ⟨fun h o ho => by simp at ho, fun _ _ => rfl, fun h h' i i' q => (by cases q), h, hG⟩

theorem mapM_args {α β : Type} (f : α → Option β) {l : List α} {r : List β} (h : l.mapM f = some r) : r.length = l.length ∧ ∀ (i : Nat) (x : α) (y : β), l[i]? = some x → r[i]? = some y → f x = some y := mapM_list f l r h

/-- A pure function from values that lean on no object. -/
theorem pure_sound {M : Prg} {pu : Nat → Bool} (hF : Fits P φ M pu) {call : CallF} (hS : Sound P φ call) (hp : PureOK pu call) (hle : LimOK call) (N : Nat) {f : Nat} {fn : Func} {mf : MF} (hfn : P.funcs[f]? = some fn) {A : Ann} (htr : trF P φ A pu fn = some mf)
    {args : List AV} {y : AV} (he : evP N call mf args = some y) {T : Nat → Prop} {w : World} {vs : List Value} (hl : args.length = vs.length) (hv : ∀ (i : Nat) (c : AV) (u : Value), args[i]? = some c → vs[i]? = some u → VR φ T w (fun _ => none) true c u)
    (hT : ∀ b, T b → b < w.heap.size) (hG : GL T w) :
    Calls P f vs.toArray w fun e w' => ∃ T' v, e = .returned v ∧ Since 0 T w (fun _ => none) T' w' (fun _ => none) ∧ (∀ b, T' b → b < w'.heap.size) ∧ VR φ T' w' (fun _ => none) false y v := by
  unfold trF at htr
  split at htr
  · rename_i c hbody
    simp only [Option.bind_eq_some_iff] at htr
    obtain ⟨c', hc', qs, hqs, htr⟩ := htr
    split at htr
    · rename_i hnt
      cases htr
      unfold evP at he
      split at he
      · rename_i hargs
        unfold evRetP at he
        split at he
        · cases he
        · cases he
        · rename_i ex st' hne hcode
          simp only [Option.bind_eq_some_iff] at he
          obtain ⟨xs, hxs, hy⟩ := he
          refine calls_of_wp hfn hbody ?_
          have hR0 := rl_start (φ := φ) (H := ⟨0, []⟩) (nt := A.nt) (ntf := fn.ntmps) hl hv (hr_empty hT hG) (Nat.le_refl _) hargs hnt.2
          refine code_sound hF.link hF.mix hS hle hp N c hc' hcode hR0 (fun a' w' T' ρ' hR => ?_)
          obtain ⟨v, hv1, hv2⟩ := run_results (P := P) hR hqs hxs
          have hlim := (evC_le hle N _ hcode).1
          have hsi := hR.si
          rw [hlim] at hsi
          have key : Since 0 T w (fun _ => none) (frT T' ρ' 0) w' (fun _ => none) := {
            size := hsi.size, os := hsi.os, tape := hsi.tape, output := hsi.output
            ext := ⟨fun b hb => .inl (hsi.ext.st b hb), hsi.ext.heap, fun h i hi => by cases hi⟩
            tnew := fun b hb => by
              rcases hb with hb | ⟨h, i, hl, hi, rfl⟩
              · exact hsi.tnew b hb
              · rcases hsi.wb h i hl hi with q | ⟨i0, h0, _⟩
                · exact .inr q
                · cases h0
            wb := fun h i _ hi => by cases hi
            low := fun _ _ => rfl
            frame := fun x hx _ => hsi.frame x hx (fun h i _ hi => by cases hi)
            nf := hsi.nf }
          have hfr := freeze_sound hR.hr (fun _ => none) 8 hy hv2
          rw [hlim] at hfr
          have hpost : a'.defers = [] ∧ ∃ v, (results fn a'.tmps).run P w' = .ok v w' ∧ ∃ T' v_1, Ending.returned v = .returned v_1 ∧ Since 0 T w (fun _ => none) T' w' (fun _ => none) ∧ (∀ b, T' b → b < w'.heap.size) ∧ VR φ T' w' (fun _ => none) false y v_1 :=
            ⟨hR.df, v, hv1, _, v, rfl, key, fun b hb => by
              rcases hb with hb | ⟨h, i, hl, hi, rfl⟩
              · exact hR.hr.old b hb
              · exact (hR.hr.has hi).1, hfr⟩
          cases ex with
          | nrm => exact hpost
          | ret => exact hpost
          | exit id => exact (hne id rfl).elim
      · cases he
    · cases htr
  · cases htr

/-- What a call in an empty heap has done, seen from outside. -/
theorem Since.outer {T T1 T' : Nat → Prop} {w w' : World} {ρ : Rho} (s : Since 0 T1 w (fun _ => none) T' w' (fun _ => none)) (lim : Nat) (T2 : Nat → Prop) (h1 : ∀ b, T b → T2 b) (h2 : ∀ b, T2 b → T b ∨ w.heap.size ≤ b) (hT : ∀ b, T b → b < w.heap.size) : Since lim T w ρ T2 w' ρ where
  size := s.size
  os := s.os
  tape := s.tape
  output := s.output
  ext := ⟨h1, fun b hb => s.frame b (hT b hb) (fun h i _ hi => by cases hi), fun h i hi => ⟨i, hi, Nat.le_refl _, fun _ => rfl, fun _ => rfl⟩⟩
  tnew := h2
  wb h i _ hi := .inr ⟨i, hi, rfl⟩
  low _ _ := rfl
  frame x hx _ := s.frame x hx (fun h i _ hi => by cases hi)
  nf := s.nf

theorem HR.outer {T T1 T' : Nat → Prop} {w w' : World} {ρ : Rho} {obs : List AO} (hr : HR φ T w ρ obs) (s : Since 0 T1 w (fun _ => none) T' w' (fun _ => none)) (T2 : Nat → Prop) (h1 : ∀ b, T b → T2 b) (h2 : ∀ b, T2 b → T b ∨ w.heap.size ≤ b) (h3 : ∀ b, T2 b → b < w'.heap.size) : HR φ T2 w' ρ obs :=
  hr.since (s.outer obs.length T2 h1 h2 hr.old) (fun h hl => hr.out h hl) h3

theorem evF_sound {M : Prg} {pu : Nat → Bool} (hF : Fits P φ M pu) (hX : ExtSound P φ M) (N : Nat) : ∀ d, Sound P φ (evF M N d)
  | 0 => fun f g _ args H r h => by simp [evF] at h
  | d + 1 => by
    intro f g hfg args H r h T w ρ vs hl hv hr hlim
    simp only [evF] at h
    cases he : M.ext g with
    | some x =>
      rw [he] at h
      exact hX f g hfg args H r (by show (match M.ext g with | some x => x args H | none => none) = some r; rw [he]; exact h) T w ρ vs hl hv hr hlim
    | none =>
      rw [he] at h
      cases hm : M.fns g with
      | none => rw [hm] at h; cases h
      | some mf =>
        rw [hm] at h
        simp only at h
        obtain ⟨fn, A, hfn, htr⟩ := hF.fns f g mf hfg he hm
        split at h
        · simp only [Option.bind_eq_some_iff] at h
          obtain ⟨as, has, y, hy, h⟩ := h
          obtain ⟨rfl, hsc⟩ := handP_some h
          by_cases hap : args.all (apart 8) = true
          · rw [if_pos hap] at has
            cases has
            refine (pure_sound hF (evF_sound hF hX N d) (evF_pure hF N d) (evF_lim hF N d) N hfn htr hy hl (fun i c u a b => apart_sound 8 (by rw [List.all_eq_true] at hap; exact hap c (List.mem_of_getElem? a)) (hv i c u a b)) hr.old hr.gl).mono (fun e w' hq => ?_)
            obtain ⟨T', v, rfl, s, hT', hvr⟩ := hq
            exact ⟨T', ρ, v, rfl, s.outer H.lim T' s.ext.st s.tnew hr.old, hr.outer s T' s.ext.st s.tnew hT', rfl, Nat.le_refl _, hvr.up true⟩
          · rw [if_neg hap] at has
            obtain ⟨m1, m2⟩ := mapM_args _ has
            have hsc' : y.scalar = true := hsc.resolve_left hap
            refine (pure_sound hF (evF_sound hF hX N d) (evF_pure hF N d) (evF_lim hF N d) N hfn htr hy (T := frT T ρ 0) (by omega) (fun i c u a b => ?_) (fun b hb => ?_) (hr.gl.step (fun _ q => .inl q) (fun _ _ => rfl))).mono (fun e w' hq => ?_)
            · have hi : i < args.length := by have := (List.getElem?_eq_some_iff.1 a).1; omega
              exact still_sound hr _ 8 (m2 i _ c (List.getElem?_eq_getElem hi) a) (hv i _ u (List.getElem?_eq_getElem hi) b)
            · rcases hb with hb | ⟨h, i, hl, hi, rfl⟩
              · exact hr.old b hb
              · exact (hr.has hi).1
            · obtain ⟨T', v, rfl, s, hT', hvr⟩ := hq
              exact ⟨T, ρ, v, rfl, s.outer H.lim T (fun _ q => q) (fun _ q => .inl q) hr.old, hr.outer s T (fun _ q => q) (fun _ q => .inl q) (fun b hb => Nat.lt_of_lt_of_le (hr.old b hb) s.size), rfl, Nat.le_refl _, scalar_sound hsc' hvr⟩
        · split at h
          · rename_i hargs
            unfold trF at htr
            split at htr
            · rename_i c hbody
              simp only [Option.bind_eq_some_iff] at htr
              obtain ⟨c', hc', qs, hqs, htr⟩ := htr
              split at htr
              · rename_i hnt
                cases htr
                simp only at h hargs
                unfold evRet at h
                split at h
                · cases h
                · cases h
                · rename_i ex st' hne hcode
                  simp only [Option.bind_eq_some_iff] at h
                  obtain ⟨xs, hxs, h⟩ := h
                  refine calls_of_wp hfn hbody ?_
                  have hR0 := rl_start (φ := φ) (nt := A.nt) (ntf := fn.ntmps) hl hv hr hlim hargs hnt.2
                  refine code_sound hF.link hF.mix (evF_sound hF hX N d) (evF_lim hF N d) (evF_pure hF N d) N c hc' hcode hR0 (fun a' w' T' ρ' hR => ?_)
                  obtain ⟨v, hv1, hv2⟩ := run_results (P := P) hR hqs hxs
                  have hle := evC_le (evF_lim hF N d) N _ hcode
                  have hsi := hR.si
                  rw [hle.1] at hsi
                  cases h
                  have hpost : a'.defers = [] ∧ ∃ v, (results fn a'.tmps).run P w' = .ok v w' ∧ ∃ T' ρ' v_1, Ending.returned v = .returned v_1 ∧ Since H.lim T w ρ T' w' ρ' ∧ HR φ T' w' ρ' st'.hp.obs ∧ H.lim = H.lim ∧ H.obs.length ≤ st'.hp.obs.length ∧ VR φ T' w' ρ' true (one xs) v_1 :=
                    ⟨hR.df, v, hv1, T', ρ', v, rfl, hsi, hR.hr, rfl, hle.2, hv2⟩
                  cases ex with
                  | nrm => exact hpost
                  | ret => exact hpost
                  | exit id => exact (hne id rfl).elim
              · cases htr
            · cases htr
          · cases h
end
end Sx
