/-
  Sx: what the evaluator answers, the machine's call answers.
-/
import Derived.Test.YtgmppophlalliaaGreatSxOrd
namespace Sx
open Go
set_option linter.unusedSimpArgs false
set_option linter.unusedVariables false

section
variable {P : Program} {φ : Nat → Option Nat} {A : Ann} {T0 : Nat → Prop} {w0 : World} {ρ0 : Rho}

theorem RL.same {nt : Nat} {T : Nat → Prop} {ρ : Rho} {a b : St} {act : Act} {w : World} (h : RL φ nt T0 w0 ρ0 T ρ a.tmps a.hp act w) (s : Same a b) : RL φ nt T0 w0 ρ0 T ρ b.tmps b.hp act w where
  tr := ⟨fun k => by rw [← s.tm]; exact h.tr.slot k, fun k k' z z' hne h1 h2 => h.tr.apart k k' z z' hne (by rw [s.tm]; exact h1) (by rw [s.tm]; exact h2)⟩
  hr := by rw [← s.hp]; exact h.hr
  si := by rw [← s.hp]; exact h.si
  df := h.df
  nt := h.nt
  ll := by rw [← s.hp]; exact h.ll

theorem get_keep (ks : List Nat) (tm : Env) (s : Nat) : get s (keepL ks tm) = if s ∈ ks then get s tm else .U := by
  induction ks with
  | nil => rfl
  | cons k ks ih =>
    simp only [keepL, List.map_cons, get_cons]
    by_cases h : k = s
    · subst h; simp
    · have : ¬ s = k := fun q => h q.symm
      simp only [h, if_false, List.mem_cons, this, false_or]
      exact ih

theorem RL.keep {nt : Nat} {T : Nat → Prop} {ρ : Rho} {tm : Env} {H : Hp} {act : Act} {w : World} (h : RL φ nt T0 w0 ρ0 T ρ tm H act w) (ks : List Nat) : RL φ nt T0 w0 ρ0 T ρ (keepL ks tm) H act w where
  tr := ⟨fun k => by
    rw [get_keep]
    split
    · exact h.tr.slot k
    · exact VR.U, fun k k' z z' hne h1 h2 => by
      rw [get_keep] at h1 h2
      split at h1
      · split at h2
        · exact h.tr.apart k k' z z' hne h1 h2
        · cases h2
      · cases h1⟩
  hr := h.hr
  si := h.si
  df := h.df
  nt := h.nt
  ll := h.ll

theorem mapM_at {α β : Type} (f : α → Option β) : ∀ (l : List α) (r : List β), l.mapM f = some r → r.length = l.length ∧ ∀ (i : Nat) (x : α), l[i]? = some x → ∃ y, r[i]? = some y ∧ f x = some y
  | [], r, h => by simp at h; subst h; exact ⟨rfl, fun i x hx => by simp at hx⟩
  | x :: l, r, h => by
    rw [List.mapM_cons] at h
    cases h1 : f x with
    | none => rw [h1] at h; cases h
    | some y =>
      rw [h1] at h
      cases h2 : l.mapM f with
      | none => rw [h2] at h; cases h
      | some q =>
        rw [h2] at h
        simp at h; subst h
        obtain ⟨l1, l2⟩ := mapM_at f l q h2
        refine ⟨by simp [l1], fun i z hz => ?_⟩
        cases i with
        | zero => simp at hz; subst hz; exact ⟨y, by simp, h1⟩
        | succ i => simpa using l2 i z (by simpa using hz)

/-- One operation of a region. -/
theorem op_step (hL : Linked P φ) {call : CallF} (hS : Sound P φ call) {ops : Array Oper} {i : Nat} {o : Oper} {m : MOp} {st st' : St} {T : Nat → Prop} {ρ : Rho} {a : Act} {w : World} {K : Act → World → Prop} {Q : Exit → Act → World → Prop}
    (ho : ops[i]? = some o) (hm : trOper P φ A ops.toList o = some m) (he : evOp call st m = some st') (hR : RL φ A.nt T0 w0 ρ0 T ρ st.tmps st.hp a w)
    (hK : ∀ a' w' T' ρ', RL φ A.nt T0 w0 ρ0 T' ρ' st'.tmps st'.hp a' w' → K a' w') : wpOp P ops Q i K a w := by
  unfold wpOp
  rw [ho]
  simp only
  unfold trOper at hm
  simp only [Option.bind_eq_some_iff] at hm
  obtain ⟨m', hm', g, hg, hm⟩ := hm
  split at hm
  · rename_i hd
    cases hm
    unfold evOp at he
    simp only at he
    have hw : ∀ b, wanted st.tmps g = some b → Region.wanted o (yielded ops a.tmps) = b := by
      intro b hb
      unfold trGuard at hg
      unfold Region.wanted
      split at hg
      · rename_i hgn
        rw [hgn]
        cases hg
        simp [wanted] at hb
        subst hb
        rfl
      · rename_i j want hgn
        rw [hgn]
        simp only
        split at hg
        · rename_i d hdst
          cases hg
          have hdst' : (ops[j]?).bind (·.dst) = some d := by simpa using hdst
          unfold yielded
          rw [hdst']
          simp only [Option.bind_some]
          have hsl := hR.tr.slot d
          simp only [wanted] at hb
          split at hb
          · rename_i b' hgd
            cases hb
            rw [hgd] at hsl
            have hv : a.tmps.getD d undef = .bool b' := hsl.ofV
            have : a.tmps[d]? = some (.bool b') := by
              rw [Array.getD_eq_getD_getElem?] at hv
              cases hq : a.tmps[d]? with
              | none => rw [hq] at hv; simp [undef] at hv
              | some x => rw [hq] at hv; simp at hv; rw [hv]
            rw [this]
            cases b' <;> cases want <;> rfl
          · rename_i vs hgd
            cases hb
            rw [hgd] at hsl
            have hv : a.tmps.getD d undef = .tuple vs := hsl.ofV
            rw [Array.getD_eq_getD_getElem?] at hv
            cases hq : a.tmps[d]? with
            | none => rfl
            | some x => rw [hq] at hv; simp at hv; rw [hv]; rfl
          · cases hb
        · cases hg
    split at he
    · rename_i hwt
      rw [hw true hwt]
      simp only [if_true]
      simp only [Option.map_eq_some_iff] at he
      obtain ⟨e, he, rfl⟩ := he
      exact .inl (op_sound hL hS hm' he hR hd hK)
    · rename_i hwt
      rw [hw false hwt]
      simp only [Bool.false_eq_true, if_false]
      cases he
      exact hK _ _ T ρ (hR.val hd .v)
    · cases he
  · cases hm

theorem evIdx_range (call : CallF) : ∀ (ms pre : List MOp) (st : St), evOps call ms st = evIdx call (pre ++ ms) (List.range' pre.length ms.length) st
  | [], pre, st => rfl
  | m :: ms, pre, st => by
    simp only [evOps, List.length_cons, List.range'_succ, evIdx]
    have : (pre ++ m :: ms)[pre.length]? = some m := by simp
    rw [this]
    simp only
    congr 1
    funext st'
    have := evIdx_range call ms (pre ++ [m]) st'
    simpa using this

/-- A region in the order of the text. -/
theorem region_text (hL : Linked P φ) {call : CallF} (hS : Sound P φ call) {ops : Array Oper} {ms : List MOp} (hms : ops.toList.mapM (trOper P φ A ops.toList) = some ms) {Q : Exit → Act → World → Prop} :
    ∀ (l : List Nat) {st st' : St} {T : Nat → Prop} {ρ : Rho} {a : Act} {w : World}, (∀ i ∈ l, i < ops.size) → evIdx call ms l st = some st' → RL φ A.nt T0 w0 ρ0 T ρ st.tmps st.hp a w →
    (∀ a' w' T' ρ', RL φ A.nt T0 w0 ρ0 T' ρ' st'.tmps st'.hp a' w' → Q .normal a' w') → wpOps P ops Q l a w
  | [], st, st', T, ρ, a, w, _, he, hR, hQ => by cases he; exact hQ _ _ _ _ hR
  | i :: l, st, st', T, ρ, a, w, hl, he, hR, hQ => by
    rw [wpOps_cons]
    have hi := hl i (by simp)
    obtain ⟨_, hat⟩ := mapM_at _ _ _ hms
    obtain ⟨m, h1, h2⟩ := hat i ops[i] (by simp [hi])
    simp only [evIdx, h1] at he
    cases hq : evOp call st m with
    | none => rw [hq] at he; cases he
    | some s1 =>
      rw [hq] at he
      simp only [thenO_some] at he
      exact op_step hL hS (by simp [hi]) h2 hq hR (fun a' w' T' ρ' hr => region_text hL hS hms l (fun j hj => hl j (by simp [hj])) he hr hQ)

/-- A region whose order is drawn. -/
theorem region_any (hL : Linked P φ) {call : CallF} (hS : Sound P φ call) {pu : Nat → Bool} (hp : PureOK pu call) {ops : Array Oper} {ms : List MOp} (hms : ops.toList.mapM (trOper P φ A ops.toList) = some ms) (hfree : orderFree pu ops.toList ms = true) {Q : Exit → Act → World → Prop} :
    ∀ (fuel : Nat) (listed : Array Bool) {st st' : St} {T : Nat → Prop} {ρ : Rho} {a : Act} {w : World}, (restOf ops.size listed).length = fuel →
    (∀ (i : Nat) (o : Oper), ops.toList[i]? = some o → listed.getD i true = true → ∀ e ∈ o.after.toList, Edge.firm e = true → listed.getD e.on true = true) → listed.size = ops.size →
    evIdx call ms (restOf ops.size listed) st = some st' → RL φ A.nt T0 w0 ρ0 T ρ st.tmps st.hp a w →
    (∀ st'' a' w' T' ρ', Same st'' st' → RL φ A.nt T0 w0 ρ0 T' ρ' st''.tmps st''.hp a' w' → Q .normal a' w') → wpAny P .any ops Q fuel listed a w := by
  unfold orderFree at hfree
  rw [Bool.and_eq_true] at hfree
  obtain ⟨hdown, hfree⟩ := hfree
  obtain ⟨hlen, hat⟩ := mapM_at _ _ _ hms
  have firm_binds : ∀ e : Edge, Region.binds .any e = Edge.firm e := fun e => by
    unfold Region.binds Edge.firm
    cases e.ground <;> rfl
  have ready_rest : ∀ listed i, i ∈ Region.ready .any ops listed → i ∈ restOf ops.size listed := fun listed i hi => by
    unfold Region.ready at hi
    rw [List.mem_filter] at hi
    have := hi.2
    rw [Bool.and_eq_true] at this
    refine restOf_mem.2 ⟨by simpa using hi.1, by simpa using this.1⟩
  intro fuel
  induction fuel with
  | zero =>
    intro listed st st' T ρ a w hf hcl hsz he hR hQ
    have hnil : restOf ops.size listed = [] := List.eq_nil_of_length_eq_zero hf
    refine ⟨?_, ?_⟩
    · cases hr : Region.ready .any ops listed with
      | nil => rfl
      | cons i r =>
        have := ready_rest listed i (by rw [hr]; simp)
        rw [hnil] at this
        simp at this
    · rw [hnil] at he
      cases he
      exact hQ st a w T ρ (Same.rfl' _) hR
  | succ fuel ih =>
    intro listed st st' T ρ a w hf hcl hsz he hR hQ
    refine ⟨fun hr => ?_, fun i hi => ?_⟩
    · -- the least that is left is ready
      exfalso
      cases hrest : restOf ops.size listed with
      | nil => rw [hrest] at hf; simp at hf
      | cons i r =>
        have hi := restOf_mem.1 (show i ∈ restOf ops.size listed by rw [hrest]; simp)
        have hsort := restOf_sorted ops.size listed
        rw [hrest, List.pairwise_cons] at hsort
        have hready : i ∈ Region.ready .any ops listed := by
          unfold Region.ready
          rw [List.mem_filter]
          refine ⟨by simpa using hi.1, ?_⟩
          rw [hi.2]
          have hoi : ops[i]? = some ops[i] := by simp [hi.1]
          rw [hoi]
          simp only [Option.map_some, Option.getD_some, Bool.not_false, Bool.true_and]
          rw [Array.all_eq_true_iff_forall_mem]
          intro e hemem
          have hemem' : e ∈ (ops[i]).after.toList := by simpa using hemem
          rw [firm_binds]
          cases hfe : Edge.firm e with
          | false => rfl
          | true =>
            have hd : e.on < i := by
              unfold edgesDown at hdown
              rw [List.all_eq_true] at hdown
              have := hdown i (by simpa using hi.1)
              have hol : ops.toList[i]? = some ops[i] := by simp [hi.1]
              rw [hol] at this
              simp only at this
              rw [List.all_eq_true] at this
              have := this e hemem'
              rw [hfe] at this
              simpa using this
            simp only [Bool.not_true, Bool.false_or]
            have hlt : e.on < listed.size := by omega
            cases hq : listed.getD e.on true with
            | true => simpa [Array.getD, hlt] using hq
            | false =>
              have hm := restOf_mem.2 (⟨by omega, hq⟩ : e.on < ops.size ∧ listed.getD e.on true = false)
              rw [hrest, List.mem_cons] at hm
              rcases hm with hm | hm
              · omega
              · have := hsort.1 _ hm; omega
        rw [hr] at hready
        simp at hready
    · have hir := ready_rest listed i hi
      have himem := restOf_mem.1 hir
      have hoi : ops.toList[i]? = some ops[i] := by simp [himem.1]
      -- the edges of i
      have hedges : ∀ e ∈ (ops[i]).after.toList, Edge.firm e = true → listed.getD e.on true = true := by
        intro e he' hfe
        unfold Region.ready at hi
        rw [List.mem_filter, Bool.and_eq_true] at hi
        have h2 := hi.2.2
        have : ops[i]? = some ops[i] := by simp [himem.1]
        rw [this] at h2
        simp only [Option.map_some, Option.getD_some] at h2
        rw [Array.all_eq_true_iff_forall_mem] at h2
        have := h2 e (by simpa using he')
        rw [firm_binds, hfe] at this
        simp at this
        rw [Array.getD_eq_getD_getElem?]
        cases hq : listed[e.on]? with
        | none => rw [hq] at this; simp at this
        | some x => rw [hq] at this; simpa using this
      have hanc := anc_listed (n := ops.size) (listed := listed) hdown (by simp) hcl (i + 1) i _ (by omega) hoi hedges
      obtain ⟨s2, g1, g2⟩ := evIdx_front hp (ms := ms) (i := i) (restOf ops.size listed) hir (restOf_nodup _ _) (fun j hj hji k hk hjk x y hx hy => by
        subst hk
        have hlt := sorted_before (restOf_sorted ops.size listed) j hjk hir
        rw [List.all_eq_true] at hfree
        have him : i < ms.length := (List.getElem?_eq_some_iff.1 hx).1
        have h1 := hfree i (by simpa using him)
        rw [List.all_eq_true] at h1
        have h2 := h1 j (by simpa using hlt)
        rw [Bool.or_eq_true] at h2
        rcases h2 with h2 | h2
        · have := hanc j h2
          rw [(restOf_mem.1 hj).2] at this
          cases this
        · simpa [List.getD, hx, hy] using h2) he
      simp only [evIdx] at g1
      obtain ⟨m, h1, h2⟩ := hat i ops[i] hoi
      rw [h1] at g1
      simp only at g1
      cases hq : evOp call st m with
      | none => rw [hq] at g1; cases g1
      | some s1 =>
        rw [hq] at g1
        simp only [thenO_some] at g1
        refine op_step hL hS (by simp [himem.1]) h2 hq hR (fun a' w' T' ρ' hr => ?_)
        refine ih (listed.setIfInBounds i true) (st := s1) (st' := s2) ?_ ?_ (by simp [hsz]) (by rw [restOf_set hir]; exact g1) hr (fun st'' a' w' T' ρ' hs => hQ st'' a' w' T' ρ' (hs.trans g2))
        · rw [restOf_set hir, List.length_erase_of_mem hir, hf]; rfl
        · intro k o hk hlk e he' hfe
          have hset : ∀ q, (listed.setIfInBounds i true).getD q true = true ↔ (q = i ∨ listed.getD q true = true) := fun q => by
            have hil : i < listed.size := by omega
            by_cases h : i = q
            · subst h; simp [Array.getD_eq_getD_getElem?, hil]
            · have : ¬ q = i := fun e => h e.symm
              simp [Array.getD_eq_getD_getElem?, Array.getElem?_setIfInBounds, h, this]
          rw [hset] at hlk ⊢
          right
          rcases hlk with rfl | hlk
          · rw [hoi] at hk; cases hk
            exact hedges e he' hfe
          · exact hcl k o hk hlk e he' hfe
end
end Sx
