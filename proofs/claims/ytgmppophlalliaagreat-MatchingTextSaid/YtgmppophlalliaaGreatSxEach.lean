/-
  Sx: a round for each entry of a map, in any order.
-/
import Derived.Test.YtgmppophlalliaaGreatSxDyn
import Derived.LoopN
import Derived.Maps.RangeRun
namespace Sx
open Go
set_option linter.unusedSimpArgs false
set_option linter.unusedVariables false

section
variable {P : Program} {φ : Nat → Option Nat} {A : Ann} {T0 : Nat → Prop} {w0 : World} {ρ0 : Rho}

def exM : Ex → Exit
  | .nrm => .normal
  | .exit id => .exit id
  | .ret => .ret

theorem Hp.put_put (H : Hp) (h : Nat) (x y : AO) : (H.put h x).put h y = H.put h y := by
  simp [Hp.put]

theorem Hp.put_self {H : Hp} {h : Nat} {x : AO} (hx : H.obs[h]? = some x) : H.put h x = H := by
  unfold Hp.put
  have := (List.getElem?_eq_some_iff.1 hx)
  obtain ⟨h1, h2⟩ := this
  have : H.obs.set h x = H.obs := by
    apply List.ext_getElem?
    intro k
    by_cases e : h = k
    · subst e; rw [List.getElem?_set_self h1, hx]
    · rw [List.getElem?_set_ne e]
  rw [this]

/-- The step of the round. -/
theorem RL.next {T : Nat → Prop} {ρ : Rho} {tm : Env} {H : Hp} {a : Act} {w : World} {h m n d1 : Nat} {seen : Array Nat} {es : List (AV × AV)} {v : Value} (hR : RL φ A.nt T0 w0 ρ0 T ρ tm H a w) (hv : VR φ T w ρ true (.it h) v)
    (ho : H.obs[h]? = some (.it m n (some seen))) (hm : H.obs[m]? = some (.mp es)) (hn : es.length = n) (hl : H.lim ≤ h) (hd : d1 < A.nt) (ty : TypeId) :
    ∃ r w', (Instr.next v false ty).run P w = .ok r w' ∧
      (((∀ j, j < n → j ∈ seen) ∧ r = .tuple #[.bool false] ∧ RL φ A.nt T0 w0 ρ0 T ρ (putD (some d1) (.tup [.b false]) tm) (H.put h (.it m n none)) (a.put (some d1) r) w') ∨
       ∃ j p y z, j < n ∧ j ∉ seen ∧ es[j]? = some p ∧ r = .tuple #[.bool true, y, z] ∧ RL φ A.nt T0 w0 ρ0 T ρ (putD (some d1) (.tup [.b true, p.1, p.2]) tm) (H.put h (.it m n (some (seen.push j)))) (a.put (some d1) r) w') := by
  subst hn
  cases hv with
  | it g1 g2 =>
    rename_i inf
    obtain ⟨i, mi, sn, e1, e2, e3, ⟨e4, e4'⟩, e5, e6, e7⟩ := hR.hr.ob h _ ho
    rw [g1] at e1; cases e1
    have := e6 seen rfl
    subst this
    obtain ⟨i', ents, clock, f1, f2, f3, f4, ⟨f5, f6, f7⟩, f8, f9⟩ := hR.hr.ob m _ hm
    rw [e4] at f1; cases f1
    have hold : ∀ x ∈ ents.toList, x.born < es.length := fun x hx => by
      obtain ⟨k, hk⟩ := List.getElem?_of_mem hx
      have hk' : ents[k]? = some x := by simpa using hk
      rw [f7 k x hk', ← f5]
      exact (Array.getElem?_eq_some_iff.1 hk').1
    rcases run_next_at (P := P) w ty _ _ es.length es.length sn ents clock e5 f4 hold (Nat.le_refl _) with ⟨h0, hrun⟩ | ⟨e, he, w1, hal, hrun⟩
    · refine ⟨_, w, hrun, .inl ⟨fun j hj => ?_, rfl, ?_⟩⟩
      · have hj' : j < ents.size := by omega
        have := all_seen ents sn h0 ents[j] (by simp)
        rw [f7 j _ (Array.getElem?_eq_getElem hj')] at this
        simpa using this
      · have hset : setB w inf.blk (.mapIter (some mi.blk) es.length sn es.length) = w := by
          unfold setB
          have : w.heap.setIfInBounds inf.blk (.mapIter (some mi.blk) es.length sn es.length) = w.heap := by
            apply Array.ext_getElem?
            intro k
            rw [Array.getElem?_setIfInBounds]
            split
            · rename_i hk; subst hk
              split
              · exact e5.symm
              · rename_i hk; rw [Array.getElem?_eq_none (by omega)]
            · rfl
          rw [this]
        have r1 := hR.putMeta g1 hl (obj := .mapIter (some mi.blk) es.length sn es.length) (ao := .it m es.length none) (by rw [hset]; exact ⟨_, mi, sn, g1, e2, g2, ⟨e4, e4'⟩, e5, ⟨fun s' q => (by cases q), e7⟩⟩)
        rw [hset] at r1
        refine r1.val (dst := some d1) (by simpa using hd) (VR.tup (us := [.bool false]) rfl (fun i c u hc hu => ?_))
        rcases i with _ | i
        · simp at hc hu; subst hc; subst hu; exact .v
        · simp at hc
    · obtain ⟨hem, hes⟩ := mem_left he
      obtain ⟨j, hj⟩ := List.getElem?_of_mem hem
      have hj' : ents[j]? = some e := by simpa using hj
      have hb := f7 j e hj'
      have hjn : j < es.length := by have := (Array.getElem?_eq_some_iff.1 hj').1; omega
      have hp := List.getElem?_eq_getElem (l := es) (i := j) (by omega)
      refine ⟨_, _, hrun, .inr ⟨j, es[j], e.key, e.val, hjn, ?_, hp, rfl, ?_⟩⟩
      · rw [hb] at hes; simpa using hes
      · have hRd : RL φ A.nt T0 w0 ρ0 T ρ tm H a w1 := by
          rcases hal with rfl | rfl
          · exact hR
          · exact hR.step (since_drew H.lim T w ρ) hR.hr.drew rfl (Nat.le_refl _)
        have hh1 : w1.heap = w.heap := by rcases hal with rfl | rfl <;> rfl
        rw [hb]
        have r1 := hRd.putMeta g1 hl (obj := .mapIter (some mi.blk) es.length (sn.push j) es.length) (ao := .it m es.length (some (sn.push j)))
          ⟨_, mi, sn.push j, g1, e2, g2, ⟨e4, e4'⟩, setB_at _ _ _ (hRd.hr.has g1).1, ⟨fun s' q => (by cases q; rfl), e7⟩⟩
        subst f6
        refine r1.val (dst := some d1) (by simpa using hd) (VR.tup (us := [.bool true, e.key, e.val]) rfl (fun i c u hc hu => ?_))
        obtain ⟨q1, q2⟩ := f8 j es[j] e hp hj'
        have hx : Ext T w ρ T (setB w1 inf.blk (.mapIter (some mi.blk) es.length (sn.push j) es.length)) ρ := by
          have s0 : Ext T w ρ T w1 ρ := ⟨fun _ h => h, fun b _ => by rw [hh1], fun k i hk => ⟨i, hk, Nat.le_refl _, fun _ => rfl, fun _ => rfl⟩⟩
          exact s0.trans (ext_setB0 hRd.hr g1 _)
        rcases i with _ | _ | _ | i
        · simp at hc hu; subst hc; subst hu; exact .v
        · simp at hc hu; subst hc; subst hu; exact q1.mono hx
        · simp at hc hu; subst hc; subst hu; exact q2.mono hx
        · simp at hc

def unseen (n : Nat) (s : Array Nat) : Nat := (List.range n).countP fun j => !s.contains j

theorem countP_lt {p q : Nat → Bool} : ∀ (l : List Nat) (j : Nat), j ∈ l → p j = true → q j = false → (∀ x, q x = true → p x = true) → l.countP q < l.countP p
  | [], _, h, _, _, _ => by simp at h
  | x :: l, j, h, hp, hq, hi => by
    have hle : l.countP q ≤ l.countP p := List.countP_mono_left (fun y _ hy => hi y hy)
    rw [List.countP_cons, List.countP_cons]
    rcases List.mem_cons.1 h with rfl | h'
    · simp [hp, hq]; omega
    · have := countP_lt l j h' hp hq hi
      cases hqx : q x with
      | true => simp [hi x hqx]; omega
      | false => simp; omega

theorem unseen_lt {n j : Nat} {s : Array Nat} (hj : j < n) (hs : j ∉ s) : unseen n (s.push j) < unseen n s :=
  countP_lt _ j (by simpa using hj) (by simpa using hs) (by simp) (fun x hx => by simp at hx ⊢; exact hx.1)

theorem unseen_le (n : Nat) (s : Array Nat) : unseen n s ≤ n := by
  have := List.countP_le_length (p := fun j => !s.contains j) (l := List.range n)
  simpa [unseen] using this

theorem RL.congr {nt : Nat} {T : Nat → Prop} {ρ : Rho} {tm tm' : Env} {H : Hp} {act : Act} {w : World} (h : RL φ nt T0 w0 ρ0 T ρ tm H act w) (e : ∀ q, get q tm = get q tm') : RL φ nt T0 w0 ρ0 T ρ tm' H act w :=
  h.same (a := ⟨tm, H⟩) (b := ⟨tm', H⟩) ⟨e, rfl⟩

theorem get_rv (q : Nat) : ∀ (rv : List (Nat × Value)), get q (rv.map fun p => (p.1, AV.v p.2)) = .U ∨ ∃ p ∈ rv, p.1 = q ∧ get q (rv.map fun p => (p.1, AV.v p.2)) = .v p.2
  | [] => .inl rfl
  | p :: rv => by
    simp only [List.map_cons, get_cons]
    by_cases e : p.1 = q
    · simp only [e, if_true]; exact .inr ⟨p, by simp, e, rfl⟩
    · simp only [e, if_false]
      rcases get_rv q rv with h | ⟨p', h1, h2, h3⟩
      · exact .inl h
      · exact .inr ⟨p', by simp [h1], h2, h3⟩

/-- What is returned. -/
theorem RL.retd {nt : Nat} {T : Nat → Prop} {ρ : Rho} {tm : Env} {H : Hp} {act : Act} {w : World} (h : RL φ nt T0 w0 ρ0 T ρ tm H act w) {rv : List (Nat × Value)} (hrv : ∀ p ∈ rv, get p.1 tm = .v p.2) :
    RL φ nt T0 w0 ρ0 T ρ (rv.map fun p => (p.1, AV.v p.2)) H act w where
  tr := ⟨fun k => by
    rcases get_rv k rv with e | ⟨p, h1, h2, h3⟩
    · rw [e]; exact VR.U
    · rw [h3, ← hrv p h1, h2]; exact h.tr.slot k, fun k k' z z' _ h1 _ => by
    rcases get_rv k rv with e | ⟨p, _, _, h3⟩
    · rw [e] at h1; cases h1
    · rw [h3] at h1; cases h1⟩
  hr := h.hr
  si := h.si
  df := h.df
  nt := h.nt
  ll := h.ll

/-- An iterator is not looked at any more. -/
theorem RL.dead {nt : Nat} {T : Nat → Prop} {ρ : Rho} {tm : Env} {H : Hp} {act : Act} {w : World} {h m n : Nat} {s : Option (Array Nat)} (hR : RL φ nt T0 w0 ρ0 T ρ tm H act w) (ho : H.obs[h]? = some (.it m n s)) (hl : H.lim ≤ h) :
    RL φ nt T0 w0 ρ0 T ρ tm (H.put h (.it m n none)) act w := by
  obtain ⟨i, mi, sn, e1, e2, e3, e4, e5, e6, e7⟩ := hR.hr.ob h _ ho
  have hset : setB w i.blk (.mapIter (some mi.blk) n sn n) = w := by
    unfold setB
    have : w.heap.setIfInBounds i.blk (.mapIter (some mi.blk) n sn n) = w.heap := by
      apply Array.ext_getElem?
      intro k
      rw [Array.getElem?_setIfInBounds]
      split
      · rename_i hk; subst hk
        split
        · exact e5.symm
        · rename_i hk; rw [Array.getElem?_eq_none (by omega)]
      · rfl
    rw [this]
  have r1 := hR.putMeta e1 hl (obj := .mapIter (some mi.blk) n sn n) (ao := .it m n none) (by rw [hset]; exact ⟨_, mi, sn, e1, e2, e3, e4, e5, ⟨fun s' q => (by cases q), e7⟩⟩)
  rwa [hset] at r1

theorem eachHead_spec {x : Code} {it d1 d2 id : Nat} (h : eachHead A x = some (it, d1, d2, id)) : ∃ ops o1 o2 r, x = .seq (.region id ops false) r ∧ ops = #[o1, o2] ∧ o1.op = .next (.tmp it) false ∧ o1.dst = some d1 ∧ o1.guard = none ∧
    o2.op = .extract (.tmp d1) 0 ∧ o2.dst = some d2 ∧ o2.guard = none ∧ d1 < A.nt ∧ d2 < A.nt := by
  unfold eachHead at h
  split at h
  · rename_i id' ops r
    split at h
    · rename_i o1 o2 hl
      split at h
      · rename_i it' d1' d1'' d2' h1 h2 h3 h4 h5 h6
        split at h
        · rename_i hc
          simp only [Option.some.injEq, Prod.mk.injEq] at h
          obtain ⟨rfl, rfl, rfl, rfl⟩ := h
          obtain ⟨rfl, c2, c3⟩ := hc
          exact ⟨ops, o1, o2, r, rfl, by apply Array.ext'; simpa using hl, h1, h2, h3, h4, h5, h6, c2, c3⟩
        · cases h
      · cases h
    · cases h
  · cases h

theorem head_wp {ops : Array Oper} {o1 o2 : Oper} {it d1 d2 : Nat} (hops : ops = #[o1, o2]) (h1 : o1.op = .next (.tmp it) false) (h2 : o1.dst = some d1) (h3 : o1.guard = none) (h4 : o2.op = .extract (.tmp d1) 0) (h5 : o2.dst = some d2) (h6 : o2.guard = none)
    {Q : Exit → Act → World → Prop} {a : Act} {w w' : World} {us : List Value} {u : Value} (hd : d1 < a.tmps.size) (hrun : (Instr.next (a.tmps.getD it undef) false o1.type).run P w = .ok (.tuple (u :: us).toArray) w') {id : Nat}
    (hq : Q .normal ((a.put (some d1) (.tuple (u :: us).toArray)).put (some d2) u) w') : (Code.region id ops false).wp P Q a w := by
  refine wp_region ?_
  subst hops
  rw [show (List.range (#[o1, o2] : Array Oper).size) = [0, 1] from rfl, wpOps_cons, show wpOps P #[o1, o2] Q [1] = wpOp P #[o1, o2] Q 1 (wpOps P #[o1, o2] Q []) from funext fun a => funext fun w => wpOps_cons 1 [] a w]
  unfold wpOp
  simp only [List.getElem?_toArray, List.getElem?_cons_zero, List.getElem?_cons_succ]
  have hw1 : ∀ y, Region.wanted o1 y = true := fun y => by unfold Region.wanted; rw [h3]
  have hw2 : ∀ y, Region.wanted o2 y = true := fun y => by unfold Region.wanted; rw [h6]
  rw [hw1]
  simp only [if_true]
  refine .inl (wp_value (v := .tuple (u :: us).toArray) (w' := w') ?_ ?_)
  · simp only [execOp, h1]
    rw [Sem.run_bind]
    show ((Instr.next (a.tmps.getD it undef) false o1.type).run P w).andThen _ = _
    rw [hrun]; rfl
  · rw [hw2]
    simp only [if_true]
    refine .inl (wp_value (v := u) (w' := w') ?_ ?_)
    · rw [h2]
      simp only [execOp, h4]
      rw [Sem.run_bind]
      have : (a.put (some d1) (.tuple (u :: us).toArray)).eval (.tmp d1) = .tuple (u :: us).toArray := by
        show (a.tmps.setIfInBounds d1 _).getD d1 undef = _
        rw [getD_set _ _ _ _ hd, if_pos rfl]
      rw [this]
      rfl
    · rw [h2, h5]
      exact hq

theorem each_sound {call : CallF} {N : Nat} {x : Code} {it d1 d2 id : Nat} {ops : Array Oper} {o1 o2 : Oper} {r : Code} {r' : MC} {keep : List Nat} {rv : List (Nat × Value)} (hx : x = .seq (.region id ops false) r) (hops : ops = #[o1, o2]) (h1 : o1.op = .next (.tmp it) false) (h2 : o1.dst = some d1) (h3 : o1.guard = none)
    (h4 : o2.op = .extract (.tmp d1) 0) (h5 : o2.dst = some d2) (h6 : o2.guard = none) (hd1 : d1 < A.nt) (hd2 : d2 < A.nt)
    (ih : ∀ {st st' : St} {ex : Ex} {T : Nat → Prop} {ρ : Rho} {a : Act} {w : World} {Q : Exit → Act → World → Prop}, evC N call r' st = some (ex, st') → RL φ A.nt T0 w0 ρ0 T ρ st.tmps st.hp a w →
      (∀ a' w' T' ρ', RL φ A.nt T0 w0 ρ0 T' ρ' st'.tmps st'.hp a' w' → Q (exM ex) a' w') → r.wp P Q a w)
    {st st' : St} {ex : Ex} {T : Nat → Prop} {ρ : Rho} {a : Act} {w : World} {Q : Exit → Act → World → Prop} (he : evEach keep it d1 d2 rv N (evC N call r') st = some (ex, st')) (hR : RL φ A.nt T0 w0 ρ0 T ρ st.tmps st.hp a w)
    (hQ : ∀ a' w' T' ρ', RL φ A.nt T0 w0 ρ0 T' ρ' st'.tmps st'.hp a' w' → Q (exM ex) a' w') : (Code.loop x).wp P Q a w := by
  unfold evEach at he
  split at he
  · rename_i h hit
    split at he
    · rename_i m n s0 ho
      split at he
      · rename_i es hm
        split at he
        · rename_i hc
          obtain ⟨c1, c2, c3, c4, c5⟩ := hc
          have hs0 : s0 = #[] := Array.eq_empty_of_size_eq_zero c1
          subst hs0
          have hhl : h < st.hp.obs.length := (List.getElem?_eq_some_iff.1 ho).1
          generalize ht0 : keepL keep st.tmps = t0 at he hit
          -- what one may ask of a round
          let mid := fun (s : Array Nat) (j : Nat) => evC N call r' { tmps := (d2, .b true) :: (d1, .tup [.b true, (es.getD j (.U, .U)).1, (es.getD j (.U, .U)).2]) :: t0, hp := st.hp.put h (.it m n (some (s.push j))) }
          let okN := fun (s : Array Nat) (j : Nat) => ∃ s', mid s j = some (.nrm, s') ∧ s'.hp = st.hp.put h (.it m n (some (s.push j))) ∧ ∀ q, get q (keepL keep s'.tmps) = get q t0
          let okR := fun (s : Array Nat) (j : Nat) => ∃ s', mid s j = some (.ret, s') ∧ s'.hp = st.hp.put h (.it m n (some (s.push j))) ∧ ∀ p ∈ rv, get p.1 s'.tmps = .v p.2
          have rounds : (∀ s j, j < n → okN s j ∨ okR s j) →
              (∀ s j, j < n → okR s j → ∀ (T' : Nat → Prop) (ρ' : Rho) (a' : Act) (w' : World), RL φ A.nt T0 w0 ρ0 T' ρ' (rv.map fun p => (p.1, AV.v p.2)) (st.hp.put h (.it m n none)) a' w' → Q .ret a' w') →
              (∀ s : Array Nat, (∀ j, j < n → j ∈ s) → (∀ j, j ∈ s → ∃ s', okN s' j) → ∀ (k : Nat) (T' : Nat → Prop) (ρ' : Rho) (a' : Act) (w' : World), RL φ A.nt T0 w0 ρ0 T' ρ' ((d2, .b false) :: (d1, .tup [.b false]) :: t0) (st.hp.put h (.it m n none)) a' w' → r.wp P (Exit.then (Code.rounds P x Q k) Q) a' w') →
              ∀ (k : Nat) (s : Array Nat), unseen n s < k → (∀ j, j ∈ s → ∃ s', okN s' j) → ∀ {T : Nat → Prop} {ρ : Rho} {a : Act} {w : World} (tm : Env), RL φ A.nt T0 w0 ρ0 T ρ tm (st.hp.put h (.it m n (some s))) a w → (∀ q, get q (keepL keep tm) = get q t0) → Code.rounds P x Q k a w := by
            intro hall hret hfin k
            induction k with
            | zero => intro s hs; omega
            | succ k ihk =>
              intro s hs hgood T ρ a w tm hR hk
              rw [rounds_succ]
              have hgoal : ∀ Q' : Exit → Act → World → Prop, (Code.seq (.region id ops false) r).wp P Q' a w → x.wp P Q' a w := fun Q' h' => by rw [hx]; exact h'
              refine hgoal _ (wp_seq ?_)
              have hR1 := (hR.keep keep).congr hk
              have hv : VR φ T w ρ true (.it h) (a.tmps.getD it undef) := by
                have := hR1.tr.slot it
                rw [hit] at this; exact this
              have hH1 : (st.hp.put h (.it m n (some s))).obs[h]? = some (.it m n (some s)) := by simp [Hp.put, hhl]
              have hH2 : (st.hp.put h (.it m n (some s))).obs[m]? = some (.mp es) := by simp only [Hp.put]; rw [List.getElem?_set_ne (fun e => c4 e.symm)]; exact hm
              obtain ⟨rr, w', hrun, hres⟩ := hR1.next (P := P) (d1 := d1) hv hH1 hH2 c2 c3 hd1 o1.type
              rcases hres with ⟨hall', rfl, hR2⟩ | ⟨j, p, y, z, hj, hjs, hp, rfl, hR2⟩
              · rw [Hp.put_put] at hR2
                refine head_wp hops h1 h2 h3 h4 h5 h6 (us := []) (u := .bool false) (by rw [hR.nt]; exact hd1) hrun ?_
                refine hfin s hall' hgood k _ _ _ _ (hR2.val (dst := some d2) (by simpa using hd2) .v)
              · rw [Hp.put_put] at hR2
                refine head_wp hops h1 h2 h3 h4 h5 h6 (us := [y, z]) (u := .bool true) (by rw [hR.nt]; exact hd1) hrun ?_
                have hR3 := hR2.val (dst := some d2) (x := .b true) (by simpa using hd2) .v
                have hpe : es.getD j (.U, .U) = p := by simp [List.getD, hp]
                have hmid : mid s j = evC N call r' { tmps := putD (some d2) (.b true) (putD (some d1) (.tup [.b true, p.1, p.2]) t0), hp := st.hp.put h (.it m n (some (s.push j))) } := by
                  simp only [mid, hpe]; rfl
                rcases hall s j hj with ⟨s', m1, m2, m3⟩ | hr'
                · have m1' := m1
                  rw [hmid] at m1
                  refine ih m1 hR3 (fun a' w' T' ρ' hr => ?_)
                  rw [m2] at hr
                  exact ihk (s.push j) (by have := unseen_lt hj hjs; omega) (fun q hq => by
                    rcases Array.mem_push.1 hq with hq | rfl
                    · exact hgood q hq
                    · exact ⟨s, s', m1', m2, m3⟩) _ hr m3
                · have hr2 := hr'
                  obtain ⟨s', m1, m2, m3⟩ := hr'
                  rw [hmid] at m1
                  refine ih m1 hR3 (fun a' w' T' ρ' hr => ?_)
                  rw [m2] at hr
                  have hd := (hr.retd m3).dead (h := h) (m := m) (n := n) (s := some (s.push j)) (by simp [Hp.put, hhl]) c3
                  rw [Hp.put_put] at hd
                  exact hret s j hj hr2 _ _ _ _ hd
          refine wp_loop_rounds N ?_
          have hstart : st.hp.put h (.it m n (some #[])) = st.hp := Hp.put_self ho
          have go : (∀ s j, j < n → okN s j ∨ okR s j) → _ → _ → Code.rounds P x Q N a w := fun q1 q2 q3 =>
            rounds q1 q2 q3 N #[] (by have := unseen_le n #[]; omega) (fun j hj => by simp at hj) st.tmps (by rw [hstart]; exact hR) (fun q => by rw [ht0])
          unfold eachGo at he
          split at he
          · rename_i hA
            refine go (fun s j hj => .inl (hA s j hj)) (fun s j hj hr => ?_) (fun s hs _ k T' ρ' a' w' hr => ?_)
            · obtain ⟨s1, q1, _⟩ := hA s j hj
              obtain ⟨s2, q2, _⟩ := hr
              have e0 : some (Ex.nrm, s1) = some (Ex.ret, s2) := q1.symm.trans q2
              cases e0
            · cases hfn : evC N call r' { tmps := (d2, .b false) :: (d1, .tup [.b false]) :: t0, hp := st.hp.put h (.it m n none) } with
              | none => rw [hfn] at he; cases he
              | some rr =>
                obtain ⟨e1, s1⟩ := rr
                rw [hfn] at he
                cases e1 with
                | nrm => cases he
                | exit id' => simp only [noNrm, Option.some.injEq, Prod.mk.injEq] at he; obtain ⟨rfl, rfl⟩ := he; exact ih hfn hr (fun a2 w2 T2 ρ2 hr2 => hQ _ _ _ _ hr2)
                | ret => simp only [noNrm, Option.some.injEq, Prod.mk.injEq] at he; obtain ⟨rfl, rfl⟩ := he; exact ih hfn hr (fun a2 w2 T2 ρ2 hr2 => hQ _ _ _ _ hr2)
          · split at he
            · rename_i hB
              split at he
              · rename_i hj
                obtain ⟨j0, hj0, hjr⟩ := hj
                cases he
                refine go hB (fun s j hj hr T' ρ' a' w' hr' => hQ _ _ _ _ hr') (fun s hs hgood => ?_)
                obtain ⟨s', s1, q1, _⟩ := hgood j0 (hs j0 hj0)
                obtain ⟨s2, q2⟩ := hjr s'
                have e0 : some (Ex.nrm, s1) = some (Ex.ret, s2) := q1.symm.trans q2
                cases e0
              · cases he
            · cases he
        · cases he
      · cases he
    · cases he
  · cases he
end
end Sx
