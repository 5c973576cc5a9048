/-
  Sx: syntax.Catch: a call that a deferred recover watches.
-/
import Derived.Test.YtgmppophlalliaaGreatSxL
import Derived.Test.YtgmppophlalliaaGreatSxCode
import Derived.Recover
namespace Sx
open Go
set_option linter.unusedSimpArgs false
set_option linter.unusedVariables false

section
variable {φ : Nat → Option Nat}

/-- A block that nobody knows is turned. -/
theorem HR.setFar {T : Nat → Prop} {w : World} {ρ : Rho} {obs : List AO} (h : HR φ T w ρ obs) {b : Nat} (o : Obj) (e4 : ¬ T b) (e5 : ∀ k i, ρ k = some i → i.blk ≠ b) : HR φ T (setB w b o) ρ obs := by
  have hext0 : Ext T w ρ T (setB w b o) ρ :=
    ⟨fun _ q => q, fun k q => setB_far _ _ _ _ (fun e => e4 (e ▸ q)), fun k i hi => ⟨i, hi, Nat.le_refl _, fun _ => rfl, fun _ => rfl⟩⟩
  refine ⟨fun k o' ho => ?_, h.out, h.inj, fun k hk => ?_, h.gl.ext hext0⟩
  · have hh := h.ob k o' ho
    have key : ∀ i, ρ k = some i → (setB w b o).heap[i.blk]? = w.heap[i.blk]? ∧ ¬ T i.blk := fun i hi =>
      ⟨setB_far _ _ _ _ (e5 k i hi), (h.has hi).2⟩
    cases o' with
    | sl ver sz els =>
      obtain ⟨i, arr', t', q1, q2, q3, q4, q5, q6, q7, q8, q9, q10, q11⟩ := hh
      exact ⟨i, arr', t', q1, q2, q3, q4, (key i q1).1.trans q5, q6, q7, q8, fun k j e c a b => let ⟨u, r1, r2⟩ := q9 k j e c a b; ⟨u, r1, r2.mono hext0⟩, q10, (key i q1).2⟩
    | mp es =>
      obtain ⟨i, ents, t', q1, q2, q3, q5, q6, q7, q8⟩ := hh
      exact ⟨i, ents, t', q1, q2, q3, (key i q1).1.trans q5, q6, fun k p e a b => ⟨(q7 k p e a b).1.mono hext0, (q7 k p e a b).2.mono hext0⟩, (key i q1).2⟩
    | it m n s =>
      obtain ⟨i, mi, seen, q1, q2, q3, q4, q5, q6, q7⟩ := hh
      exact ⟨i, mi, seen, q1, q2, q3, q4, (key i q1).1.trans q5, q6, (key i q1).2⟩
  · simp only [setB, Array.size_setIfInBounds]
    exact h.old k hk

theorem since_far {lim : Nat} {T : Nat → Prop} {w : World} {ρ : Rho} {T' : Nat → Prop} {w' : World} {ρ' : Rho} (s : Since lim T w ρ T' w' ρ') {b : Nat} (arr : Array Value) (t : TypeId) (hb : w.heap.size ≤ b) (e4 : ¬ T' b) : Since lim T w ρ T' (setB w' b (.cells arr t (0, 0))) ρ' := {
  size := by simpa [setB] using s.size
  os := s.os
  tape := s.tape
  output := s.output
  ext := s.ext.trans ⟨fun _ q => q, fun k q => setB_far _ _ _ _ (fun e => e4 (e ▸ q)), fun k i hi => ⟨i, hi, Nat.le_refl _, fun _ => rfl, fun _ => rfl⟩⟩
  tnew := s.tnew
  wb := s.wb
  low := s.low
  frame := fun k hk hn => (setB_far _ _ _ _ (by omega)).trans (s.frame k hk hn)
  nf := fun k q => thaws_setB _ _ _ trivial k (s.nf k q) }
end

theorem wpOps_at {P : Program} {ops : Array Oper} {Q : Exit → Act → World → Prop} {i : Nat} {o : Oper} {rest : List Nat} {a : Act} {w : World} (ho : ops[i]? = some o) (hw : Region.wanted o (yielded ops a.tmps) = true) (h : o.wp P a w (wpOps P ops Q rest) Q) : wpOps P ops Q (i :: rest) a w := by
  rw [wpOps_cons]
  unfold wpOp
  rw [ho]
  simp only [hw, if_true]
  exact .inl h

def catchX (call : CallF) : List AV → Hp → Option (AV × Hp)
  | [.bm g first], H => (call g first H).map fun r => (.agg [.i 0, .i 0], r.2)
  | _, _ => none

noncomputable abbrev PR := Go.Proofs.Tryz.prog

/-- The deferred function, where nothing has been thrown. -/
theorem catch1 (p : Addr) (w : World) : CallsD PR 110 #[.pointer (some p)] .returning w fun e u' w' => e = .returned (.tuple #[]) ∧ u' = .returning ∧ w' = w := by
  refine callsD_of_wpS (fn := Go.Proofs.Tryz.f110) (by kernel_rfl) rfl ?_
  intro c₀ cs hu
  refine wpS_seq (wpS_region ?_)
  simp [wpOpsS, go_sem, recoverD, hu, Exit.thenS]
  refine wpS_of_wp (wp_block (wp_seq (wp_region ?_)))
  simp [wpOps, go_sem, Exit.thenS]
  left
  refine wp_cond_true rfl (wp_region ?_)
  simp [wpOps, go_sem, Exit.inBlock, bodyPostS, results, Go.Proofs.Tryz.f110]
  left
  cases c₀; simp at hu; simp [hu]

/-- The frame leaves: the deferred call first. -/
theorem catch_leave {w3 : World} {b : Nat} {R : Ending → World → Prop} {tmps : Array Value} (hb : w3.heap[b]? = some (.cells #[.int .i64 0, .int .i64 0] 61 (0, 0))) (ht : tmps.getD 2 undef = .pointer (some ⟨b, 0, none⟩))
    (hR : R (.returned (.agg #[.int .i64 0, .int .i64 0])) w3) : Leaves PR Go.Proofs.Tryz.f63 tmps R [{ target := .fn (.func 110) #[.pointer (some ⟨b, 0, none⟩)], args := #[] }] .returning w3 := by
  refine leaves_cons (f := 110) (args := #[.pointer (some ⟨b, 0, none⟩)]) (by simp) ?_ ?_
  · simp [go_sem]
  · refine (catch1 ⟨b, 0, none⟩ w3).mono (fun e u' w' h => ?_)
    obtain ⟨rfl, rfl, rfl⟩ := h
    show Leaves PR Go.Proofs.Tryz.f63 tmps R [] .returning w'
    refine ⟨_, ?_, hR⟩
    have hc0 : w'.cell? ⟨b, 0, none⟩ = some (.int .i64 0) := by simp [World.cell?, hb]
    have hc1 : w'.cell? ⟨b, 1, none⟩ = some (.int .i64 0) := by simp [World.cell?, hb]
    have ht' : tmps[2]?.getD undef = .pointer (some ⟨b, 0, none⟩) := by rw [← Array.getD_eq_getD_getElem?]; exact ht
    simp [results, Go.Proofs.Tryz.f63, go_sem, ht, ht', hc0, hc1]

theorem zeros2 {φ : Nat → Option Nat} {T : Nat → Prop} {w : World} {ρ : Rho} : VR φ T w ρ true (.agg [.i 0, .i 0]) (.agg #[.int .i64 0, .int .i64 0]) := by
  have := VR.agg (φ := φ) (T := T) (w := w) (ρ := ρ) (l := true) (cs := [.i 0, .i 0]) (us := [.int .i64 0, .int .i64 0]) rfl (fun i c u hc hu => by
    rcases i with _ | _ | i
    · simp at hc hu; subst hc; subst hu; exact .v
    · simp at hc hu; subst hc; subst hu; exact .v
    · simp at hc) (fun u hu => by simp at hu; subst hu; rfl)
  simpa using this

set_option maxHeartbeats 4000000 in
set_option maxRecDepth 8000 in
theorem catch_ok (hL : Linked PR phi) {call : CallF} (hS : Sound PR phi call) {args : List AV} {H : Hp} {r : AV × Hp} (h : catchX call args H = some r) {T : Nat → Prop} {w : World} {ρ : Rho} {vs : List Value} (hl : args.length = vs.length)
    (hv : ∀ (i : Nat) (c : AV) (u : Value), args[i]? = some c → vs[i]? = some u → VR phi T w ρ true c u) (hr : HR phi T w ρ H.obs) (hlim : H.lim ≤ H.obs.length) :
    Calls PR 63 vs.toArray w fun e w' => ∃ T' ρ' v, e = .returned v ∧ Since H.lim T w ρ T' w' ρ' ∧ HR phi T' w' ρ' r.2.obs ∧ r.2.lim = H.lim ∧ H.obs.length ≤ r.2.obs.length ∧ VR phi T' w' ρ' true r.1 v := by
  unfold catchX at h
  split at h
  · rename_i Hd gn first
    simp only [Option.map_eq_some_iff] at h
    obtain ⟨q, hq, rfl⟩ := h
    obtain ⟨v, rfl⟩ : ∃ v, vs = [v] := by
      cases vs with
      | nil => simp at hl
      | cons v l => cases l with
        | nil => exact ⟨v, rfl⟩
        | cons => simp at hl
    have hv0 := hv 0 _ v rfl rfl
    cases hv0 with
    | bm h1 h2 h3 =>
      rename_i fg us
      refine calls_of_wp_defers (fn := Go.Proofs.Tryz.f63) (by kernel_rfl) rfl ?_
      have hA : ∀ (w : World) (o : Obj), w.alloc o = pushW w o := fun _ _ => rfl
      refine wp_seq (wp_region ?_)
      simp [wpOps, go_sem, Exit.then]
      left
      refine wp_seq (wp_region ?_)
      simp [wpOps, go_sem, Exit.then]
      left
      left
      refine wp_seq (wp_region ?_)
      simp [wpOps, go_sem, Exit.then]
      left
      rw [run_call hL h1, Oper.upon_enter, hA]
      left
      have s0 := since_push (lim := H.lim) hr (.cells #[.int .i64 0, .int .i64 0] 61) T (fun _ q => q) (fun _ q => .inl q)
      refine (hS fg _ h1 _ _ q hq T _ ρ us h2 (fun i c u a b => (h3 i c u a b).mono s0.ext) (hr.pushOld _ T (fun _ q => q) (fun _ q => .inl q)) hlim).mono (fun e w2 hpost => ?_)
      obtain ⟨T', ρ', v, rfl, g1, g2, g3, g4, g5⟩ := hpost
      simp only
      have hb : w2.heap[w.heap.size]? = some (.cells #[.int .i64 0, .int .i64 0] 61 (0, 0)) := (g1.frame w.heap.size (by simp [pushW]) (fun h i hl hi e => by have := (hr.has hi).1; omega)).trans (push_new _ _)
      have hT' : ¬ T' w.heap.size := fun q => by
        rcases g1.tnew _ q with q | q
        · have := hr.old _ q; omega
        · simp [pushW] at q
          omega
      have hρ' : ∀ k i, ρ' k = some i → i.blk ≠ w.heap.size := fun k i hi e => by
        by_cases hk : k < H.lim
        · rw [g1.low k hk] at hi
          have := (hr.has hi).1; omega
        · rcases g1.wb k i (by omega) hi with q | ⟨i0, q1, q2⟩
          · simp [pushW] at q; omega
          · have := (hr.has q1).1; omega
      have hst := run_storeVar (P := PR) (w := w2) (t := 61) (n := 2) (b := w.heap.size) (o := 0) (u := .agg #[.int .i64 0, .int .i64 0]) (by kernel_rfl) rfl hb (by decide) (by simp [Value.cells, Value.oneCell'])
      refine wp_seq (wp_region ?_)
      rw [show (List.range (Array.size #[({ dst := some 6, op := Op.build 61 #[], type := 61, pos := "syntax.go:47", after := #[], guard := none } : Oper), { dst := none, op := Op.store 61 (Operand.tmp 2) (Operand.tmp 6), type := 0, pos := "syntax.go:47", after := #[{ on := 0, ground := Ground.data }, { on := 0, ground := Ground.phase }], guard := none }])) = [0, 1] from rfl]
      have o2 : (execOp (Act.eval { tmps := #[Value.func (Fn.func fg) us.toArray #[], .pointer (some ⟨w.heap.size, 0, none⟩)], defers := [] }) ({ dst := none, op := Op.store 61 (Operand.tmp 1) (Operand.const (.agg #[.int .i64 0, .int .i64 0])), type := 0, pos := "syntax.go:47", after := #[], guard := none } : Oper)).run PR w2 = .ok .skip (setB w2 w.heap.size (.cells #[.int .i64 0, .int .i64 0] 61 (0, 0))) := by
        simp only [execOp, Sem.run_bind]
        show ((Instr.storeAt 61 (.pointer (some ⟨w.heap.size, 0, none⟩)) (.agg #[.int .i64 0, .int .i64 0])).run PR w2).andThen _ = _
        rw [hst]
        rfl
      have o1 : ∀ (a : Act), (execOp a.eval ({ dst := some 6, op := Op.build 61 #[], type := 61, pos := "syntax.go:47", after := #[], guard := none } : Oper)).run PR w2 = .ok (.value (.agg #[.int .i64 0, .int .i64 0])) w2 := fun a => by simp [go_sem]
      refine wpOps_at (o := { dst := some 6, op := Op.build 61 #[], type := 61, pos := "syntax.go:47", after := #[], guard := none }) rfl rfl ?_
      unfold Oper.wp
      rw [o1, Oper.upon_value]
      refine wpOps_at (o := { dst := none, op := Op.store 61 (Operand.tmp 2) (Operand.tmp 6), type := 0, pos := "syntax.go:47", after := #[{ on := 0, ground := Ground.data }, { on := 0, ground := Ground.phase }], guard := none }) rfl rfl ?_
      unfold Oper.wp
      rw [show (execOp _ ({ dst := none, op := Op.store 61 (Operand.tmp 2) (Operand.tmp 6), type := 0, pos := "syntax.go:47", after := #[{ on := 0, ground := Ground.data }, { on := 0, ground := Ground.phase }], guard := none } : Oper)).run PR w2 = .ok .skip (setB w2 w.heap.size (.cells #[.int .i64 0, .int .i64 0] 61 (0, 0))) from o2, Oper.upon_skip]
      show Code.wp PR Code.ret _ _ _
      refine wp_ret ?_
      have hlt : w.heap.size < w2.heap.size := (Array.getElem?_eq_some_iff.1 hb).1
      have hfin : ∃ T'' ρ'' v', Ending.returned (.agg #[.int .i64 0, .int .i64 0]) = .returned v' ∧ Since H.lim T w ρ T'' (setB w2 w.heap.size (.cells #[.int .i64 0, .int .i64 0] 61 (0, 0))) ρ'' ∧ HR phi T'' (setB w2 w.heap.size (.cells #[.int .i64 0, .int .i64 0] 61 (0, 0))) ρ'' q.2.obs ∧ q.2.lim = H.lim ∧ H.obs.length ≤ q.2.obs.length ∧ VR phi T'' (setB w2 w.heap.size (.cells #[.int .i64 0, .int .i64 0] 61 (0, 0))) ρ'' true (AV.agg [AV.i 0, AV.i 0]) v' :=
        ⟨T', ρ', _, rfl, since_far (s0.trans g1) _ _ (Nat.le_refl _) hT', g2.setFar _ hT' hρ', g3, g4, zeros2⟩
      exact catch_leave (setB_at _ _ _ hlt) rfl hfin
  · cases h
end Sx
