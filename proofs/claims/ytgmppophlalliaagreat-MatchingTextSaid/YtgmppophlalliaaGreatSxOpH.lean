/-
  Sx: each operation does what the evaluator says: all of them.
-/
import Derived.Test.YtgmppophlalliaaGreatSxOpM
import Derived.Lib.ConvBytes
namespace Sx
open Go
set_option linter.unusedSimpArgs false
set_option linter.unusedVariables false

theorem isKind_un (k : Nat) (z : List AV) : isKind k (.un z) = false := by
  unfold isKind
  split <;> first | rfl | contradiction

theorem keyOK_known {st : Bool} {ks : List Nat} {x : AV} (h : keyOK st ks x = true) : x.known = true := by
  cases x with
  | un z =>
    unfold keyOK at h
    split at h
    · cases h
    · split at h
      · rw [isKind_un] at h; cases h
      · cases h
  | _ => rfl

/-- What the evaluator says of calls is so. -/
def Sound (P : Program) (φ : Nat → Option Nat) (call : CallF) : Prop :=
  ∀ (f g : Nat), φ f = some g → ∀ (args : List AV) (H : Hp) (r : AV × Hp), call g args H = some r → ∀ (T : Nat → Prop) (w : World) (ρ : Rho) (vs : List Value), args.length = vs.length →
    (∀ (i : Nat) (c : AV) (u : Value), args[i]? = some c → vs[i]? = some u → VR φ T w ρ true c u) → HR φ T w ρ H.obs → H.lim ≤ H.obs.length →
    Calls P f vs.toArray w fun e w' => ∃ T' ρ' v, e = .returned v ∧ Since H.lim T w ρ T' w' ρ' ∧ HR φ T' w' ρ' r.2.obs ∧ r.2.lim = H.lim ∧ H.obs.length ≤ r.2.obs.length ∧ VR φ T' w' ρ' true r.1 v

/-- The functions that are linked have bodies. -/
def Linked (P : Program) (φ : Nat → Option Nat) : Prop := ∀ (f g : Nat), φ f = some g → ∃ fn, P.funcs[f]? = some fn ∧ fn.name ≠ "runtime.NumGoroutine" ∧ fn.body.isSome = true

section
variable {P : Program} {φ : Nat → Option Nat} {A : Ann} {T0 : Nat → Prop} {w0 : World} {ρ0 : Rho} {T : Nat → Prop} {ρ : Rho} {tm : Env} {H : Hp} {a : Act} {w : World} {o : Oper}
  {next : Act → World → Prop} {Q : Exit → Act → World → Prop}

theorem wp_value {v : Value} {w' : World} (hrun : (execOp a.eval o).run P w = .ok (.value v) w') (h : next (a.put o.dst v) w') : o.wp P a w next Q := by
  unfold Oper.wp; rw [hrun]; exact h

theorem wp_skip' {w' : World} (hrun : (execOp a.eval o).run P w = .ok .skip w') (h : next (a.put o.dst undef) w') : o.wp P a w next Q := by
  unfold Oper.wp; rw [hrun]; exact h

theorem wp_enter {f : Nat} {args : Array Value} {R : Ending → World → Prop} (hrun : (execOp a.eval o).run P w = .ok (.enter f args) w) (hc : Calls P f args w R) (h : ∀ e w', R e w' → ∃ v, e = .returned v ∧ next (a.put o.dst v) w') : o.wp P a w next Q := by
  unfold Oper.wp; rw [hrun, Oper.upon_enter]
  refine hc.mono fun e w' hr => ?_
  obtain ⟨v, rfl, hn⟩ := h e w' hr
  exact hn

theorem trOpds_spec : ∀ (l : List Operand) (ys : List Opd), trOpds φ l = some ys → ys.length = l.length ∧ ∀ (i : Nat) (y : Opd) (x : Operand), ys[i]? = some y → l[i]? = some x → trOpd φ x = some y
  | [], ys, h => by simp [trOpds] at h; subst h; exact ⟨rfl, fun i y x hy => by simp at hy⟩
  | x :: l, ys, h => by
    unfold trOpds at h
    rw [List.mapM_cons] at h
    cases h1 : trOpd φ x with
    | none => rw [h1] at h; cases h
    | some y =>
      rw [h1] at h
      cases h2 : l.mapM (trOpd φ) with
      | none => rw [h2] at h; cases h
      | some q =>
        rw [h2] at h
        simp at h; subst h
        obtain ⟨l1, l2⟩ := trOpds_spec l q h2
        refine ⟨by simp [l1], fun i y' x' hy hx => ?_⟩
        cases i with
        | zero => simp at hy hx; subst hy; subst hx; exact h1
        | succ i => exact l2 i y' x' (by simpa using hy) (by simpa using hx)

theorem SR.ofV {B : Nat} {x u : Value} (h : SR φ B T w ρ (.v x) u) : u = x := VR.ofV h

theorem all_known {xs : List AV} (h : xs.all AV.known = true) : ∀ x ∈ xs, x.known = true := by rwa [List.all_eq_true] at h

/-- The values of operands. -/
theorem RL.opds (hR : RL φ A.nt T0 w0 ρ0 T ρ tm H a w) {l : List Operand} {ys : List Opd} (h : trOpds φ l = some ys) (hk : (ys.map (ev tm)).all AV.known = true) :
    (ys.map (ev tm)).length = (l.map a.eval).length ∧ ∀ (i : Nat) (c : AV) (u : Value), (ys.map (ev tm))[i]? = some c → (l.map a.eval)[i]? = some u → VR φ T w ρ true c u := by
  obtain ⟨l1, l2⟩ := trOpds_spec l ys h
  refine ⟨by simp [l1], fun i c u hc hu => ?_⟩
  rw [List.getElem?_map] at hc hu
  cases hy : ys[i]? with
  | none => rw [hy] at hc; cases hc
  | some y =>
    cases hx : l[i]? with
    | none => rw [hx] at hu; cases hu
    | some x =>
      rw [hy] at hc; rw [hx] at hu
      simp at hc hu
      subst hc; subst hu
      refine (hR.opd (l2 i y x hy hx)).vr (all_known hk _ ?_)
      exact List.mem_map_of_mem (List.mem_of_getElem? hy)

theorem optR_of (hR : RL φ A.nt T0 w0 ρ0 T ρ tm H a w) {x : Option Operand} {y : Option Opd} (h : trO? φ x = some y) : OptR φ w0.heap.size T w ρ tm y (x.map a.eval) := by
  cases x with
  | none => simp [trO?] at h; subst h; trivial
  | some x =>
    simp only [trO?] at h
    cases h1 : trOpd φ x with
    | none => rw [h1] at h; cases h
    | some q => rw [h1] at h; simp at h; subst h; exact hR.opd h1

theorem elemT_some {t e : TypeId} (h : elemT P t = some e) : P.underlying t = some (.slice e) := by
  unfold elemT at h; split at h
  · rename_i h'; cases h; exact h'
  · cases h

/-- A call of a linked function. -/
theorem run_call (hL : Linked P φ) {f g : Nat} (hf : φ f = some g) (args : Array Value) : (callFunc f args).run P w = .ok (.enter f args) w := by
  obtain ⟨fn, h1, h2, h3⟩ := hL f g hf
  have hb : fn.body ≠ none := by intro q; rw [q] at h3; cases h3
  simp [callFunc, h1, h2, hb]

theorem vals_un {x : AV} {u : Value} {B : Nat} (h : SR φ B T w ρ x u) {z : List AV} (e : x = .un z) : x.known = false := by subst e; rfl

theorem kind_len {c : Call} {m : MO} (hm : trCall P φ c = some m) : True := trivial

theorem arrT_some {t : TypeId} {i : Operand} {n j : Nat} (h : arrT P t i = some (n, j)) : ∃ len e k jj, P.underlying t = some (.array len e) ∧ i = .const (.int k jj) ∧ (0 ≤ jj ∧ jj < len) ∧ sizeT P e = some n ∧ j = jj.toNat := by
  unfold arrT at h
  split at h
  · rename_i len e k jj hu
    split at h
    · rename_i hj
      simp only [Option.map_eq_some_iff] at h
      obtain ⟨m, hm, hh⟩ := h
      cases hh
      exact ⟨len, e, k, jj, hu, rfl, hj, hm, rfl⟩
    · cases h
  · cases h

theorem bytesWorld_push (w : World) (e : TypeId) (s : ByteArray) : Lib.bytesWorld w e s = pushW (drewW w) (.cells (Lib.bytesCells w e s) e ((Lib.bytesCells w e s).size, (Lib.bytesCells w e s).size + 1)) := by
  have h1 := Lib.bytesWorld_at_new w e s
  have h2 := Lib.bytesWorld_size w e s
  have h3 : (Lib.bytesWorld w e s).heap = w.heap.push (.cells (Lib.bytesCells w e s) e ((Lib.bytesCells w e s).size, (Lib.bytesCells w e s).size + 1)) := by
    apply Array.ext_getElem?
    intro i
    rcases Nat.lt_trichotomy i w.heap.size with h | h | h
    · rw [Lib.bytesWorld_at_old w e s i h, Array.getElem?_push_lt h]; simp [h]
    · subst h; rw [h1]; simp
    · rw [Array.getElem?_eq_none (by omega), Array.getElem?_eq_none (by simp; omega)]
  have h4 : Lib.bytesWorld w e s = { w.drew with heap := (Lib.bytesWorld w e s).heap } := by
    simp [Lib.bytesWorld, World.freeze, World.alloc, -World.alloc_eq, -World.drew_eq]
  rw [h4, h3]
  rfl
theorem grown_ge (w : World) (n : Nat) (e : TypeId) : n ≤ grownCap w n 0 e := by
  simp [grownCap, Question.cut]

set_option maxHeartbeats 4000000 in
theorem op_sound (hL : Linked P φ) {call : CallF} (hS : Sound P φ call) {m : MO} {eff : Eff} (hm : trOp P φ A o = some m) (he : evO call tm H m = some eff) (hR : RL φ A.nt T0 w0 ρ0 T ρ tm H a w) (hd : o.dst.all (fun d => d < A.nt) = true)
    (hnext : ∀ a' w' T' ρ', RL φ A.nt T0 w0 ρ0 T' ρ' (app ⟨tm, H⟩ o.dst eff).tmps (app ⟨tm, H⟩ o.dst eff).hp a' w' → next a' w') : o.wp P a w next Q := by
  cases hop : o.op with
  | move x =>
    simp only [trOp, hop, Option.map_eq_some_iff] at hm
    obtain ⟨y, hx, rfl⟩ := hm
    simp only [evO] at he
    split at he
    · rename_i hk; cases he
      exact wp_value (by simp [execOp, hop]) (hnext _ _ T ρ (hR.val hd ((hR.opd hx).vr hk)))
    · cases he
  | assign x =>
    simp only [trOp, hop, Option.map_eq_some_iff] at hm
    obtain ⟨y, hx, rfl⟩ := hm
    simp only [evO] at he
    split at he
    · rename_i hk; cases he
      exact wp_value (by simp [execOp, hop]) (hnext _ _ T ρ (hR.val hd ((hR.opd hx).vr hk)))
    · cases he
  | pick c x y =>
    simp only [trOp, hop, Option.map_eq_some_iff, Option.bind_eq_some_iff] at hm
    obtain ⟨c', hc, x', hx, y', hy, rfl⟩ := hm
    simp only [evO] at he
    split at he
    · rename_i t hq
      have hc1 := hR.opd hc
      rw [hq] at hc1
      have hcb : a.eval c = .bool t := hc1.ofV
      cases t with
      | true =>
        simp only [if_true] at he
        split at he
        · rename_i hk; cases he
          exact wp_value (v := a.eval x) (w' := w) (by simp [execOp, hop, hcb, asBool]) (hnext _ _ T ρ (hR.val hd ((hR.opd hx).vr hk)))
        · cases he
      | false =>
        simp only [Bool.false_eq_true, if_false] at he
        split at he
        · rename_i hk; cases he
          exact wp_value (v := a.eval y) (w' := w) (by simp [execOp, hop, hcb, asBool]) (hnext _ _ T ρ (hR.val hd ((hR.opd hy).vr hk)))
        · cases he
    · cases he
  | alloc t =>
    simp only [trOp, hop, Option.bind_eq_some_iff] at hm
    obtain ⟨z, hz, hm⟩ := hm
    split at hm
    · rename_i hsz
      obtain ⟨v, hv, hz1, h1⟩ := run_zeroT (w := w) hz
      have hA : ∀ (w : World) (o : Obj), w.alloc o = pushW w o := fun _ _ => rfl
      have hrun : (execOp a.eval o).run P w = .ok (.value (.pointer (some ⟨w.heap.size, 0, none⟩))) (pushW w (.cells v.cells t)) := by
        simp [execOp, hop, Instr.alloc, hv, newVar, newRow, hA]
      have hcs : v.cells.size = z.length := by rw [hz1]; simp
      generalize A.isMut o.dst = mt at hm
      cases mt with
      | false =>
        simp at hm; subst hm
        simp only [evO] at he; cases he
        exact wp_value hrun (hnext _ _ T ρ (hR.alloc hd hcs))
      | true =>
        simp at hm; subst hm
        simp only [evO] at he; cases he
        have hc := zero_CR (φ := φ) (T := T) (w := w) (ρ := ρ) h1
        refine wp_value hrun (hnext _ _ T _ (hR.newObj (dst := o.dst) (els := [z]) (sz := z.length) (cap := 1) (cells := v.cells) (t := t) (x := .hp H.obs.length 0 0 0) hd hsz.2 (by omega) (by simp) (by simp) (fun k j e c hk hj => ?_) h1 (fun inf i1 i2 i3 i4 => VR.hp (inf := inf) (by simp [setR]) (by omega) rfl (fun _ => by simp [i1]))))
        cases k with
        | succ k => simp at hk
        | zero =>
          simp at hk; subst hk
          have hj' : j < v.cells.size := by rw [hcs]; exact (List.getElem?_eq_some_iff.1 hj).1
          refine ⟨v.cells[j], by simp [hj'], hc.2.1 j c _ (by rw [← hz1]; exact hj) (by simp [hj'])⟩
    · cases hm
  | box t x =>
    simp only [trOp, hop, Option.bind_eq_some_iff] at hm
    obtain ⟨y, hx, n, hn, hm⟩ := hm
    split at hm
    · rename_i h0
      have hA : ∀ (w : World) (o : Obj), w.alloc o = pushW w o := fun _ _ => rfl
      have hrun : (execOp a.eval o).run P w = .ok (.value (.pointer (some ⟨w.heap.size, 0, none⟩))) (pushW w (.cells (a.eval x).cells t)) := by
        simp [execOp, hop, Instr.box, newVar, newRow, hA]
      generalize A.isMut o.dst = mt at hm
      cases mt with
      | false =>
        simp at hm; subst hm
        simp only [evO] at he
        split at he
        · rename_i hk; cases he
          obtain ⟨c1, c2, c3⟩ := ((hR.opd hx).vr (solid_known hk.1)).cells hk.1
          obtain ⟨T', hr⟩ := hR.box (dst := o.dst) (t := t) hd (cs := (ev tm y).cells) (cells := (a.eval x).cells) ⟨by simpa using c1, fun i c u hc hu => c2 i c u hc (by simpa using hu), c3⟩
          exact wp_value hrun (hnext _ _ T' ρ hr)
        · cases he
      | true =>
        simp at hm; subst hm
        simp only [evO] at he
        split at he
        · rename_i hk; cases he
          obtain ⟨c1, c2, c3⟩ := ((hR.opd hx).vr (solid_known hk.1)).cells hk.1
          refine wp_value hrun (hnext _ _ T _ (hR.newObj (dst := o.dst) (els := [(ev tm y).cells]) (sz := n) (cap := 1) (cells := (a.eval x).cells) (t := t) (x := .hp H.obs.length 0 0 0) hd h0 (by omega) (by simp) (by simpa using hk.2) (fun k j e c hk' hj => ?_) c3 (fun inf i1 i2 i3 i4 => VR.hp (inf := inf) (by simp [setR]) (by omega) rfl (fun _ => by simp [i1]))))
          cases k with
          | succ k => simp at hk'
          | zero =>
            simp at hk'; subst hk'
            have hj' : j < (a.eval x).cells.size := by rw [← c1]; exact (List.getElem?_eq_some_iff.1 hj).1
            exact ⟨(a.eval x).cells[j], by simp [hj'], c2 j c _ hj (by simp [hj'])⟩
        · cases he
    · cases hm
  | build t parts =>
    simp only [trOp, hop, Option.bind_eq_some_iff] at hm
    obtain ⟨z, hz, hm⟩ := hm
    split at hm
    · rename_i fs hu
      split at hm
      · rename_i hall
        simp only [Option.map_eq_some_iff] at hm
        obtain ⟨ps, hp, rfl⟩ := hm
        simp only [evO, Option.map_eq_some_iff] at he
        obtain ⟨cs, hcs, rfl⟩ := he
        obtain ⟨r, h1, h2⟩ := op_buildS (a := a) hR hz hu hall hp hcs
        exact wp_value (v := r) (w' := w) (by simp [execOp, hop]; rw [h1]; rfl) (hnext _ _ T ρ (hR.val hd h2))
      · cases hm
    · rename_i n e hu
      simp only [Option.bind_eq_some_iff, Option.map_eq_some_iff] at hm
      obtain ⟨k, hk, ps, hp, rfl⟩ := hm
      simp only [evO, Option.map_eq_some_iff] at he
      obtain ⟨cs, hcs, rfl⟩ := he
      obtain ⟨r, h1, h2⟩ := op_buildA (a := a) hR hz hu hk hp hcs
      exact wp_value (v := r) (w' := w) (by simp [execOp, hop]; rw [h1]; rfl) (hnext _ _ T ρ (hR.val hd h2))
    · cases hm
  | buildSlice t len parts =>
    simp only [trOp, hop, Option.bind_eq_some_iff] at hm
    obtain ⟨e, hel, n, hn, z, hz, hm⟩ := hm
    split at hm
    · rename_i hc
      obtain ⟨hc1, hc2, hc3⟩ := hc
      simp only [Option.map_eq_some_iff] at hm
      obtain ⟨ps, hp, rfl⟩ := hm
      simp only [evO, Option.bind_eq_some_iff] at he
      obtain ⟨cs, hcs, he⟩ := he
      obtain ⟨cells, h1, h2, h3⟩ := op_litrun (a := a) hR (elemT_some hel) hn hz hc2 hc1 hc3 hp hcs
      have hrun : (execOp a.eval o).run P w = .ok (.value (.slice (some ⟨w.heap.size, 0, none⟩) len len)) (pushW w (.cells cells e)) := by
        simp [execOp, hop]; rw [h1]; rfl
      have hdiv : (List.map (fun i => z.getD (i % n) AV.U) (List.range (len * n))).length / n = len := by simp [Nat.mul_div_cancel _ hc1]
      rw [hdiv] at he
      have hER := chunk_at h2 (len := len) (sz := n) h3
      have hcell : cells.size = len * n := by have := h2.1; simp at this; omega
      generalize A.isMut o.dst = mt at he
      cases mt with
      | true =>
        simp at he; subst he
        refine wp_value hrun (hnext _ _ T _ (hR.newObj (dst := o.dst) (sz := n) (cap := len) (cells := cells) (t := e) (x := .sl H.obs.length 0 0 len) hd hc1 hcell (by simp) hER.2.1 (fun k j q c hk hj => ?_) h2.2.2 (fun inf i1 i2 i3 i4 => VR.sl (inf := inf) (by simp [setR]) (by omega) rfl (fun _ => ⟨by simp [i1], rfl, Nat.le_refl _, by rw [i4]; omega⟩))))
        obtain ⟨u, u1, u2⟩ := hER.2.2.1 k j q c hk hj
        exact ⟨u, by simpa using u1, u2⟩
      | false =>
        simp only [Bool.false_eq_true, if_false] at he
        split at he
        · rename_i hfree
          cases he
          refine wp_value hrun (hnext _ _ (fun b => T b ∨ b = w.heap.size) ρ ?_)
          have s := since_push (lim := H.lim) hR.hr (.cells cells e) (fun b => T b ∨ b = w.heap.size) (fun _ q => .inl q) (fun _ q => q)
          have r := hR.step s (hR.hr.pushOld (.cells cells e) _ (fun _ q => .inl q) (fun _ q => q)) rfl (Nat.le_refl _)
          refine r.val hd ?_
          simp only [List.length_map, List.length_range]
          have hgetD : ∀ i, i < len → ((List.range len).map fun i => (cs.drop (i * n)).take n).getD i [] = (cs.drop (i * n)).take n := fun i hi => by simp [List.getD, hi]
          rcases Nat.eq_zero_or_pos len with hl0 | hc4
          · subst hl0; exact .ro0
          refine VR.ro (us := fun i => (cells.toList.drop (i * n)).take n) hc4 (Nat.le_refl _) (.inr rfl) (fun i hi => ?_) (fun i hi => ?_) (fun i j u hi hu => ?_) (fun i u hi hu => ?_) (fun i j c u hi hc hu => ?_)
          · rw [hgetD i hi]; exact chunk_len h3 hi
          · have h5 : (i + 1) * n ≤ len * n := Nat.mul_le_mul_right _ hi
            rw [Nat.add_mul, ← hcell] at h5
            simp only [List.length_take, List.length_drop, Array.length_toList]
            omega
          · rw [List.getElem?_take] at hu
            split at hu
            · rw [List.getElem?_drop] at hu
              rw [add_mk]
              simp only [World.cell?, push_new, Nat.zero_add]
              simpa using hu
            · cases hu
          · exact h2.2.2 u (List.mem_of_mem_drop (List.mem_of_mem_take hu))
          · rw [hgetD i hi] at hc
            have hfr : c.free = true := by
              rw [List.all_eq_true] at hfree
              have := hfree ((cs.drop (i * n)).take n) (by simp; exact ⟨i, hi, rfl⟩)
              rw [List.all_eq_true] at this
              exact this c (List.mem_of_getElem? hc)
            rw [List.getElem?_take] at hc hu
            split at hc
            · rename_i hj
              rw [if_pos hj] at hu
              rw [List.getElem?_drop] at hc hu
              exact ((h2.2.1 _ c u hc hu).mono s.ext).down hfr
            · cases hc
        · cases he
    · cases hm
  | insert t m k x =>
    simp only [trOp, hop, Option.bind_eq_some_iff, Option.map_eq_some_iff] at hm
    obtain ⟨q, hq, m', hm', k', hk', x', hx', rfl⟩ := hm
    simp only [evO] at he
    split at he
    · rename_i h hmp
      split at he
      · rename_i es ho
        split at he
        · rename_i hc
          simp only [Option.map_eq_some_iff] at he
          obtain ⟨r, hr, rfl⟩ := he
          obtain ⟨kt, M⟩ := mapT_spec hq
          have k2 : (ev tm k').known = true := keyOK_known hc.2.1
          have hmv := (hR.opd hm').vr (by rw [hmp]; rfl)
          rw [hmp] at hmv
          obtain ⟨w', h1, h2⟩ := op_mput (P := P) M hR hmv ho hc.1 hc.2.1 ((hR.opd hk').vr k2) ((hR.opd hx').vr hc.2.2) hr
          exact wp_skip' (w' := w') (by simp [execOp, hop, h1]) (hnext _ _ T ρ (h2.val hd .v))
        · cases he
      · cases he
    · cases he
  | load t x =>
    simp only [trOp, hop, Option.bind_eq_some_iff, Option.map_eq_some_iff] at hm
    obtain ⟨k, hk, y, hx, rfl⟩ := hm
    simp only [evO, Option.map_eq_some_iff] at he
    obtain ⟨r, hr, rfl⟩ := he
    have hkn : (ev tm y).known = true := by cases hh : ev tm y <;> first | rfl | (rw [hh] at hr; simp [evLoad] at hr)
    obtain ⟨ad, h1, v, h2, h3⟩ := read_at (P := P) hR.hr ((hR.opd hx).vr hkn) hr hk
    exact wp_value (v := v) (w' := w) (by simp [execOp, hop, Instr.loadAt, h1, Instr.sureAddr, h2]) (hnext _ _ T ρ (hR.val hd h3))
  | store t p x =>
    simp only [trOp, hop, Option.bind_eq_some_iff, Option.map_eq_some_iff] at hm
    obtain ⟨n, hn, p', hp, x', hx, hm⟩ := hm
    split at hm
    · rename_i s hlate
      subst hm
      have hps : p' = .t s := by
        unfold Ann.isLate at hlate
        split at hlate
        · split at hlate
          · cases hlate; rfl
          · cases hlate
        · cases hlate
      subst hps
      simp only [evO] at he
      split at he
      · rename_i z hz
        split at he
        · rename_i hc
          obtain ⟨k1, k2, k3, k4⟩ := hc
          cases he
          have hxv := (hR.opd hx).vr (solid_known k1)
          have hpe : a.eval p = a.tmps.getD s undef := by
            cases p with
            | tmp q => simp [trOpd] at hp; subst hp; rfl
            | const v => simp [trOpd] at hp
            | global g => simp [trOpd] at hp
            | func f => simp only [trOpd] at hp; cases hh : φ f <;> rw [hh] at hp <;> simp at hp
          obtain ⟨w', ρ', h1, h2⟩ := hR.mat (P := P) (s := s) (z := z) hz hxv k1 (by omega) (by omega) (by rw [k3]; exact hn)
          rw [k3] at h2
          refine wp_skip' (w' := w') (by simp only [execOp, hop, hpe, Sem.run_bind, h1]; rfl) (hnext _ _ T ρ' ?_)
          exact h2.val hd .v
        · cases he
      · cases he
    rename_i hlate
    subst hm
    simp only [evO] at he
    split at he
    · rename_i hk
      have hxv := (hR.opd hx).vr (solid_known hk.1)
      split at he
      · rename_i av s z hz
        split at he
        · rename_i hzl
          cases he
          have hp1 := hR.opd hp
          have hpe : a.eval p = a.tmps.getD s undef := by
            cases p with
            | tmp q => simp [trOpd] at hp; subst hp; rfl
            | const v => simp [trOpd] at hp
            | global g => simp [trOpd] at hp
            | func f => simp only [trOpd] at hp; cases hh : φ f <;> rw [hh] at hp <;> simp at hp
          obtain ⟨w', T', h1, h2⟩ := hR.turn (P := P) (s := s) (z := z) hz hxv hk.1 (by omega) (by rw [hzl]; exact hn)
          refine wp_skip' (w' := w') (by simp only [execOp, hop, hpe, Sem.run_bind, h1]; rfl) (hnext _ _ T' ρ ?_)
          exact h2.val hd .v
        · cases he
      · rename_i q h ver i o' hs
        simp only [Option.bind_eq_some_iff] at he
        obtain ⟨ob, hg, he⟩ := he
        split at he
        · rename_i hl
          simp only [Option.bind_eq_some_iff, Option.map_eq_some_iff] at he
          obtain ⟨e, hei, e', hf, rfl⟩ := he
          have hpv := (hR.opd hp).vr (by rw [hs]; rfl)
          obtain ⟨w', ρ', h1, h2⟩ := hR.write (P := P) hpv hs hg hl hei hxv hk.1 hk.2 hf hn
          exact wp_skip' (w' := w') (by simp [execOp, hop, h1]) (hnext _ _ T ρ' (h2.val hd .v))
        · cases he
      · cases he
    · cases he
  | ready => simp [trOp, hop] at hm; subst hm; simp [evO] at he
  | waits => simp [trOp, hop] at hm; subst hm; simp [evO] at he
  | binOp op t x y ty =>
    simp only [trOp, hop, Option.bind_eq_some_iff] at hm
    obtain ⟨x', hx, y', hy, hm⟩ := hm
    have key : ∀ z, evBin op (ev tm x') (ev tm y') = some z → eff = .val z → o.wp P a w next Q := by
      intro z hz he'
      subst he'
      have k1 : (ev tm x').known = true := by cases hh : ev tm x' <;> first | rfl | (rw [hh] at hz; simp [evBin] at hz)
      have k2 : (ev tm y').known = true := by cases hh : ev tm y' <;> first | rfl | (rw [hh] at hz; cases hq : ev tm x' <;> rw [hq] at hz <;> simp [evBin] at hz)
      obtain ⟨r, h1, h2⟩ := op_bin (P := P) (t := t) (xo := x) (yo := y) ((hR.opd hx).vr k1) ((hR.opd hy).vr k2) hz
      exact wp_value (v := r) (w' := w) (by simp only [execOp, hop]; rw [Sem.run_bind, h1]; rfl) (hnext _ _ T ρ (hR.val hd h2))
    split at hm
    · rename_i hoe
      have hop2 : op = .eql ∨ op = .neq := by cases op <;> simp_all [isEq]
      have fin : ∀ b, (∃ r, (do eqGuard op t x y (a.eval x) (a.eval y); binOp op t (a.eval x) (a.eval y) : Sem Value).run P w = .ok r w ∧ VR φ T w ρ true (.b (if (isNeq op) then !b else b)) r) → eff = .val (.b (if (isNeq op) then !b else b)) → o.wp P a w next Q := by
        rintro b ⟨r, h1, h2⟩ he'
        subst he'
        exact wp_value (v := r) (w' := w) (by simp only [execOp, hop]; rw [Sem.run_bind, h1]; rfl) (hnext _ _ T ρ (hR.val hd h2))
      split at hm
      · cases hm; simp only [evO, Option.map_eq_some_iff] at he; obtain ⟨z, hz, rfl⟩ := he; exact key z hz rfl
      · cases hm; simp only [evO, Option.map_eq_some_iff] at he; obtain ⟨z, hz, rfl⟩ := he; exact key z hz rfl
      · rename_i hu
        cases hm; simp only [evO, Option.map_eq_some_iff] at he; obtain ⟨b, hz, rfl⟩ := he
        have k1 : (ev tm x').known = true := by cases hh : ev tm x' <;> first | rfl | (rw [hh] at hz; simp [eqCell] at hz)
        have k2 : (ev tm y').known = true := by cases hh : ev tm y' <;> first | rfl | (rw [hh] at hz; cases hq : ev tm x' <;> rw [hq] at hz <;> simp [eqCell] at hz)
        exact fin b (op_eqb hop2 ((hR.opd hx).vr k1) ((hR.opd hy).vr k2) hz hu) rfl
      · simp only [Option.map_eq_some_iff] at hm
        obtain ⟨ks, hks, rfl⟩ := hm
        simp only [evO, Option.map_eq_some_iff] at he; obtain ⟨b, hz, rfl⟩ := he
        have k1 : (ev tm x').known = true := by cases hh : ev tm x' <;> first | rfl | (rw [hh] at hz; simp [evEq] at hz)
        have k2 : (ev tm y').known = true := by cases hh : ev tm y' <;> first | rfl | (rw [hh] at hz; cases hq : ev tm x' <;> rw [hq] at hz <;> simp [evEq] at hz)
        exact fin b (op_eqn hop2 ((hR.opd hx).vr k1) ((hR.opd hy).vr k2) hz hks) rfl
      · simp only [Option.map_eq_some_iff] at hm
        obtain ⟨ks, hks, rfl⟩ := hm
        simp only [evO, Option.map_eq_some_iff] at he; obtain ⟨b, hz, rfl⟩ := he
        have k1 : (ev tm x').known = true := by cases hh : ev tm x' <;> first | rfl | (rw [hh] at hz; simp [evEq] at hz)
        have k2 : (ev tm y').known = true := by cases hh : ev tm y' <;> first | rfl | (rw [hh] at hz; cases hq : ev tm x' <;> rw [hq] at hz <;> simp [evEq] at hz)
        exact fin b (op_eqn hop2 ((hR.opd hx).vr k1) ((hR.opd hy).vr k2) hz hks) rfl
      · rename_i e hu
        split at hm
        · rename_i hn
          cases hm
          simp only [evO, Option.map_eq_some_iff] at he; obtain ⟨b, hz, rfl⟩ := he
          have hy' : a.eval y = .slice none 0 0 := by
            have hq : y' = .c (.slice none 0 0) := by unfold isNilC at hn; split at hn <;> first | rfl | cases hn
            have := hR.opd hy
            rw [hq] at this
            exact this.ofV
          have k1 : (ev tm x').known = true := by cases hh : ev tm x' <;> first | rfl | (rw [hh] at hz; simp [evNil] at hz)
          have := op_nilq (P := P) (t := t) (xo := x) (yo := y) hop2 hR.hr ((hR.opd hx).vr k1) hz hu
          rw [← hy'] at this
          exact fin b this rfl
        · cases hm
      · cases hm
    · cases hm; simp only [evO, Option.map_eq_some_iff] at he; obtain ⟨z, hz, rfl⟩ := he; exact key z hz rfl
  | unOp op t x =>
    simp only [trOp, hop, Option.map_eq_some_iff] at hm
    obtain ⟨y, hx, rfl⟩ := hm
    simp only [evO, Option.map_eq_some_iff] at he
    obtain ⟨z, hz, rfl⟩ := he
    have k1 : (ev tm y).known = true := by cases hh : ev tm y <;> first | rfl | (rw [hh] at hz; cases op <;> simp [evUn] at hz)
    obtain ⟨r, h1, h2⟩ := op_un (P := P) ((hR.opd hx).vr k1) hz
    exact wp_value (v := r) (w' := w) (by simp [execOp, hop, h1]) (hnext _ _ T ρ (hR.val hd h2))
  | convert s d x =>
    simp only [trOp, hop] at hm
    split at hm
    · rename_i k0 k h1 h2
      simp only [Option.map_eq_some_iff] at hm
      obtain ⟨y, hx, rfl⟩ := hm
      have u1 : ∃ k1, P.underlying s = some (.int k1) := by unfold isIntT at h1; split at h1 <;> first | (rename_i q; exact ⟨_, q⟩) | cases h1
      have u2 : P.underlying d = some (.int k) := by unfold isIntT at h2; split at h2 <;> first | (rename_i q; cases h2; exact q) | cases h2
      obtain ⟨k1, u1⟩ := u1
      simp only [evO] at he
      split at he
      · rename_i k' n hq
        cases he
        have hv := hR.opd hx
        rw [hq] at hv
        have hv' : a.eval x = .int k' n := hv.ofV
        exact wp_value (v := .int k (k.wrap n)) (w' := w) (by simp [execOp, hop, convert, run_und u1, run_und u2, hv', Conv.intToInt]) (hnext _ _ T ρ (hR.val hd .v))
      · cases he
    · split at hm
      · rename_i hb
        simp only [Option.map_eq_some_iff] at hm
        obtain ⟨y, hx, rfl⟩ := hm
        obtain ⟨e, u1, u2, u3⟩ : ∃ e, P.underlying s = some .string ∧ P.underlying d = some (.slice e) ∧ P.underlying e = some (.int .u8) := by
          unfold bytesOfT at hb
          split at hb
          · rename_i e h1 h2
            split at hb
            · rename_i h3; exact ⟨e, h1, h2, h3⟩
            · cases hb
          · cases hb
        simp only [evO] at he
        split at he
        · rename_i str hq
          cases he
          have hv := hR.opd hx
          rw [hq] at hv
          have hv' : a.eval x = .string str := hv.ofV
          have hrun := Lib.run_convert_string_bytes (P := P) w s d e str u1 u2 u3
          have hrun' : (execOp a.eval o).run P w = .ok (.value (.slice (some ⟨w.heap.size, 0, none⟩) str.size (grownCap w str.size 0 e))) (Lib.bytesWorld w e str) := by
            simp [execOp, hop, hv', hrun]
          have hw : Lib.bytesWorld w e str = pushW (drewW w) (.cells (Lib.bytesCells w e str) e ((Lib.bytesCells w e str).size, (Lib.bytesCells w e str).size + 1)) := bytesWorld_push w e str
          rw [hw] at hrun'
          refine wp_value hrun' (hnext _ _ (fun b => T b ∨ b = w.heap.size) ρ ?_)
          have hd1 : RL φ A.nt T0 w0 ρ0 T ρ tm H a (drewW w) := hR.step (since_drew H.lim T w ρ) hR.hr.drew rfl (Nat.le_refl _)
          have s := since_push (lim := H.lim) hd1.hr (.cells (Lib.bytesCells w e str) e ((Lib.bytesCells w e str).size, (Lib.bytesCells w e str).size + 1)) (fun b => T b ∨ b = w.heap.size) (fun _ q => .inl q) (fun _ q => q)
          have r := hd1.step s (hd1.hr.pushOld _ _ (fun _ q => .inl q) (fun _ q => q)) rfl (Nat.le_refl _)
          refine r.val hd ?_
          rcases Nat.eq_zero_or_pos str.size with h0 | h0
          · rw [h0]; exact .ro0
          · refine VR.ro (us := fun i => [.int .u8 (str.data.toList.getD i 0).toNat]) h0 (grown_ge w str.size e) (.inr rfl) (fun i hi => by simp [hi]) (fun i hi => rfl) (fun i j u hi hu => ?_) (fun i u hi hu => ?_) (fun i j c u hi hc hu => ?_)
            · obtain ⟨rfl, rfl⟩ : j = 0 ∧ u = .int .u8 (str.data.toList.getD i 0).toNat := by
                cases j with
                | zero => exact ⟨rfl, (Option.some.inj hu).symm⟩
                | succ j => simp at hu
              rw [add_mk]
              have := Lib.bytesWorld_cell w e str i hi
              rw [hw] at this
              simpa using this
            · simp at hu; subst hu; rfl
            · cases j with
              | zero => simp [hi] at hc hu; subst hc; subst hu; exact .v
              | succ j => simp at hu
        · cases he
      · cases hm
  | sliceToArrayPointer => simp [trOp, hop] at hm; subst hm; simp [evO] at he
  | makeInterface => simp [trOp, hop] at hm; subst hm; simp [evO] at he
  | makeFunc fn first cap =>
    simp only [trOp, hop] at hm
    unfold trMkf at hm
    split at hm
    · rename_i f
      split at hm
      · rename_i h0
        simp only [Option.bind_eq_some_iff, Option.map_eq_some_iff] at hm
        obtain ⟨g, hg, ys, hys, rfl⟩ := hm
        simp only [evO] at he
        split at he
        · rename_i hk
          cases he
          obtain ⟨l1, l2⟩ := hR.opds hys hk
          have hf : first = #[] := by apply Array.ext'; simpa using h0
          subst hf
          refine wp_value (v := .func (.func f) #[] (cap.toList.map a.eval).toArray) (w' := w) ?_ (hnext _ _ T ρ (hR.val hd (VR.fn hg l1 l2)))
          have : cap.map a.eval = (cap.toList.map a.eval).toArray := by apply Array.ext'; simp
          simp [execOp, hop, Instr.makeFunc, this]
        · cases he
      · split at hm
        · rename_i h0 h1
          simp only [Option.bind_eq_some_iff, Option.map_eq_some_iff] at hm
          obtain ⟨g, hg, ys, hys, rfl⟩ := hm
          simp only [evO] at he
          split at he
          · rename_i hk
            cases he
            obtain ⟨l1, l2⟩ := hR.opds hys hk
            have hf : cap = #[] := by apply Array.ext'; simpa using h1
            subst hf
            refine wp_value (v := .func (.func f) (first.toList.map a.eval).toArray #[]) (w' := w) ?_ (hnext _ _ T ρ (hR.val hd (VR.bm hg l1 l2)))
            have : first.map a.eval = (first.toList.map a.eval).toArray := by apply Array.ext'; simp
            simp [execOp, hop, Instr.makeFunc, this]
          · cases he
        · cases hm
    · cases hm
  | makeMap t r =>
    cases r with
    | some => simp [trOp, hop] at hm; subst hm; simp [evO] at he
    | none =>
      simp only [trOp, hop, Option.map_eq_some_iff] at hm
      obtain ⟨q, _, rfl⟩ := hm
      simp only [evO, Option.some.injEq] at he
      subst he
      obtain ⟨w', ρ', v, h1, h2⟩ := op_mkmap (P := P) hR (dst := o.dst) hd t
      exact wp_value (v := v) (w' := w') (by simp [execOp, hop, h1]) (hnext _ _ T ρ' h2)
  | makeChan => simp [trOp, hop] at hm; subst hm; simp [evO] at he
  | makeSlice t l c =>
    simp only [trOp, hop, Option.bind_eq_some_iff] at hm
    obtain ⟨e, hel, n, hn, b, hb, z, hz, l', hl, c', hc, hm⟩ := hm
    split at hm
    · rename_i h0
      cases hm
      simp only [evO] at he
      split at he
      · rename_i k i k' i' hli hci
        split at he
        · rename_i hcond
          obtain ⟨rfl, q1, q2, q3, q4⟩ := hcond
          cases he
          have hv1 := hR.opd hl
          rw [hli] at hv1
          have hv1' : a.eval l = .int k i := hv1.ofV
          have hv2 := hR.opd hc
          rw [hci] at hv2
          have hv2' : a.eval c = .int k' i := hv2.ofV
          obtain ⟨cells, h1, h2⟩ := op_mks (P := P) (w := w) (φ := φ) (T := T) (ρ := ρ) (k := k) (k' := k') (elemT_some hel) hn hb hz h0.1 q1 q2 q3 q4
          refine wp_value (v := .slice (some ⟨w.heap.size, 0, none⟩) i.toNat i.toNat) (w' := pushW w (.cells cells e)) (by simp [execOp, hop, hv1', hv2', h1]) (hnext _ _ T _ (hR.newObj (dst := o.dst) (sz := n) (cap := i.toNat) (cells := cells) (t := e) (x := .sl H.obs.length 0 0 i.toNat) hd h0.1 (by have := h2.1; simp at this; omega) (by simp) h2.2.1 (fun k j q c hk hj => ?_) h2.2.2.2 (fun inf i1 i2 i3 i4 => VR.sl (inf := inf) (by simp [setR]) (by omega) rfl (fun _ => ⟨by simp [i1], rfl, Nat.le_refl _, by rw [i4]; omega⟩))))
          obtain ⟨u, u1, u2⟩ := h2.2.2.1 k j q c hk hj
          exact ⟨u, by simpa using u1, u2⟩
        · cases he
      · cases he
    · cases hm
  | slice t x lo hi mx =>
    simp only [trOp, hop, Option.bind_eq_some_iff] at hm
    obtain ⟨x', hx, lo', hlo, hi', hhi, mx', hmx, hm⟩ := hm
    have key : ∀ sz, (sz = 0 → P.underlying t = some .string) → (0 < sz → ∃ e, P.underlying t = some (.slice e) ∧ sizeT P e = some sz) → evO call tm H (.slc sz x' lo' hi' mx') = some eff → o.wp P a w next Q := by
      intro sz q0 q1 he
      simp only [evO, Option.map_eq_some_iff] at he
      obtain ⟨z, hz, rfl⟩ := he
      have k1 : (ev tm x').known = true := by cases hh : ev tm x' <;> first | rfl | (rw [hh] at hz; simp [evSlcH, evSlcQ, evSlc3, evSlc] at hz)
      obtain ⟨r, h1, h2⟩ := op_slcH (P := P) hR.hr ((hR.opd hx).vr k1) hz (optR_of hR hlo) (optR_of hR hhi) (optR_of hR hmx) q0 q1
      exact wp_value (v := r) (w' := w) (by simp [execOp, hop, h1]) (hnext _ _ T ρ (hR.val hd h2))
    split at hm
    · rename_i hu
      cases hm
      exact key 0 (fun _ => hu) (fun h => by omega) he
    · rename_i e hu
      simp only [Option.bind_eq_some_iff] at hm
      obtain ⟨n, hn, hm⟩ := hm
      split at hm
      · rename_i h0
        cases hm
        exact key n (fun h => by omega) (fun _ => ⟨e, hu, hn⟩) he
      · cases hm
    · cases hm
  | fieldAddr t x i =>
    simp only [trOp, hop, Option.bind_eq_some_iff] at hm
    obtain ⟨f, hf, n, hn, hm⟩ := hm
    split at hm
    · rename_i h0
      simp only [Option.map_eq_some_iff] at hm
      obtain ⟨y, hx, rfl⟩ := hm
      simp only [evO, Option.map_eq_some_iff] at he
      obtain ⟨z, hz, rfl⟩ := he
      have k1 : (ev tm y).known = true := by cases hh : ev tm y <;> first | rfl | (rw [hh] at hz; simp [evFadr] at hz)
      obtain ⟨r, h1, h2⟩ := op_fadr (P := P) hf hn h0 ((hR.opd hx).vr k1) hz
      exact wp_value (v := r) (w' := w) (by simp [execOp, hop, h1]) (hnext _ _ T ρ (hR.val hd h2))
    · cases hm
  | field t x i =>
    simp only [trOp, hop, Option.bind_eq_some_iff, Option.map_eq_some_iff] at hm
    obtain ⟨f, hf, k, hk, y, hx, rfl⟩ := hm
    simp only [evO] at he
    split at he
    · rename_i cs hq
      simp only [Option.map_eq_some_iff] at he
      obtain ⟨z, hz, rfl⟩ := he
      have hv := (hR.opd hx).vr (by rw [hq]; rfl)
      rw [hq] at hv
      generalize hae : a.eval x = av at hv
      cases hv with
      | agg a1 a2 a3 =>
        obtain ⟨r, h1, h2⟩ := op_takeK (P := P) hk hz a1 a2 a3
        unfold fieldT at hf
        split at hf
        · rename_i fs hu
          exact wp_value (v := r) (w' := w) (by simp [execOp, hop, Instr.field, run_und hu, hf, hae, asAgg, h1]) (hnext _ _ T ρ (hR.val hd h2))
        · cases hf
    · cases he
  | indexAddr t x i =>
    simp only [trOp, hop] at hm
    split at hm
    · rename_i n j ha
      obtain ⟨len, e, k, jj, hu, hi, hj, hn, rfl⟩ := arrT_some ha
      simp only [Option.map_eq_some_iff] at hm
      obtain ⟨y, hx, rfl⟩ := hm
      simp only [evO, Option.map_eq_some_iff] at he
      obtain ⟨z, hz, rfl⟩ := he
      have k1 : (ev tm y).known = true := by cases hh : ev tm y <;> first | rfl | (rw [hh] at hz; simp [evFadr] at hz)
      obtain ⟨r, h1, h2⟩ := op_iadrA (P := P) (k := k) hu hn hj ((hR.opd hx).vr k1) hz
      exact wp_value (v := r) (w' := w) (by subst hi; have e0 : a.eval (.const (.int k jj)) = .int k jj := rfl; simp [execOp, hop, e0, h1]) (hnext _ _ T ρ (hR.val hd h2))
    · simp only [Option.bind_eq_some_iff, Option.map_eq_some_iff] at hm
      obtain ⟨e, hel, n, hn, y, hx, i', hi, rfl⟩ := hm
      simp only [evO, Option.map_eq_some_iff] at he
      obtain ⟨z, hz, rfl⟩ := he
      have k1 : (ev tm y).known = true := by cases hh : ev tm y <;> first | rfl | (rw [hh] at hz; cases hq : ev tm i' <;> rw [hq] at hz <;> simp [evIadr] at hz)
      have k2 : (ev tm i').known = true := by cases hh : ev tm i' <;> first | rfl | (rw [hh] at hz; cases hq : ev tm y <;> rw [hq] at hz <;> simp [evIadr] at hz)
      obtain ⟨r, h1, h2⟩ := op_iadr (P := P) hR.hr hel hn ((hR.opd hx).vr k1) ((hR.opd hi).vr k2) hz
      exact wp_value (v := r) (w' := w) (by simp [execOp, hop, h1]) (hnext _ _ T ρ (hR.val hd h2))
  | index t x i =>
    simp only [trOp, hop, Option.bind_eq_some_iff] at hm
    obtain ⟨x', hx, i', hi, hm⟩ := hm
    split at hm
    · rename_i len e hu
      simp only [Option.bind_eq_some_iff, Option.map_eq_some_iff] at hm
      obtain ⟨sz, hsz, k, hk, rfl⟩ := hm
      simp only [evO] at he
      split at he
      · rename_i cs k' j hq hj
        split at he
        · rename_i hb
          simp only [Option.map_eq_some_iff] at he
          obtain ⟨z, hz, rfl⟩ := he
          have hv := (hR.opd hx).vr (by rw [hq]; rfl)
          rw [hq] at hv
          have hv2 := hR.opd hi
          rw [hj] at hv2
          have hv2' : a.eval i = .int k' j := hv2.ofV
          obtain ⟨r, h1, h2⟩ := op_idx (P := P) (k' := k') hu hsz hk hv hb hz
          exact wp_value (v := r) (w' := w) (by simp [execOp, hop, hv2', h1]) (hnext _ _ T ρ (hR.val hd h2))
        · cases he
      · cases he
    · rename_i hu
      cases hm
      simp only [evO] at he
      split at he
      · rename_i s k' j hq hj
        split at he
        · rename_i hb
          simp only [Option.map_eq_some_iff] at he
          obtain ⟨b, hz, rfl⟩ := he
          have hv := hR.opd hx
          rw [hq] at hv
          have hv' : a.eval x = .string s := hv.ofV
          have hv2 := hR.opd hi
          rw [hj] at hv2
          have hv2' : a.eval i = .int k' j := hv2.ofV
          exact wp_value (v := .int .u8 b.toNat) (w' := w) (by simp [execOp, hop, hv', hv2', op_sidx (P := P) (w := w) (k' := k') hu hb hz]) (hnext _ _ T ρ (hR.val hd .v))
        · cases he
      · cases he
    · cases hm
  | lookup t m k ok =>
    simp only [trOp, hop, Option.bind_eq_some_iff, Option.map_eq_some_iff] at hm
    obtain ⟨q, hq, z, hz, m', hm', k', hk', rfl⟩ := hm
    simp only [evO, Option.map_eq_some_iff] at he
    obtain ⟨y, hy, rfl⟩ := he
    obtain ⟨kt, M⟩ := mapT_spec hq
    have k1 : (ev tm m').known = true := by
      cases hh : ev tm m' <;> first | rfl | (rw [hh] at hy; unfold evLook at hy; split at hy <;> simp at hy)
    have k2 : (ev tm k').known = true := by
      unfold evLook at hy
      split at hy
      · rename_i hkk; exact keyOK_known hkk
      · cases hy
    obtain ⟨r, h1, h2⟩ := op_look (P := P) M hz hR.hr ((hR.opd hm').vr k1) ((hR.opd hk').vr k2) hy
    exact wp_value (v := r) (w' := w) (by simp [execOp, hop, h1]) (hnext _ _ T ρ (hR.val hd h2))
  | mapUpdate t m k x =>
    simp only [trOp, hop, Option.bind_eq_some_iff, Option.map_eq_some_iff] at hm
    obtain ⟨q, hq, m', hm', k', hk', x', hx', rfl⟩ := hm
    simp only [evO] at he
    split at he
    · rename_i h hmp
      split at he
      · rename_i es ho
        split at he
        · rename_i hc
          simp only [Option.map_eq_some_iff] at he
          obtain ⟨r, hr, rfl⟩ := he
          obtain ⟨kt, M⟩ := mapT_spec hq
          have k2 : (ev tm k').known = true := keyOK_known hc.2.1
          have hmv := (hR.opd hm').vr (by rw [hmp]; rfl)
          rw [hmp] at hmv
          obtain ⟨w', h1, h2⟩ := op_mput (P := P) M hR hmv ho hc.1 hc.2.1 ((hR.opd hk').vr k2) ((hR.opd hx').vr hc.2.2) hr
          exact wp_skip' (w' := w') (by simp [execOp, hop, h1]) (hnext _ _ T ρ (h2.val hd .v))
        · cases he
      · cases he
    · cases he
  | mapEntry => simp [trOp, hop] at hm; subst hm; simp [evO] at he
  | entryStore => simp [trOp, hop] at hm; subst hm; simp [evO] at he
  | range t m =>
    simp only [trOp, hop, Option.bind_eq_some_iff, Option.map_eq_some_iff] at hm
    obtain ⟨q, hq, m', hm', rfl⟩ := hm
    simp only [evO] at he
    split at he
    · rename_i h hmp
      split at he
      · rename_i es ho
        cases he
        obtain ⟨kt, M⟩ := mapT_spec hq
        have hmv := (hR.opd hm').vr (by rw [hmp]; rfl)
        rw [hmp] at hmv
        obtain ⟨w', ρ', v, h1, h2⟩ := op_rng (P := P) M hR (dst := o.dst) hd hmv ho
        exact wp_value (v := v) (w' := w') (by simp [execOp, hop, h1]) (hnext _ _ T ρ' h2)
      · cases he
    · cases he
  | next => simp [trOp, hop] at hm; subst hm; simp [evO] at he
  | entry x =>
    simp only [trOp, hop, Option.map_eq_some_iff] at hm
    obtain ⟨x', hx', rfl⟩ := hm
    simp only [evO] at he
    split at he
    · rename_i h hmp
      split at he
      · rename_i m n s ho
        split at he
        · rename_i es hm
          split at he
          · rename_i hn
            simp only [Option.bind_eq_some_iff, Option.map_eq_some_iff] at he
            obtain ⟨j, hs, p, hp, rfl⟩ := he
            have hmv := (hR.opd hx').vr (by rw [hmp]; rfl)
            rw [hmp] at hmv
            obtain ⟨r, h1, h2⟩ := op_ent (P := P) hR.hr hmv ho hs hm hn hp
            exact wp_value (v := r) (w' := w) (by simp [execOp, hop, h1]) (hnext _ _ T ρ (hR.val hd h2))
          · cases he
        · cases he
      · cases he
    · cases he
  | typeAssert => simp [trOp, hop] at hm; subst hm; simp [evO] at he
  | nilCheck x =>
    simp only [trOp, hop, Option.map_eq_some_iff] at hm
    obtain ⟨y, hx, rfl⟩ := hm
    simp only [evO] at he
    split at he
    · rename_i h ver i off hq; cases he
      have hv := (hR.opd hx).vr (by rw [hq]; rfl)
      rw [hq] at hv
      have hv0 := hv
      generalize hae : a.eval x = av at hv
      rw [hae] at hv0
      cases hv with
      | hp h1 h2 h3 h4 =>
        subst h3
        exact wp_value (v := .pointer (some _)) (w' := w) (by simp [execOp, hop, hae]) (hnext _ _ T ρ (hR.val hd hv0))
    · rename_i cs hq; cases he
      have hv := (hR.opd hx).vr (by rw [hq]; rfl)
      rw [hq] at hv
      have hv0 := hv
      generalize hae : a.eval x = av at hv
      rw [hae] at hv0
      cases hv with
      | rp h1 h2 h3 h4 h5 =>
        exact wp_value (v := .pointer (some _)) (w' := w) (by simp [execOp, hop, hae]) (hnext _ _ T ρ (hR.val hd hv0))
    · cases he
  | extract x i =>
    simp only [trOp, hop, Option.map_eq_some_iff] at hm
    obtain ⟨y, hx, rfl⟩ := hm
    simp only [evO] at he
    split at he
    · rename_i cs hq
      simp only [Option.map_eq_some_iff] at he
      obtain ⟨z, hz, rfl⟩ := he
      have hv := (hR.opd hx).vr (by rw [hq]; rfl)
      rw [hq] at hv
      generalize hae : a.eval x = av at hv
      cases hv with
      | tup a1 a2 =>
        rename_i us
        have hlt : i < us.length := by rw [← a1]; exact (List.getElem?_eq_some_iff.1 hz).1
        exact wp_value (v := us[i]) (w' := w) (by simp [execOp, hop, Instr.extract, hae, hlt]) (hnext _ _ T ρ (hR.val hd (a2 i z _ hz (List.getElem?_eq_getElem hlt))))
    · cases he
  | call c =>
    simp only [trOp, hop] at hm
    unfold trCall at hm
    obtain ⟨callee, cargs, cty⟩ := c
    simp only at hm
    have callK : ∀ (f : Nat) (g : Nat) (as : List AV) (vs : List Value) (r : AV × Hp), φ f = some g → call g as H = some r → as.length = vs.length → (∀ (i : Nat) (c : AV) (u : Value), as[i]? = some c → vs[i]? = some u → VR φ T w ρ true c u) →
        (execOp a.eval o).run P w = .ok (.enter f vs.toArray) w → eff = .valH r.1 r.2 → o.wp P a w next Q := by
      intro f g as vs r hf hc hl hv hrun he'
      subst he'
      refine wp_enter hrun (hS f g hf as H r hc T w ρ vs hl hv hR.hr hR.ll) ?_
      rintro e w' ⟨T', ρ', v, rfl, s1, s2, s3, s4, s5⟩
      exact ⟨v, rfl, hnext _ _ T' ρ' ((hR.step s1 s2 s3 s4).val hd s5)⟩
    split at hm
    · -- len
      split at hm
      · rename_i t x ht hx
        have hargs : cargs = #[x] := by apply Array.ext'; simpa using hx
        have htys : cty = #[t] := by apply Array.ext'; simpa using ht
        subst hargs; subst htys
        have key : ∀ (k : Nat) (y : Opd), trOpd φ x = some y → evO call tm H (.len k y) = some eff → (k = 0 → P.underlying t = some .string) → (k = 1 → ∃ e, P.underlying t = some (.slice e)) → (k = 2 → ∃ q e, P.underlying t = some (.map q e)) → o.wp P a w next Q := by
          intro k y hy he q0 q1 q2
          simp only [evO, Option.map_eq_some_iff] at he
          obtain ⟨z, hz, rfl⟩ := he
          have k1 : (ev tm y).known = true := by cases hh : ev tm y <;> first | rfl | (rw [hh] at hz; simp [evLen] at hz)
          obtain ⟨r, h1, h2⟩ := op_len (P := P) (ty := o.type) hR.hr ((hR.opd hy).vr k1) hz q0 q1 q2
          exact wp_value (v := r) (w' := w) (by simp [execOp, hop, resolve, invoke, builtin, h1]) (hnext _ _ T ρ (hR.val hd h2))
        split at hm
        · rename_i hu
          simp only [Option.map_eq_some_iff] at hm
          obtain ⟨y, hy, rfl⟩ := hm
          exact key 0 y hy he (fun _ => hu) (fun h => by cases h) (fun h => by cases h)
        · rename_i e hu
          simp only [Option.map_eq_some_iff] at hm
          obtain ⟨y, hy, rfl⟩ := hm
          exact key 1 y hy he (fun h => by cases h) (fun _ => ⟨e, hu⟩) (fun h => by cases h)
        · rename_i q e hu
          simp only [Option.map_eq_some_iff] at hm
          obtain ⟨y, hy, rfl⟩ := hm
          exact key 2 y hy he (fun h => by cases h) (fun h => by cases h) (fun _ => ⟨q, e, hu⟩)
        · cases hm
      · cases hm
    · -- append
      split at hm
      · rename_i t u x y ht hx
        have hargs : cargs = #[x, y] := by apply Array.ext'; simpa using hx
        have htys : cty = #[t, u] := by apply Array.ext'; simpa using ht
        subst hargs; subst htys
        have key : ((∃ e', P.underlying u = some (.slice e')) ∨ P.underlying u = some .string) → ((elemT P t).bind fun e => (sizeT P e).bind fun n => (bytesT P e).bind fun b => (trOpd φ x).bind fun x' => (trOpd φ y).bind fun y' => (zeroT P e).bind fun z => if 0 < n ∧ 0 < b ∧ z.length = n then some (MO.app n b x' y') else none) = some m → o.wp P a w next Q := by
          intro hu hm
          simp only [Option.bind_eq_some_iff] at hm
          obtain ⟨e, hel, n, hn, b, hb, x', hx', y', hy', z, hz, hm⟩ := hm
          split at hm
          · rename_i hc
            cases hm
            simp only [evO, Option.map_eq_some_iff] at he
            obtain ⟨r, hr, rfl⟩ := he
            have k1 : (ev tm x').known = true := by
              unfold evApp at hr
              simp only [Option.bind_eq_some_iff] at hr
              obtain ⟨ys, _, hr⟩ := hr
              cases hh : ev tm x' <;> first | rfl | (rw [hh] at hr; cases hr)
            have k2 : (ev tm y').known = true := by cases hh : ev tm y' <;> first | rfl | (rw [hh] at hr; simp [evApp, evEls] at hr)
            obtain ⟨v, w', T', ρ', h1, h2⟩ := op_app (P := P) (ty := o.type) (u := u) hR hd (elemT_some hel) hu hn hb hz hc.2.2 hc.1 hc.2.1 ((hR.opd hx').vr k1) ((hR.opd hy').vr k2) hr
            exact wp_value (v := v) (w' := w') (by simp [execOp, hop, resolve, invoke, builtin, h1]) (hnext _ _ T' ρ' h2)
          · cases hm
        split at hm
        · rename_i e' hu
          exact key (.inl ⟨e', hu⟩) hm
        · rename_i hu
          exact key (.inr hu) hm
        · cases hm
      · cases hm
    · -- max
      simp only [Option.map_eq_some_iff] at hm
      obtain ⟨ys, hys, rfl⟩ := hm
      simp only [evO] at he
      split at he
      · rename_i hk
        simp only [Option.map_eq_some_iff] at he
        obtain ⟨z, hz, rfl⟩ := he
        obtain ⟨l1, l2⟩ := hR.opds hys hk
        have hmap : (cargs.map a.eval).toList = cargs.toList.map a.eval := by simp
        generalize ys.map (ev tm) = zs at hz l1 l2
        generalize hus : cargs.toList.map a.eval = us at l1 l2 hmap
        cases zs with
        | nil => simp [evFolds] at hz
        | cons q zs =>
          cases us with
          | nil => simp at l1
          | cons u us =>
            obtain ⟨r, h1, h2⟩ := op_fold (P := P) (g := Builtin.max2) (fun {_ _ _ _ _} a b c => op_max2 a b c) zs us q u z (l2 0 q u rfl rfl) (by simpa using l1) (fun i c y' a b => l2 (i + 1) c y' (by simpa using a) (by simpa using b)) hz
            refine wp_value (v := r) (w' := w) ?_ (hnext _ _ T ρ (hR.val hd h2))
            simp only [execOp, hop, resolve, Sem.run_bind, Sem.run_pure, Result.andThen_ok, invoke, builtin, Builtin.max_, hmap, h1]
      · cases he
    · -- min
      simp only [Option.map_eq_some_iff] at hm
      obtain ⟨ys, hys, rfl⟩ := hm
      simp only [evO] at he
      split at he
      · rename_i hk
        simp only [Option.map_eq_some_iff] at he
        obtain ⟨z, hz, rfl⟩ := he
        obtain ⟨l1, l2⟩ := hR.opds hys hk
        have hmap : (cargs.map a.eval).toList = cargs.toList.map a.eval := by simp
        generalize ys.map (ev tm) = zs at hz l1 l2
        generalize hus : cargs.toList.map a.eval = us at l1 l2 hmap
        cases zs with
        | nil => simp [evFolds] at hz
        | cons q zs =>
          cases us with
          | nil => simp at l1
          | cons u us =>
            obtain ⟨r, h1, h2⟩ := op_fold (P := P) (g := Builtin.min2) (fun {_ _ _ _ _} a b c => op_min2 a b c) zs us q u z (l2 0 q u rfl rfl) (by simpa using l1) (fun i c y' a b => l2 (i + 1) c y' (by simpa using a) (by simpa using b)) hz
            refine wp_value (v := r) (w' := w) ?_ (hnext _ _ T ρ (hR.val hd h2))
            simp only [execOp, hop, resolve, Sem.run_bind, Sem.run_pure, Result.andThen_ok, invoke, builtin, Builtin.min_, hmap, h1]
      · cases he
    · cases hm
    · cases hm
    · -- a function
      rename_i f
      simp only [Option.bind_eq_some_iff] at hm
      obtain ⟨as, has, hm⟩ := hm
      have hmap : cargs.map a.eval = (cargs.toList.map a.eval).toArray := by apply Array.ext'; simp
      split at hm
      · rename_i g hg
        cases hm
        simp only [evO] at he
        split at he
        · rename_i hk
          simp only [Option.map_eq_some_iff] at he
          obtain ⟨r, hr, rfl⟩ := he
          obtain ⟨l1, l2⟩ := hR.opds has hk
          cases f with
          | func f =>
            simp only [isStatic] at hg
            refine callK f g _ _ r hg hr l1 l2 ?_ rfl
            simp [execOp, hop, resolve, Act.eval, Deferred.ofValue, invoke, hmap, run_call hL hg]
          | tmp => simp [isStatic] at hg
          | const => simp [isStatic] at hg
          | global => simp [isStatic] at hg
        · cases he
      · simp only [Option.map_eq_some_iff] at hm
        obtain ⟨y, hy, rfl⟩ := hm
        simp only [evO] at he
        split at he
        · rename_i g cap hq
          split at he
          · rename_i hk
            simp only [Option.map_eq_some_iff] at he
            obtain ⟨r, hr, rfl⟩ := he
            obtain ⟨l1, l2⟩ := hR.opds has hk
            have hv := (hR.opd hy).vr (by rw [hq]; rfl)
            rw [hq] at hv
            generalize hae : a.eval f = av at hv
            cases hv with
            | fn c1 c2 c3 =>
              rename_i ff us
              refine callK ff g (as.map (ev tm) ++ cap) (cargs.toList.map a.eval ++ us) r c1 hr (by simp [c2]; simpa using l1) (fun i c u hc hu => ?_) ?_ rfl
              · rw [List.getElem?_append] at hc hu
                rw [l1] at hc
                split at hc
                · rename_i hlt; rw [if_pos hlt] at hu; exact l2 i c u hc hu
                · rename_i hlt; rw [if_neg hlt] at hu; exact c3 _ c u hc hu
              · have : (cargs.toList.map a.eval).toArray ++ us.toArray = (cargs.toList.map a.eval ++ us).toArray := by simp
                simp only [execOp, hop, resolve, hae, Deferred.ofValue, Sem.run_bind, Sem.run_pure, Result.andThen_ok, invoke, hmap, Array.empty_append, this, run_call hL c1]
          · cases he
        · cases he
  | go => simp [trOp, hop] at hm; subst hm; simp [evO] at he
  | defer => simp [trOp, hop] at hm; subst hm; simp [evO] at he
  | panic => simp [trOp, hop] at hm; subst hm; simp [evO] at he
  | send => simp [trOp, hop] at hm; subst hm; simp [evO] at he
  | recv => simp [trOp, hop] at hm; subst hm; simp [evO] at he
  | select => simp [trOp, hop] at hm; subst hm; simp [evO] at he
end
end Sx
