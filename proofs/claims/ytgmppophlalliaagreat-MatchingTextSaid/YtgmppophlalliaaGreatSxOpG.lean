/-
  Sx: each operation does what the evaluator says: literals, makes, stores.
-/
import Derived.Test.YtgmppophlalliaaGreatSxOpF
namespace Sx
open Go
set_option linter.unusedSimpArgs false
set_option linter.unusedVariables false

section
variable {P : Program} {φ : Nat → Option Nat} {nt : Nat} {T0 : Nat → Prop} {w0 : World} {ρ0 : Rho} {T : Nat → Prop} {ρ : Rho} {tm : Env} {H : Hp} {a : Act} {w : World}

theorem VR.down {x : AV} {u : Value} (h : VR φ T w ρ true x u) (hf : x.free = true) : VR φ T w ρ false x u := by
  cases h with
  | v => exact .v
  | ro0 => exact .ro0
  | ro h1 h2 h3 h4 h5 h6 h7 h8 => exact .ro h1 h2 h3 h4 h5 h6 h7 h8
  | U => cases hf
  | agg => cases hf
  | tup => cases hf
  | rp => cases hf
  | fn => cases hf
  | bm => cases hf
  | hp => cases hf
  | sl => cases hf
  | mp => cases hf
  | it => cases hf

/-- The cells of a literal or a make before anything is put in. -/
theorem zeros_CR {z : Array Value} {n sz : Nat} (hz : z.size = sz) (h1 : ∀ u ∈ z.toList, u.oneCell' = true) (h0 : 0 < sz) :
    CR φ T w ρ ((List.range n).map fun i => ((z.toList.map AV.v).getD (i % sz) .U)) ((Array.range n).map (fun i => z[i % z.size]!)).toList := by
  refine ⟨by simp, fun i c u hc hu => ?_, fun u hu => ?_⟩
  · rw [List.getElem?_map] at hc
    simp only [Array.toList_map, Array.toList_range, List.getElem?_map] at hu
    cases hr : (List.range n)[i]? with
    | none => rw [hr] at hc; cases hc
    | some k =>
      rw [hr] at hc hu
      simp at hc hu
      have hm : k % sz < z.size := by rw [hz]; exact Nat.mod_lt _ h0
      rw [hz] at hu
      rw [getElem!_pos z _ hm] at hu
      subst hu
      simp [hm] at hc
      subst hc
      exact .v
  · simp at hu
    obtain ⟨k, hk, rfl⟩ := hu
    have hm : k % z.size < z.size := Nat.mod_lt _ (by omega)
    rw [getElem!_pos z _ hm]
    exact h1 _ (by simp)

theorem chunk_len {cs : List AV} {len sz i : Nat} (hl : cs.length = len * sz) (hi : i < len) : ((cs.drop (i * sz)).take sz).length = sz := by
  have : (i + 1) * sz ≤ len * sz := Nat.mul_le_mul_right _ hi
  rw [Nat.add_mul] at this
  simp; omega

theorem op_litrun {t e : TypeId} {len sz : Nat} {z cs : List AV} {parts : Array (Nat × Operand)} {ps : List (Nat × Nat × Opd)} (hR : RL φ nt T0 w0 ρ0 T ρ tm H a w) (hu : P.underlying t = some (.slice e)) (hs : sizeT P e = some sz) (hz : zeroT P e = some z)
    (hzl : z.length = sz) (h0 : 0 < sz) (hb : len * sz ≤ 2 ^ 20) (hp : trArr φ sz parts.toList = some ps) (he : evBuild tm ((List.range (len * sz)).map fun i => z.getD (i % sz) .U) ps = some cs) :
    ∃ cells, (Instr.buildSlice t len (parts.map fun (i, x) => (i, a.eval x))).run P w = .ok (.slice (some ⟨w.heap.size, 0, none⟩) len len) (pushW w (.cells cells e)) ∧ CR φ T w ρ cs cells.toList ∧ cs.length = len * sz := by
  obtain ⟨v, hv, rfl, h1⟩ := run_zeroT (w := w) hz
  obtain ⟨l1, l2⟩ := trArr_spec sz _ _ hp
  have hvs : v.cells.size = sz := by simpa using hzl
  have hc := zeros_CR (φ := φ) (T := T) (w := w) (ρ := ρ) (z := v.cells) (n := len * sz) hvs h1 h0
  obtain ⟨cells, f1, f2⟩ := run_fill (φ := φ) (T := T) (w := w) (ρ := ρ) (w0 := w0) (place := fun i => some (i * sz, sz)) ps ((parts.map fun (i, x) => (i, a.eval x)).toList) _ cs _ he hc (by simp [l1]) (fun i p q hpi hq => by
    simp only [Array.toList_map, List.getElem?_map] at hq
    cases hh : parts.toList[i]? with
    | none => rw [hh] at hq; cases hq
    | some r =>
      rw [hh] at hq
      simp at hq; subst hq
      obtain ⟨g1, g2, g3⟩ := l2 i p r hpi hh
      refine ⟨?_, hR.opd g3⟩
      simp [g1, g2])
  refine ⟨cells, ?_, f2, ?_⟩
  · have e1 : ¬ (len * sz > 2 ^ 24) := by
      have : (2 : Nat) ^ 20 = 1048576 := by decide
      have : (2 : Nat) ^ 24 = 16777216 := by decide
      omega
    have hA : ∀ (w : World) (o : Obj), w.alloc o = pushW w o := fun _ _ => rfl
    by_cases e2 : len * sz = 0
    · have hr : ∀ (f g : Nat → Value), (Array.range (len * sz)).map f = (Array.range (len * sz)).map g := fun f g => by rw [e2]; simp
      have f1' : Instr.fill (fun i => some (i * sz, sz)) ((Array.range (len * sz)).map (fun i => (#[] : Array Value)[i % (#[] : Array Value).size]!)) (parts.map fun (i, x) => (i, a.eval x)).toList = some cells := by rw [hr _ (fun i => v.cells[i % v.cells.size]!)]; exact f1
      simp only [Instr.buildSlice, Sem.run_bind, run_und hu, Result.andThen_ok, run_sizeT hs, e1, if_false, Sem.run_pure, if_pos e2, f1']
      simp [newRow, hA]
    · simp only [Instr.buildSlice, Sem.run_bind, run_und hu, Result.andThen_ok, run_sizeT hs, e1, if_false, Sem.run_pure, e2, hv, f1]
      simp [newRow, hA]
  · have : ∀ (ps : List (Nat × Nat × Opd)) (z cs : List AV), evBuild tm z ps = some cs → cs.length = z.length := by
      intro ps
      induction ps with
      | nil => intro z cs h; simp [evBuild] at h; rw [h]
      | cons p ps ih =>
        obtain ⟨off, n, x⟩ := p
        intro z cs h
        simp only [evBuild] at h
        split at h
        · cases hf : fillC n z off (ev tm x).cells with
          | none => rw [hf] at h; cases h
          | some z' =>
            rw [hf] at h
            rw [ih z' cs h]
            unfold fillC at hf
            split at hf
            · rename_i hh; cases hf; simp; omega
            · cases hf
        · cases h
    rw [this _ _ _ he]; simp

/-- Elements cut out of cells. -/
theorem chunk_at {cs : List AV} {cells : List Value} {len sz : Nat} (hc : CR φ T w ρ cs cells) (hl : cs.length = len * sz) : ER φ T w ρ sz ((List.range len).map fun i => (cs.drop (i * sz)).take sz) cells := by
  refine ⟨by rw [← hc.1, hl]; simp, fun e he => ?_, fun k j e c hk hj => ?_, hc.2.2⟩
  · simp at he
    obtain ⟨i, hi, rfl⟩ := he
    exact chunk_len hl hi
  · rw [List.getElem?_map] at hk
    cases hr : (List.range len)[k]? with
    | none => rw [hr] at hk; cases hk
    | some q =>
      rw [hr] at hk
      simp at hk; subst hk
      have hq : q = k := by have := (List.getElem?_eq_some_iff.1 hr).2; simpa using this.symm
      subst hq
      rw [List.getElem?_take] at hj
      split at hj
      · rw [List.getElem?_drop] at hj
        have hlt : q * sz + j < cells.length := by rw [← hc.1]; exact (List.getElem?_eq_some_iff.1 hj).1
        exact ⟨cells[q * sz + j], List.getElem?_eq_getElem hlt, hc.2.1 _ c _ hj (List.getElem?_eq_getElem hlt)⟩
      · cases hj

theorem op_mks {t e : TypeId} {sz bytes : Nat} {z : List AV} {n : Int} {k k' : IntKind} (hu : P.underlying t = some (.slice e)) (hs : sizeT P e = some sz) (hb : bytesT P e = some bytes) (hz : zeroT P e = some z)
    (h0 : 0 < sz) (hn : 0 ≤ n) (hbig : n * bytes ≤ 2 ^ 44) (hsm : n ≤ 2 ^ 44) (hzl : z.length = sz) :
    ∃ cells, (Instr.makeSlice t (.int k n) (.int k' n)).run P w = .ok (.slice (some ⟨w.heap.size, 0, none⟩) n.toNat n.toNat) (pushW w (.cells cells e)) ∧ ER φ T w ρ sz (List.replicate n.toNat z) cells.toList := by
  obtain ⟨v, hv, rfl, h1⟩ := run_zeroT (w := w) hz
  have hvs : v.cells.size = sz := by simpa using hzl
  unfold bytesT at hb
  cases hi : P.info? e with
  | none => rw [hi] at hb; cases hb
  | some i =>
    rw [hi] at hb
    simp at hb
    have h44 : (2 : Int) ^ 44 = 17592186044416 := by decide
    rw [h44] at hbig hsm
    have hw : IntKind.i64.wrap n = n := by
      have := IntWalk.i64_in n (by omega)
      exact this
    have e1 : ¬ (281474976710656 < (bytes : Int) * n) := by rw [Int.mul_comm]; omega
    have hA : ∀ (w : World) (o : Obj), w.alloc o = pushW w o := fun _ _ => rfl
    have e0 : ¬ n < 0 := by omega
    obtain ⟨m, rfl⟩ := Int.eq_ofNat_of_zero_le hn
    by_cases hm : m * sz = 0
    · have hm0 : m = 0 := by rcases Nat.mul_eq_zero.1 hm with h | h <;> omega
      subst hm0
      refine ⟨#[], ?_, by simpa using ER.nil sz⟩
      have hw0 : IntKind.i64.wrap 0 = 0 := by decide
      simp [Instr.makeSlice, run_und hu, asInt, asIntOf, run_typeInfo' hi, hb, hw0, run_sizeT hs, newRow, hA]
      congr 2
      apply Array.ext'
      simp
    · refine ⟨(Array.range (m * sz)).map (fun i => v.cells[i % v.cells.size]!), ?_, ?_⟩
      · simp [Instr.makeSlice, run_und hu, asInt, asIntOf, run_typeInfo' hi, hb, hw, e1, run_sizeT hs, hm, hv, newRow, hA]
        intro q; omega
      · have hc := chunk_at (zeros_CR (φ := φ) (T := T) (w := w) (ρ := ρ) (z := v.cells) (n := m * sz) hvs h1 h0) (len := m) (sz := sz) (by simp)
        have : (List.range m).map (fun i => (((List.range (m * sz)).map fun i => ((v.cells.toList.map AV.v).getD (i % sz) .U)).drop (i * sz)).take sz) = List.replicate m (v.cells.toList.map AV.v) := by
          apply List.ext_getElem?
          intro q
          rw [List.getElem?_map, List.getElem?_replicate]
          by_cases hq : q < m
          · rw [List.getElem?_range hq, if_pos hq]
            simp only [Option.map_some, Option.some.injEq]
            apply List.ext_getElem?
            intro j
            rw [List.getElem?_take]
            split
            · rename_i hj
              have hlt : q * sz + j < m * sz := by
                have : (q + 1) * sz ≤ m * sz := Nat.mul_le_mul_right _ hq
                rw [Nat.add_mul] at this; omega
              rw [List.getElem?_drop, List.getElem?_map, List.getElem?_range hlt]
              simp only [Option.map_some, (div_at (i := q) hj).2]
              have : j < (v.cells.toList.map AV.v).length := by simp; omega
              rw [List.getElem?_eq_getElem this]
              simp [List.getD, this]
              have hj' : j < v.cells.size := by omega
              simp [hj']
            · rename_i hj
              rw [List.getElem?_eq_none (by simp; omega)]
          · rw [List.getElem?_eq_none (by simp; omega), if_neg hq]
            rfl
        rw [this] at hc
        simpa using hc

/-! ### Stores -/

theorem run_storeVar {t : TypeId} {n b o : Nat} {u : Value} {arr : Array Value} {tb : TypeId} (hs : sizeT P t = some n) (hn : u.cells.size = n) (hb : w.heap[b]? = some (.cells arr tb (0, 0))) (hfit : o + n ≤ arr.size) (h1 : ∀ x ∈ u.cells.toList, x.oneCell' = true) :
    (Instr.storeAt t (.pointer (some ⟨b, o, none⟩)) u).run P w = .ok () (setB w b (.cells (arr.toList.take o ++ u.cells.toList ++ arr.toList.drop (o + n)).toArray tb (0, 0))) := by
  have hst := run_storeCells_at P b o tb u.cells.toList 0 arr w hb (by simp; omega) h1
  rw [setRow_setB hb] at hst
  simp only [Nat.add_zero, Array.length_toList, hn] at hst
  simp [Instr.storeAt, Instr.sureAddr, storeVar, run_sizeT hs, hn, hst]

/-- A fresh variable is filled: from now on it is only read. -/
theorem RL.turn (h : RL φ nt T0 w0 ρ0 T ρ tm H a w) {s : Nat} {z : List AV} (hz : get s tm = .un z) {x : AV} {u : Value} (hx : VR φ T w ρ true x u) (hsol : x.solid = true) (hn : x.cells.length = z.length) {t : TypeId} (hs : sizeT P t = some z.length) :
    ∃ w' T', (Instr.storeAt t (a.tmps.getD s undef) u).run P w = .ok () w' ∧ RL φ nt T0 w0 ρ0 T' ρ ((s, .rp x.cells) :: tm) H a w' := by
  have hsl := h.tr.slot s
  rw [hz] at hsl
  obtain ⟨b, arr, tb, e1, e2, e3, e4, e5, e6⟩ := hsl
  obtain ⟨c1, c2, c3⟩ := hx.cells hsol
  have hrun := run_storeVar (P := P) (w := w) (t := t) (o := 0) hs (by omega) e2 (by omega) c3
  have hb : b < w.heap.size := (Array.getElem?_eq_some_iff.1 e2).1
  rw [e1]
  refine ⟨_, fun k => T k ∨ k = b, hrun, ?_⟩
  simp only [List.take_zero, List.nil_append, Nat.zero_add]
  have hdrop : arr.toList.drop z.length = [] := List.drop_eq_nil_of_le (by simp; omega)
  rw [hdrop, List.append_nil]
  generalize hcl : (u.cells.toList.toArray) = cells
  have hext : Ext T w ρ (fun k => T k ∨ k = b) (setB w b (.cells cells tb (0, 0))) ρ :=
    ⟨fun _ q => .inl q, fun k q => setB_far _ _ _ _ (fun e => e4 (e ▸ q)), fun k i hi => ⟨i, hi, Nat.le_refl _, fun _ => rfl, fun _ => rfl⟩⟩
  have hsi := h.si
  refine ⟨⟨fun k => ?_, fun k k' y y' hne hk hk' => ?_⟩, ⟨fun k o ho => ?_, h.hr.out, h.hr.inj, fun k hk => ?_, h.hr.gl.ext hext⟩, ?_, h.df, h.nt, h.ll⟩
  · rw [get_cons]
    by_cases e : s = k
    · subst e
      simp only [if_true]
      show VR φ _ _ ρ true _ _
      rw [e1]
      refine VR.rp (us := u.cells.toList) (.inr rfl) (by simpa using c1) (fun j y hy => ?_) c3 (fun i c y hc hy => (c2 i c y hc (by simpa using hy)).mono hext)
      rw [add_mk]
      simp only [World.cell?, setB_at _ _ _ hb, Nat.zero_add]
      rw [← hcl]
      simpa using hy
    · simp only [e, if_false]
      have hk := h.tr.slot k
      unfold SR at hk ⊢
      split
      · rename_i z' hz'
        rw [hz'] at hk
        obtain ⟨b', arr', t', g1, g2, g3, g4, g5, g6⟩ := hk
        have hne : b' ≠ b := fun q => by
          have := h.tr.apart s k z z' e hz hz'
          rw [e1, g1, q] at this
          exact this rfl
        exact ⟨b', arr', t', g1, (setB_far _ _ _ _ hne).trans g2, g3, fun q => q.elim g4 hne, g5, g6⟩
      · rename_i hn'
        split at hk
        · rename_i z' hz'; exact absurd hz' (hn' z')
        · exact hk.mono hext
  · rw [get_cons] at hk hk'
    by_cases e : s = k
    · simp only [e, if_true] at hk; cases hk
    · by_cases e' : s = k'
      · simp only [e', if_true] at hk'; cases hk'
      · simp only [e, e', if_false] at hk hk'
        exact h.tr.apart k k' y y' hne hk hk'
  · have hh := h.hr.ob k o ho
    have key : ∀ i, ρ k = some i → (setB w b (.cells cells tb (0, 0))).heap[i.blk]? = w.heap[i.blk]? ∧ ¬ (T i.blk ∨ i.blk = b) := fun i hi =>
      ⟨setB_far _ _ _ _ (e5 k i hi), fun q => q.elim (h.hr.has hi).2 (e5 k i hi)⟩
    cases o with
    | sl ver sz els =>
      obtain ⟨i, arr', t', q1, q2, q3, q4, q5, q6, q7, q8, q9, q10, q11⟩ := hh
      exact ⟨i, arr', t', q1, q2, q3, q4, (key i q1).1.trans q5, q6, q7, q8, fun k j e c a b => let ⟨u, r1, r2⟩ := q9 k j e c a b; ⟨u, r1, r2.mono hext⟩, q10, (key i q1).2⟩
    | mp es =>
      obtain ⟨i, ents, t', q1, q2, q3, q5, q6, q7, q8⟩ := hh
      exact ⟨i, ents, t', q1, q2, q3, (key i q1).1.trans q5, q6, fun k p e a b => ⟨(q7 k p e a b).1.mono hext, (q7 k p e a b).2.mono hext⟩, (key i q1).2⟩
    | it m n s =>
      obtain ⟨i, mi, seen, q1, q2, q3, q4, q5, q6, q7⟩ := hh
      exact ⟨i, mi, seen, q1, q2, q3, q4, (key i q1).1.trans q5, q6, (key i q1).2⟩
  · simp only [setB, Array.size_setIfInBounds]
    rcases hk with q | q
    · exact h.hr.old k q
    · omega
  · exact {
      size := by simpa [setB] using hsi.size
      os := hsi.os
      tape := hsi.tape
      output := hsi.output
      ext := hsi.ext.trans hext
      tnew := fun k q => q.elim (hsi.tnew k) (fun q => .inr (by omega))
      wb := hsi.wb
      low := hsi.low
      frame := fun k hk hn => (setB_far _ _ _ _ (by omega)).trans (hsi.frame k hk hn)
      nf := fun k q => thaws_setB _ _ _ trivial k (hsi.nf k q) }

/-- A fresh variable is filled, and becomes an object. -/
theorem RL.mat (h : RL φ nt T0 w0 ρ0 T ρ tm H a w) {s : Nat} {z : List AV} (hz : get s tm = .un z) {x : AV} {u : Value} (hx : VR φ T w ρ true x u) (hsol : x.solid = true) (hn : x.cells.length = z.length) (h0 : 0 < z.length) {t : TypeId} (hs : sizeT P t = some z.length) :
    ∃ w' ρ', (Instr.storeAt t (a.tmps.getD s undef) u).run P w = .ok () w' ∧ RL φ nt T0 w0 ρ0 T ρ' ((s, .hp H.obs.length 0 0 0) :: tm) (H.push (.sl 0 z.length [x.cells])) a w' := by
  have hsl := h.tr.slot s
  rw [hz] at hsl
  obtain ⟨b, arr, tb, e1, e2, e3, e4, e5, e6⟩ := hsl
  obtain ⟨c1, c2, c3⟩ := hx.cells hsol
  have hrun := run_storeVar (P := P) (w := w) (t := t) (o := 0) hs (by omega) e2 (by omega) c3
  have hb : b < w.heap.size := (Array.getElem?_eq_some_iff.1 e2).1
  rw [e1]
  refine ⟨_, setR ρ H.obs.length ⟨b, 0, z.length, 1⟩, hrun, ?_⟩
  simp only [List.take_zero, List.nil_append, Nat.zero_add]
  have hdrop : arr.toList.drop z.length = [] := List.drop_eq_nil_of_le (by simp; omega)
  rw [hdrop, List.append_nil]
  generalize hcl : (u.cells.toList.toArray) = cells
  have hrn : ρ H.obs.length = none := h.hr.out _ (Nat.le_refl _)
  have hext : Ext T w ρ T (setB w b (.cells cells tb (0, 0))) (setR ρ H.obs.length ⟨b, 0, z.length, 1⟩) :=
    ⟨fun _ q => q, fun k q => setB_far _ _ _ _ (fun e => e4 (e ▸ q)), fun k i hi => ⟨i, by
      unfold setR
      rw [if_neg (fun e => by subst e; rw [hrn] at hi; cases hi)]
      exact hi, Nat.le_refl _, fun _ => rfl, fun _ => rfl⟩⟩
  have hext0 : Ext T w ρ T (setB w b (.cells cells tb (0, 0))) ρ :=
    ⟨fun _ q => q, fun k q => setB_far _ _ _ _ (fun e => e4 (e ▸ q)), fun k i hi => ⟨i, hi, Nat.le_refl _, fun _ => rfl, fun _ => rfl⟩⟩
  have hsi := h.si
  have hr0 : HR φ T (setB w b (.cells cells tb (0, 0))) ρ H.obs := by
    refine ⟨fun k o ho => ?_, h.hr.out, h.hr.inj, fun k hk => ?_, h.hr.gl.ext hext0⟩
    · have hh := h.hr.ob k o ho
      have key : ∀ i, ρ k = some i → (setB w b (.cells cells tb (0, 0))).heap[i.blk]? = w.heap[i.blk]? ∧ ¬ T i.blk := fun i hi =>
        ⟨setB_far _ _ _ _ (e5 k i hi), (h.hr.has hi).2⟩
      cases o with
      | sl ver sz els =>
        obtain ⟨i, arr', t', q1, q2, q3, q4, q5, q6, q7, q8, q9, q10, q11⟩ := hh
        exact ⟨i, arr', t', q1, q2, q3, q4, (key i q1).1.trans q5, q6, q7, q8, fun k j e c a b => let ⟨u, r1, r2⟩ := q9 k j e c a b; ⟨u, r1, r2.mono hext0⟩, q10, (key i q1).2⟩
      | mp es =>
        obtain ⟨i, ents, t', q1, q2, q3, q5, q6, q7, q8⟩ := hh
        exact ⟨i, ents, t', q1, q2, q3, (key i q1).1.trans q5, q6, fun k p e a b => ⟨(q7 k p e a b).1.mono hext0, (q7 k p e a b).2.mono hext0⟩, (key i q1).2⟩
      | it m n s =>
        obtain ⟨i, mi, seen, q1, q2, q3, q4, q5, q6, q7⟩ := hh
        exact ⟨i, mi, seen, q1, q2, q3, q4, (key i q1).1.trans q5, q6, (key i q1).2⟩
    · simp only [setB, Array.size_setIfInBounds]
      exact h.hr.old k hk
  have hbin := setB_at w b (.cells cells tb (0, 0)) hb
  have hsz : cells.size = z.length := by rw [← hcl]; simp; omega
  refine ⟨⟨fun k => ?_, fun k k' y y' hne hk hk' => ?_⟩, ?_, ?_, h.df, h.nt, ?_⟩
  · rw [get_cons]
    by_cases e : s = k
    · subst e
      simp only [if_true]
      show VR φ _ _ _ true _ _
      rw [e1]
      exact VR.hp (inf := ⟨b, 0, z.length, 1⟩) (by simp [setR]) (Nat.le_refl _) rfl (fun _ => by simp)
    · simp only [e, if_false]
      have hk := h.tr.slot k
      unfold SR at hk ⊢
      split
      · rename_i z' hz'
        rw [hz'] at hk
        obtain ⟨b', arr', t', g1, g2, g3, g4, g5, g6⟩ := hk
        have hne : b' ≠ b := fun q => by
          have := h.tr.apart s k z z' e hz hz'
          rw [e1, g1, q] at this
          exact this rfl
        refine ⟨b', arr', t', g1, (setB_far _ _ _ _ hne).trans g2, g3, g4, fun h' i hi => ?_, g6⟩
        unfold setR at hi
        split at hi
        · cases hi; exact fun q => hne q.symm
        · exact g5 h' i hi
      · rename_i hn'
        split at hk
        · rename_i z' hz'; exact absurd hz' (hn' z')
        · exact hk.mono hext
  · rw [get_cons] at hk hk'
    by_cases e : s = k
    · simp only [e, if_true] at hk; cases hk
    · by_cases e' : s = k'
      · simp only [e', if_true] at hk'; cases hk'
      · simp only [e, e', if_false] at hk hk'
        exact h.tr.apart k k' y y' hne hk hk'
  · refine hr0.pushObj (.sl 0 z.length [x.cells]) ⟨b, 0, z.length, 1⟩ (fun k i hi e => e5 k i hi e) ⟨⟨b, 0, z.length, 1⟩, cells, tb, by simp [setR], rfl, rfl, h0, hbin, by simp [hsz], by simp, by simpa using hn, fun k j e c hk hj => ?_, by rw [← hcl]; simpa using c3, e4⟩
    cases k with
    | succ k => simp at hk
    | zero =>
      simp at hk; subst hk
      have hj' : j < cells.size := by rw [hsz, ← hn]; exact (List.getElem?_eq_some_iff.1 hj).1
      refine ⟨cells[j], by simp [hj'], (c2 j c _ hj ?_).mono hext⟩
      have : u.cells = cells := by rw [← hcl]
      rw [this]; simp [hj']
  · exact {
      size := by simpa [setB, Hp.push] using hsi.size
      os := hsi.os
      tape := hsi.tape
      output := hsi.output
      ext := hsi.ext.trans hext
      tnew := hsi.tnew
      wb := fun k i hl hi => by
        unfold setR at hi
        split at hi
        · cases hi; exact .inl e6
        · exact hsi.wb k i hl hi
      low := fun k hk => by
        have := h.ll
        unfold setR
        rw [if_neg (by have hk' : k < H.lim := hk; omega)]
        exact hsi.low k hk
      frame := fun k hk hn => (setB_far _ _ _ _ (by omega)).trans (hsi.frame k hk hn)
      nf := fun k q => thaws_setB _ _ _ trivial k (hsi.nf k q) }
  · have := h.ll
    simp [Hp.push]; omega

/-- A store into an object. -/
theorem RL.write (hR : RL φ nt T0 w0 ρ0 T ρ tm H a w) {h ver i o : Nat} {ob : Nat × List (List AV)} {e e' : List AV} {p x : AV} {pv u : Value} (hp : VR φ T w ρ true p pv) (hpe : p = .hp h ver i o) (hg : H.get h ver = some ob) (hl : H.lim ≤ h) (hei : ob.2[i]? = some e)
    (hx : VR φ T w ρ true x u) (hsol : x.solid = true) {n : Nat} (hn : x.cells.length = n) (hf : fillC n e o x.cells = some e') {t : TypeId} (hs : sizeT P t = some n) :
    ∃ w' ρ', (Instr.storeAt t pv u).run P w = .ok () w' ∧ RL φ nt T0 w0 ρ0 T ρ' tm (H.put h (.sl ver ob.1 (ob.2.set i e'))) a w' := by
  obtain ⟨hlt, hob, inf, arr, ty, e1, e2, e3, e4, e5, e6, e7, e8, e9, e10, e11⟩ := hR.hr.live hg
  obtain ⟨c1, c2, c3⟩ := hx.cells hsol
  subst hpe
  cases hp with
  | hp g1 g2 g3 g4 =>
    rw [g1] at e1; cases e1
    have ha := g4 e2.symm
    subst ha
    subst g3
    have hel : e.length = ob.1 := e8 e (List.mem_of_getElem? hei)
    have hi : i < ob.2.length := (List.getElem?_eq_some_iff.1 hei).1
    unfold fillC at hf
    split at hf
    · rename_i hfn
      cases hf
      have hsz : (i + 1) * ob.1 ≤ arr.size := by rw [e6]; exact Nat.mul_le_mul_right _ (by omega)
      rw [Nat.add_mul] at hsz
      have hrun := run_storeVar (P := P) (w := w) (t := t) (b := inf.blk) (o := i * inf.sz + o) hs (by omega) e5 (by rw [e3]; omega) c3
      refine ⟨_, setR ρ h inf, hrun, ?_⟩
      generalize hcl : (arr.toList.take (i * inf.sz + o) ++ u.cells.toList ++ arr.toList.drop (i * inf.sz + o + n)).toArray = cells
      have hext := since_setB (lim := H.lim) hR.hr g1 hl (.cells cells ty (0, 0)) inf ⟨rfl, Nat.le_refl _, fun _ => rfl, by omega⟩
      have hsize : cells.size = arr.size := by
        rw [← hcl]
        simp only [List.size_toArray, List.length_append, List.length_take, List.length_drop, Array.length_toList]
        rw [e3]; omega
      have far : ∀ q, (q < i * ob.1 + o ∨ i * ob.1 + o + n ≤ q) → cells[q]? = arr[q]? := fun q hq => by
        rw [← hcl]
        simp only [List.getElem?_toArray]
        rw [e3]
        have hl1 : (arr.toList.take (i * ob.1 + o)).length = i * ob.1 + o := by simp; omega
        rcases hq with hq | hq
        · rw [List.append_assoc, List.getElem?_append_left (by omega), List.getElem?_take, if_pos hq]
          simp
        · rw [List.getElem?_append_right (by simp; omega), List.getElem?_drop]
          simp only [List.length_append, hl1, Array.length_toList]
          rw [show i * ob.1 + o + n + (q - (i * ob.1 + o + u.cells.size)) = q from by omega]
          simp
      have near : ∀ q, q < n → cells[i * ob.1 + o + q]? = u.cells.toList[q]? := fun q hq => by
        rw [← hcl]
        simp only [List.getElem?_toArray]
        rw [e3]
        have hl1 : (arr.toList.take (i * ob.1 + o)).length = i * ob.1 + o := by simp; omega
        rw [List.append_assoc, List.getElem?_append_right (by omega), hl1, List.getElem?_append_left (by simp; omega)]
        congr 1
        omega
      have hr' : HR φ T (setB w inf.blk (.cells cells ty (0, 0))) (setR ρ h inf) (H.obs.set h (.sl ver ob.1 (ob.2.set i (e.take o ++ x.cells ++ e.drop (o + n))))) := by
        refine hR.hr.putObj hlt inf _ hext.ext (fun b hb => .inl hb) (fun b hb => by have := hR.hr.old b hb; simpa [setB] using this) (fun k j hk hj => ?_) ?_
        · have hne : j.blk ≠ inf.blk := fun q => hk (hR.hr.inj k h j inf hj g1 q)
          exact ⟨hne, setB_far _ _ _ _ hne⟩
        · refine ⟨inf, cells, ty, by simp [setR], e2, e3, e4, setB_at _ _ _ (hR.hr.has g1).1, by rw [hsize, e6], by simpa using e7, fun q hq => ?_, fun k j q c hk hj => ?_, fun q hq => ?_, e11⟩
          · rcases List.mem_or_eq_of_mem_set hq with hq | hq
            · exact e8 q hq
            · rw [hq]; simp; omega
          · by_cases hki : i = k
            · subst hki
              rw [List.getElem?_set_self hi] at hk
              cases hk
              have hl2 : (e.take o).length = o := by simp; omega
              rw [List.getElem?_append] at hj
              split at hj
              · rename_i hj1
                rw [List.getElem?_append] at hj
                split at hj
                · rename_i hj2
                  rw [List.getElem?_take] at hj
                  split at hj
                  · obtain ⟨v, v1, v2⟩ := e9 i j e c hei hj
                    exact ⟨v, by rw [far _ (.inl (by omega))]; exact v1, v2.mono hext.ext⟩
                  · cases hj
                · rename_i hj2
                  rw [hl2] at hj hj2
                  have hjn : j - o < n := by have := (List.getElem?_eq_some_iff.1 hj).1; omega
                  have hju : j - o < u.cells.size := by omega
                  refine ⟨u.cells[j - o], ?_, (c2 _ c _ hj (by simp [hju])).mono hext.ext⟩
                  rw [show i * ob.1 + j = i * ob.1 + o + (j - o) from by omega, near _ hjn]
                  simp [hju]
              · rename_i hj1
                simp only [List.length_append, hl2] at hj hj1
                rw [List.getElem?_drop] at hj
                have hjj : o + n + (j - (o + x.cells.length)) = j := by omega
                rw [hjj] at hj
                obtain ⟨v, v1, v2⟩ := e9 i j e c hei hj
                exact ⟨v, by rw [far _ (.inr (by omega))]; exact v1, v2.mono hext.ext⟩
            · rw [List.getElem?_set_ne hki] at hk
              obtain ⟨v, v1, v2⟩ := e9 k j q c hk hj
              have hjs : j < ob.1 := by have := (List.getElem?_eq_some_iff.1 hj).1; rw [e8 q (List.mem_of_getElem? hk)] at this; exact this
              refine ⟨v, ?_, v2.mono hext.ext⟩
              rw [far]
              · exact v1
              · rcases Nat.lt_or_ge k i with hlt' | hge
                · left
                  have : (k + 1) * ob.1 ≤ i * ob.1 := Nat.mul_le_mul_right _ hlt'
                  rw [Nat.add_mul] at this; omega
                · right
                  have : (i + 1) * ob.1 ≤ k * ob.1 := Nat.mul_le_mul_right _ (by omega)
                  rw [Nat.add_mul] at this; omega
          · rw [← hcl] at hq
            simp only [List.mem_append] at hq
            rcases hq with (hq | hq) | hq
            · exact e10 q (List.mem_of_mem_take hq)
            · exact c3 q hq
            · exact e10 q (List.mem_of_mem_drop hq)
      exact hR.step (H' := H.put h (.sl ver ob.1 (ob.2.set i (e.take o ++ x.cells ++ e.drop (o + n))))) hext hr' rfl (by simp [Hp.put])
    · cases hf
end
end Sx
