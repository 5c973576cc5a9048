/-
  Sx: each operation does what the evaluator says: new memory and stores.
-/
import Derived.Test.YtgmppophlalliaaGreatSxOpD
namespace Sx
open Go
set_option linter.unusedSimpArgs false
set_option linter.unusedVariables false

section
variable {P : Program} {φ : Nat → Option Nat} {nt : Nat} {T0 : Nat → Prop} {w0 : World} {ρ0 : Rho} {T : Nat → Prop} {ρ : Rho} {tm : Env} {H : Hp} {a : Act} {w : World}

theorem trParts_spec (fs : Array Field) : ∀ (l : List (Nat × Operand)) (ps : List (Nat × Nat × Opd)), trParts P φ fs l = some ps → ps.length = l.length ∧
    ∀ (k : Nat) (p : Nat × Nat × Opd) (q : Nat × Operand), ps[k]? = some p → l[k]? = some q → ∃ f, fs[q.1]? = some f ∧ sizeT P f.type = some p.2.1 ∧ p.1 = f.offset ∧ trOpd φ q.2 = some p.2.2
  | [], ps, h => by simp [trParts] at h; subst h; exact ⟨rfl, fun k p q hp => by simp at hp⟩
  | (i, x) :: r, ps, h => by
    simp only [trParts] at h
    cases h1 : fs[i]? with
    | none => rw [h1] at h; cases h
    | some f =>
      rw [h1] at h
      simp only [Option.bind_some] at h
      cases h2 : sizeT P f.type with
      | none => rw [h2] at h; cases h
      | some n =>
        rw [h2] at h
        simp only [Option.bind_some] at h
        cases h3 : trOpd φ x with
        | none => rw [h3] at h; cases h
        | some y =>
          rw [h3] at h
          simp only [Option.bind_some] at h
          cases h4 : trParts P φ fs r with
          | none => rw [h4] at h; cases h
          | some q' =>
            rw [h4] at h
            simp at h; subst h
            obtain ⟨l1, l2⟩ := trParts_spec fs r q' h4
            refine ⟨by simp [l1], fun k p q hp hq => ?_⟩
            cases k with
            | zero => simp at hp hq; subst hp; subst hq; exact ⟨f, h1, h2, rfl, h3⟩
            | succ k => exact l2 k p q (by simpa using hp) (by simpa using hq)

theorem trArr_spec (sz : Nat) : ∀ (l : List (Nat × Operand)) (ps : List (Nat × Nat × Opd)), trArr φ sz l = some ps → ps.length = l.length ∧
    ∀ (k : Nat) (p : Nat × Nat × Opd) (q : Nat × Operand), ps[k]? = some p → l[k]? = some q → p.1 = q.1 * sz ∧ p.2.1 = sz ∧ trOpd φ q.2 = some p.2.2
  | [], ps, h => by simp [trArr] at h; subst h; exact ⟨rfl, fun k p q hp => by simp at hp⟩
  | (i, x) :: r, ps, h => by
    simp only [trArr] at h
    cases h3 : trOpd φ x with
    | none => rw [h3] at h; cases h
    | some y =>
      rw [h3] at h
      simp only [Option.bind_some] at h
      cases h4 : trArr φ sz r with
      | none => rw [h4] at h; cases h
      | some q' =>
        rw [h4] at h
        simp at h; subst h
        obtain ⟨l1, l2⟩ := trArr_spec sz r q' h4
        refine ⟨by simp [l1], fun k p q hp hq => ?_⟩
        cases k with
        | zero => simp at hp hq; subst hp; subst hq; exact ⟨rfl, rfl, h3⟩
        | succ k => exact l2 k p q (by simpa using hp) (by simpa using hq)

theorem run_mapM {α β : Type} (f : α → Sem β) (g : α → β) : ∀ (l : List α), (∀ x ∈ l, (f x).run P w = .ok (g x) w) → (l.mapM f).run P w = .ok (l.map g) w
  | [], _ => rfl
  | x :: l, h => by
    rw [List.mapM_cons]
    simp [h x (by simp), run_mapM f g l (fun y hy => h y (by simp [hy]))]

theorem run_mapMA {α β : Type} (f : α → Sem β) (g : α → β) (l : Array α) (h : ∀ x ∈ l.toList, (f x).run P w = .ok (g x) w) : (l.mapM f).run P w = .ok (l.map g) w := by
  rw [← Array.toArray_toList (xs := l), List.mapM_toArray]
  simp [run_mapM f g l.toList h]
  apply Array.ext'
  simp

theorem zero_CR {v : Value} (h : ∀ u ∈ v.cells.toList, u.oneCell' = true) : CR φ T w ρ (v.cells.toList.map .v) v.cells.toList :=
  ⟨by simp, fun i c u hc hu => by rw [List.getElem?_map, hu] at hc; simp at hc; subst hc; exact .v, h⟩

theorem CR.agg {z : List AV} {us : Array Value} (h : CR φ T w ρ z us.toList) : VR φ T w ρ true (.agg z) (.agg us) := VR.agg (us := us.toList) h.1 h.2.1 h.2.2

theorem op_buildS {t : TypeId} {fs : Array Field} {z cs : List AV} {parts : Array (Nat × Operand)} {ps : List (Nat × Nat × Opd)} (hR : RL φ nt T0 w0 ρ0 T ρ tm H a w) (hz : zeroT P t = some z) (hu : P.underlying t = some (.struct fs))
    (hall : fs.toList.all (fun f => (sizeT P f.type).isSome) = true) (hp : trParts P φ fs parts.toList = some ps) (he : evBuild tm z ps = some cs) :
    ∃ r, (Instr.build t (parts.map fun (i, x) => (i, a.eval x))).run P w = .ok r w ∧ VR φ T w ρ true (.agg cs) r := by
  obtain ⟨v, hv, rfl, h1⟩ := run_zeroT (w := w) hz
  obtain ⟨l1, l2⟩ := trParts_spec fs _ _ hp
  have hm : (fs.mapM fun f => do pure (f.offset, ← Go.sizeOf f.type) : Sem (Array (Nat × Nat))).run P w = .ok (fs.map fun f => (f.offset, (sizeT P f.type).getD 0)) w := by
    refine run_mapMA _ _ fs fun f hf => ?_
    rw [List.all_eq_true] at hall
    have := hall f hf
    cases hs : sizeT P f.type with
    | none => rw [hs] at this; simp at this
    | some n => simp [run_sizeT hs]
  obtain ⟨cells, f1, f2⟩ := run_fill (φ := φ) (T := T) (w := w) (ρ := ρ) (w0 := w0) (place := fun i => (fs.map fun f => (f.offset, (sizeT P f.type).getD 0))[i]?) ps ((parts.map fun (i, x) => (i, a.eval x)).toList) _ cs v.cells he (zero_CR h1) (by simp [l1]) (fun i p q hpi hq => by
    simp only [Array.toList_map, List.getElem?_map] at hq
    cases hh : parts.toList[i]? with
    | none => rw [hh] at hq; cases hq
    | some r =>
      rw [hh] at hq
      simp at hq; subst hq
      obtain ⟨f, g1, g2, g3, g4⟩ := l2 i p r hpi hh
      refine ⟨?_, hR.opd g4⟩
      simp [g1, g2, g3])
  refine ⟨.agg cells, ?_, f2.agg⟩
  simp only [Instr.build, Sem.run_bind, hv, Result.andThen_ok, run_und hu, hm, f1]
  rfl

theorem op_buildA {t e : TypeId} {len n : Nat} {z cs : List AV} {parts : Array (Nat × Operand)} {ps : List (Nat × Nat × Opd)} (hR : RL φ nt T0 w0 ρ0 T ρ tm H a w) (hz : zeroT P t = some z) (hu : P.underlying t = some (.array len e))
    (hs : sizeT P e = some n) (hp : trArr φ n parts.toList = some ps) (he : evBuild tm z ps = some cs) :
    ∃ r, (Instr.build t (parts.map fun (i, x) => (i, a.eval x))).run P w = .ok r w ∧ VR φ T w ρ true (.agg cs) r := by
  obtain ⟨v, hv, rfl, h1⟩ := run_zeroT (w := w) hz
  obtain ⟨l1, l2⟩ := trArr_spec n _ _ hp
  obtain ⟨cells, f1, f2⟩ := run_fill (φ := φ) (T := T) (w := w) (ρ := ρ) (w0 := w0) (place := fun i => some (i * n, n)) ps ((parts.map fun (i, x) => (i, a.eval x)).toList) _ cs v.cells he (zero_CR h1) (by simp [l1]) (fun i p q hpi hq => by
    simp only [Array.toList_map, List.getElem?_map] at hq
    cases hh : parts.toList[i]? with
    | none => rw [hh] at hq; cases hq
    | some r =>
      rw [hh] at hq
      simp at hq; subst hq
      obtain ⟨g1, g2, g3⟩ := l2 i p r hpi hh
      refine ⟨?_, hR.opd g3⟩
      simp [g1, g2])
  refine ⟨.agg cells, ?_, f2.agg⟩
  simp only [Instr.build, Sem.run_bind, hv, Result.andThen_ok, run_und hu, run_sizeT hs, f1]
  rfl

/-! ### New memory -/

theorem SR.ptr_ne {B : Nat} {z : List AV} {u : Value} {b : Nat} (h : SR φ B T w ρ (.un z) u) (hb : w.heap.size ≤ b) : u ≠ .pointer (some ⟨b, 0, none⟩) := by
  obtain ⟨b', arr, t, e1, e2, _⟩ := h
  rw [e1]
  intro e
  injection e with e
  injection e with e
  injection e with e
  have := (Array.getElem?_eq_some_iff.1 e2).1
  omega

/-- A fresh variable. -/
theorem RL.alloc (h : RL φ nt T0 w0 ρ0 T ρ tm H a w) {dst : Option Nat} (hd : dst.all (fun d => d < nt) = true) {z : List AV} {cells : Array Value} {t : TypeId} (hz : cells.size = z.length) :
    RL φ nt T0 w0 ρ0 T ρ (putD dst (.un z) tm) H (a.put dst (.pointer (some ⟨w.heap.size, 0, none⟩))) (pushW w (.cells cells t)) := by
  have s := since_push (lim := H.lim) h.hr (.cells cells t) T (fun _ q => q) (fun _ q => .inl q)
  have r := h.step s (h.hr.pushOld (.cells cells t) T (fun _ q => q) (fun _ q => .inl q)) rfl (Nat.le_refl _)
  refine { r with tr := ?_, df := by rw [put_defers]; exact r.df, nt := by rw [put_size]; exact r.nt }
  cases dst with
  | none => exact r.tr
  | some d =>
    refine TR.putUn r.tr (by have := h.nt; simp at hd; omega) ⟨w.heap.size, cells, t, rfl, push_new _ _, hz, fun q => ?_, fun k i hi e => ?_, h.si.size⟩ (fun s z' hs => ?_)
    · have := h.hr.old _ q; omega
    · have := (h.hr.has hi).1; omega
    · have := h.tr.slot s
      rw [hs] at this
      exact this.ptr_ne (Nat.le_refl _)

/-- A pointer to memory that is only read. -/
theorem RL.box (h : RL φ nt T0 w0 ρ0 T ρ tm H a w) {dst : Option Nat} (hd : dst.all (fun d => d < nt) = true) {cs : List AV} {cells : Array Value} {t : TypeId} (hc : CR φ T w ρ cs cells.toList) :
    ∃ T', RL φ nt T0 w0 ρ0 T' ρ (putD dst (.rp cs) tm) H (a.put dst (.pointer (some ⟨w.heap.size, 0, none⟩))) (pushW w (.cells cells t)) := by
  refine ⟨fun b => T b ∨ b = w.heap.size, ?_⟩
  have s := since_push (lim := H.lim) h.hr (.cells cells t) (fun b => T b ∨ b = w.heap.size) (fun _ q => .inl q) (fun _ q => q)
  have r := h.step s (h.hr.pushOld (.cells cells t) _ (fun _ q => .inl q) (fun _ q => q)) rfl (Nat.le_refl _)
  refine r.val hd (VR.rp (us := cells.toList) (.inr rfl) hc.1 (fun j u hu => ?_) hc.2.2 (fun i c u a b => (hc.2.1 i c u a b).mono s.ext))
  rw [add_mk]
  simp [World.cell?, push_new]
  simpa using hu

/-- A new object. -/
theorem RL.newObj (h : RL φ nt T0 w0 ρ0 T ρ tm H a w) {dst : Option Nat} (hd : dst.all (fun d => d < nt) = true) {els : List (List AV)} {sz cap : Nat} {cells : Array Value} {t : TypeId} (h0 : 0 < sz) (hcap : cells.size = cap * sz) (hle : els.length ≤ cap)
    (hel : ∀ e ∈ els, e.length = sz) (hv : ∀ (k j : Nat) (e : List AV) (c : AV), els[k]? = some e → e[j]? = some c → ∃ u, cells[k * sz + j]? = some u ∧ VR φ T w ρ true c u) (h1 : ∀ u ∈ cells.toList, u.oneCell' = true)
    {x : AV} {v : Value} (hx : ∀ inf : Info, inf.blk = w.heap.size → inf.ver = 0 → inf.sz = sz → inf.cap = cap → VR φ T (pushW w (.cells cells t)) (setR ρ H.obs.length inf) true x v) :
    RL φ nt T0 w0 ρ0 T (setR ρ H.obs.length ⟨w.heap.size, 0, sz, cap⟩) (putD dst x tm) (H.push (.sl 0 sz els)) (a.put dst v) (pushW w (.cells cells t)) := by
  have s := since_push (lim := H.lim) h.hr (.cells cells t) T (fun _ q => q) (fun _ q => .inl q)
  have hn : ρ H.obs.length = none := h.hr.out _ (Nat.le_refl _)
  have s' := since_setR s H.obs.length ⟨w.heap.size, 0, sz, cap⟩ h.ll (Nat.le_refl _) hn
  have hr' := h.hr.pushOld (.cells cells t) T (fun _ q => q) (fun _ q => .inl q)
  have hr2 : HR φ T (pushW w (.cells cells t)) (setR ρ H.obs.length ⟨w.heap.size, 0, sz, cap⟩) (H.push (.sl 0 sz els)).obs := by
    refine hr'.pushObj (.sl 0 sz els) ⟨w.heap.size, 0, sz, cap⟩ (fun k i hi e => ?_) ⟨⟨w.heap.size, 0, sz, cap⟩, cells, t, by simp [setR], rfl, rfl, h0, push_new _ _, hcap, hle, hel, fun k j e c a b => ?_, h1, fun q => ?_⟩
    · have := (h.hr.has hi).1; simp only at e; omega
    · obtain ⟨u, q1, q2⟩ := hv k j e c a b
      exact ⟨u, q1, q2.mono s'.ext⟩
    · have := h.hr.old _ q; simp only at this; omega
  have r := h.step s' hr2 rfl (by simp [Hp.push])
  exact r.val hd (hx _ rfl rfl rfl rfl)
end
end Sx
