/-
  Sx: each operation does what the evaluator says: values and reads.
-/
import Derived.Test.YtgmppophlalliaaGreatSxStep
namespace Sx
open Go
set_option linter.unusedSimpArgs false
set_option linter.unusedVariables false

/-- What a call of this function has come to. -/
structure RL (φ : Nat → Option Nat) (nt : Nat) (T0 : Nat → Prop) (w0 : World) (ρ0 : Rho) (T : Nat → Prop) (ρ : Rho) (tm : Env) (H : Hp) (a : Act) (w : World) : Prop where
  tr : TR φ w0.heap.size T w ρ tm a.tmps
  hr : HR φ T w ρ H.obs
  si : Since H.lim T0 w0 ρ0 T w ρ
  df : a.defers = []
  nt : a.tmps.size = nt
  ll : H.lim ≤ H.obs.length

section
variable {P : Program} {φ : Nat → Option Nat} {nt : Nat} {T0 : Nat → Prop} {w0 : World} {ρ0 : Rho} {T : Nat → Prop} {ρ : Rho} {tm : Env} {H : Hp} {a : Act} {w : World}

theorem put_tmps (a : Act) (d : Nat) (v : Value) : (a.put (some d) v).tmps = a.tmps.setIfInBounds d v := rfl
theorem put_defers (a : Act) (d : Option Nat) (v : Value) : (a.put d v).defers = a.defers := by cases d <;> rfl
theorem put_size (a : Act) (d : Option Nat) (v : Value) : (a.put d v).tmps.size = a.tmps.size := by cases d <;> simp [Act.put]

theorem RL.val (h : RL φ nt T0 w0 ρ0 T ρ tm H a w) {dst : Option Nat} (hd : dst.all (fun d => d < nt) = true) {x : AV} {v : Value} (hx : VR φ T w ρ true x v) :
    RL φ nt T0 w0 ρ0 T ρ (putD dst x tm) H (a.put dst v) w where
  tr := by
    cases dst with
    | none => exact h.tr
    | some d => exact h.tr.put (by have := h.nt; simp at hd; omega) hx
  hr := h.hr
  si := h.si
  df := by rw [put_defers]; exact h.df
  nt := by rw [put_size]; exact h.nt
  ll := h.ll

theorem RL.step (h : RL φ nt T0 w0 ρ0 T ρ tm H a w) {T' : Nat → Prop} {w' : World} {ρ' : Rho} {H' : Hp} (s : Since H.lim T w ρ T' w' ρ') (hr : HR φ T' w' ρ' H'.obs) (hl : H'.lim = H.lim) (hn : H.obs.length ≤ H'.obs.length) :
    RL φ nt T0 w0 ρ0 T' ρ' tm H' a w' where
  tr := h.tr.since s
  hr := hr
  si := by rw [hl]; exact h.si.trans s
  df := h.df
  nt := h.nt
  ll := by rw [hl]; exact Nat.le_trans h.ll hn

theorem RL.opd (h : RL φ nt T0 w0 ρ0 T ρ tm H a w) {x : Operand} {y : Opd} (hy : trOpd φ x = some y) : SR φ w0.heap.size T w ρ (ev tm y) (a.eval x) := by
  cases x with
  | tmp t => simp [trOpd] at hy; subst hy; exact h.tr.slot t
  | const v => simp [trOpd] at hy; subst hy; exact VR.v
  | global g => simp [trOpd] at hy
  | func f =>
    simp only [trOpd] at hy
    cases hf : φ f with
    | none => rw [hf] at hy; cases hy
    | some g =>
      rw [hf] at hy
      simp at hy; subst hy
      exact VR.fn (us := []) hf rfl (fun i c u hc => by simp at hc)

theorem SR.vr {B : Nat} {x : AV} {u : Value} (h : SR φ B T w ρ x u) (hk : x.known = true) : VR φ T w ρ true x u := by
  unfold SR at h
  split at h
  · simp [AV.known] at hk
  · exact h

theorem SR.vr' {B : Nat} {x : AV} {u : Value} (h : SR φ B T w ρ x u) (hk : ∀ z, x ≠ .un z) : VR φ T w ρ true x u := h.vr (by cases x <;> simp_all [AV.known])

theorem solid_known {x : AV} (h : x.solid = true) : x.known = true := by cases x <;> simp_all [AV.solid, AV.known]

/-! ### Types -/

theorem run_typeInfo' {t : TypeId} {i : TypeInfo} (h : P.info? t = some i) : (typeInfo t).run P w = .ok i w := by simp [typeInfo, h]
theorem run_sizeT {t : TypeId} {n : Nat} (h : sizeT P t = some n) : (Go.sizeOf t).run P w = .ok n w := by
  unfold sizeT at h
  cases hi : P.info? t with
  | none => rw [hi] at h; cases h
  | some i => rw [hi] at h; simp at h; subst h; simp [Go.sizeOf, run_typeInfo' hi]
theorem run_und {t : TypeId} {d : TypeDesc} (h : P.underlying t = some d) : (underlying t).run P w = .ok d w := by simp [underlying, h]
theorem oneC_eq (x : Value) : oneC x = x.oneCell' := by cases x <;> rfl

theorem run_zeroT {t : TypeId} {z : List AV} (h : zeroT P t = some z) : ∃ v, (zeroValue t).run P w = .ok v w ∧ z = v.cells.toList.map .v ∧ ∀ u ∈ v.cells.toList, u.oneCell' = true := by
  unfold zeroT at h
  cases hi : P.info? t with
  | none => rw [hi] at h; cases h
  | some i =>
    rw [hi] at h
    cases hz : i.zero with
    | none => simp [hz] at h
    | some v =>
      simp only [hz, Option.bind_some] at h
      split at h
      · rename_i hs
        cases h
        refine ⟨v, by simp [zeroValue, run_typeInfo' hi, hz], rfl, fun u hu => ?_⟩
        rw [List.all_eq_true] at hs
        have := hs (.v u) (List.mem_map_of_mem hu)
        rw [← oneC_eq]
        exact this
      · cases h

theorem kind_none {t : TypeId} (h : kindT P t = some none) : (isAgg t).run P w = .ok false w := by
  unfold kindT at h
  cases hu : P.underlying t with
  | none => rw [hu] at h; cases h
  | some d => rw [hu] at h; cases d <;> simp [isAgg, run_und hu] at h ⊢

theorem kind_some {t : TypeId} {n : Nat} (h : kindT P t = some (some n)) : (isAgg t).run P w = .ok true w ∧ (Go.sizeOf t).run P w = .ok n w := by
  unfold kindT at h
  cases hu : P.underlying t with
  | none => rw [hu] at h; cases h
  | some d =>
    rw [hu] at h
    cases d <;> simp [isAgg, run_und hu] at h ⊢ <;> exact run_sizeT (by
      cases hs : sizeT P t with
      | none => rw [hs] at h; cases h
      | some m => rw [hs] at h; simp at h; rw [h])

theorem run_loadVar_k {t : TypeId} {k : Option Nat} {cs : List AV} {us : List Value} {x : AV} {ad : Addr} (hk : kindT P t = some k) (hx : takeK k cs = some x) (hl : cs.length = us.length)
    (hc : ∀ j u, us[j]? = some u → w.cell? (ad.add j) = some u) (hv : ∀ (i : Nat) (c : AV) (u : Value), cs[i]? = some c → us[i]? = some u → VR φ T w ρ true c u) (h1 : ∀ u ∈ us, u.oneCell' = true) :
    ∃ v, (loadVar t ad).run P w = .ok v w ∧ VR φ T w ρ true x v := by
  cases k with
  | none =>
    cases cs with
    | nil => simp [takeK] at hx
    | cons c cs =>
      cases us with
      | nil => simp at hl
      | cons u us =>
        simp [takeK] at hx
        subst hx
        refine ⟨u, ?_, hv 0 _ _ rfl rfl⟩
        have := hc 0 u rfl
        have h0 : ad.add 0 = ad := by unfold Addr.add; simp
        rw [h0] at this
        simp [loadVar, kind_none hk, this]
  | some n =>
    obtain ⟨ha, hs⟩ := kind_some (w := w) hk
    simp only [takeK] at hx
    split at hx
    · rename_i hn
      cases hx
      have hlen : (us.take n).length = n := by simp; omega
      have := run_loadCells_list (P := P) w ad (us.take n) (fun j u hu => hc j u (by rw [List.getElem?_take] at hu; split at hu; exact hu; cases hu))
      rw [hlen] at this
      refine ⟨.agg (us.take n).toArray, by simp [loadVar, ha, hs, this], VR.agg (by simp [hl]) (fun i c u h1 h2 => ?_) (fun u hu => h1 u (List.mem_of_mem_take hu))⟩
      rw [List.getElem?_take] at h1 h2
      split at h1
      · rename_i hi; rw [if_pos hi] at h2; exact hv i c u h1 h2
      · cases h1
    · cases hx

/-! ### Reads -/

/-- What a pointer shows. -/
theorem read_at (hr : HR φ T w ρ H.obs) {k : Option Nat} {p x : AV} {u : Value} (hp : VR φ T w ρ true p u) (hx : evLoad H k p = some x) {t : TypeId} (hk : kindT P t = some k) :
    ∃ ad, u = .pointer (some ad) ∧ ∃ v, (loadVar t ad).run P w = .ok v w ∧ VR φ T w ρ true x v := by
  cases hp with
  | U => simp [evLoad] at hx
  | v => simp [evLoad] at hx
  | agg => simp [evLoad] at hx
  | tup => simp [evLoad] at hx
  | ro0 => simp [evLoad] at hx
  | ro => simp [evLoad] at hx
  | fn => simp [evLoad] at hx
  | bm => simp [evLoad] at hx
  | sl => simp [evLoad] at hx
  | mp => simp [evLoad] at hx
  | it => simp [evLoad] at hx
  | rp h1 h2 h3 h4 h5 => exact ⟨_, rfl, run_loadVar_k hk (by simpa [evLoad] using hx) h2 h3 h5 h4⟩
  | hp h1 h2 h3 h4 =>
    rename_i h ver i o a inf
    simp only [evLoad] at hx
    cases hg : H.get h ver with
    | none => rw [hg] at hx; cases hx
    | some ob =>
      rw [hg] at hx
      simp only [Option.bind_some] at hx
      cases he : ob.2[i]? with
      | none => rw [he] at hx; cases hx
      | some e =>
        rw [he] at hx
        simp only [Option.bind_some] at hx
        obtain ⟨_, _, inf', arr, ty, e1, e2, e3, e4, e5, e6, e7, e8, e9, e10, e11⟩ := hr.live hg
        rw [h1] at e1; cases e1
        have ha := h4 e2.symm
        subst ha
        refine ⟨_, h3, ?_⟩
        have hel : e.length = ob.1 := e8 e (List.mem_of_getElem? he)
        have hi : i < ob.2.length := (List.getElem?_eq_some_iff.1 he).1
        have hsz : (i + 1) * ob.1 ≤ arr.size := by rw [e6]; exact Nat.mul_le_mul_right _ (by omega)
        have hsz' : i * ob.1 + ob.1 ≤ arr.size := by rw [Nat.add_mul] at hsz; omega
        refine run_loadVar_k (us := ((arr.toList.drop (i * inf.sz + o)).take (ob.1 - o))) hk hx ?_ ?_ ?_ ?_
        · rw [e3]; simp; omega
        · intro j u hu
          rw [List.getElem?_take] at hu
          split at hu
          · rw [List.getElem?_drop] at hu
            rw [add_mk]
            simp [World.cell?, e5]
            simpa using hu
          · cases hu
        · intro j c u hc hu
          rw [List.getElem?_drop] at hc
          obtain ⟨u', q1, q2⟩ := e9 i (o + j) e c he hc
          rw [List.getElem?_take] at hu
          split at hu
          · rw [List.getElem?_drop] at hu
            rw [e3] at hu
            simp at hu
            rw [show i * ob.1 + o + j = i * ob.1 + (o + j) from by omega, q1] at hu
            cases hu
            exact q2
          · cases hu
        · intro u hu
          exact e10 u (List.mem_of_mem_drop (List.mem_of_mem_take hu))
end
end Sx
