/-
  Sx: each operation does what the evaluator says: equality, parts of slices and arrays, built values.
-/
import Derived.Test.YtgmppophlalliaaGreatSxOpB
import Derived.ChangeKeysEq
namespace Sx
open Go
set_option linter.unusedSimpArgs false
set_option linter.unusedVariables false

section
variable {P : Program} {φ : Nat → Option Nat} {nt : Nat} {T0 : Nat → Prop} {w0 : World} {ρ0 : Rho} {T : Nat → Prop} {ρ : Rho} {tm : Env} {H : Hp} {a : Act} {w : World}

theorem plain_part {t : TypeId} {k : Nat} (ht : plainT P t = some k) (us : Array Value) (i : Nat) (u : Value) (hu : us[i]? = some u) : (part t us i).run P w = .ok u w := by
  unfold plainT at ht
  split at ht
  · rename_i h; simp [part, isAgg, run_und h, hu]
  · rename_i h; simp [part, isAgg, run_und h, hu]
  · rename_i h; simp [part, isAgg, run_und h, hu]
  · cases ht

theorem plain_eq {t : TypeId} {k : Nat} (ht : plainT P t = some k) {x y : AV} {u v : Value} {b : Bool} (d : Nat) (hx : VR φ T w ρ true x u) (hy : VR φ T w ρ true y v) (he : eqCell k x y = some b) :
    (Op.equalIn (d + 1) t u v).run P w = .ok b w := by
  unfold eqCell at he
  split at he
  · cases hx; cases hy
    split at he
    · rename_i hk; cases he; subst hk
      unfold plainT at ht
      split at ht <;> cases ht
      rename_i h; exact run_equalIn_int w d t _ _ _ _ h
    · cases he
  · cases hx; cases hy; cases he
    unfold plainT at ht
    split at ht <;> cases ht
    rename_i h; exact run_equalIn_bool w d t _ _ h
  · cases hx; cases hy; cases he
    unfold plainT at ht
    split at ht <;> cases ht
    rename_i h
    rw [run_equalIn_string w d t _ _ h, ← beq_toListBytes]
  · cases he

theorem eq_fields (d : Nat) (xs ys : Array Value) : ∀ (fs : List Field) (i : Nat) (ks : List Nat) (cs ds : List AV) (b : Bool), flatFields P fs i = some ks → eqCells ks cs ds = some b →
    (∀ (j : Nat) (c : AV), cs[j]? = some c → ∃ u, xs[i + j]? = some u ∧ VR φ T w ρ true c u) → (∀ (j : Nat) (c : AV), ds[j]? = some c → ∃ u, ys[i + j]? = some u ∧ VR φ T w ρ true c u) →
    (Op.eqFields (d + 1) xs ys fs).run P w = .ok b w
  | [], i, ks, cs, ds, b, hf, he, hx, hy => by
    simp [flatFields] at hf; subst hf
    cases cs <;> cases ds <;> simp [eqCells] at he
    subst he; rfl
  | f :: fs, i, ks, cs, ds, b, hf, he, hx, hy => by
    simp only [flatFields] at hf
    split at hf
    · rename_i hn
      cases hp : plainT P f.type with
      | none => rw [hp] at hf; cases hf
      | some k =>
        rw [hp] at hf
        cases hq : flatFields P fs (i + 1) with
        | none => rw [hq] at hf; cases hf
        | some l =>
          rw [hq] at hf
          simp at hf; subst hf
          cases cs with
          | nil => cases ds <;> simp [eqCells] at he
          | cons c cs =>
            cases ds with
            | nil => simp [eqCells] at he
            | cons c' ds =>
              simp only [eqCells] at he
              cases h1 : eqCell k c c' with
              | none => rw [h1] at he; cases he
              | some r =>
                rw [h1] at he
                cases h2 : eqCells l cs ds with
                | none => rw [h2] at he; cases he
                | some r' =>
                  rw [h2] at he
                  simp at he; subst he
                  obtain ⟨u, q1, q2⟩ := hx 0 c rfl
                  obtain ⟨v, q3, q4⟩ := hy 0 c' rfl
                  have ih := eq_fields d xs ys fs (i + 1) l cs ds r' hq h2 (fun j c h => by have := hx (j + 1) c (by simpa using h); rwa [show i + (j + 1) = i + 1 + j from by omega] at this)
                    (fun j c h => by have := hy (j + 1) c (by simpa using h); rwa [show i + (j + 1) = i + 1 + j from by omega] at this)
                  simp only [Op.eqFields, hn.1, ne_eq, not_false_eq_true, if_true, Sem.run_bind, hn.2, plain_part hp xs i u (by simpa using q1), plain_part hp ys i v (by simpa using q3), Result.andThen_ok, plain_eq hp d q2 q4 h1]
                  cases r
                  · simp
                  · simpa using ih
    · cases hf

theorem eq_items (d : Nat) (xs ys : Array Value) {e : TypeId} {k : Nat} (hp : plainT P e = some k) : ∀ (n i : Nat) (cs ds : List AV) (b : Bool), eqCells (List.replicate n k) cs ds = some b →
    (∀ (j : Nat) (c : AV), cs[j]? = some c → ∃ u, xs[i + j]? = some u ∧ VR φ T w ρ true c u) → (∀ (j : Nat) (c : AV), ds[j]? = some c → ∃ u, ys[i + j]? = some u ∧ VR φ T w ρ true c u) →
    (Op.eqItems (d + 1) e 1 xs ys (List.range' i n)).run P w = .ok b w
  | 0, i, cs, ds, b, he, hx, hy => by
    cases cs <;> cases ds <;> simp [eqCells] at he
    subst he; rfl
  | n + 1, i, cs, ds, b, he, hx, hy => by
    rw [List.replicate_succ] at he
    cases cs with
    | nil => cases ds <;> simp [eqCells] at he
    | cons c cs =>
      cases ds with
      | nil => simp [eqCells] at he
      | cons c' ds =>
        simp only [eqCells] at he
        cases h1 : eqCell k c c' with
        | none => rw [h1] at he; cases he
        | some r =>
          rw [h1] at he
          cases h2 : eqCells (List.replicate n k) cs ds with
          | none => rw [h2] at he; cases he
          | some r' =>
            rw [h2] at he
            simp at he; subst he
            obtain ⟨u, q1, q2⟩ := hx 0 c rfl
            obtain ⟨v, q3, q4⟩ := hy 0 c' rfl
            have ih := eq_items d xs ys hp n (i + 1) cs ds r' h2 (fun j c h => by have := hx (j + 1) c (by simpa using h); rwa [show i + (j + 1) = i + 1 + j from by omega] at this)
              (fun j c h => by have := hy (j + 1) c (by simpa using h); rwa [show i + (j + 1) = i + 1 + j from by omega] at this)
            rw [List.range'_succ]
            simp only [Op.eqItems, Sem.run_bind, Nat.mul_one, plain_part hp xs i u (by simpa using q1), plain_part hp ys i v (by simpa using q3), Result.andThen_ok, plain_eq hp d q2 q4 h1]
            cases r
            · simp
            · simpa using ih

theorem vr_at {cs : List AV} {us : List Value} (hl : cs.length = us.length) (hv : ∀ (i : Nat) (c : AV) (u : Value), cs[i]? = some c → us[i]? = some u → VR φ T w ρ true c u) (j : Nat) (c : AV) (h : cs[j]? = some c) :
    ∃ u, us.toArray[0 + j]? = some u ∧ VR φ T w ρ true c u := by
  have hj : j < us.length := by rw [← hl]; exact (List.getElem?_eq_some_iff.1 h).1
  exact ⟨us[j], by simp [hj], hv j c _ h (List.getElem?_eq_getElem hj)⟩

theorem flat_guard {t : TypeId} {ks : List Nat} (h : flatT P t = some ks) : P.eqGuardType P.depth t = false := by
  unfold flatT at h
  split at h
  · split at h
    · rename_i h2; exact h2.2
    · cases h
  · split at h
    · rename_i h2; exact h2.2
    · cases h
  · cases h

theorem flat_eq {t : TypeId} {ks : List Nat} (ht : flatT P t = some ks) {xs ys : List AV} {us vs : List Value} {b : Bool} (he : eqCells ks xs ys = some b)
    (hl : xs.length = us.length) (hv : ∀ (i : Nat) (c : AV) (u : Value), xs[i]? = some c → us[i]? = some u → VR φ T w ρ true c u)
    (hl' : ys.length = vs.length) (hv' : ∀ (i : Nat) (c : AV) (u : Value), ys[i]? = some c → vs[i]? = some u → VR φ T w ρ true c u) :
    (Op.equalIn 10000 t (.agg us.toArray) (.agg vs.toArray)).run P w = .ok b w := by
  unfold flatT at ht
  split at ht
  · rename_i fs hu
    split at ht
    · rename_i h2
      have hf : P.fieldsOf t = fs := by simp [Program.fieldsOf, hu]
      rw [show 10000 = 9999 + 1 from rfl, run_equalIn_struct w 9999 t _ _ (by rw [hf]; exact hu) h2.1, hf]
      exact eq_fields 9998 _ _ _ 0 ks xs ys b ht he (vr_at hl hv) (vr_at hl' hv')
    · cases ht
  · rename_i n e hu
    split at ht
    · rename_i h2
      cases hp : plainT P e with
      | none => rw [hp] at ht; cases ht
      | some k =>
        rw [hp] at ht
        simp at ht; subst ht
        unfold sizeT at h2
        cases hi : P.info? e with
        | none => rw [hi] at h2; simp at h2
        | some i =>
          rw [hi] at h2
          simp at h2
          have hc : P.cellsOf e = 1 := by simp [Program.cellsOf, hi, h2.1]
          rw [show 10000 = 9999 + 1 from rfl, run_equalIn_array w 9999 _ _ hu hi, hc, List.range_eq_range']
          exact eq_items 9998 _ _ hp n 0 xs ys b he (vr_at hl hv) (vr_at hl' hv')
    · cases ht
  · cases ht

theorem op_eqn {op : BinOp} {t : TypeId} {xo yo : Operand} {ks : List Nat} {x y : AV} {u v : Value} {b : Bool} (hop : op = .eql ∨ op = .neq) (hx : VR φ T w ρ true x u) (hy : VR φ T w ρ true y v) (he : evEq ks x y = some b)
    (ht : flatT P t = some ks) :
    ∃ r, (do eqGuard op t xo yo u v; binOp op t u v : Sem Value).run P w = .ok r w ∧ VR φ T w ρ true (.b (if (isNeq op) then !b else b)) r := by
  unfold evEq at he
  split at he
  · cases hx with
    | agg a1 a2 a3 =>
      rename_i us
      cases hy with
      | agg b1 b2 b3 =>
        rename_i vs
        have hg := run_eqGuard_agg (P := P) w op t xo yo us.toArray vs.toArray (flat_guard ht)
        have hq := flat_eq ht he a1 a2 b1 b2
        rcases hop with rfl | rfl
        · exact ⟨_, by simp only [Sem.run_bind, hg, Result.andThen_ok, run_eql_struct, hq]; rfl, .v⟩
        · exact ⟨_, by simp only [Sem.run_bind, hg, Result.andThen_ok, run_neq_struct, hq]; rfl, .v⟩
  · cases he

theorem op_eqb {op : BinOp} {t : TypeId} {xo yo : Operand} {x y : AV} {u v : Value} {b : Bool} (hop : op = .eql ∨ op = .neq) (hx : VR φ T w ρ true x u) (hy : VR φ T w ρ true y v) (he : eqCell 1 x y = some b)
    (ht : P.underlying t = some .bool) :
    ∃ r, (do eqGuard op t xo yo u v; binOp op t u v : Sem Value).run P w = .ok r w ∧ VR φ T w ρ true (.b (if (isNeq op) then !b else b)) r := by
  unfold eqCell at he
  split at he
  · contradiction
  · cases hx; cases hy; cases he
    have hg : ∀ c d : Bool, (eqGuard op t xo yo (.bool c) (.bool d)).run P w = .ok () w := fun c d => by unfold eqGuard; split <;> rfl
    rcases hop with rfl | rfl
    · exact ⟨_, by simp only [Sem.run_bind, hg, Result.andThen_ok, binOp, run_equal_bool w t _ _ ht]; rfl, .v⟩
    · exact ⟨_, by simp only [Sem.run_bind, hg, Result.andThen_ok, binOp, run_equal_bool w t _ _ ht]; rfl, .v⟩
  · contradiction
  · cases he

/-! ### Cuts -/

theorem run_sliceBound {i : Int} {k : IntKind} {y : Nat} {c : BoundsCode} (h : 0 ≤ i ∧ i ≤ y) : (Instr.sliceBound (.int k i) y c).run P w = .ok i.toNat w := by
  simp [Instr.sliceBound, asIntOf, h]

def OptR (φ : Nat → Option Nat) (B : Nat) (T : Nat → Prop) (w : World) (ρ : Rho) (tm : Env) : Option Opd → Option Value → Prop
  | none, none => True
  | some o, some u => SR φ B T w ρ (ev tm o) u
  | _, _ => False

/-- A bound of a cut. -/
theorem slcB_of {x : Option Opd} {v : Option Value} {d top n : Nat} (he : evSlcB x tm d top = some n) (hv : OptR φ w0.heap.size T w ρ tm x v) :
    (v = none ∧ n = d) ∨ ∃ k i, v = some (.int k i) ∧ 0 ≤ i ∧ i ≤ top ∧ n = i.toNat := by
  cases x with
  | none =>
    cases v with
    | none => simp [evSlcB] at he; exact .inl ⟨rfl, he.symm⟩
    | some => exact hv.elim
  | some o =>
    cases v with
    | none => exact hv.elim
    | some u =>
      simp only [evSlcB] at he
      have hv : SR φ w0.heap.size T w ρ (ev tm o) u := hv
      split at he
      · rename_i k i hq
        split at he
        · rename_i hi
          cases he
          rw [hq] at hv
          cases hv
          exact .inr ⟨k, i, rfl, hi.1, hi.2, rfl⟩
        · cases he
      · cases he

theorem run_bounds {isS : Bool} {lo hi : Option Opd} {lv hv : Option Value} {len cap l h : Nat} (h1 : evSlcB hi tm len len = some h) (h2 : evSlcB lo tm 0 h = some l) (hc : len ≤ cap)
    (q1 : OptR φ w0.heap.size T w ρ tm lo lv)
    (q2 : OptR φ w0.heap.size T w ρ tm hi hv) :
    (Instr.sliceBounds isS len cap lv hv none).run P w = .ok (l, h, cap) w ∧ h ≤ len ∧ l ≤ h := by
  have e1 := slcB_of h1 q2
  have e2 := slcB_of h2 q1
  rcases e1 with ⟨rfl, rfl⟩ | ⟨k, i, rfl, i1, i2, rfl⟩
  · rcases e2 with ⟨rfl, rfl⟩ | ⟨k', i', rfl, j1, j2, rfl⟩
    · exact ⟨by simp [Instr.sliceBounds], Nat.le_refl _, Nat.zero_le _⟩
    · exact ⟨by simp [Instr.sliceBounds, run_sliceBound (P := P) (w := w) (k := k') (c := .sliceB) ⟨j1, j2⟩], Nat.le_refl _, by omega⟩
  · have b1 : ∀ c, (Instr.sliceBound (.int k i) cap c).run P w = .ok i.toNat w := fun c => run_sliceBound ⟨i1, by omega⟩
    rcases e2 with ⟨rfl, rfl⟩ | ⟨k', i', rfl, j1, j2, rfl⟩
    · exact ⟨by simp [Instr.sliceBounds, b1], by omega, Nat.zero_le _⟩
    · have b2 : ∀ c, (Instr.sliceBound (.int k' i') i.toNat c).run P w = .ok i'.toNat w := fun c => run_sliceBound ⟨j1, j2⟩
      exact ⟨by simp [Instr.sliceBounds, b1, b2], by omega, by omega⟩
end
end Sx
