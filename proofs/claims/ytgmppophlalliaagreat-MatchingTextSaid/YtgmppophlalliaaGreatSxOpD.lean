/-
  Sx: each operation does what the evaluator says: cuts, arrays, built values.
-/
import Derived.Test.YtgmppophlalliaaGreatSxOpC
import Derived.Laws.Cover3
namespace Sx
open Go
set_option linter.unusedSimpArgs false
set_option linter.unusedVariables false

section
variable {P : Program} {φ : Nat → Option Nat} {nt : Nat} {T0 : Nat → Prop} {w0 : World} {ρ0 : Rho} {T : Nat → Prop} {ρ : Rho} {tm : Env} {H : Hp} {a : Act} {w : World}

theorem op_slc0 {t : TypeId} {sz : Nat} {x z : AV} {u : Value} {lo hi mx : Option Opd} {lv hv mv : Option Value} (hx : VR φ T w ρ true x u) (he : evSlc sz tm x lo hi mx = some z)
    (q1 : OptR φ w0.heap.size T w ρ tm lo lv) (q2 : OptR φ w0.heap.size T w ρ tm hi hv) (q3 : OptR φ w0.heap.size T w ρ tm mx mv)
    (h0 : sz = 0 → P.underlying t = some .string) (h1 : 0 < sz → ∃ e, P.underlying t = some (.slice e) ∧ sizeT P e = some sz) :
    ∃ r, (Instr.sliceAt t u lv hv mv).run P w = .ok r w ∧ VR φ T w ρ true z r := by
  unfold evSlc at he
  split at he
  · have hm : mv = none := by cases mv with | none => rfl | some => exact q3.elim
    subst hm
    split at he
    · rename_i s hs
      subst hs
      cases hx
      cases e1 : evSlcB hi tm s.size s.size with
      | none => rw [e1] at he; cases he
      | some h =>
        rw [e1] at he
        simp only [Option.bind_some] at he
        cases e2 : evSlcB lo tm 0 h with
        | none => rw [e2] at he; cases he
        | some l =>
          rw [e2] at he
          cases he
          obtain ⟨hb, _, _⟩ := run_bounds (P := P) (w := w) (isS := false) e1 e2 (Nat.le_refl _) q1 q2
          exact ⟨_, by simp [Instr.sliceAt, run_und (h0 rfl), Instr.slice, hb], .v⟩
    · cases he
  · rename_i sz' n f
    have hm : mv = none := by cases mv with | none => rfl | some => exact q3.elim
    subst hm
    split at he
    · rename_i hs
      obtain ⟨rfl, hpos⟩ := hs
      cases e1 : evSlcB hi tm n n with
      | none => rw [e1] at he; cases he
      | some h =>
        rw [e1] at he
        simp only [Option.bind_some] at he
        cases e2 : evSlcB lo tm 0 h with
        | none => rw [e2] at he; cases he
        | some l =>
          rw [e2] at he
          cases he
          obtain ⟨e, hu, hsz⟩ := h1 hpos
          cases hx with
          | ro0 =>
            rename_i A cap
            obtain ⟨hb, b1, b2⟩ := run_bounds (P := P) (w := w) (isS := true) e1 e2 (Nat.zero_le cap) q1 q2
            have : h = 0 := by omega
            subst this
            have : l = 0 := by omega
            subst this
            exact ⟨.slice (if cap = 0 then A else Option.map (fun x => x.add 0) A) 0 cap, by simp [Instr.sliceAt, run_und hu, Instr.slice, hb, run_sizeT hsz], .ro0⟩
          | ro g0 g1 g2 g3 g4 g5 g6 g7 =>
            rename_i cap ad us
            obtain ⟨hb, b1, b2⟩ := run_bounds (P := P) (w := w) (isS := true) e1 e2 g1 q1 q2
            refine ⟨_, by simp [Instr.sliceAt, run_und hu, Instr.slice, hb, run_sizeT hsz]; rfl, ?_⟩
            by_cases hlt : l < h
            · rw [if_neg (by omega)]
              refine VR.ro (us := fun i => us (l + i)) (by omega) (by omega) (by rw [add_block]; exact g2) (fun i hi => g3 _ (by omega)) (fun i hi => g4 _ (by omega)) (fun i j u hi hu => ?_) (fun i u hi hu => g6 _ u (by omega) hu) (fun i j c u hi hc hu => g7 _ j c u (by omega) hc hu)
              rw [add_add]
              have := g5 (l + i) j u (by omega) hu
              rwa [Nat.add_mul, Nat.add_assoc] at this
            · have hz : h - l = 0 := by omega
              rw [hz]
              exact .ro0
    · cases he
  · cases he

theorem op_nilq {op : BinOp} {t e : TypeId} {xo yo : Operand} {x : AV} {u : Value} {b : Bool} (hop : op = .eql ∨ op = .neq) (hr : HR φ T w ρ H.obs) (hx : VR φ T w ρ true x u) (he : evNil H x = some b) (ht : P.underlying t = some (.slice e)) :
    ∃ r, (do eqGuard op t xo yo u (.slice none 0 0); binOp op t u (.slice none 0 0) : Sem Value).run P w = .ok r w ∧ VR φ T w ρ true (.b (if (isNeq op) then !b else b)) r := by
  have key : ∃ A n c, u = .slice A n c ∧ A.isNone = b := by
    unfold evNil at he
    split at he
    · cases he; cases hx; exact ⟨none, 0, 0, rfl, rfl⟩
    · split at he
      · rename_i hpos
        cases he
        cases hx with
        | ro0 => omega
        | ro => exact ⟨_, _, _, rfl, rfl⟩
      · cases he
    · simp only [Option.map_eq_some_iff, evLen, Option.bind_eq_some_iff] at he
      obtain ⟨y, ⟨ob, hg, _⟩, rfl⟩ := he
      obtain ⟨hlt, hob, inf, arr, ty, f1, f2, f3, f4, f5, f6, f7, f8, f9, f10, f11⟩ := hr.live hg
      cases hx with
      | sl g1 g2 g3 g4 =>
        rw [g1] at f1; cases f1
        obtain ⟨p1, p2, p3, p4⟩ := g4 f2.symm
        subst g3; subst p1
        exact ⟨_, _, _, rfl, rfl⟩
    · cases he
  obtain ⟨A, n, c, rfl, rfl⟩ := key
  have hg : (eqGuard op t xo yo (.slice A n c) (.slice none 0 0)).run P w = .ok () w := by unfold eqGuard; split <;> rfl
  rcases hop with rfl | rfl
  · exact ⟨_, by simp only [Sem.run_bind, hg, Result.andThen_ok, binOp, run_equal_slice_nil w t e A n c ht]; rfl, .v⟩
  · exact ⟨_, by simp only [Sem.run_bind, hg, Result.andThen_ok, binOp, run_equal_slice_nil w t e A n c ht]; rfl, .v⟩

theorem optR_some {x : Option Opd} {v : Option Value} (h : x.isSome = true) (hv : OptR φ w0.heap.size T w ρ tm x v) : ∃ o u, x = some o ∧ v = some u := by
  cases x with
  | none => cases h
  | some o => cases v with
    | none => exact hv.elim
    | some u => exact ⟨o, u, rfl, rfl⟩

/-- A cut with an end of the room. -/
theorem op_slc3 {t : TypeId} {sz : Nat} {x z : AV} {u : Value} {lo hi mx : Option Opd} {lv hv mv : Option Value} (hx : VR φ T w ρ true x u) (hm : mx.isSome = true) (he : evSlc3 sz tm x lo hi mx = some z)
    (q1 : OptR φ w0.heap.size T w ρ tm lo lv) (q2 : OptR φ w0.heap.size T w ρ tm hi hv) (q3 : OptR φ w0.heap.size T w ρ tm mx mv)
    (h1 : 0 < sz → ∃ e, P.underlying t = some (.slice e) ∧ sizeT P e = some sz) :
    ∃ r, (Instr.sliceAt t u lv hv mv).run P w = .ok r w ∧ VR φ T w ρ true z r := by
  unfold evSlc3 at he
  split at he
  · rename_i sz' n f
    split at he
    · rename_i hs
      obtain ⟨rfl, hpos, hhi⟩ := hs
      simp only [Option.bind_eq_some_iff] at he
      obtain ⟨m, e0, h, e1, l, e2, he⟩ := he
      cases he
      obtain ⟨e, hu, hsz⟩ := h1 hpos
      obtain ⟨mo, mu, rfl, rfl⟩ := optR_some hm q3
      obtain ⟨ho, hw, rfl, rfl⟩ := optR_some hhi q2
      obtain ⟨mk, mi, rfl, m1, m2, m3⟩ : ∃ k i, mu = .int k i ∧ 0 ≤ i ∧ i ≤ n ∧ m = i.toNat := by
        rcases slcB_of e0 q3 with ⟨q, _⟩ | ⟨k, i, q, a, b, c⟩
        · cases q
        · cases q; exact ⟨k, i, rfl, a, b, c⟩
      obtain ⟨hk, hi', rfl, i1, i2, i3⟩ : ∃ k i, hw = .int k i ∧ 0 ≤ i ∧ i ≤ m ∧ h = i.toNat := by
        rcases slcB_of e1 q2 with ⟨q, _⟩ | ⟨k, i, q, a, b, c⟩
        · cases q
        · cases q; exact ⟨k, i, rfl, a, b, c⟩
      have hl : l ≤ h := by
        rcases slcB_of e2 q1 with ⟨_, q⟩ | ⟨k, i, _, a, b, c⟩
        · omega
        · omega
      have hbounds : ∀ cap len, n ≤ cap → (Instr.sliceBounds true len cap lv (some (.int hk hi')) (some (.int mk mi))).run P w = .ok (l, h, m) w := by
        intro cap len hcap
        have b1 : (Instr.sliceBound (.int mk mi) cap .slice3Acap).run P w = .ok m w := by rw [m3]; exact run_sliceBound ⟨m1, by omega⟩
        have b2 : (Instr.sliceBound (.int hk hi') m .slice3B).run P w = .ok h w := by rw [i3]; exact run_sliceBound ⟨i1, i2⟩
        rcases slcB_of e2 q1 with ⟨rfl, q⟩ | ⟨k, i, rfl, p1, p2, p3⟩
        · subst q
          simp [Instr.sliceBounds, b1, b2]
        · have b3 : (Instr.sliceBound (.int k i) h .slice3C).run P w = .ok l w := by rw [p3]; exact run_sliceBound ⟨p1, p2⟩
          simp [Instr.sliceBounds, b1, b2, b3]
      cases hx with
      | ro0 =>
        rename_i A cap
        have b := hbounds cap 0 (Nat.zero_le _)
        refine ⟨_, by simp [Instr.sliceAt, run_und hu, Instr.slice, b, run_sizeT hsz]; rfl, ?_⟩
        have hz : h - l = 0 := by omega
        rw [hz]
        exact .ro0
      | ro g0 g1 g2 g3 g4 g5 g6 g7 =>
        rename_i cap ad us
        have b := hbounds cap n g1
        refine ⟨_, by simp [Instr.sliceAt, run_und hu, Instr.slice, b, run_sizeT hsz]; rfl, ?_⟩
        by_cases hlt : l < h
        · rw [if_neg (by omega)]
          refine VR.ro (us := fun i => us (l + i)) (by omega) (by omega) (by rw [add_block]; exact g2) (fun i hi => g3 _ (by omega)) (fun i hi => g4 _ (by omega)) (fun i j u hi hu => ?_) (fun i u hi hu => g6 _ u (by omega) hu) (fun i j c u hi hc hu => g7 _ j c u (by omega) hc hu)
          rw [add_add]
          have := g5 (l + i) j u (by omega) hu
          rwa [Nat.add_mul, Nat.add_assoc] at this
        · have hz : h - l = 0 := by omega
          rw [hz]
          exact .ro0
    · cases he
  · cases he

/-- A cut of an object. -/
theorem op_slcH {t : TypeId} {sz : Nat} {x z : AV} {u : Value} {lo hi mx : Option Opd} {lv hv mv : Option Value} (hr : HR φ T w ρ H.obs) (hx : VR φ T w ρ true x u) (he : evSlcH H sz tm x lo hi mx = some z)
    (q1 : OptR φ w0.heap.size T w ρ tm lo lv) (q2 : OptR φ w0.heap.size T w ρ tm hi hv) (q3 : OptR φ w0.heap.size T w ρ tm mx mv)
    (h0 : sz = 0 → P.underlying t = some .string) (h1 : 0 < sz → ∃ e, P.underlying t = some (.slice e) ∧ sizeT P e = some sz) :
    ∃ r, (Instr.sliceAt t u lv hv mv).run P w = .ok r w ∧ VR φ T w ρ true z r := by
  unfold evSlcH at he
  split at he
  · rename_i h ver off len
    split at he
    · rename_i hmx
      have hm : mv = none := by
        cases mx with
        | some => cases hmx
        | none => cases mv with | none => rfl | some => exact q3.elim
      subst hm
      simp only [Option.bind_eq_some_iff] at he
      obtain ⟨ob, hg, he⟩ := he
      split at he
      · rename_i hs
        obtain ⟨rfl, hpos⟩ := hs
        simp only [Option.bind_eq_some_iff] at he
        obtain ⟨h', e1, l, e2, he⟩ := he
        have hll : l = 0 ∨ l < len := by
          by_cases q : l = 0 ∨ l < len
          · exact q
          · rw [if_neg q] at he; cases he
        rw [if_pos hll] at he
        cases he
        obtain ⟨e, hu, hsz⟩ := h1 hpos
        obtain ⟨hlt, hob, inf, arr, ty, f1, f2, f3, f4, f5, f6, f7, f8, f9, f10, f11⟩ := hr.live hg
        cases hx with
        | sl g1 g2 g3 g4 =>
          rw [g1] at f1; cases f1
          obtain ⟨p1, p2, p3, p4⟩ := g4 f2.symm
          subst p1; subst p2; subst g3
          rename_i len cap
          obtain ⟨hb, b1, b2⟩ := run_bounds (P := P) (w := w) (isS := true) e1 e2 p3 q1 q2
          refine ⟨_, by simp [Instr.sliceAt, run_und hu, Instr.slice, hb, run_sizeT hsz]; rfl, ?_⟩
          refine VR.sl g1 g2 rfl (fun _ => ⟨?_, rfl, by omega, by omega⟩)
          rcases Nat.eq_or_lt_of_le (Nat.le_trans b2 (Nat.le_trans b1 p3)) with q | q
          · rw [if_pos q.symm]
            have : l = 0 := by omega
            subst this
            rfl
          · rw [if_neg (by omega)]
            simp only [Option.map_some, add_mk, Nat.add_mul, f3]
      · cases he
    · cases he
  · unfold evSlcQ at he
    split at he
    · rename_i hm; exact op_slc3 hx hm he q1 q2 q3 h1
    · exact op_slc0 hx he q1 q2 q3 h0 h1

theorem op_idx {t e : TypeId} {len sz : Nat} {k : Option Nat} {k' : IntKind} {cs : List AV} {z : AV} {u : Value} {j : Int} (hu : P.underlying t = some (.array len e)) (hs : sizeT P e = some sz) (hk : kindT P e = some k)
    (hx : VR φ T w ρ true (.agg cs) u) (hj : 0 ≤ j ∧ j < len) (he : takeK k (cs.drop (j.toNat * sz)) = some z) : ∃ r, (Instr.index t u (.int k' j)).run P w = .ok r w ∧ VR φ T w ρ true z r := by
  cases hx with
  | agg a1 a2 a3 =>
    obtain ⟨r, h1, h2⟩ := op_takeK (P := P) hk he a1 a2 a3
    exact ⟨r, by simp [Instr.index, asIntOf, run_und hu, hj, run_sizeT hs, h1], h2⟩

theorem op_sidx {t : TypeId} {s : ByteArray} {k' : IntKind} {b : UInt8} {j : Int} (hu : P.underlying t = some .string) (hj : 0 ≤ j) (hb : s.data[j.toNat]? = some b) :
    (Instr.index t (.string s) (.int k' j)).run P w = .ok (.int .u8 b.toNat) w := by
  have hlt : j.toNat < s.data.size := (Array.getElem?_eq_some_iff.1 hb).1
  have hg : s[j.toNat]? = some b := by
    have hlt' : j.toNat < s.size := hlt
    rw [getElem?_pos s j.toNat hlt']
    rw [Array.getElem?_eq_getElem hlt] at hb
    exact hb
  simp [Instr.index, asIntOf, run_und hu, hj, hg]

/-! ### Built values -/

/-- The cells of a value that is being built. -/
def CR (φ : Nat → Option Nat) (T : Nat → Prop) (w : World) (ρ : Rho) (z : List AV) (us : List Value) : Prop :=
  z.length = us.length ∧ (∀ (i : Nat) (c : AV) (u : Value), z[i]? = some c → us[i]? = some u → VR φ T w ρ true c u) ∧ ∀ u ∈ us, u.oneCell' = true

theorem foldl_set (off : Nat) : ∀ (vs : List Value) (i : Nat) (cells : Array Value), off + i + vs.length ≤ cells.size →
    ((vs.zipIdx i).foldl (fun (cs : Array Value) (p : Value × Nat) => cs.setIfInBounds (off + p.2) p.1) cells).toList = cells.toList.take (off + i) ++ vs ++ cells.toList.drop (off + i + vs.length)
  | [], i, cells, _ => by simp
  | v :: vs, i, cells, h => by
    simp at h
    rw [List.zipIdx_cons, List.foldl_cons, foldl_set off vs (i + 1) _ (by simp; omega)]
    simp only [Array.toList_setIfInBounds, List.length_cons]
    have hlt : off + i < cells.toList.length := by simp; omega
    rw [show off + (i + 1) = off + i + 1 from by omega, List.take_succ_eq_append_getElem (by simpa using hlt), List.take_set, List.set_eq_of_length_le (by simp; omega), List.getElem_set_self, List.drop_set_of_lt (by omega)]
    simp [Nat.add_assoc, Nat.add_comm 1]

theorem run_fill {place : Nat → Option (Nat × Nat)} : ∀ (ps : List (Nat × Nat × Opd)) (qs : List (Nat × Value)) (z z' : List AV) (cells : Array Value), evBuild tm z ps = some z' → CR φ T w ρ z cells.toList →
    ps.length = qs.length → (∀ (i : Nat) (p : Nat × Nat × Opd) (q : Nat × Value), ps[i]? = some p → qs[i]? = some q → place q.1 = some (p.1, p.2.1) ∧ SR φ w0.heap.size T w ρ (ev tm p.2.2) q.2) →
    ∃ cells', Instr.fill place cells qs = some cells' ∧ CR φ T w ρ z' cells'.toList
  | [], qs, z, z', cells, he, hc, hl, _ => by
    cases qs with
    | nil => simp [evBuild] at he; subst he; exact ⟨cells, rfl, hc⟩
    | cons => simp at hl
  | (off, n, x) :: ps, qs, z, z', cells, he, hc, hl, hq => by
    cases qs with
    | nil => simp at hl
    | cons q qs =>
      simp only [evBuild] at he
      split at he
      · rename_i hs
        obtain ⟨p1, p2⟩ := hq 0 _ _ rfl rfl
        have p2 : SR φ w0.heap.size T w ρ (ev tm x) q.2 := p2
        have hv := p2.vr (solid_known hs)
        obtain ⟨c1, c2, c3⟩ := hv.cells hs
        unfold fillC at he
        split at he
        · rename_i hn
          simp only [Option.bind_some] at he
          obtain ⟨h1, h2⟩ := hn
          simp only at p1
          have hsz : q.2.cells.size = n := by omega
          have hle : off + n ≤ cells.size := by have := hc.1; simp at this; omega
          have hfold : (q.2.cells.zipIdx.foldl (fun cs (p : Value × Nat) => cs.setIfInBounds (off + p.2) p.1) cells).toList = cells.toList.take off ++ q.2.cells.toList ++ cells.toList.drop (off + n) := by
            rw [← Array.foldl_toList, Array.toList_zipIdx]
            have := foldl_set off q.2.cells.toList 0 cells (by simp; omega)
            simp only [Nat.add_zero] at this
            rw [this]
            simp [hsz]
          have hc' : CR φ T w ρ (z.take off ++ (ev tm x).cells ++ z.drop (off + n)) (q.2.cells.zipIdx.foldl (fun cs (p : Value × Nat) => cs.setIfInBounds (off + p.2) p.1) cells).toList := by
            rw [hfold]
            obtain ⟨d1, d2, d3⟩ := hc
            refine ⟨by simp; simp at d1; omega, fun i c u hi hu => ?_, fun u hu => ?_⟩
            · have hll : (z.take off).length = (cells.toList.take off).length := by simp; simp at d1; omega
              have hl2 : (z.take off ++ (ev tm x).cells).length = (cells.toList.take off ++ q.2.cells.toList).length := by simp; simp at d1; omega
              rw [List.getElem?_append] at hi hu
              rw [hl2] at hi
              split at hi
              · rename_i hlt
                rw [if_pos hlt] at hu
                rw [List.getElem?_append] at hi hu
                rw [hll] at hi
                split at hi
                · rename_i hlt2
                  rw [if_pos hlt2] at hu
                  rw [List.getElem?_take] at hi hu
                  split at hi
                  · rename_i h3; rw [if_pos h3] at hu; exact d2 i c u hi hu
                  · cases hi
                · rename_i hge
                  rw [if_neg hge] at hu
                  exact c2 _ c u hi (by simpa using hu)
              · rename_i hge
                rw [if_neg hge] at hu
                rw [List.getElem?_drop] at hi hu
                exact d2 _ c u hi hu
            · simp only [List.mem_append] at hu
              rcases hu with (hu | hu) | hu
              · exact d3 u (List.mem_of_mem_take hu)
              · exact c3 u hu
              · exact d3 u (List.mem_of_mem_drop hu)
          obtain ⟨cells', f1, f2⟩ := run_fill ps qs _ z' _ he hc' (by simpa using hl) (fun i p q' a b => hq (i + 1) p q' (by simpa using a) (by simpa using b))
          refine ⟨cells', ?_, f2⟩
          simp only [Instr.fill, p1]
          rw [if_neg]
          · exact f1
          · simp; omega
        · cases he
      · cases he
end
end Sx
