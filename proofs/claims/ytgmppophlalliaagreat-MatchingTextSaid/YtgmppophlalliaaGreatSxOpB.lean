/-
  Sx: each operation does what the evaluator says: numbers, addresses, parts.
-/
import Derived.Test.YtgmppophlalliaaGreatSxOpA
namespace Sx
open Go
set_option linter.unusedSimpArgs false
set_option linter.unusedVariables false

section
variable {P : Program} {φ : Nat → Option Nat} {nt : Nat} {T0 : Nat → Prop} {w0 : World} {ρ0 : Rho} {T : Nat → Prop} {ρ : Rho} {tm : Env} {H : Hp} {a : Act} {w : World}

theorem VR.int {l : Bool} {k : IntKind} {n : Int} {u : Value} (h : VR φ T w ρ l (.v (.int k n)) u) : u = .int k n := by cases h; rfl
theorem VR.bool {l : Bool} {b : Bool} {u : Value} (h : VR φ T w ρ l (.v (.bool b)) u) : u = .bool b := by cases h; rfl
theorem VR.ofV {l : Bool} {x u : Value} (h : VR φ T w ρ l (.v x) u) : u = x := by cases h; rfl

theorem run_binI {op : BinOp} {k : IntKind} {x y : Int} {r : Value} (t : TypeId) (h : binI op k x y = some r) : (binOp op t (.int k x) (.int k y)).run P w = .ok r w := by
  cases op
  case shl => cases h
  case shr => cases h
  case quo =>
    simp only [binI] at h
    split at h
    · cases h
    · rename_i h0; cases h; simp only [binOp, ne_eq, not_true_eq_false, if_false, Op.intDiv, if_neg h0]; rfl
  case rem =>
    simp only [binI] at h
    split at h
    · cases h
    · rename_i h0; cases h; simp only [binOp, ne_eq, not_true_eq_false, if_false, Op.intDiv, if_neg h0]; rfl
  all_goals (simp only [binI] at h; cases h; simp only [binOp, ne_eq, not_true_eq_false, if_false, Op.intArith, Op.intBits, Op.intCmp]; rfl)

theorem run_shiftI {op : BinOp} {k k' : IntKind} {x y : Int} {r : Value} (t : TypeId) (ho : op = .shl ∨ op = .shr) (h : shiftI op k x y = some r) : (binOp op t (.int k x) (.int k' y)).run P w = .ok r w := by
  unfold shiftI at h
  split at h
  · cases h
  · rename_i h0
    rcases ho with rfl | rfl
    · cases h; simp only [binOp, Op.shift, if_neg h0]; rfl
    · cases h; simp only [binOp, Op.shift, if_neg h0]; rfl

theorem run_binS {op : BinOp} {x y : ByteArray} {r : Value} (t : TypeId) (h : binS op x y = some r) : (binOp op t (.string x) (.string y)).run P w = .ok r w := by
  cases op <;> simp only [binS] at h
  case add =>
    split at h
    · rename_i h2
      cases h
      simp only [binOp, Op.stringOp]
      rw [if_neg]
      · rfl
      · have : IntKind.i64.max = 9223372036854775807 := by decide
        rw [this]
        have : (2 : Nat) ^ 40 = 1099511627776 := by decide
        omega
    · cases h
  case eql => cases h; rfl
  case neq => cases h; rfl
  all_goals cases h

theorem op_bin {op : BinOp} {t : TypeId} {xo yo : Operand} {x y z : AV} {u v : Value} (hx : VR φ T w ρ true x u) (hy : VR φ T w ρ true y v) (he : evBin op x y = some z) :
    ∃ r, (do eqGuard op t xo yo u v; binOp op t u v : Sem Value).run P w = .ok r w ∧ VR φ T w ρ true z r := by
  unfold evBin at he
  split at he
  · rename_i k a1 k' b1
    cases hx; cases hy
    have hg : (eqGuard op t xo yo (.int k a1) (.int k' b1)).run P w = .ok () w := by
      unfold eqGuard; split <;> rfl
    have key : ∀ r, (binOp op t (.int k a1) (.int k' b1)).run P w = .ok r w → z = .v r → ∃ r, (do eqGuard op t xo yo (.int k a1) (.int k' b1); binOp op t (.int k a1) (.int k' b1) : Sem Value).run P w = .ok r w ∧ VR φ T w ρ true z r := by
      intro r h1 h2
      subst h2
      exact ⟨r, by simp only [Sem.run_bind, hg, Result.andThen_ok]; exact h1, .v⟩
    split at he
    · simp only [Option.map_eq_some_iff] at he
      obtain ⟨r, h1, rfl⟩ := he
      exact key r (run_shiftI t (.inl rfl) h1) rfl
    · simp only [Option.map_eq_some_iff] at he
      obtain ⟨r, h1, rfl⟩ := he
      exact key r (run_shiftI t (.inr rfl) h1) rfl
    · split at he
      · rename_i hk
        subst hk
        simp only [Option.map_eq_some_iff] at he
        obtain ⟨r, h1, rfl⟩ := he
        exact key r (run_binI t h1) rfl
      · cases he
  · rename_i s1 s2
    cases hx; cases hy
    have hg : (eqGuard op t xo yo (.string s1) (.string s2)).run P w = .ok () w := by
      unfold eqGuard; split <;> rfl
    simp only [Option.map_eq_some_iff] at he
    obtain ⟨r, h1, rfl⟩ := he
    exact ⟨r, by simp only [Sem.run_bind, hg, Result.andThen_ok]; exact run_binS t h1, .v⟩
  · cases he

theorem op_un {op : UnOp} {x z : AV} {u : Value} (hx : VR φ T w ρ true x u) (he : evUn op x = some z) : ∃ r, (Op.unary op u).run P w = .ok r w ∧ VR φ T w ρ true z r := by
  unfold evUn at he
  split at he
  · cases hx; cases he; exact ⟨_, rfl, .v⟩
  · cases hx; cases he; exact ⟨_, rfl, .v⟩
  · cases hx; simp [binI] at he; subst he; exact ⟨_, by simp [Op.unary, Op.intBits], .v⟩
  · cases he

theorem op_takeK {k : Option Nat} {cs : List AV} {us : List Value} {t : TypeId} {off : Nat} {x : AV} (hk : kindT P t = some k) (hx : takeK k (cs.drop off) = some x)
    (hl : cs.length = us.length) (hv : ∀ (i : Nat) (c : AV) (u : Value), cs[i]? = some c → us[i]? = some u → VR φ T w ρ true c u) (h1 : ∀ u ∈ us, u.oneCell' = true) :
    ∃ r, (part t us.toArray off).run P w = .ok r w ∧ VR φ T w ρ true x r := by
  cases k with
  | none =>
    unfold part
    simp only [Sem.run_bind, kind_none hk, Result.andThen_ok, Bool.false_eq_true, if_false]
    cases hd : cs.drop off with
    | nil => rw [hd] at hx; simp [takeK] at hx
    | cons c r =>
      rw [hd] at hx
      simp [takeK] at hx; subst hx
      have hc : cs[off]? = some c := by
        have := congrArg (·[0]?) hd
        simpa using this
      have hlt : off < us.length := by rw [← hl]; exact (List.getElem?_eq_some_iff.1 hc).1
      refine ⟨us[off], ?_, hv off _ _ hc (List.getElem?_eq_getElem hlt)⟩
      simp [hlt]
  | some n =>
    obtain ⟨ha, hs⟩ := kind_some (w := w) hk
    unfold part
    simp only [Sem.run_bind, ha, hs, Result.andThen_ok, if_true]
    simp only [takeK] at hx
    split at hx
    · rename_i hn
      cases hx
      refine ⟨_, rfl, ?_⟩
      have e : (us.toArray.extract off (off + n)) = ((us.drop off).take n).toArray := by
        apply Array.ext'
        simp [List.extract_eq_take_drop]
      rw [e]
      refine VR.agg (by simp [hl]) (fun i c u h2 h3 => ?_) (fun u hu => h1 u (List.mem_of_mem_drop (List.mem_of_mem_take hu)))
      rw [List.getElem?_take] at h2 h3
      split at h2
      · rename_i hi
        rw [if_pos hi] at h3
        rw [List.getElem?_drop] at h2 h3
        exact hv _ c u h2 h3
      · cases h2
    · cases hx

theorem op_fadr {t : TypeId} {i n : Nat} {f : Field} {x z : AV} {u : Value} (hf : fieldT P t i = some f) (hn : sizeT P f.type = some n) (h0 : 0 < n) (hx : VR φ T w ρ true x u) (he : evFadr f.offset x = some z) :
    ∃ r, (Instr.fieldAt t u i).run P w = .ok r w ∧ VR φ T w ρ true z r := by
  unfold fieldT at hf
  split at hf
  · rename_i fs hu
    have place : ∀ ad : Addr, (fieldPlace ad f).run P w = .ok (ad.add f.offset) w := fun ad => by
      simp [fieldPlace, run_sizeT hn, show ¬ n = 0 from by omega]
    cases hx with
    | rp h1 h2 h3 h4 h5 =>
      rename_i cs ad us
      simp only [evFadr] at he
      split at he
      · rename_i ho
        cases he
        refine ⟨.pointer (some (ad.add f.offset)), by simp [Instr.fieldAt, run_und hu, hf, Instr.sureAddr, place], ?_⟩
        refine VR.rp (us := us.drop f.offset) (by rw [add_block]; exact h1) (by simp [h2]) (fun j u hu => ?_) (fun u hu => h4 u (List.mem_of_mem_drop hu)) (fun j c u hc hu => ?_)
        · rw [List.getElem?_drop] at hu
          rw [add_add]
          exact h3 _ u hu
        · rw [List.getElem?_drop] at hc hu
          exact h5 _ c u hc hu
      · cases he
    | hp h1 h2 h3 h4 =>
      rename_i h ver i' o ad inf
      cases he
      subst h3
      refine ⟨.pointer (some (ad.add f.offset)), by simp [Instr.fieldAt, run_und hu, hf, Instr.sureAddr, place], ?_⟩
      exact VR.hp h1 h2 rfl (fun q => by rw [h4 q, add_mk]; simp [Nat.add_assoc])
    | U => cases he
    | v => cases he
    | agg => cases he
    | tup => cases he
    | ro0 => cases he
    | ro => cases he
    | fn => cases he
    | bm => cases he
    | sl => cases he
    | mp => cases he
    | it => cases he
  · cases hf

/-- An element of an array at an address. -/
theorem op_iadrA {t e : TypeId} {len n : Nat} {k : IntKind} {j : Int} {x z : AV} {u : Value} (hu : P.underlying t = some (.array len e)) (hn : sizeT P e = some n) (hj : 0 ≤ j ∧ j < len) (hx : VR φ T w ρ true x u) (he : evFadr (j.toNat * n) x = some z) :
    ∃ r, (Instr.indexAt t u (.int k j)).run P w = .ok r w ∧ VR φ T w ρ true z r := by
  cases hx with
  | rp h1 h2 h3 h4 h5 =>
    rename_i cs ad us
    simp only [evFadr] at he
    split at he
    · rename_i ho
      cases he
      refine ⟨.pointer (some (ad.add (j.toNat * n))), by simp [Instr.indexAt, asIntOf, run_und hu, Instr.sureAddr, hj, run_sizeT hn], ?_⟩
      refine VR.rp (us := us.drop (j.toNat * n)) (by rw [add_block]; exact h1) (by simp [h2]) (fun j u hu => ?_) (fun u hu => h4 u (List.mem_of_mem_drop hu)) (fun j c u hc hu => ?_)
      · rw [List.getElem?_drop] at hu
        rw [add_add]
        exact h3 _ u hu
      · rw [List.getElem?_drop] at hc hu
        exact h5 _ c u hc hu
    · cases he
  | hp h1 h2 h3 h4 =>
    rename_i h ver i' o ad inf
    cases he
    subst h3
    refine ⟨.pointer (some (ad.add (j.toNat * n))), by simp [Instr.indexAt, asIntOf, run_und hu, Instr.sureAddr, hj, run_sizeT hn], ?_⟩
    exact VR.hp h1 h2 rfl (fun q => by rw [h4 q, add_mk]; simp [Nat.add_assoc])
  | U => cases he
  | v => cases he
  | agg => cases he
  | tup => cases he
  | ro0 => cases he
  | ro => cases he
  | fn => cases he
  | bm => cases he
  | sl => cases he
  | mp => cases he
  | it => cases he

theorem op_iadr {t e : TypeId} {n : Nat} {x y z : AV} {u v : Value} (hr : HR φ T w ρ H.obs) (hel : elemT P t = some e) (hn : sizeT P e = some n) (hx : VR φ T w ρ true x u) (hy : VR φ T w ρ true y v) (he : evIadr H n x y = some z) :
    ∃ r, (Instr.indexAt t u v).run P w = .ok r w ∧ VR φ T w ρ true z r := by
  have hu : P.underlying t = some (.slice e) := by
    unfold elemT at hel; split at hel
    · rename_i h; cases hel; exact h
    · cases hel
  unfold evIadr at he
  split at he
  · rename_i sz' m f k i
    cases hy
    split at he
    · rename_i hsz
      subst hsz
      split at he
      · rename_i hi
        cases he
        cases hx with
        | ro0 => omega
        | ro h0 h1 h2 h3 h4 h5 h6 h7 =>
          rename_i cap ad us
          refine ⟨.pointer (some (ad.add (i.toNat * n))), by simp [Instr.indexAt, asIntOf, run_und hu, run_sizeT hn, hi], ?_⟩
          have hlt : i.toNat < m := by omega
          refine VR.rp (us := us i.toNat) (by rw [add_block]; exact h2) (by rw [h3 _ hlt, h4 _ hlt]) (fun j u hu => ?_) (fun u hu => h6 _ u hlt hu) (fun j c u hc hu => (h7 _ j c u hlt hc hu).up true)
          rw [add_add]
          exact h5 _ j u hlt hu
      · cases he
    · cases he
  · rename_i h ver off len k i
    cases hy
    cases hg : H.get h ver with
    | none => rw [hg] at he; cases he
    | some ob =>
      rw [hg] at he
      simp only [Option.bind_some] at he
      split at he
      · rename_i hsz
        split at he
        · rename_i hi
          cases he
          obtain ⟨_, _, inf', arr, ty, e1, e2, e3, e4, e5, e6, e7, e8, e9, e10, e11⟩ := hr.live hg
          cases hx with
          | sl h1 h2 h3 h4 =>
            rw [h1] at e1; cases e1
            obtain ⟨q1, q2, q3, q4⟩ := h4 e2.symm
            subst q1; subst q2; subst h3
            refine ⟨.pointer (some ((⟨inf'.blk, off * inf'.sz, none⟩ : Addr).add (i.toNat * n))), by simp [Instr.indexAt, asIntOf, run_und hu, run_sizeT hn, hi], ?_⟩
            refine VR.hp h1 h2 rfl (fun _ => ?_)
            rw [add_mk, e3, ← hsz, Nat.add_mul]
            rfl
        · cases he
      · cases he
  · cases he

theorem op_len {t ty : TypeId} {k : Nat} {x z : AV} {u : Value} (hr : HR φ T w ρ H.obs) (hx : VR φ T w ρ true x u) (he : evLen H k x = some z)
    (h0 : k = 0 → P.underlying t = some .string) (h1 : k = 1 → ∃ e, P.underlying t = some (.slice e)) (h2 : k = 2 → ∃ q e, P.underlying t = some (.map q e)) :
    ∃ r, (Builtin.len_ #[t] ty #[u]).run P w = .ok r w ∧ VR φ T w ρ true z r := by
  unfold evLen at he
  split at he
  · cases he
    obtain ⟨e, hu⟩ := h1 rfl
    cases hx with
    | ro0 => exact ⟨_, by simp [Builtin.len_, run_und hu, goInt], .v⟩
    | ro => exact ⟨_, by simp [Builtin.len_, run_und hu, goInt], .v⟩
  · rename_i h ver off len
    obtain ⟨e, hu⟩ := h1 rfl
    cases hg : H.get h ver with
    | none => rw [hg] at he; cases he
    | some ob =>
      rw [hg] at he
      cases he
      obtain ⟨_, _, inf', arr, ty', e1, e2, _⟩ := hr.live hg
      cases hx with
      | sl g1 g2 g3 g4 =>
        rw [g1] at e1; cases e1
        obtain ⟨q1, q2, q3, q4⟩ := g4 e2.symm
        subst q1; subst q2; subst g3
        exact ⟨_, by simp [Builtin.len_, run_und hu, goInt], .v⟩
  · cases he; cases hx
    exact ⟨_, by simp [Builtin.len_, run_und (h0 rfl), goInt], .v⟩
  · cases he; cases hx
    obtain ⟨e, hu⟩ := h1 rfl; exact ⟨_, by simp [Builtin.len_, run_und hu, goInt], .v⟩
  · rename_i h
    split at he
    · rename_i es ho
      cases he
      cases hx with
      | mp g1 g2 =>
        rename_i inf
        obtain ⟨k, e, hu⟩ := h2 rfl
        obtain ⟨i', ents, clock, e1, e2, e3, e5, e6, _⟩ := hr.ob _ _ ho
        rw [g1] at e1; cases e1
        refine ⟨_, ?_, .v⟩
        · have hgo : (getObj inf.blk).run P w = .ok (.map ents clock) w := by simp [getObj, Sem.run, e5]
          simp [Builtin.len_, run_und hu, goInt, hgo, e6]
    · cases he
  · cases he

theorem op_fold {f : AV → AV → Option AV} {g : Value → Value → Sem Value} (hf : ∀ {x y z : AV} {u v : Value}, VR φ T w ρ true x u → VR φ T w ρ true y v → f x y = some z → ∃ r, (g u v).run P w = .ok r w ∧ VR φ T w ρ true z r) :
    ∀ (ys : List AV) (vs : List Value) (x : AV) (u : Value) (z : AV), VR φ T w ρ true x u → ys.length = vs.length → (∀ (i : Nat) (c : AV) (y : Value), ys[i]? = some c → vs[i]? = some y → VR φ T w ρ true c y) → evFold f x ys = some z →
      ∃ r, (vs.foldlM g u).run P w = .ok r w ∧ VR φ T w ρ true z r
  | [], vs, x, u, z, hx, hl, _, he => by
    cases vs with
    | nil => cases he; exact ⟨u, rfl, hx⟩
    | cons => simp at hl
  | y :: ys, vs, x, u, z, hx, hl, hv, he => by
    cases vs with
    | nil => simp at hl
    | cons v vs =>
      simp only [evFold] at he
      cases hq : f x y with
      | none => rw [hq] at he; cases he
      | some q =>
        rw [hq] at he
        obtain ⟨r, h1, h2⟩ := hf hx (hv 0 y v rfl rfl) hq
        obtain ⟨r', h3, h4⟩ := op_fold hf ys vs q r z h2 (by simpa using hl) (fun i c y a b => hv (i + 1) c y (by simpa using a) (by simpa using b)) he
        exact ⟨r', by simp [h1, h3], h4⟩

theorem op_max2 {x y z : AV} {u v : Value} (hx : VR φ T w ρ true x u) (hy : VR φ T w ρ true y v) (he : evMax2 x y = some z) : ∃ r, (Builtin.max2 u v).run P w = .ok r w ∧ VR φ T w ρ true z r := by
  unfold evMax2 at he
  split at he
  · cases hx; cases hy; split at he
    · cases he; exact ⟨_, rfl, .v⟩
    · cases he
  · cases he

theorem op_min2 {x y z : AV} {u v : Value} (hx : VR φ T w ρ true x u) (hy : VR φ T w ρ true y v) (he : evMin2 x y = some z) : ∃ r, (Builtin.min2 u v).run P w = .ok r w ∧ VR φ T w ρ true z r := by
  unfold evMin2 at he
  split at he
  · cases hx; cases hy; split at he
    · cases he; exact ⟨_, rfl, .v⟩
    · cases he
  · cases he
end
end Sx
