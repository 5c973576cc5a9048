/-
  Plain laws of graphs: which graphs are valid.
-/
import Derived.Test.YtbiikcjebnldfaaSxP1
import Derived.Test.YtbiikcjebnldfaaSxPl
namespace Sx
open Go
set_option linter.unusedSimpArgs false
set_option linter.unusedVariables false

/-- Fuel: more than any list is long, and far from where numbers turn over. -/
abbrev Fuel (N : Nat) : Prop := 1000000 ≤ N ∧ N ≤ 9223372036854775808

theorem In_spec (N : Nat) (v lo hi : Int) : s_selfstabref01_In N v lo hi = some (decide (lo ≤ v ∧ v ≤ hi)) := by
  unfold s_selfstabref01_In
  by_cases h : v ≥ lo
  · have : lo ≤ v := h
    simp [h, this]
  · have : ¬ lo ≤ v := h
    simp [h, this]

/-- Is a link of a node of a graph of n nodes not possible. -/
def lbad (l : Arr (Int × Int)) (v n : Int) (i : Nat) : Bool :=
  !decide (0 ≤ (l.f i).1 ∧ (l.f i).1 ≤ n - 1) || ((l.f i).1 == v || (!decide (1 ≤ (l.f i).2 ∧ (l.f i).2 ≤ 15) || (fnd (fun k => (l.f k).1 == (l.f i).1) i).isSome))

theorem linksL1 {R : Type} {N : Nat} (hF : Fuel N) (l : Arr (Int × Int)) (v n : Int) (i : Nat) (hi : i < l.n) (hl : l.n < N) (k0 : Option R) (k1 : Int → Option R) :
    s_selfstabref01_linksValid_L1 N l v n i k0 k1 N 0 = sel (fnd (fun k => (l.f k).1 == (l.f i).1) i).isSome k0 (k1 i) := by
  refine loop_check (fun m (j : Int) => s_selfstabref01_linksValid_L1 N l v n i k0 k1 m j) (fun j => (j : Int)) i _ k0 (k1 i) (fun m j hj _ => ?_) (fun _ m => ?_) N (by omega)
  · simp only [s_selfstabref01_linksValid_L1]
    rw [wsucc (by omega)]
    simp [hj, hi, show j < l.n from by omega]
  · simp [s_selfstabref01_linksValid_L1]

theorem linksValid_spec {N : Nat} (hF : Fuel N) (l : Arr (Int × Int)) (v n : Int) (hl : l.n < N) (hn : -1000 ≤ n ∧ n ≤ 1152921504606846976) :
    s_selfstabref01_linksValid N l v n = some (!(fnd (lbad l v n) l.n).isSome) := by
  unfold s_selfstabref01_linksValid
  have h := loop_check (fun m (j : Int) => s_selfstabref01_linksValid_L0 N l v n (some false) (fun _ => some true) m j) (fun j => (j : Int)) l.n (lbad l v n) (some false) (some true) (fun m j hj _ => ?_) (fun _ m => ?_) N hl
  · have h0 : s_selfstabref01_linksValid_L0 N l v n (some false) (fun _ => some true) N 0 = _ := h
    rw [h0]
    cases (fnd (lbad l v n) l.n).isSome <;> rfl
  · simp only [s_selfstabref01_linksValid_L0]
    rw [wi (n := n - 1) (by omega) (by omega)]
    simp only [In_spec, linksL1 hF l v n j hj hl, wsucc (show j < 9223372036854775807 by omega)]
    simp only [hj, inr_nat, decide_true, Int.ofNat_lt, sel_true, chk_true, kO?_some', Int.toNat_natCast, lbad]
    cases decide (0 ≤ (l.f j).1 ∧ (l.f j).1 ≤ n - 1) <;> cases (l.f j).1 == v <;> cases decide (1 ≤ (l.f j).2 ∧ (l.f j).2 ≤ 15) <;> simp
  · simp [s_selfstabref01_linksValid_L0]

/-- The first port of a row that leads to a node, or -1. -/
def portOf (l : Arr (Int × Int)) (u : Int) : Int :=
  match fnd (fun i => (l.f i).1 == u) l.n with
  | some i => i
  | none => -1

theorem Port_spec' {N : Nat} (hF : Fuel N) (ids : Arr Int) (ps : Arr (Arr (Int × Int))) (v : Int) (u : Int) (h0 : 0 ≤ v) (h1 : v < ps.n) (hl : (ps.f v.toNat).n < N) :
    s_selfstabref01_Port N ids ps v u = some (portOf (ps.f v.toNat) u) := by
  unfold s_selfstabref01_Port portOf
  have h := loop_run (fun m (j : Int) => s_selfstabref01_Port_L0 N v u ids ps (fun o => some o) (fun _ => some (-1)) m j) (fun j => (j : Int)) (ps.f v.toNat).n (fun i => ((ps.f v.toNat).f i).1 == u) (fun j => some (j : Int)) (some (-1)) (fun m j hj _ => ?_) (fun _ m => ?_) N hl
  · have h2 : s_selfstabref01_Port_L0 N v u ids ps (fun o => some o) (fun _ => some (-1)) N 0 = _ := h
    rw [h2]
    cases fnd (fun i => ((ps.f v.toNat).f i).1 == u) (ps.f v.toNat).n <;> rfl
  · simp only [s_selfstabref01_Port_L0]
    rw [wsucc (by omega)]
    simp [hj, inr_of h0 h1]
  · simp [s_selfstabref01_Port_L0, inr_of h0 h1]

/-! ### selfstabref01.Valid -/

/-- Has node v something wrong: its identifier, its number of ports, its links, or an identifier that came before. -/
def nbad (ids : Arr Int) (ps : Arr (Arr (Int × Int))) (v : Nat) : Bool :=
  !decide (0 ≤ ids.f v ∧ ids.f v ≤ 255) || (decide ((ps.f v).n ≥ ps.n) || ((fnd (lbad (ps.f v) v ps.n) (ps.f v).n).isSome || (fnd (fun u => ids.f u == ids.f v) v).isSome))

/-- Has link i of node v none back of the same weight. -/
def bbad (ps : Arr (Arr (Int × Int))) (v i : Nat) : Bool :=
  decide (portOf (ps.f ((ps.f v).f i).1.toNat) v < 0) || (((ps.f ((ps.f v).f i).1.toNat).f (portOf (ps.f ((ps.f v).f i).1.toNat) v).toNat).2 != ((ps.f v).f i).2)

/-- Is a graph valid: as the reference looks. -/
def validB (ids : Arr Int) (ps : Arr (Arr (Int × Int))) : Bool :=
  decide (1 ≤ ps.n ∧ ps.n ≤ 24) && (decide (ids.n = ps.n) && (!(fnd (nbad ids ps) ps.n).isSome && !(fnd (fun v => (fnd (bbad ps v) (ps.f v).n).isSome) ps.n).isSome))


theorem portOf_cases (l : Arr (Int × Int)) (u : Int) : (portOf l u = -1 ∧ ∀ i, i < l.n → (l.f i).1 ≠ u) ∨ ∃ i : Nat, portOf l u = i ∧ i < l.n ∧ (l.f i).1 = u ∧ ∀ k, k < i → (l.f k).1 ≠ u := by
  unfold portOf
  cases h : fnd (fun i => (l.f i).1 == u) l.n with
  | none =>
    rw [fnd_none] at h
    exact .inl ⟨rfl, fun i hi => by simpa using h i hi⟩
  | some i =>
    obtain ⟨h1, h2, h3⟩ := fnd_some h
    exact .inr ⟨i, rfl, h1, by simpa using h2, fun k hk => by simpa using h3 k hk⟩

theorem lbad_false {l : Arr (Int × Int)} {v n : Int} {i : Nat} (h : lbad l v n i = false) : 0 ≤ (l.f i).1 ∧ (l.f i).1 ≤ n - 1 ∧ (l.f i).1 ≠ v ∧ 1 ≤ (l.f i).2 ∧ (l.f i).2 ≤ 15 ∧ ∀ k, k < i → (l.f k).1 ≠ (l.f i).1 := by
  simp only [lbad, Bool.or_eq_false_iff, Bool.not_eq_false', decide_eq_true_eq, beq_eq_false_iff_ne] at h
  obtain ⟨h1, h2, h3, h4⟩ := h
  have h5 : fnd (fun k => (l.f k).1 == (l.f i).1) i = none := by simpa using h4
  rw [fnd_none] at h5
  exact ⟨h1.1, h1.2, h2, h3.1, h3.2, fun k hk => by simpa using h5 k hk⟩

structure NOK (ids : Arr Int) (ps : Arr (Arr (Int × Int))) (v : Nat) : Prop where
  id0 : 0 ≤ ids.f v
  id1 : ids.f v ≤ 255
  deg : (ps.f v).n < ps.n
  to0 : ∀ i, i < (ps.f v).n → 0 ≤ ((ps.f v).f i).1
  to1 : ∀ i, i < (ps.f v).n → ((ps.f v).f i).1 < ps.n
  ne : ∀ i, i < (ps.f v).n → ((ps.f v).f i).1 ≠ v
  w0 : ∀ i, i < (ps.f v).n → 1 ≤ ((ps.f v).f i).2
  w1 : ∀ i, i < (ps.f v).n → ((ps.f v).f i).2 ≤ 15
  once : ∀ i, i < (ps.f v).n → ∀ k, k < i → ((ps.f v).f k).1 ≠ ((ps.f v).f i).1
  ids : ∀ u, u < v → ids.f u ≠ ids.f v

theorem nbad_false {ids : Arr Int} {ps : Arr (Arr (Int × Int))} {v : Nat} (h : nbad ids ps v = false) : NOK ids ps v := by
  simp only [nbad, Bool.or_eq_false_iff, Bool.not_eq_false', decide_eq_true_eq, decide_eq_false_iff_not] at h
  obtain ⟨h1, h2, h3, h4⟩ := h
  have h5 : fnd (lbad (ps.f v) v ps.n) (ps.f v).n = none := by simpa using h3
  have h6 : fnd (fun u => ids.f u == ids.f v) v = none := by simpa using h4
  rw [fnd_none] at h5 h6
  have q := fun i hi => lbad_false (h5 i hi)
  exact ⟨h1.1, h1.2, by omega, fun i hi => (q i hi).1, fun i hi => by have := (q i hi).2.1; omega, fun i hi => (q i hi).2.2.1,
    fun i hi => (q i hi).2.2.2.1, fun i hi => (q i hi).2.2.2.2.1, fun i hi => (q i hi).2.2.2.2.2, fun u hu => by simpa using h6 u hu⟩

theorem refL1 {R : Type} {N : Nat} (hF : Fuel N) (ids : Arr Int) (ps : Arr (Arr (Int × Int))) (n : Int) (v : Nat) (hv : v < ids.n) (hl : ids.n < N) (k0 : Option R) (k1 : Int → Option R) :
    s_selfstabref01_Valid_L1 N ids ps n v k0 k1 N 0 = sel (fnd (fun u => ids.f u == ids.f v) v).isSome k0 (k1 v) := by
  refine loop_check (fun m (j : Int) => s_selfstabref01_Valid_L1 N ids ps n v k0 k1 m j) (fun j => (j : Int)) v _ k0 (k1 v) (fun m j hj _ => ?_) (fun _ m => ?_) N (by omega)
  · simp only [s_selfstabref01_Valid_L1]
    rw [wsucc (by omega)]
    simp [hj, hv, show j < ids.n from by omega]
  · simp [s_selfstabref01_Valid_L1]

theorem refL3 {R : Type} {N : Nat} (hF : Fuel N) (ids : Arr Int) (ps : Arr (Arr (Int × Int))) (n : Int) (v : Nat) (hv : v < ps.n) (hall : ∀ u, u < ps.n → NOK ids ps u) (hps : ps.n ≤ 24) (k0 : Option R) (k1 : Int → Option R) :
    s_selfstabref01_Valid_L3 N ids ps n v k0 k1 N 0 = sel (fnd (bbad ps v) (ps.f v).n).isSome k0 (k1 (ps.f v).n) := by
  have hd := (hall v hv).deg
  refine loop_check (fun m (j : Int) => s_selfstabref01_Valid_L3 N ids ps n v k0 k1 m j) (fun j => (j : Int)) (ps.f v).n _ k0 (k1 (ps.f v).n) (fun m j hj _ => ?_) (fun _ m => ?_) N (by omega)
  · simp only [s_selfstabref01_Valid_L3]
    rw [wsucc (by omega)]
    have t0 := (hall v hv).to0 j hj
    have t1 := (hall v hv).to1 j hj
    have hdt := (hall ((ps.f v).f j).1.toNat (by omega)).deg
    rw [Int.toNat_natCast] at *
    simp only [inr_nat, hv, hj, decide_true, chk_true, Int.toNat_natCast, Int.ofNat_lt, sel_true]
    rw [Port_spec' hF ids ps _ v t0 t1 (by omega)]
    simp only [kO?_some', bbad]
    rcases portOf_cases (ps.f ((ps.f v).f j).1.toNat) v with ⟨hp, _⟩ | ⟨i, hp, hi, _⟩
    · simp [hp]
    · have h1 : ¬ ((i : Int) < 0) := by omega
      simp [hp, h1, inr_of t0 t1, hi]
  · simp [s_selfstabref01_Valid_L3, hv]

theorem ref01_Valid_spec {N : Nat} (hF : Fuel N) (ids : Arr Int) (ps : Arr (Arr (Int × Int))) (hi : ids.n < N) (hp : ps.n < N) (hl : ∀ v, v < ps.n → (ps.f v).n < N) :
    s_selfstabref01_Valid N ids ps = some (validB ids ps) := by
  unfold s_selfstabref01_Valid validB
  simp only [In_spec, kO?_some']
  by_cases h1 : 1 ≤ ps.n ∧ ps.n ≤ 24
  · have h1' : (1 : Int) ≤ (ps.n : Int) ∧ (ps.n : Int) ≤ 24 := by omega
    simp only [h1, h1', and_self, decide_true, Bool.not_true, sel_false, Bool.true_and]
    by_cases h2 : ids.n = ps.n
    · simp only [h2, bne_self_eq_false, sel_false, decide_true, Bool.true_and]
      let K2 : Option Bool := s_selfstabref01_Valid_L2 N ids ps (ps.n : Int) (some false) (fun _ => some true) N 0
      have e1 : s_selfstabref01_Valid_L0 N ids ps (ps.n : Int) (some false) (fun _ => K2) N 0 = sel (fnd (nbad ids ps) ps.n).isSome (some false) K2 := by
        refine loop_check (fun m (j : Int) => s_selfstabref01_Valid_L0 N ids ps (ps.n : Int) (some false) (fun _ => K2) m j) (fun j => (j : Int)) ps.n (nbad ids ps) (some false) K2 (fun m j hj _ => ?_) (fun _ m => ?_) N (by omega)
        · simp only [s_selfstabref01_Valid_L0, In_spec]
          have hj2 : j < ids.n := by omega
          simp only [inr_nat, hj, hj2, decide_true, chk_true, Int.ofNat_lt, sel_true, kO?_some', Int.toNat_natCast]
          rw [linksValid_spec hF (ps.f j) j ps.n (hl j hj) (by omega), refL1 hF ids ps ps.n j hj2 hi, wsucc (by omega)]
          simp only [kO?_some', nbad]
          have e3 : decide (((ps.f j).n : Int) ≥ (ps.n : Int)) = decide ((ps.f j).n ≥ ps.n) := by simp
          rw [e3]
          cases decide (0 ≤ ids.f j ∧ ids.f j ≤ 255) <;> cases decide ((ps.f j).n ≥ ps.n) <;> cases (fnd (lbad (ps.f j) j ps.n) (ps.f j).n).isSome <;> simp
        · simp [s_selfstabref01_Valid_L0]
      have e1' : s_selfstabref01_Valid_L0 N ids ps (ps.n : Int) (some false) (fun _ => s_selfstabref01_Valid_L2 N ids ps (ps.n : Int) (some false) (fun _ => some true) N 0) N 0 = _ := e1
      rw [e1']
      cases hb : (fnd (nbad ids ps) ps.n).isSome with
      | true => simp
      | false =>
        have hb' : fnd (nbad ids ps) ps.n = none := by simpa using hb
        rw [fnd_none] at hb'
        have hall : ∀ u, u < ps.n → NOK ids ps u := fun u hu => nbad_false (hb' u hu)
        have e2 : K2 = sel (fnd (fun v => (fnd (bbad ps v) (ps.f v).n).isSome) ps.n).isSome (some false) (some true) := by
          refine loop_check (fun m (j : Int) => s_selfstabref01_Valid_L2 N ids ps (ps.n : Int) (some false) (fun _ => some true) m j) (fun j => (j : Int)) ps.n _ (some false) (some true) (fun m j hj _ => ?_) (fun _ m => ?_) N (by omega)
          · simp only [s_selfstabref01_Valid_L2]
            rw [refL3 hF ids ps ps.n j hj hall h1.2, wsucc (by omega)]
            simp [hj]
          · simp [s_selfstabref01_Valid_L2]
        rw [sel_false, e2]
        cases (fnd (fun v => (fnd (bbad ps v) (ps.f v).n).isSome) ps.n).isSome <;> rfl
    · have h3 : ((ids.n : Int) != (ps.n : Int)) = true := by simp; omega
      simp [h2, h3]
  · have h1' : ¬ ((1 : Int) ≤ (ps.n : Int) ∧ (ps.n : Int) ≤ 24) := by omega
    simp [h1, h1']
end Sx
