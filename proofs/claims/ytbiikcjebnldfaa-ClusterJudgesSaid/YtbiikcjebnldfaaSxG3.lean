/-
  Plain laws of graphs: sizes, configurations.
-/
import Derived.Test.YtbiikcjebnldfaaSxG2
namespace Sx
open Go
set_option linter.unusedSimpArgs false
set_option linter.unusedVariables false

/-! ### Valid graphs -/

/-- What is known of a valid graph. -/
structure GOK (ids : Arr Int) (ps : Arr (Arr (Int × Int))) : Prop where
  n0 : 1 ≤ ps.n
  n1 : ps.n ≤ 24
  idn : ids.n = ps.n
  node : ∀ v, v < ps.n → NOK ids ps v
  back : ∀ v, v < ps.n → ∀ i, i < (ps.f v).n → bbad ps v i = false

theorem GOK.of {ids : Arr Int} {ps : Arr (Arr (Int × Int))} (h : validB ids ps = true) : GOK ids ps := by
  simp only [validB, Bool.and_eq_true, decide_eq_true_eq] at h
  obtain ⟨h1, h2, h3, h4⟩ := h
  have h5 : fnd (nbad ids ps) ps.n = none := by simpa using h3
  have h6 : fnd (fun v => (fnd (bbad ps v) (ps.f v).n).isSome) ps.n = none := by simpa using h4
  rw [fnd_none] at h5 h6
  refine ⟨h1.1, h1.2, h2, fun v hv => nbad_false (h5 v hv), fun v hv i hi => ?_⟩
  have h7 := h6 v hv
  have h8 : fnd (bbad ps v) (ps.f v).n = none := by simpa using h7
  rw [fnd_none] at h8
  exact h8 i hi

section
variable {ids : Arr Int} {ps : Arr (Arr (Int × Int))} (g : GOK ids ps)
include g
theorem GOK.deg {v : Nat} (hv : v < ps.n) : (ps.f v).n < 24 := by have := (g.node v hv).deg; have := g.n1; omega
theorem GOK.to0 {v i : Nat} (hv : v < ps.n) (hi : i < (ps.f v).n) : 0 ≤ ((ps.f v).f i).1 := (g.node v hv).to0 i hi
theorem GOK.to1 {v i : Nat} (hv : v < ps.n) (hi : i < (ps.f v).n) : ((ps.f v).f i).1 < ps.n := (g.node v hv).to1 i hi
end

/-- The nodes at the other ends, as natural numbers. -/
def nb (ps : Arr (Arr (Int × Int))) (v i : Nat) : Nat := ((ps.f v).f i).1.toNat

theorem GOK.nb {ids : Arr Int} {ps : Arr (Arr (Int × Int))} (g : GOK ids ps) {v i : Nat} (hv : v < ps.n) (hi : i < (ps.f v).n) : ((ps.f v).f i).1 = (nb ps v i : Int) ∧ Sx.nb ps v i < ps.n := by
  have h0 := g.to0 hv hi
  have h1 := g.to1 hv hi
  unfold Sx.nb
  omega

/-- Sizes of arguments. -/
structure SZ (N : Nat) (ids : Arr Int) (ps : Arr (Arr (Int × Int))) : Prop where
  fuel : Fuel N
  idl : ids.n < N
  psl : ps.n < N
  row : ∀ v, v < ps.n → (ps.f v).n < N

theorem valid_eq {N : Nat} {ids : Arr Int} {ps : Arr (Arr (Int × Int))} (z : SZ N ids ps) : s_graph_Valid N ids ps = some (validB ids ps) := graph_Valid_spec z.fuel ids ps z.idl z.psl z.row
theorem rvalid_eq {N : Nat} {ids : Arr Int} {ps : Arr (Arr (Int × Int))} (z : SZ N ids ps) : s_selfstabref01_Valid N ids ps = some (validB ids ps) := ref01_Valid_spec z.fuel ids ps z.idl z.psl z.row

/-! ### Numbers of links -/

def degSum (ps : Arr (Arr (Int × Int))) : Nat → Nat
  | 0 => 0
  | j + 1 => degSum ps j + (ps.f j).n

theorem degSum_le {ids : Arr Int} {ps : Arr (Arr (Int × Int))} (g : GOK ids ps) {j : Nat} (hj : j ≤ ps.n) : degSum ps j ≤ j * 24 := by
  induction j with
  | zero => simp [degSum]
  | succ j ih =>
    have := ih (by omega)
    have := g.deg (v := j) (by omega)
    simp only [degSum]; omega

theorem Size_spec {N : Nat} {ids : Arr Int} {ps : Arr (Arr (Int × Int))} (z : SZ N ids ps) :
    s_graph_Size N ids ps = some (if validB ids ps then ((ps.n : Int), ((degSum ps ps.n / 2 : Nat) : Int)) else (0, 0)) := by
  unfold s_graph_Size
  rw [valid_eq z]
  cases hv : validB ids ps with
  | false => rfl
  | true =>
    have g := GOK.of hv
    have hF := z.fuel
    simp only [kO?_some', Bool.not_true, sel_false, if_true]
    refine (loop_fold (fun m (s : Int × Int) => s_graph_Size_L0 N ids ps ps ps.n (fun o0 o1 => chk (!(2 == 0)) (some ((ps.n : Int), IntKind.i64.wrap (o0.tdiv 2)))) m s.1 s.2) (fun j => ((degSum ps j : Int), (j : Int))) ps.n _ (fun m j hj => ?_) (fun m => ?_) N z.psl)
    · have h1 := degSum_le g (j := j) (by omega)
      have h2 := g.deg hj
      have h3 := g.n1
      simp only [s_graph_Size_L0]
      simp only [inr_nat, hj, decide_true, chk_true, Int.ofNat_lt, sel_true, Int.toNat_natCast]
      rw [wsucc (by omega), wi (by omega) (by omega)]
      simp only [degSum, Int.natCast_add]
    · have h1 := degSum_le g (j := ps.n) (by omega)
      have h3 := g.n1
      simp only [s_graph_Size_L0, Int.ofNat_lt, Nat.lt_irrefl, decide_false, sel_false]
      have e : ((degSum ps ps.n : Int)).tdiv 2 = ((degSum ps ps.n / 2 : Nat) : Int) := by
        rw [Int.tdiv_eq_ediv_of_nonneg (by omega)]; omega
      rw [e, wi (by omega) (by omega)]
      rfl

theorem rSize_spec {N : Nat} {ids : Arr Int} {ps : Arr (Arr (Int × Int))} (z : SZ N ids ps) :
    s_selfstabref01_Size N ids ps = some (if validB ids ps then ((ps.n : Int), ((degSum ps ps.n / 2 : Nat) : Int)) else (0, 0)) := by
  unfold s_selfstabref01_Size
  rw [rvalid_eq z]
  cases hv : validB ids ps with
  | false => rfl
  | true =>
    have g := GOK.of hv
    have hF := z.fuel
    simp only [kO?_some', Bool.not_true, sel_false, if_true]
    refine (loop_fold (fun m (s : Int × Int) => s_selfstabref01_Size_L0 N ids ps (fun o0 o1 => chk (!(2 == 0)) (some ((ps.n : Int), IntKind.i64.wrap (o0.tdiv 2)))) m s.1 s.2) (fun j => ((degSum ps j : Int), (j : Int))) ps.n _ (fun m j hj => ?_) (fun m => ?_) N z.psl)
    · have h1 := degSum_le g (j := j) (by omega)
      have h2 := g.deg hj
      have h3 := g.n1
      simp only [s_selfstabref01_Size_L0]
      simp only [inr_nat, hj, decide_true, chk_true, Int.ofNat_lt, sel_true, Int.toNat_natCast]
      rw [wsucc (by omega), wi (by omega) (by omega)]
      simp only [degSum, Int.natCast_add]
    · have h1 := degSum_le g (j := ps.n) (by omega)
      have h3 := g.n1
      simp only [s_selfstabref01_Size_L0, Int.ofNat_lt, Nat.lt_irrefl, decide_false, sel_false]
      have e : ((degSum ps ps.n : Int)).tdiv 2 = ((degSum ps ps.n / 2 : Nat) : Int) := by
        rw [Int.tdiv_eq_ediv_of_nonneg (by omega)]; omega
      rw [e, wi (by omega) (by omega)]
      rfl

/-! ### Configurations -/

/-- Is a value not one of a variable with a greatest value at a node ('-1' says: a port). -/
def mostbad (ps : Arr (Arr (Int × Int))) (most : Arr Int) (st : Arr Int) (v x : Nat) : Bool :=
  if most.f x = -1 then !decide (-1 ≤ st.f x ∧ st.f x ≤ ((ps.f v).n : Int) - 1) else !decide (0 ≤ st.f x ∧ st.f x ≤ most.f x)

def holdsB (ps : Arr (Arr (Int × Int))) (c : Arr (Arr Int)) (most : Arr Int) : Bool :=
  decide (c.n = ps.n) && !(fnd (fun v => !decide ((c.f v).n = most.n) || (fnd (mostbad ps most (c.f v) v) most.n).isSome) ps.n).isSome

theorem holdsL1 {R : Type} {N : Nat} (hF : Fuel N) (most : Arr Int) (ids : Arr Int) (ps : Arr (Arr (Int × Int))) (v : Nat) (hv : v < ps.n) (hd : (ps.f v).n < N) (a : Arr (Arr Int)) (b d : Int) (st : Arr Int) (hs : st.n = most.n) (hm : most.n < N) (k0 : Option R) (k1 : Int → Option R) :
    s_shape_Holds_L1 N most ids ps v a b d st st.n k0 k1 N 0 = sel (fnd (mostbad ps most st v) most.n).isSome k0 (k1 most.n) := by
  refine loop_check (fun m (j : Int) => s_shape_Holds_L1 N most ids ps v a b d st st.n k0 k1 m j) (fun j => (j : Int)) most.n _ k0 (k1 most.n) (fun m j hj _ => ?_) (fun _ m => ?_) N hm
  · simp only [s_shape_Holds_L1, hs]
    have e1 := wsucc (j := j) (by omega)
    have e2 := wi (n := ((ps.f v).n : Int) - 1) (by omega) (by omega)
    simp only [inr_nat, hj, hv, hs, decide_true, chk_true, Int.ofNat_lt, sel_true, Int.toNat_natCast, e1, e2]
    unfold mostbad
    by_cases h1 : most.f j = -1
    · simp only [h1, BEq.rfl, sel_true, if_true]
      by_cases c0 : st.f j < -1
      · simp [c0, show ¬ (-1 ≤ st.f j) from by omega]
      · by_cases c1 : st.f j > ((ps.f v).n : Int) - 1
        · simp [c0, c1, show ¬ (st.f j ≤ ((ps.f v).n : Int) - 1) from by omega]
        · simp only [c0, c1, decide_false, sel_false, show (-1 ≤ st.f j ∧ st.f j ≤ ((ps.f v).n : Int) - 1) from by omega, and_self, decide_true, Bool.not_true]
    · have h2 : (most.f j == -1) = false := by simpa using h1
      simp only [h2, sel_false, if_neg h1]
      by_cases c0 : st.f j < 0
      · simp [c0, show ¬ (0 ≤ st.f j) from by omega]
      · by_cases c1 : st.f j > most.f j
        · simp [c0, c1, show ¬ (st.f j ≤ most.f j) from by omega]
        · simp only [c0, c1, decide_false, sel_false, show (0 ≤ st.f j ∧ st.f j ≤ most.f j) from by omega, and_self, decide_true, Bool.not_true]
  · simp [s_shape_Holds_L1, hs]

theorem Holds_spec {N : Nat} {ids : Arr Int} {ps : Arr (Arr (Int × Int))} (z : SZ N ids ps) (c : Arr (Arr Int)) (most : Arr Int) (hm : most.n < N) :
    s_shape_Holds N ids ps c most = some (holdsB ps c most) := by
  unfold s_shape_Holds holdsB
  by_cases h : c.n = ps.n
  · simp only [h, bne_self_eq_false, sel_false, decide_true, Bool.true_and]
    have hF := z.fuel
    refine (loop_check (fun m (j : Int) => s_shape_Holds_L0 N most ids ps c ps.n (some false) (fun _ => some true) m j) (fun j => (j : Int)) ps.n (fun v => !decide ((c.f v).n = most.n) || (fnd (mostbad ps most (c.f v) v) most.n).isSome) (some false) (some true) (fun m j hj _ => ?_) (fun _ m => ?_) N z.psl).trans ?_
    · have := z.psl
      simp only [s_shape_Holds_L0]
      simp only [inr_nat, hj, h, decide_true, chk_true, Int.ofNat_lt, sel_true, Int.toNat_natCast]
      rw [wsucc (by omega)]
      by_cases h2 : (c.f j).n = most.n
      · simp only [h2, bne_self_eq_false, sel_false, decide_true, Bool.not_true, Bool.false_or]
        have := holdsL1 hF most ids ps j hj (z.row j hj) c ps.n j (c.f j) h2 hm (some false) (fun _ => s_shape_Holds_L0 N most ids ps c ps.n (some false) (fun _ => some true) m ((j + 1 : Nat) : Int))
        rw [h2] at this
        exact this
      · have h3 : (((c.f j).n : Int) != (most.n : Int)) = true := by simp; omega
        simp [h2, h3]
    · simp [s_shape_Holds_L0]
    · cases (fnd (fun v => !decide ((c.f v).n = most.n) || (fnd (mostbad ps most (c.f v) v) most.n).isSome) ps.n).isSome <;> rfl
  · have h3 : ((c.n : Int) != (ps.n : Int)) = true := by simp; omega
    simp [h, h3]

/-- The greatest identifier. -/
def topF (ids : Arr Int) : Nat → Int
  | 0 => 0
  | j + 1 => if ids.f j > topF ids j then ids.f j else topF ids j

theorem top_spec {N : Nat} (hF : Fuel N) (ids : Arr Int) (ps : Arr (Arr (Int × Int))) (hi : ids.n < N) : s_selfstabref23_top N ids ps = some (topF ids ids.n) := by
  unfold s_selfstabref23_top
  refine loop_fold (fun m (s : Int × Int) => s_selfstabref23_top_L0 N ids ps (fun o0 o1 => some o0) m s.1 s.2) (fun j => (topF ids j, (j : Int))) ids.n _ (fun m j hj => ?_) (fun m => ?_) N hi
  · simp only [s_selfstabref23_top_L0]
    simp only [inr_nat, hj, decide_true, chk_true, Int.ofNat_lt, sel_true, Int.toNat_natCast]
    rw [wsucc (by omega)]
    rfl
  · simp [s_selfstabref23_top_L0]

theorem topF_bounds {ids : Arr Int} {ps : Arr (Arr (Int × Int))} (g : GOK ids ps) {j : Nat} (hj : j ≤ ps.n) : 0 ≤ topF ids j ∧ topF ids j ≤ 255 := by
  induction j with
  | zero => simp [topF]
  | succ j ih =>
    have := ih (by omega)
    have h0 := (g.node j (by omega)).id0
    have h1 := (g.node j (by omega)).id1
    simp only [topF]
    split <;> omega

/-- A variable: name, kind, least value, greatest value, and what n and the greatest identifier add. -/
abbrev V6 := ByteArray × Int × Int × Int × Int × Int

/-- Is a value not one of a variable. -/
def varbad (ids : Arr Int) (ps : Arr (Arr (Int × Int))) (vars : Arr V6) (st : Arr Int) (v i : Nat) : Bool :=
  if (vars.f i).2.1 = 2 then !decide (0 ≤ st.f i ∧ st.f i ≤ 1)
  else if (vars.f i).2.1 = 3 then !decide (-1 ≤ st.f i ∧ st.f i ≤ ((ps.f v).n : Int) - 1)
  else !decide ((vars.f i).2.2.1 ≤ st.f i ∧ st.f i ≤ (vars.f i).2.2.2.1 + (vars.f i).2.2.2.2.1 * ps.n + (vars.f i).2.2.2.2.2 * topF ids ids.n)

def cfgB (ids : Arr Int) (ps : Arr (Arr (Int × Int))) (c : Arr (Arr Int)) (vars : Arr V6) : Bool :=
  decide (c.n = ps.n) && !(fnd (fun v => !decide ((c.f v).n = vars.n) || (fnd (varbad ids ps vars (c.f v) v) vars.n).isSome) ps.n).isSome

/-- Variables with small numbers. -/
def SmallV (vars : Arr V6) : Prop := ∀ i, i < vars.n → 0 ≤ (vars.f i).2.2.2.1 ∧ (vars.f i).2.2.2.1 ≤ 1000000 ∧ 0 ≤ (vars.f i).2.2.2.2.1 ∧ (vars.f i).2.2.2.2.1 ≤ 1000000 ∧ 0 ≤ (vars.f i).2.2.2.2.2 ∧ (vars.f i).2.2.2.2.2 ≤ 1000000

theorem cfgL1 {R : Type} {N : Nat} {ids : Arr Int} {ps : Arr (Arr (Int × Int))} (z : SZ N ids ps) (g : GOK ids ps) (c : Arr (Arr Int)) (vars : Arr V6) (hs : SmallV vars) (v : Nat) (hv : v < ps.n) (hc : c.n = ps.n) (hn : (c.f v).n = vars.n) (hm : vars.n < N) (k0 : Option R) (k1 : Int → Option R) :
    s_selfstabref23_Config_L1 N c vars ids ps ps.n v k0 k1 N 0 = sel (fnd (varbad ids ps vars (c.f v) v) vars.n).isSome k0 (k1 vars.n) := by
  have hF := z.fuel
  have hvc : v < c.n := by omega
  refine loop_check (fun m (j : Int) => s_selfstabref23_Config_L1 N c vars ids ps ps.n v k0 k1 m j) (fun j => (j : Int)) vars.n _ k0 (k1 vars.n) (fun m j hj _ => ?_) (fun _ m => ?_) N hm
  · have hd := g.deg hv
    have ht := topF_bounds g (j := ids.n) (by have := g.idn; omega)
    obtain ⟨q1, q2, q3, q4, q5, q6⟩ := hs j hj
    have hn1 := g.n1
    simp only [s_selfstabref23_Config_L1]
    have e1 := wsucc (j := j) (by omega)
    have e2 := wi (n := ((ps.f v).n : Int) - 1) (by omega) (by omega)
    simp only [e1, e2, inr_nat, hj, hv, hvc, hn, decide_true, chk_true, Int.ofNat_lt, sel_true, Int.toNat_natCast, top_spec hF ids ps z.idl, kO?_some', In_spec]
    unfold varbad
    by_cases h1 : (vars.f j).2.1 = 2
    · simp only [h1, BEq.rfl, sel_true, if_true]
    · have h2 : ((vars.f j).2.1 == 2) = false := by simpa using h1
      simp only [h2, sel_false, if_neg h1]
      by_cases h3 : (vars.f j).2.1 = 3
      · simp only [h3, BEq.rfl, sel_true, if_true]
      · have h4 : ((vars.f j).2.1 == 3) = false := by simpa using h3
        simp only [h4, sel_false, if_neg h3]
        have b1 : 0 ≤ (vars.f j).2.2.2.2.1 * (ps.n : Int) := Int.mul_nonneg q3 (by omega)
        have b2 : (vars.f j).2.2.2.2.1 * (ps.n : Int) ≤ 1000000 * 24 := Int.mul_le_mul q4 (by omega) (by omega) (by omega)
        have b3 : 0 ≤ (vars.f j).2.2.2.2.2 * topF ids ids.n := Int.mul_nonneg q5 ht.1
        have b4 : (vars.f j).2.2.2.2.2 * topF ids ids.n ≤ 1000000 * 255 := Int.mul_le_mul q6 ht.2 ht.1 (by omega)
        rw [wi (n := (vars.f j).2.2.2.2.1 * (ps.n : Int)) (by omega) (by omega), wi (n := (vars.f j).2.2.2.2.2 * topF ids ids.n) (by omega) (by omega), wi (n := (vars.f j).2.2.2.1 + (vars.f j).2.2.2.2.1 * (ps.n : Int)) (by omega) (by omega), wi (by omega) (by omega)]
  · simp [s_selfstabref23_Config_L1]

theorem Config_spec {N : Nat} {ids : Arr Int} {ps : Arr (Arr (Int × Int))} (z : SZ N ids ps) (c : Arr (Arr Int)) (vars : Arr V6) (hs : SmallV vars) (hm : vars.n < N) :
    s_selfstabref23_Config N ids ps c vars = some (validB ids ps && cfgB ids ps c vars) := by
  unfold s_selfstabref23_Config
  rw [rvalid_eq z]
  cases hv : validB ids ps with
  | false => rfl
  | true =>
    have g := GOK.of hv
    unfold cfgB
    simp only [kO?_some', Bool.not_true, sel_false, Bool.true_and]
    by_cases h : c.n = ps.n
    · simp only [h, bne_self_eq_false, sel_false, decide_true, Bool.true_and]
      have hF := z.fuel
      refine (loop_check (fun m (j : Int) => s_selfstabref23_Config_L0 N c vars ids ps ps.n (some false) (fun _ => some true) m j) (fun j => (j : Int)) ps.n (fun v => !decide ((c.f v).n = vars.n) || (fnd (varbad ids ps vars (c.f v) v) vars.n).isSome) (some false) (some true) (fun m j hj _ => ?_) (fun _ m => ?_) N z.psl).trans ?_
      · have := z.psl
        simp only [s_selfstabref23_Config_L0]
        simp only [inr_nat, hj, h, decide_true, chk_true, Int.ofNat_lt, sel_true, Int.toNat_natCast]
        rw [wsucc (by omega)]
        by_cases h2 : (c.f j).n = vars.n
        · simp only [h2, bne_self_eq_false, sel_false, decide_true, Bool.not_true, Bool.false_or]
          exact cfgL1 z g c vars hs j hj h h2 hm (some false) (fun _ => s_selfstabref23_Config_L0 N c vars ids ps ps.n (some false) (fun _ => some true) m ((j + 1 : Nat) : Int))
        · have h3 : (((c.f j).n : Int) != (vars.n : Int)) = true := by simp; omega
          simp [h2, h3]
      · simp [s_selfstabref23_Config_L0]
      · cases (fnd (fun v => !decide ((c.f v).n = vars.n) || (fnd (varbad ids ps vars (c.f v) v) vars.n).isSome) ps.n).isSome <;> rfl
    · have h3 : ((c.n : Int) != (ps.n : Int)) = true := by simp; omega
      simp [h, h3]
end Sx
