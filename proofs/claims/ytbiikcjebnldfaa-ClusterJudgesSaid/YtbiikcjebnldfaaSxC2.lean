/-
  Plain laws of clusters: legitimate configurations, heads, the whole law.
-/
import Derived.Test.YtbiikcjebnldfaaSxC1
import Derived.KernelRfl
namespace Sx
open Go
set_option linter.unusedSimpArgs false
set_option linter.unusedVariables false

theorem fnd_congr {p q : Nat → Bool} {n : Nat} (h : ∀ j, j < n → p j = q j) : fnd p n = fnd q n := by
  cases hq : fnd q n with
  | none =>
    rw [fnd_none] at hq ⊢
    exact fun j hj => (h j hj).trans (hq j hj)
  | some j =>
    obtain ⟨h1, h2, h3⟩ := fnd_some hq
    unfold fnd
    rw [List.find?_range_eq_some]
    exact ⟨(h j h1).trans h2, by simpa using h1, fun i hi => by simp [h i (by omega), h3 i hi]⟩

theorem beqN (a b : Nat) : ((a : Int) == (b : Int)) = decide (a = b) := by
  by_cases h : a = b
  · subst h; simp
  · have : ¬ (a : Int) = b := by omega
    simp [h, this]

theorem fnd_or (q r : Nat → Bool) (n : Nat) : (fnd (fun v => q v || r v) n).isSome = ((fnd q n).isSome || (fnd r n).isSome) := by
  rw [Bool.eq_iff_iff, Bool.or_eq_true, fnd_isSome, fnd_isSome, fnd_isSome]
  constructor
  · rintro ⟨j, hj, h⟩
    rcases Bool.or_eq_true_iff.1 h with h | h
    · exact .inl ⟨j, hj, h⟩
    · exact .inr ⟨j, hj, h⟩
  · rintro (⟨j, hj, h⟩ | ⟨j, hj, h⟩)
    · exact ⟨j, hj, by simp [h]⟩
    · exact ⟨j, hj, by simp [h]⟩

/-- A found place as a number, or -1. -/
def plc (o : Option Nat) : Int :=
  match o with
  | some i => i
  | none => -1

theorem Independent_spec {N : Nat} {ids : Arr Int} {ps : Arr (Arr (Int × Int))} (z : SZ N ids ps) {a : Nat} (ha : a < 4294967296) :
    s_selfstabref01_Independent N ids ps a = some (validB ids ps && (decide (diffN a (setN (fun _ => true) ps.n) = 0) && decide ((setN (nbIn ps a) ps.n) &&& a = 0))) := by
  unfold s_selfstabref01_Independent
  rw [rvalid_eq z]
  cases hv : validB ids ps with
  | false => rfl
  | true =>
    have g := GOK.of hv
    have hn1 := g.n1
    have e1 := not32 ha (setN_lt32 (fun _ => true) (n := ps.n) (by omega))
    have e2 := and32 (setN_lt32 (nbIn ps a) (n := ps.n) (by omega)) ha
    simp only [kO?_some', Bool.not_true, sel_false, Bool.true_and, All_spec z.fuel ps.n (by omega), Neighbours_spec z ha, hv, if_true, e1, e2]
    by_cases h : diffN a (setN (fun _ => true) ps.n) = 0
    · simp only [h, decide_true, Bool.true_and]
      have : ((((0 : Nat) : Int)) != 0) = false := rfl
      rw [this, sel_false]
      congr 1
      by_cases h2 : setN (nbIn ps a) ps.n &&& a = 0
      · simp [h2]
      · simp [h2]
    · have : ((diffN a (setN (fun _ => true) ps.n) : Int) != 0) = true := by simp; omega
      simp [h, this]

theorem Maximal_spec {N : Nat} {ids : Arr Int} {ps : Arr (Arr (Int × Int))} (z : SZ N ids ps) {a : Nat} (ha : a < 4294967296) :
    s_selfstabref31_Maximal N ids ps a = some (validB ids ps && (decide (diffN a (setN (fun _ => true) ps.n) = 0) && (decide ((setN (nbIn ps a) ps.n) &&& a = 0) && decide (a ||| setN (nbIn ps a) ps.n = setN (fun _ => true) ps.n)))) := by
  unfold s_selfstabref31_Maximal
  rw [Independent_spec z ha]
  cases hv : validB ids ps with
  | false => rfl
  | true =>
    have g := GOK.of hv
    have hn1 := g.n1
    have e2 := or32 ha (setN_lt32 (nbIn ps a) (n := ps.n) (by omega))
    simp only [kO?_some', Bool.true_and, All_spec z.fuel ps.n (by omega), Neighbours_spec z ha, hv, if_true, e2]
    cases decide (diffN a (setN (fun _ => true) ps.n) = 0) <;> cases decide ((setN (nbIn ps a) ps.n) &&& a = 0) <;> simp [beqN]

/-! ### Configurations of the service -/

abbrev most34 : Arr Int := arrL (0 : Int) [1, (-1)]
abbrev v6d : V6 := ((⟨#[]⟩ : ByteArray), ((0 : Int), ((0 : Int), ((0 : Int), ((0 : Int), (0 : Int))))))
abbrev vars34 : Arr V6 := arrL v6d [(⟨#[109]⟩, 2, 0, 0, 0, 0), (⟨#[104]⟩, 3, 0, 0, 0, 0)]

theorem Vars34 (N : Nat) : s_selfstabref34_Vars N = some vars34 := rfl

theorem cfg34 (ids : Arr Int) (ps : Arr (Arr (Int × Int))) (c : Arr (Arr Int)) : holdsB ps c most34 = cfgB ids ps c vars34 := by
  unfold holdsB cfgB
  have h : ∀ (st : Arr Int) (v x : Nat), x < 2 → mostbad ps most34 st v x = varbad ids ps vars34 st v x := by
    intro st v x hx
    rcases x with _ | _ | x
    · rfl
    · rfl
    · omega
  have h2 : ∀ v, (fnd (mostbad ps most34 (c.f v) v) most34.n).isSome = (fnd (varbad ids ps vars34 (c.f v) v) vars34.n).isSome := fun v => by
    rw [show fnd (mostbad ps most34 (c.f v) v) most34.n = fnd (varbad ids ps vars34 (c.f v) v) vars34.n from fnd_congr fun j hj => h (c.f v) v j hj]
  simp only [h2]
  rfl

/-- What is known of a configuration. -/
structure COK (ps : Arr (Arr (Int × Int))) (c : Arr (Arr Int)) : Prop where
  n : c.n = ps.n
  len : ∀ v, v < ps.n → (c.f v).n = 2
  m0 : ∀ v, v < ps.n → 0 ≤ (c.f v).f 0
  m1 : ∀ v, v < ps.n → (c.f v).f 0 ≤ 1
  p0 : ∀ v, v < ps.n → -1 ≤ (c.f v).f 1
  p1 : ∀ v, v < ps.n → (c.f v).f 1 ≤ ((ps.f v).n : Int) - 1

theorem COK.of {ps : Arr (Arr (Int × Int))} {c : Arr (Arr Int)} (h : holdsB ps c most34 = true) : COK ps c := by
  simp only [holdsB, Bool.and_eq_true, decide_eq_true_eq] at h
  obtain ⟨h1, h2⟩ := h
  have h3 : fnd (fun v => !decide ((c.f v).n = most34.n) || (fnd (mostbad ps most34 (c.f v) v) most34.n).isSome) ps.n = none := by simpa using h2
  rw [fnd_none] at h3
  have q : ∀ v, v < ps.n → (c.f v).n = 2 ∧ (0 ≤ (c.f v).f 0 ∧ (c.f v).f 0 ≤ 1) ∧ (-1 ≤ (c.f v).f 1 ∧ (c.f v).f 1 ≤ ((ps.f v).n : Int) - 1) := by
    intro v hv
    have h4 := h3 v hv
    simp only [Bool.or_eq_false_iff, Bool.not_eq_false', decide_eq_true_eq] at h4
    obtain ⟨h5, h6⟩ := h4
    have h7 : fnd (mostbad ps most34 (c.f v) v) most34.n = none := by simpa using h6
    rw [fnd_none] at h7
    have h8 : mostbad ps most34 (c.f v) v 0 = false := h7 0 (by decide)
    have h9 : mostbad ps most34 (c.f v) v 1 = false := h7 1 (by decide)
    have h8' : (!decide (0 ≤ (c.f v).f 0 ∧ (c.f v).f 0 ≤ 1)) = false := h8
    have h9' : (!decide (-1 ≤ (c.f v).f 1 ∧ (c.f v).f 1 ≤ ((ps.f v).n : Int) - 1)) = false := h9
    simp only [Bool.not_eq_false', decide_eq_true_eq] at h8' h9'
    exact ⟨h5, h8', h9'⟩
  exact ⟨h1, fun v hv => (q v hv).1, fun v hv => (q v hv).2.1.1, fun v hv => (q v hv).2.1.2, fun v hv => (q v hv).2.2.1, fun v hv => (q v hv).2.2.2⟩

theorem SmallV34 : SmallV vars34 := fun i hi => by
  rcases i with _ | _ | i
  · decide
  · decide
  · have : i + 1 + 1 < 2 := hi
    omega

theorem conf_spec {N : Nat} {ids : Arr Int} {ps : Arr (Arr (Int × Int))} (z : SZ N ids ps) (c : Arr (Arr Int)) :
    s_cluster_configuration N ids ps c = some (validB ids ps && holdsB ps c most34) := by
  unfold s_cluster_configuration s_cluster_Fit
  have hF := z.fuel
  rw [valid_eq z]
  simp only [kO?_some']
  have := Holds_spec z c most34 (by show (2 : Nat) < N; omega)
  cases hv : validB ids ps with
  | false => rfl
  | true =>
    simp only [sel_true, Bool.true_and]
    exact (congrArg (fun o => kO? o fun r1 => some r1) this)

/-! ### Members -/

section
variable {ids : Arr Int} {ps : Arr (Arr (Int × Int))} {c : Arr (Arr Int)}

/-- Is a node a member. -/
def mem (c : Arr (Arr Int)) (v : Nat) : Bool := (c.f v).f 0 == 1

/-- The first port to a member. -/
def toMem (ps : Arr (Arr (Int × Int))) (c : Arr (Arr Int)) (v : Nat) : Option Nat := fnd (fun i => mem c (nb ps v i)) (ps.f v).n

theorem Index_spec {N : Nat} (hF : Fuel N) (g : GOK ids ps) (k : COK ps c) {v : Nat} (hv : v < ps.n) :
    s_slices_IndexFunc_api_Link_api_Link N (ps.f v) c = some (plc (toMem ps c v)) := by
  unfold s_slices_IndexFunc_api_Link_api_Link
  have hd := g.deg hv
  refine (loop_run (fun m (j : Int) => s_slices_IndexFunc_api_Link_api_Link_L0 N (ps.f v) c (ps.f v).n (fun o0 => some o0) (fun _ => some (-1)) m j) (fun j => (j : Int)) (ps.f v).n (fun i => mem c (nb ps v i)) (fun j => some (j : Int)) (some (-1)) (fun m j hj _ => ?_) (fun _ m => ?_) N (by omega)).trans ?_
  · obtain ⟨n1, n2⟩ := g.nb hv hj
    have e1 := wsucc (j := j) (by omega)
    have hc : nb ps v j < c.n := by rw [k.n]; exact n2
    have hl := k.len _ n2
    simp only [s_slices_IndexFunc_api_Link_api_Link_L0, s_cluster_Legit_1]
    simp only [inr_nat, hj, decide_true, chk_true, Int.ofNat_lt, sel_true, Int.toNat_natCast, e1, n1, hc, inr_0 (show 0 < (c.f (nb ps v j)).n by omega), kO?_some']
    rfl
  · simp [s_slices_IndexFunc_api_Link_api_Link_L0]
  · unfold toMem plc
    cases fnd (fun i => mem c (nb ps v i)) (ps.f v).n <;> rfl

/-- What the service finds wrong at a node. -/
def pbad (ps : Arr (Arr (Int × Int))) (c : Arr (Arr Int)) (v : Nat) : Bool :=
  if mem c v then (toMem ps c v).isSome || ((c.f v).f 1 != -1) else !(toMem ps c v).isSome || ((c.f v).f 1 != plc (toMem ps c v))

theorem Legit_spec {N : Nat} (z : SZ N ids ps) (c : Arr (Arr Int)) :
    s_cluster_Legit N ids ps c = some (validB ids ps && (holdsB ps c most34 && !(fnd (pbad ps c) ps.n).isSome)) := by
  unfold s_cluster_Legit
  rw [conf_spec z]
  cases hv : validB ids ps with
  | false => rfl
  | true =>
    cases hh : holdsB ps c most34 with
    | false => rfl
    | true =>
      have g := GOK.of hv
      have k := COK.of hh
      have hF := z.fuel
      have hkn := k.n
      have hn1 := g.n1
      simp only [kO?_some', Bool.true_and, Bool.and_self, Bool.not_true, sel_false]
      refine (loop_check (fun m (j : Int) => s_cluster_Legit_L0 N ids ps c c c.n (some false) (fun _ => some true) m j) (fun j => (j : Int)) c.n (pbad ps c) (some false) (some true) (fun m j hj _ => ?_) (fun _ m => ?_) N (by omega)).trans ?_
      · have hj2 : j < ps.n := by omega
        have e1 := wsucc (j := j) (by omega)
        have hl := k.len j hj2
        simp only [s_cluster_Legit_L0]
        simp only [inr_nat, hj, hj2, decide_true, chk_true, Int.ofNat_lt, sel_true, Int.toNat_natCast, e1, Index_spec hF g k hj2, kO?_some', inr_0 (show 0 < (c.f j).n by omega), inr_1 (show 1 < (c.f j).n by omega)]
        have t0 : (0 : Int).toNat = 0 := rfl
        have t1 : (1 : Int).toNat = 1 := rfl
        simp only [t0, t1, pbad, mem]
        have hpl : decide (plc (toMem ps c j) ≥ 0) = (toMem ps c j).isSome := by
          unfold plc
          cases toMem ps c j <;> simp
        have hpl2 : decide (plc (toMem ps c j) < 0) = !(toMem ps c j).isSome := by
          unfold plc
          cases toMem ps c j <;> simp
        simp only [hpl, hpl2]
        by_cases hm : ((c.f j).f 0 == 1) = true
        · simp only [hm, sel_true, Bool.not_true, sel_false, if_true]
          cases (toMem ps c j).isSome <;> cases ((c.f j).f 1 != -1) <;> rfl
        · have hm' := Bool.eq_false_iff.2 hm
          simp only [hm', sel_false, Bool.not_false, sel_true, Bool.false_eq_true, if_false]
          cases (toMem ps c j).isSome <;> cases ((c.f j).f 1 != plc (toMem ps c j)) <;> rfl
      · simp [s_cluster_Legit_L0]
      · rw [hkn]
        cases (fnd (pbad ps c) ps.n).isSome <;> rfl

/-- The first port, as the reference looks for it: from the last on. -/
def fromLast (p : Nat → Bool) (d : Nat) : Nat → Int
  | 0 => -1
  | j + 1 => if p (d - 1 - j) then ((d - 1 - j : Nat) : Int) else fromLast p d j

theorem fromLast_cases (p : Nat → Bool) (d : Nat) : ∀ j, j ≤ d → (fromLast p d j = -1 ∧ ∀ i, d - j ≤ i → i < d → p i = false) ∨ ∃ i : Nat, fromLast p d j = i ∧ d - j ≤ i ∧ i < d ∧ p i = true ∧ ∀ k, d - j ≤ k → k < i → p k = false
  | 0, _ => .inl ⟨rfl, fun i h1 h2 => by omega⟩
  | j + 1, hj => by
    simp only [fromLast]
    cases hp : p (d - 1 - j) with
    | true => exact .inr ⟨d - 1 - j, by simp, by omega, by omega, hp, fun k h1 h2 => by omega⟩
    | false =>
      simp only [Bool.false_eq_true, if_false]
      rcases fromLast_cases p d j (by omega) with ⟨h1, h2⟩ | ⟨i, h1, h2, h3, h4, h5⟩
      · refine .inl ⟨h1, fun i q1 q2 => ?_⟩
        by_cases h : i = d - 1 - j
        · rw [h]; exact hp
        · exact h2 i (by omega) q2
      · refine .inr ⟨i, h1, by omega, h3, h4, fun k q1 q2 => ?_⟩
        by_cases h : k = d - 1 - j
        · rw [h]; exact hp
        · exact h5 k (by omega) q2

theorem fromLast_eq (p : Nat → Bool) (d : Nat) : fromLast p d d = plc (fnd p d) := by
  rcases fromLast_cases p d d (Nat.le_refl _) with ⟨h1, h2⟩ | ⟨i, h1, h2, h3, h4, h5⟩
  · rw [h1, fnd_none.2 fun j hj => h2 j (by omega) hj]; rfl
  · have : fnd p d = some i := by
      unfold fnd
      rw [List.find?_range_eq_some]
      exact ⟨h4, by simpa using h3, fun k hk => by simp [h5 k (by omega) hk]⟩
    rw [h1, this]; rfl

/-- The port that a node should have. -/
def should (ps : Arr (Arr (Int × Int))) (c : Arr (Arr Int)) (v : Nat) : Int := if (c.f v).f 0 == 0 then plc (toMem ps c v) else -1

theorem rL1 {N : Nat} {R : Type} (hF : Fuel N) (g : GOK ids ps) (k : COK ps c) {v : Nat} (hv : v < ps.n) (k0 : Int → Int → Option R) (hk : ∀ a i j, k0 a i = k0 a j) :
    s_selfstabref34_Legit_L1 N c ids ps v k0 N (-1) (IntKind.i64.wrap (((ps.f v).n : Int) - 1)) = k0 (should ps c v) 0 := by
  have hd := g.deg hv
  have hvc : v < c.n := by rw [k.n]; exact hv
  have hl := k.len v hv
  have hkn := k.n
  rw [wi (by omega) (by omega)]
  unfold should
  cases hz : (c.f v).f 0 == 0 with
  | false =>
    have hN : ∃ m, N = m + 1 := ⟨N - 1, by omega⟩
    obtain ⟨m, rfl⟩ := hN
    simp only [s_selfstabref34_Legit_L1]
    have t0 : (0 : Int).toNat = 0 := rfl
    simp only [inr_nat, hvc, decide_true, chk_true, Int.toNat_natCast, inr_0 (show 0 < (c.f v).n by omega), t0, hz, sel_false, Bool.false_eq_true, if_false]
    by_cases h : ((ps.f v).n : Int) - 1 ≥ 0
    · simp only [h, decide_true, sel_true]; exact hk _ _ _
    · simp only [h, decide_false, sel_false]; exact hk _ _ _
  | true =>
    simp only [if_true]
    have := fromLast_eq (fun i => mem c (nb ps v i)) (ps.f v).n
    unfold toMem
    rw [← this]
    have h := (loop_fold (fun m (s : Int × Int) => s_selfstabref34_Legit_L1 N c ids ps v k0 m s.1 s.2) (fun j => (fromLast (fun i => mem c (nb ps v i)) (ps.f v).n j, ((ps.f v).n : Int) - 1 - (j : Int))) (ps.f v).n (k0 (fromLast (fun i => mem c (nb ps v i)) (ps.f v).n (ps.f v).n) 0) (fun m j hj => ?_) (fun m => ?_) N (by omega))
    · have e00 : ((ps.f v).n : Int) - 1 - ((0 : Nat) : Int) = ((ps.f v).n : Int) - 1 := by omega
      simp only [e00] at h
      exact h
    · have e0 : ((ps.f v).n : Int) - 1 - (j : Int) = (((ps.f v).n - 1 - j : Nat) : Int) := by omega
      have hi : (ps.f v).n - 1 - j < (ps.f v).n := by omega
      obtain ⟨n1, n2⟩ := g.nb hv hi
      have hc : nb ps v ((ps.f v).n - 1 - j) < c.n := by omega
      have hl2 := k.len _ n2
      have e1 : IntKind.i64.wrap ((((ps.f v).n - 1 - j : Nat) : Int) - 1) = ((ps.f v).n : Int) - 1 - ((j + 1 : Nat) : Int) := by
        rw [wi (by omega) (by omega)]; omega
      have e2 : decide ((((ps.f v).n - 1 - j : Nat) : Int) ≥ 0) = true := by simp
      have t0 : (0 : Int).toNat = 0 := rfl
      simp only [s_selfstabref34_Legit_L1, e0]
      simp only [e1, e2, inr_nat, hv, hvc, hi, hc, decide_true, chk_true, sel_true, Int.toNat_natCast, inr_0 (show 0 < (c.f v).n by omega), inr_0 (show 0 < (c.f (nb ps v ((ps.f v).n - 1 - j))).n by omega), t0, hz, n1]
      simp only [fromLast, mem]
      by_cases hm : ((c.f (nb ps v ((ps.f v).n - 1 - j))).f 0 == 1) = true
      · simp only [hm, sel_true, if_true]
      · have hm' := Bool.eq_false_iff.2 hm
        simp only [hm', sel_false, Bool.false_eq_true, if_false]
    · simp only [s_selfstabref34_Legit_L1]
      have e0 : ((ps.f v).n : Int) - 1 - ((ps.f v).n : Int) = -1 := by omega
      have e2 : decide ((-1 : Int) ≥ 0) = false := by decide
      simp only [e0, e2, sel_false]
      exact hk _ _ _

theorem rLegit_spec {N : Nat} (z : SZ N ids ps) (c : Arr (Arr Int)) :
    s_selfstabref34_Legit N ids ps c = some (validB ids ps && (holdsB ps c most34 && !(fnd (pbad ps c) ps.n).isSome)) := by
  unfold s_selfstabref34_Legit s_selfstabref34_Fit
  have hF := z.fuel
  rw [rvalid_eq z]
  cases hv : validB ids ps with
  | false => rfl
  | true =>
    simp only [kO?_some', Bool.not_true, sel_false, Vars34, Bool.true_and]
    rw [Config_spec z c vars34 SmallV34 (by show (2 : Nat) < N; omega), hv, ← cfg34]
    cases hh : holdsB ps c most34 with
    | false => rfl
    | true =>
      have g := GOK.of hv
      have k := COK.of hh
      have hkn := k.n
      have hn1 := g.n1
      have hset := setN_lt32 (fun v => (c.f v).f 0 == 1) (n := c.n) (by omega)
      have hones := Ones_spec hF c 0 (by omega) (fun v hv => by have := k.len v (by omega); omega)
      have hones' : s_selfstabref31_Ones N c 0 = _ := hones
      simp only [kO?_some', Bool.true_and, Bool.not_true, sel_false, hones', Maximal_spec z hset, hv]
      -- the sets, bit by bit
      have hbit : ∀ v, v < ps.n → (setN (fun v => (c.f v).f 0 == 1) c.n).testBit v = mem c v := fun v hv => by
        rw [setN_bit]; simp [mem, show v < c.n from by omega]
      have hnb : ∀ v, v < ps.n → nbIn ps (setN (fun v => (c.f v).f 0 == 1) c.n) v = (toMem ps c v).isSome := fun v hv => by
        unfold nbIn toMem
        rw [fnd_congr fun i hi => hbit (nb ps v i) (g.nb hv hi).2]
      have c1 : diffN (setN (fun v => (c.f v).f 0 == 1) c.n) (setN (fun _ => true) ps.n) = 0 := by
        apply Nat.eq_of_testBit_eq
        intro i
        rw [diffN_bit hset (setN_lt32 _ (by omega)), setN_bit, setN_bit]
        by_cases hi : i < c.n
        · simp [hi, show i < ps.n from by omega]
        · simp [hi]
      have c2 : decide (setN (nbIn ps (setN (fun v => (c.f v).f 0 == 1) c.n)) ps.n &&& setN (fun v => (c.f v).f 0 == 1) c.n = 0) = !(fnd (fun v => mem c v && (toMem ps c v).isSome) ps.n).isSome := by
        rw [Bool.eq_iff_iff, decide_eq_true_eq, Bool.not_eq_true', ← Bool.not_eq_true, fnd_isSome]
        constructor
        · rintro h ⟨v, hvn, hp⟩
          have := congrArg (fun x => x.testBit v) h
          simp only [Nat.testBit_and, hbit v hvn, Nat.zero_testBit] at this
          rw [setN_bit, hnb v hvn] at this
          simp only [Bool.and_eq_true] at hp
          simp [hvn, hp.1, hp.2] at this
        · intro h
          apply Nat.eq_of_testBit_eq
          intro i
          rw [Nat.testBit_and, setN_bit, Nat.zero_testBit]
          by_cases hi : i < ps.n
          · rw [hbit i hi, hnb i hi]
            cases hm : mem c i <;> cases ht : (toMem ps c i).isSome <;> simp
            exact (h ⟨i, hi, by simp [hm, ht]⟩).elim
          · simp [hi]
      have c3 : decide (setN (fun v => (c.f v).f 0 == 1) c.n ||| setN (nbIn ps (setN (fun v => (c.f v).f 0 == 1) c.n)) ps.n = setN (fun _ => true) ps.n) = !(fnd (fun v => !mem c v && !(toMem ps c v).isSome) ps.n).isSome := by
        rw [Bool.eq_iff_iff, decide_eq_true_eq, Bool.not_eq_true', ← Bool.not_eq_true, fnd_isSome]
        constructor
        · rintro h ⟨v, hvn, hp⟩
          have := congrArg (fun x => x.testBit v) h
          simp only [Nat.testBit_or, hbit v hvn] at this
          rw [setN_bit, setN_bit, hnb v hvn] at this
          simp only [Bool.and_eq_true, Bool.not_eq_true'] at hp
          simp [hvn, hp.1, hp.2] at this
        · intro h
          apply Nat.eq_of_testBit_eq
          intro i
          rw [Nat.testBit_or, setN_bit (nbIn ps _), setN_bit (fun _ => true)]
          by_cases hi : i < ps.n
          · rw [hbit i hi, hnb i hi]
            cases hm : mem c i <;> cases ht : (toMem ps c i).isSome <;> simp [hi]
            exact (h ⟨i, hi, by simp [hm, ht]⟩).elim
          · rw [setN_bit]; simp [hi, show ¬ i < c.n from by omega]
      simp only [c1, c2, c3, decide_true, Bool.true_and]
      -- node by node
      have c4 : s_selfstabref34_Legit_L0 N c ids ps (some false) (fun _ => some true) N 0 = sel (fnd (fun v => (c.f v).f 1 != should ps c v) ps.n).isSome (some false) (some true) := by
        refine (loop_check (fun m (j : Int) => s_selfstabref34_Legit_L0 N c ids ps (some false) (fun _ => some true) m j) (fun j => (j : Int)) ps.n _ (some false) (some true) (fun m j hj _ => ?_) (fun _ m => ?_) N z.psl)
        · have hj2 : j < c.n := by omega
          have e1 := wsucc (j := j) (by omega)
          have hl := k.len j hj
          simp only [s_selfstabref34_Legit_L0]
          simp only [inr_nat, hj, hj2, decide_true, chk_true, Int.ofNat_lt, sel_true, Int.toNat_natCast, e1]
          rw [rL1 hF g k hj _ (fun _ _ _ => rfl)]
          have t1 : (1 : Int).toNat = 1 := rfl
          simp only [inr_nat, hj2, decide_true, chk_true, inr_1 (show 1 < (c.f j).n by omega), Int.toNat_natCast, t1]
        · simp [s_selfstabref34_Legit_L0, hkn]
      have c4' : s_selfstabref34_Legit_L0 N c ids ps (some false) (fun o0_2 => some true) N 0 = _ := c4
      rw [c4']
      have c5 : (!(fnd (pbad ps c) ps.n).isSome) = (!(fnd (fun v => mem c v && (toMem ps c v).isSome) ps.n).isSome && !(fnd (fun v => !mem c v && !(toMem ps c v).isSome) ps.n).isSome && !(fnd (fun v => (c.f v).f 1 != should ps c v) ps.n).isSome) := by
        have hpt : ∀ v, v < ps.n → pbad ps c v = ((mem c v && (toMem ps c v).isSome) || (!mem c v && !(toMem ps c v).isSome) || ((c.f v).f 1 != should ps c v)) := by
          intro v hvn
          have q0 := k.m0 v hvn
          have q1 := k.m1 v hvn
          unfold pbad should
          cases hm : mem c v with
          | true =>
            have h1 : (c.f v).f 0 = 1 := by simpa [mem] using hm
            have h0 : ((c.f v).f 0 == 0) = false := by rw [h1]; rfl
            simp only [h0, if_true, Bool.true_and, Bool.not_true, Bool.false_and, Bool.or_false, Bool.false_eq_true, if_false]
          | false =>
            have h1 : (c.f v).f 0 ≠ 1 := by simpa [mem] using hm
            have h0 : ((c.f v).f 0 == 0) = true := by simp; omega
            simp only [h0, if_true, Bool.false_and, Bool.not_false, Bool.true_and, Bool.false_or, Bool.false_eq_true, if_false]
        rw [fnd_congr hpt, fnd_or, fnd_or, Bool.not_or, Bool.not_or]
      rw [c5]
      cases (fnd (fun v => mem c v && (toMem ps c v).isSome) ps.n).isSome <;> cases (fnd (fun v => !mem c v && !(toMem ps c v).isSome) ps.n).isSome <;> cases (fnd (fun v => (c.f v).f 1 != should ps c v) ps.n).isSome <;> rfl
end
end Sx
