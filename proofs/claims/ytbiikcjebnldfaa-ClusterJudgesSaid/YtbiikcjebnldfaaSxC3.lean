/-
  Plain laws of clusters: heads, claims, the law.
-/
import Derived.Test.YtbiikcjebnldfaaSxC2
namespace Sx
open Go
set_option linter.unusedSimpArgs false
set_option linter.unusedVariables false

/-- Lists by place. -/
def tabL (f : Nat → Int) (n : Nat) : List Int := (List.range n).map f

theorem tabL_length (f : Nat → Int) (n : Nat) : (tabL f n).length = n := by simp [tabL]
theorem tabL_succ (f : Nat → Int) (n : Nat) : tabL f (n + 1) = tabL f n ++ [f n] := by simp [tabL, List.range_succ]
theorem tabL_set (f : Nat → Int) (n j : Nat) (x : Int) : (tabL f n).set j x = tabL (fun i => if i = j then x else f i) n := by
  apply List.ext_getElem?
  intro i
  rw [List.getElem?_set]
  simp only [tabL, List.length_map, List.length_range, List.getElem?_map]
  by_cases h : j = i
  · subst h
    by_cases hj : j < n
    · simp [hj]
    · simp [hj]
  · rw [if_neg h]
    by_cases hi : i < n
    · simp [hi, Ne.symm h]
    · simp [hi]
theorem tabL_congr {f g : Nat → Int} {n : Nat} (h : ∀ i, i < n → f i = g i) : tabL f n = tabL g n := by
  unfold tabL
  apply List.map_congr_left
  intro i hi
  exact h i (by simpa using hi)
theorem tabL_getD (f : Nat → Int) {n i : Nat} (h : i < n) (d : Int) : (tabL f n).getD i d = f i := by simp [tabL, List.getD, h]
theorem tab_again {d : Int} (l : List Int) : (List.range (arrL d l).n).map (arrL d l).f = l := by
  apply List.ext_getElem?
  intro i
  by_cases hi : i < l.length
  · simp [arrL, hi, List.getD]
  · simp [arrL, hi]

theorem room8 {n : Nat} (h : n ≤ 1000) : roomA n 8 = true := by simp [roomA]; omega
theorem roomM8 {n : Nat} (h : n ≤ 1000) : roomM (n : Int) 8 = true := by simp [roomM]; omega

section
variable {ids : Arr Int} {ps : Arr (Arr (Int × Int))} {c : Arr (Arr Int)}

/-- The node at the other end of a port, or -1. -/
def named (ps : Arr (Arr (Int × Int))) (c : Arr (Arr Int)) (v : Nat) : Int :=
  if (c.f v).f 1 ≥ 0 then ((ps.f v).f ((c.f v).f 1).toNat).1 else -1

/-- The head of a node. -/
def headOf (ps : Arr (Arr (Int × Int))) (c : Arr (Arr Int)) (v : Nat) : Int := if (c.f v).f 0 == 1 then v else named ps c v

theorem Heads_spec {N : Nat} (z : SZ N ids ps) (c : Arr (Arr Int)) :
    s_cluster_Heads N ids ps c = some (if validB ids ps && holdsB ps c most34 then arrL (0 : Int) (tabL (headOf ps c) ps.n) else ⟨0, fun _ => 0⟩) := by
  unfold s_cluster_Heads
  rw [conf_spec z]
  cases hv : validB ids ps with
  | false => rfl
  | true =>
    cases hh : holdsB ps c most34 with
    | false => rfl
    | true =>
      have g := GOK.of hv
      have k := COK.of hh
      have hF := z.fuel
      have hkn := k.n
      have hn1 := g.n1
      simp only [kO?_some', Bool.true_and, Bool.and_self, Bool.not_true, sel_false, if_true, roomM8 (show c.n ≤ 1000 by omega), chk_true, Int.toNat_natCast]
      have e0 : List.replicate c.n (0 : Int) = tabL (fun i => if i < 0 then headOf ps c i else 0) c.n := by
        rw [show tabL (fun i => if i < 0 then headOf ps c i else 0) c.n = tabL (fun _ => 0) c.n from tabL_congr fun i hi => by simp]
        simp [tabL, List.map_const']
      rw [e0]
      refine (loop_fold (fun m (s : Int × List Int) => s_cluster_Heads_L0 N ids ps c c.n (fun o0 o1 => some (arrL (0 : Int) o1)) m s.1 s.2) (fun j => ((j : Int), tabL (fun i => if i < j then headOf ps c i else 0) c.n)) c.n _ (fun m j hj => ?_) (fun m => ?_) N (by omega))
      · have hj2 : j < ps.n := by omega
        have e1 := wsucc (j := j) (by omega)
        have hl := k.len j hj2
        have q0 := k.m0 j hj2
        have q1 := k.m1 j hj2
        have q2 := k.p0 j hj2
        have q3 := k.p1 j hj2
        have t0 : (0 : Int).toNat = 0 := rfl
        have t1 : (1 : Int).toNat = 1 := rfl
        simp only [s_cluster_Heads_L0, s_shape_At]
        simp only [inr_nat, hj, hj2, decide_true, chk_true, Int.ofNat_lt, sel_true, Int.toNat_natCast, e1, tabL_length, tabL_set, inr_0 (show 0 < (c.f j).n by omega), inr_1 (show 1 < (c.f j).n by omega), t0, t1]
        by_cases hz : (c.f j).f 0 = 0
        · simp only [hz, BEq.rfl, sel_true]
          have hne : ((c.f j).f 0 == 1) = false := by rw [hz]; rfl
          by_cases hp : (c.f j).f 1 < 0
          · simp only [hp, decide_true, sel_true, kO?_some']
            refine congrArg (s_cluster_Heads_L0 N ids ps c c.n _ m _) (tabL_congr fun i hi => ?_)
            simp only [headOf, named, hne, show ¬ ((c.f j).f 1 ≥ 0) from by omega]
            by_cases h : i = j
            · subst h
              simp [hne, show ¬ (0 ≤ (c.f i).f 1) from by omega]
            · by_cases h2 : i < j
              · simp [h, h2, show i < j + 1 from by omega]
              · simp [h, h2, show ¬ i < j + 1 from by omega]
          · have hin : inr ((c.f j).f 1) (ps.f j).n = true := inr_of (by omega) (by omega)
            simp only [hp, decide_false, sel_false, hin, chk_true, kO?_some']
            refine congrArg (s_cluster_Heads_L0 N ids ps c c.n _ m _) (tabL_congr fun i hi => ?_)
            simp only [headOf, named]
            by_cases h : i = j
            · subst h
              simp [hne, show (0 ≤ (c.f i).f 1) from by omega]
            · by_cases h2 : i < j
              · simp [h, h2, show i < j + 1 from by omega]
              · simp [h, h2, show ¬ i < j + 1 from by omega]
        · have h1 : (c.f j).f 0 = 1 := by omega
          have hz' : ((c.f j).f 0 == 0) = false := by rw [h1]; rfl
          simp only [hz', sel_false]
          refine congrArg (s_cluster_Heads_L0 N ids ps c c.n _ m _) (tabL_congr fun i hi => ?_)
          simp only [headOf]
          by_cases h : i = j
          · subst h
            simp [h1]
          · by_cases h2 : i < j
            · simp [h, h2, show i < j + 1 from by omega]
            · simp [h, h2, show ¬ i < j + 1 from by omega]
      · simp only [s_cluster_Heads_L0, Int.ofNat_lt, Nat.lt_irrefl, decide_false, sel_false, hkn]
        rw [show tabL (fun i => if i < ps.n then headOf ps c i else 0) ps.n = tabL (headOf ps c) ps.n from tabL_congr fun i hi => by simp [hi]]

theorem Named_spec {N : Nat} (z : SZ N ids ps) (g : GOK ids ps) (k : COK ps c) : s_selfstabref23_Named N ids ps c 1 = some (arrL (0 : Int) (tabL (named ps c) ps.n)) := by
  unfold s_selfstabref23_Named
  have hF := z.fuel
  have hkn := k.n
  have hn1 := g.n1
  refine (loop_fold (fun m (s : Int × List Int) => s_selfstabref23_Named_L0 N c 1 ids ps (fun o0 o1 => some (arrL (0 : Int) o1)) m s.1 s.2) (fun j => ((j : Int), tabL (named ps c) j)) ps.n _ (fun m j hj => ?_) (fun m => ?_) N z.psl)
  · have hj2 : j < c.n := by omega
    have e1 := wsucc (j := j) (by omega)
    have hl := k.len j hj
    have q2 := k.p0 j hj
    have q3 := k.p1 j hj
    have t1 : (1 : Int).toNat = 1 := rfl
    simp only [s_selfstabref23_Named_L0]
    simp only [inr_nat, hj, hj2, decide_true, chk_true, Int.ofNat_lt, sel_true, Int.toNat_natCast, e1, inr_1 (show 1 < (c.f j).n by omega), t1, tabL_length, List.length_singleton, room8 (show j + 1 ≤ 1000 by omega)]
    by_cases hp : (c.f j).f 1 ≥ 0
    · have hin : inr ((c.f j).f 1) (ps.f j).n = true := inr_of (by omega) (by omega)
      simp only [hp, decide_true, sel_true, hin, chk_true, tabL_succ, named, if_true]
    · simp only [hp, decide_false, sel_false, tabL_succ, named, if_false]
  · simp [s_selfstabref23_Named_L0, hkn]

theorem rHeads_spec {N : Nat} (z : SZ N ids ps) (c : Arr (Arr Int)) :
    s_selfstabref34_Heads N ids ps c = some (if validB ids ps && holdsB ps c most34 then arrL (0 : Int) (tabL (headOf ps c) ps.n) else ⟨0, fun _ => 0⟩) := by
  unfold s_selfstabref34_Heads s_selfstabref34_Fit
  have hF := z.fuel
  rw [rvalid_eq z]
  cases hv : validB ids ps with
  | false => rfl
  | true =>
    simp only [kO?_some', Bool.not_true, sel_false, Vars34, Bool.true_and]
    rw [Config_spec z c vars34 SmallV34 (by show (2 : Nat) < N; omega), hv, ← cfg34]
    cases hh : holdsB ps c most34 with
    | false => rfl
    | true =>
      have g := GOK.of hv
      have k := COK.of hh
      have hkn := k.n
      have hn1 := g.n1
      simp only [kO?_some', Bool.true_and, Bool.not_true, sel_false, Named_spec z g k, tab_again, if_true]
      have e0 : tabL (named ps c) ps.n = tabL (fun i => if i < 0 then headOf ps c i else named ps c i) ps.n := tabL_congr fun i hi => by simp
      rw [e0]
      refine (loop_fold (fun m (s : Int × List Int) => s_selfstabref34_Heads_L0 N c (fun o0 o1 => some (arrL (0 : Int) o1)) m s.1 s.2) (fun j => ((j : Int), tabL (fun i => if i < j then headOf ps c i else named ps c i) ps.n)) ps.n _ (fun m j hj => ?_) (fun m => ?_) N z.psl)
      · have hj2 : j < c.n := by omega
        have e1 := wsucc (j := j) (by omega)
        have hl := k.len j hj
        have t0 : (0 : Int).toNat = 0 := rfl
        simp only [s_selfstabref34_Heads_L0]
        simp only [inr_nat, hj, hj2, decide_true, chk_true, Int.ofNat_lt, sel_true, Int.toNat_natCast, e1, tabL_length, tabL_set, inr_0 (show 0 < (c.f j).n by omega), t0]
        by_cases hm : ((c.f j).f 0 == 1) = true
        · simp only [hm, sel_true]
          refine congrArg (s_selfstabref34_Heads_L0 N c _ m _) (tabL_congr fun i hi => ?_)
          by_cases h : i = j
          · subst h; simp [headOf, hm]
          · by_cases h2 : i < j
            · simp [h, h2, show i < j + 1 from by omega]
            · simp [h, h2, show ¬ i < j + 1 from by omega]
        · have hm' := Bool.eq_false_iff.2 hm
          simp only [hm', sel_false]
          refine congrArg (s_selfstabref34_Heads_L0 N c _ m _) (tabL_congr fun i hi => ?_)
          by_cases h : i = j
          · subst h; simp [headOf, hm']
          · by_cases h2 : i < j
            · simp [h, h2, show i < j + 1 from by omega]
            · simp [h, h2, show ¬ i < j + 1 from by omega]
      · simp only [s_selfstabref34_Heads_L0, hkn, Int.ofNat_lt, Nat.lt_irrefl, decide_false, sel_false]
        rw [show tabL (fun i => if i < ps.n then headOf ps c i else named ps c i) ps.n = tabL (headOf ps c) ps.n from tabL_congr fun i hi => by simp [hi]]

theorem same34 {N : Nat} (hF : Fuel N) (a : Arr Int) (h : a.n < N) : s_selfstablaw34_sameInts N a a = some true := by
  unfold s_selfstablaw34_sameInts
  simp only [bne_self_eq_false, sel_false]
  refine (loop_fold (fun m (j : Int) => s_selfstablaw34_sameInts_L0 N a a (some false) (fun _ => some true) m j) (fun j => (j : Int)) a.n (some true) (fun m j hj => ?_) (fun m => ?_) N h)
  · simp only [s_selfstablaw34_sameInts_L0]
    rw [wsucc (by omega)]
    simp [hj]
  · simp [s_selfstablaw34_sameInts_L0]

theorem Claim_eq {N : Nat} (z : SZ N ids ps) : ∃ x, s_cluster_Claim N ids ps = some x ∧ s_selfstabref34_Claim N ids ps = some x := by
  unfold s_cluster_Claim s_selfstabref34_Claim s_cluster_Fit s_selfstabref34_Fit
  rw [valid_eq z, rvalid_eq z, Size_spec z, rSize_spec z]
  simp only [kO?_some']
  cases validB ids ps with
  | false => exact ⟨_, rfl, rfl⟩
  | true => exact ⟨_, rfl, rfl⟩
end

abbrev lawN : Nat := 2 ^ 63

theorem known34 : s_selfstablaw34_known lawN = some true := by kernel_rfl

theorem plain_ClusterJudges (ids : Arr Int) (ps : Arr (Arr (Int × Int))) (c : Arr (Arr Int)) (hrow : ∀ v, v < ps.n → (ps.f v).n < lawN) : s_selfstablaw34_ClusterJudges lawN ids ps c = some true := by
  unfold s_selfstablaw34_ClusterJudges
  have hF : Fuel lawN := by decide
  have hl : s_selfstablaw34_large lawN ids ps c = some (decide (ps.n > 60) || (decide (ids.n > 60) || decide (c.n > 60))) := by
    unfold s_selfstablaw34_large
    by_cases h1 : ps.n > 60
    · simp [h1, show ((ps.n : Int) > 60) from by omega]
    · by_cases h2 : ids.n > 60
      · simp [h1, h2, show ¬ ((ps.n : Int) > 60) from by omega, show ((ids.n : Int) > 60) from by omega]
      · by_cases h3 : c.n > 60
        · simp [h1, h2, h3, show ¬ ((ps.n : Int) > 60) from by omega, show ¬ ((ids.n : Int) > 60) from by omega, show ((c.n : Int) > 60) from by omega]
        · simp [h1, h2, h3, show ¬ ((ps.n : Int) > 60) from by omega, show ¬ ((ids.n : Int) > 60) from by omega, show ¬ ((c.n : Int) > 60) from by omega]
  rw [hl]
  simp only [kO?_some', known34]
  by_cases hbig : (decide (ps.n > 60) || (decide (ids.n > 60) || decide (c.n > 60))) = true
  · rw [hbig]; rfl
  · have hbig' := Bool.eq_false_iff.2 hbig
    rw [hbig']
    simp only [Bool.or_eq_true, decide_eq_true_eq, not_or, gt_iff_lt, Nat.not_lt] at hbig
    have z : SZ lawN ids ps := ⟨hF, by have : (60 : Nat) < lawN := by decide
                                       omega, by have : (60 : Nat) < lawN := by decide
                                                 omega, hrow⟩
    obtain ⟨x, h1, h2⟩ := Claim_eq z
    simp only [sel_false, sel_true, s_cluster_Fit, s_selfstabref34_Fit, valid_eq z, rvalid_eq z, kO?_some', BEq.rfl, Legit_spec z, rLegit_spec z, h1, h2, Bool.and_self, Heads_spec z, rHeads_spec z]
    rw [same34 hF]
    · rfl
    · have : (60 : Nat) < lawN := by decide
      split
      · simp only [arrL, tabL_length]; omega
      · show (0 : Nat) < lawN; omega
end Sx
