/-
  Plain laws of clusters: the service says the same as the reference.
-/
import Derived.Test.YtbiikcjebnldfaaSxG3
import Derived.Test.YtbiikcjebnldfaaSxU
namespace Sx
open Go
set_option linter.unusedSimpArgs false
set_option linter.unusedVariables false

/-! ### Sets of nodes -/

theorem Ones_spec {N : Nat} (hF : Fuel N) (c : Arr (Arr Int)) (x : Nat) (hn : c.n ≤ 32) (hx : ∀ v, v < c.n → x < (c.f v).n) :
    s_selfstabref31_Ones N c x = some (setN (fun v => (c.f v).f x == 1) c.n : Int) := by
  unfold s_selfstabref31_Ones
  refine loop_fold (fun m (s : Int × Int) => s_selfstabref31_Ones_L0 N c x (fun o0 o1 => some o0) m s.1 s.2) (fun j => ((setN (fun v => (c.f v).f x == 1) j : Int), (j : Int))) c.n _ (fun m j hj => ?_) (fun m => ?_) N (by omega)
  · have e1 := wsucc (j := j) (by omega)
    have e2 := nneg64 (v := j) (by omega)
    have e3 := shl32 (v := j) (by omega)
    have e4 := or32 (setN_lt32 (fun v => (c.f v).f x == 1) (n := j) (by omega)) (pow32 (v := j) (by omega))
    simp only [s_selfstabref31_Ones_L0]
    simp only [inr_nat, hj, hx j hj, decide_true, chk_true, Int.ofNat_lt, sel_true, Int.toNat_natCast, e1, e2, e3]
    cases hp : (c.f j).f x == 1 with
    | true =>
      simp only [sel_true, setN, hp, if_true]
      rw [e4]
    | false =>
      simp only [sel_false, setN, hp, Bool.false_eq_true, if_false]
  · simp [s_selfstabref31_Ones_L0]

theorem All_spec {N : Nat} (hF : Fuel N) (n : Nat) (hn : n ≤ 32) : s_selfstabref01_All N n = some (setN (fun _ => true) n : Int) := by
  unfold s_selfstabref01_All
  refine loop_fold (fun m (s : Int × Int) => s_selfstabref01_All_L0 N n (fun o0 o1 => some o0) m s.1 s.2) (fun j => ((setN (fun _ => true) j : Int), (j : Int))) n _ (fun m j hj => ?_) (fun m => ?_) N (by omega)
  · have e1 := wsucc (j := j) (by omega)
    have e2 := nneg64 (v := j) (by omega)
    have e3 := shl32 (v := j) (by omega)
    have e4 := or32 (setN_lt32 (fun _ => true) (n := j) (by omega)) (pow32 (v := j) (by omega))
    have e5 : (decide ((j : Int) < 32)) = true := by simp; omega
    simp only [s_selfstabref01_All_L0]
    simp only [hj, e5, decide_true, chk_true, Int.ofNat_lt, sel_true, e1, e2, e3]
    rw [e4]
    rfl
  · simp [s_selfstabref01_All_L0]

theorem Has_spec {N : Nat} {a v : Nat} (ha : a < 4294967296) (h : v < 32) : s_selfstabref01_Has N a v = some (a.testBit v) := by
  unfold s_selfstabref01_Has
  have e1 : (decide ((v : Int) ≥ 0)) = true := by simp
  have e2 : (decide ((v : Int) < 32)) = true := by simp; omega
  simp only [e1, e2, sel_true, nneg64 h, chk_true]
  exact congrArg some (has32 ha h)

theorem idem_or (a b : Nat) : (a ||| b) ||| b = a ||| b := by rw [Nat.or_assoc, Nat.or_self]

/-- Has a node a neighbour in a set. -/
def nbIn (ps : Arr (Arr (Int × Int))) (a : Nat) (v : Nat) : Bool := (fnd (fun i => a.testBit (nb ps v i)) (ps.f v).n).isSome

theorem nbIn_succ (p : Nat → Bool) (i : Nat) : (fnd p (i + 1)).isSome = ((fnd p i).isSome || p i) := by
  rw [Bool.eq_iff_iff, Bool.or_eq_true, fnd_isSome, fnd_isSome]
  constructor
  · rintro ⟨j, hj, h⟩
    rcases Nat.lt_succ_iff_lt_or_eq.1 hj with h1 | rfl
    · exact .inl ⟨j, h1, h⟩
    · exact .inr h
  · rintro (⟨j, hj, h⟩ | h)
    · exact ⟨j, by omega, h⟩
    · exact ⟨i, by omega, h⟩

theorem Neighbours_spec {N : Nat} {ids : Arr Int} {ps : Arr (Arr (Int × Int))} (z : SZ N ids ps) {a : Nat} (ha : a < 4294967296) :
    s_selfstabref01_Neighbours N ids ps a = some (if validB ids ps then (setN (nbIn ps a) ps.n : Int) else 0) := by
  unfold s_selfstabref01_Neighbours
  rw [rvalid_eq z]
  cases hv : validB ids ps with
  | false => rfl
  | true =>
    have g := GOK.of hv
    have hF := z.fuel
    have hn1 := g.n1
    simp only [kO?_some', Bool.not_true, sel_false, if_true]
    have inner : ∀ (v : Nat), v < ps.n → ∀ (k0 : Int → Int → Option Int), s_selfstabref01_Neighbours_L1 N a ids ps v k0 N (setN (nbIn ps a) v : Int) 0 = k0 (setN (nbIn ps a) (v + 1) : Int) (ps.f v).n := by
      intro v hvn k0
      have hd := g.deg hvn
      have e3 := shl32 (v := v) (by omega)
      have e2 := nneg64 (v := v) (by omega)
      let S := fun j : Nat => if (fnd (fun i => a.testBit (nb ps v i)) j).isSome then setN (nbIn ps a) v ||| 2 ^ v else setN (nbIn ps a) v
      have hS : ∀ j, S j < 4294967296 := fun j => by
        show (if _ then _ else _) < _
        have h1 := setN_lt32 (nbIn ps a) (n := v) (by omega)
        have h2 := pow32 (v := v) (by omega)
        split
        · exact Nat.or_lt_two_pow (n := 32) h1 h2
        · exact h1
      have h0 : S 0 = setN (nbIn ps a) v := by simp [S, fnd]
      have h := loop_fold (fun m (s : Int × Int) => s_selfstabref01_Neighbours_L1 N a ids ps v k0 m s.1 s.2) (fun j => ((S j : Int), (j : Int))) (ps.f v).n (k0 (S (ps.f v).n : Int) (ps.f v).n) (fun m j hj => ?_) (fun m => ?_) N (by omega)
      · simp only [h0] at h
        exact h
      · obtain ⟨n1, n2⟩ := g.nb hvn hj
        have e1 := wsucc (j := j) (by omega)
        have e4 := or32 (hS j) (pow32 (v := v) (by omega))
        simp only [s_selfstabref01_Neighbours_L1]
        simp only [inr_nat, hj, hvn, decide_true, chk_true, Int.ofNat_lt, sel_true, Int.toNat_natCast, e1, e2, e3, n1]
        rw [Has_spec ha (by omega)]
        simp only [kO?_some', S, nbIn_succ]
        cases hb : a.testBit (nb ps v j) with
        | true =>
          simp only [sel_true, Bool.or_true, if_true]
          rw [e4]
          have : S j ||| 2 ^ v = setN (nbIn ps a) v ||| 2 ^ v := by
            show (if _ then _ else _) ||| _ = _
            split
            · exact idem_or _ _
            · rfl
          rw [this]
        | false =>
          simp only [sel_false, Bool.or_false]
      · simp [s_selfstabref01_Neighbours_L1, hvn]
    refine loop_fold (fun m (s : Int × Int) => s_selfstabref01_Neighbours_L0 N a ids ps (fun o0 o1 => some o0) m s.1 s.2) (fun j => ((setN (nbIn ps a) j : Int), (j : Int))) ps.n _ (fun m j hj => ?_) (fun m => ?_) N z.psl
    · simp only [s_selfstabref01_Neighbours_L0]
      simp only [hj, decide_true, Int.ofNat_lt, sel_true]
      rw [inner j hj, wsucc (by omega)]
    · simp [s_selfstabref01_Neighbours_L0]
end Sx
