/-
  Plain laws of graphs: graph.Valid says the same as the reference.
-/
import Derived.Test.YtbiikcjebnldfaaSxG1
namespace Sx
open Go
set_option linter.unusedSimpArgs false
set_option linter.unusedVariables false

/-! ### Maps -/

/-- A shape whose '==' is equality. -/
def Lawful (kc : CK) : Prop := ∀ a b : kc.ty, eqTy kc a b = true ↔ a = b

theorem lawI : Lawful CI := fun a b => beq_iff_eq (α := Int) (a := a) (b := b)

theorem lawP : Lawful CP := fun a b => by
  obtain ⟨a1, a2⟩ := a
  obtain ⟨b1, b2⟩ := b
  show (eqTy CI a1 b1 && eqTy CI a2 b2) = true ↔ _
  rw [Bool.and_eq_true, lawI, lawI]
  constructor
  · rintro ⟨rfl, rfl⟩; rfl
  · intro h; cases h; exact ⟨rfl, rfl⟩

theorem mfind_none {kc vc : CK} (h : Lawful kc) {key : kc.ty} : ∀ {l : List (kc.ty × vc.ty)}, mfind kc vc key l = none ↔ ∀ e ∈ l, key ≠ e.1
  | [] => by simp [mfind]
  | e :: l => by
    simp only [mfind]
    cases hb : eqTy kc key e.1 with
    | true => simp [(h _ _).1 hb]
    | false =>
      have : key ≠ e.1 := fun q => by rw [(h _ _).2 q] at hb; cases hb
      simp [mfind_none h, this]

theorem mfind_some {kc vc : CK} (h : Lawful kc) {key : kc.ty} {v : vc.ty} : ∀ {l : List (kc.ty × vc.ty)}, mfind kc vc key l = some v → ∃ e ∈ l, e.1 = key ∧ e.2 = v
  | [], q => by cases q
  | e :: l, q => by
    simp only [mfind] at q
    cases hb : eqTy kc key e.1 with
    | true =>
      rw [hb] at q
      cases q
      exact ⟨e, by simp, ((h _ _).1 hb).symm, rfl⟩
    | false =>
      rw [hb] at q
      obtain ⟨e', h1, h2⟩ := mfind_some h q
      exact ⟨e', by simp [h1], h2⟩

theorem mput_new {kc vc : CK} (h : Lawful kc) {key : kc.ty} {v : vc.ty} : ∀ {l : List (kc.ty × vc.ty)}, mfind kc vc key l = none → mput kc vc key v l = l ++ [(key, v)]
  | [], _ => rfl
  | e :: l, q => by
    simp only [mfind] at q
    cases hb : eqTy kc key e.1 with
    | true => rw [hb] at q; cases q
    | false =>
      rw [hb] at q
      simp only [mput, hb, mput_new h q, List.cons_append]

def findI (x : Int) (l : List (Int × Bool)) : Option Bool := mfind CI .bool x l
def findP (x : Int × Int) (l : List ((Int × Int) × Int)) : Option Int := mfind CP CI x l

theorem findI_none {x : Int} {l : List (Int × Bool)} : findI x l = none ↔ ∀ e ∈ l, x ≠ e.1 := mfind_none (kc := CI) (vc := .bool) lawI
theorem findI_some {x : Int} {l : List (Int × Bool)} {b : Bool} (h : findI x l = some b) : ∃ e ∈ l, e.1 = x ∧ e.2 = b := mfind_some (kc := CI) (vc := .bool) lawI h
theorem findP_none {x : Int × Int} {l : List ((Int × Int) × Int)} : findP x l = none ↔ ∀ e ∈ l, x ≠ e.1 := mfind_none (kc := CP) (vc := CI) lawP
theorem findP_some {x : Int × Int} {l : List ((Int × Int) × Int)} {w : Int} (h : findP x l = some w) : ∃ e ∈ l, e.1 = x ∧ e.2 = w := mfind_some (kc := CP) (vc := CI) lawP h
theorem putI_new {x : Int} {l : List (Int × Bool)} {b : Bool} (h : findI x l = none) : mput CI .bool x b l = l ++ [(x, b)] := mput_new (kc := CI) (vc := .bool) lawI h
theorem putP_new {x : Int × Int} {l : List ((Int × Int) × Int)} {w : Int} (h : findP x l = none) : mput CP CI x w l = l ++ [(x, w)] := mput_new (kc := CP) (vc := CI) lawP h

/-! ### Pigeons -/

theorem pigeon : ∀ (n m : Nat) (f : Nat → Nat), (∀ i, i < m → f i < n) → (∀ i, i < m → ∀ k, k < i → f k ≠ f i) → m ≤ n
  | 0, m, f, h1, _ => by
    rcases Nat.eq_zero_or_pos m with h | h
    · omega
    · have := h1 0 h; omega
  | n + 1, m, f, h1, h2 => by
    by_cases hx : ∃ i, i < m ∧ f i = n
    · obtain ⟨i0, hi0, hf⟩ := hx
      have inj : ∀ i k, i < m → k < m → f i = f k → i = k := fun i k hi hk e => by
        rcases Nat.lt_trichotomy i k with h | h | h
        · exact absurd e (h2 k hk i h)
        · exact h
        · exact absurd e.symm (h2 i hi k h)
      have := pigeon n (m - 1) (fun i => if i < i0 then f i else f (i + 1)) (fun i hi => by
        have h3 : (if i < i0 then f i else f (i + 1)) < n + 1 := by split <;> exact h1 _ (by omega)
        have h4 : (if i < i0 then f i else f (i + 1)) ≠ n := by
          split
          · intro e; have := inj i i0 (by omega) hi0 (by rw [e, hf]); omega
          · intro e; have := inj (i + 1) i0 (by omega) hi0 (by rw [e, hf]); omega
        show (if i < i0 then f i else f (i + 1)) < n
        omega) (fun i hi k hk => by
        show (if k < i0 then f k else f (k + 1)) ≠ (if i < i0 then f i else f (i + 1))
        split <;> split
        · exact h2 i (by omega) k hk
        · exact h2 (i + 1) (by omega) k (by omega)
        · omega
        · exact h2 (i + 1) (by omega) (k + 1) (by omega))
      omega
    · have := pigeon n m f (fun i hi => by
        have h3 := h1 i hi
        have h4 : f i ≠ n := fun e => hx ⟨i, hi, e⟩
        omega) h2
      omega

/-! ### The first loop: identifiers -/

def seenL (ids : Arr Int) (j : Nat) : List (Int × Bool) := (List.range j).map fun u => (ids.f u, true)

def idbad (ids : Arr Int) (v : Nat) : Bool := !decide (0 ≤ ids.f v ∧ ids.f v ≤ 255) || (fnd (fun u => ids.f u == ids.f v) v).isSome

theorem seen_find (ids : Arr Int) (j : Nat) (x : Int) : optD (findI x (seenL ids j)) false = (fnd (fun u => ids.f u == x) j).isSome := by
  cases h : findI x (seenL ids j) with
  | none =>
    rw [findI_none] at h
    have : fnd (fun u => ids.f u == x) j = none := fnd_none.2 fun u hu => by
      have := h (ids.f u, true) (by simp only [seenL, List.mem_map, List.mem_range]; exact ⟨u, hu, rfl⟩)
      simp only [beq_eq_false_iff_ne]
      exact fun e => this e.symm
    rw [this]; rfl
  | some b =>
    obtain ⟨e, h1, h2, h3⟩ := findI_some h
    simp only [seenL, List.mem_map, List.mem_range] at h1
    obtain ⟨u, hu, rfl⟩ := h1
    have : (fnd (fun u => ids.f u == x) j).isSome = true := fnd_isSome.2 ⟨u, hu, by simpa using h2⟩
    rw [this]
    simp only [optD]
    exact h3.symm

theorem validL0 {R : Type} {N : Nat} (hF : Fuel N) (ids : Arr Int) (ps : Arr (Arr (Int × Int))) (n : Int) (hi : ids.n < N) (k0 : Option R) (k1 : Int → List (Int × Bool) → Option R) :
    s_graph_Valid_L0 N ids ps n ids ids.n (fun _ => k0) k1 N 0 [] = sel (fnd (idbad ids) ids.n).isSome k0 (k1 ids.n (seenL ids ids.n)) := by
  refine loop_check (fun m (s : Int × List (Int × Bool)) => s_graph_Valid_L0 N ids ps n ids ids.n (fun _ => k0) k1 m s.1 s.2) (fun j => ((j : Int), seenL ids j)) ids.n (idbad ids) k0 (k1 ids.n (seenL ids ids.n)) (fun m j hj hp => ?_) (fun _ m => ?_) N hi
  · simp only [s_graph_Valid_L0]
    have e1 := seen_find ids j (ids.f j)
    simp only [inr_nat, hj, decide_true, chk_true, Int.ofNat_lt, sel_true, Int.toNat_natCast]
    have e1' : optD (α := Bool) (mfind (.int .i64) .bool (ids.f j) (seenL ids j)) false = _ := e1
    rw [e1', wsucc (by omega)]
    unfold idbad
    by_cases h0 : ids.f j < 0
    · simp [h0, show ¬ (0 ≤ ids.f j) from by omega]
    · by_cases h1 : ids.f j > 255
      · simp [h0, h1, show ¬ (ids.f j ≤ 255) from by omega]
      · simp only [h0, h1, decide_false, sel_false, show (0 ≤ ids.f j ∧ ids.f j ≤ 255) from by omega, and_self, decide_true, Bool.not_true, Bool.false_or]
        cases hd : (fnd (fun u => ids.f u == ids.f j) j).isSome with
        | true => rfl
        | false =>
          have hn : findI (ids.f j) (seenL ids j) = none := by
            rw [findI_none]
            intro e he
            simp only [seenL, List.mem_map, List.mem_range] at he
            obtain ⟨u, hu, rfl⟩ := he
            have hd' : fnd (fun u => ids.f u == ids.f j) j = none := by simpa using hd
            rw [fnd_none] at hd'
            have := hd' u hu
            simp only [beq_eq_false_iff_ne] at this
            exact fun e => this e.symm
          have e2 : mput CI .bool (ids.f j) true (seenL ids j) = seenL ids (j + 1) := by
            rw [putI_new hn]
            simp only [seenL, List.range_succ, List.map_append]
            rfl
          simp only [sel_false]
          exact congrArg (fun l => s_graph_Valid_L0 N ids ps n ids ids.n (fun _ => k0) k1 m ((j + 1 : Nat) : Int) l) e2
  · simp [s_graph_Valid_L0]

/-! ### The second loop: links -/

def entOf (ps : Arr (Arr (Int × Int))) (v i : Nat) : (Int × Int) × Int := (((v : Int), ((ps.f v).f i).1), ((ps.f v).f i).2)
def rowL (ps : Arr (Arr (Int × Int))) (v i : Nat) : List ((Int × Int) × Int) := (List.range i).map (entOf ps v)
def linkL (ps : Arr (Arr (Int × Int))) (v : Nat) : List ((Int × Int) × Int) := (List.range v).flatMap fun u => rowL ps u (ps.f u).n

theorem mem_rowL {ps : Arr (Arr (Int × Int))} {v i : Nat} {e : (Int × Int) × Int} : e ∈ rowL ps v i ↔ ∃ k, k < i ∧ e = entOf ps v k := by
  simp only [rowL, List.mem_map, List.mem_range]
  exact ⟨fun ⟨k, h1, h2⟩ => ⟨k, h1, h2.symm⟩, fun ⟨k, h1, h2⟩ => ⟨k, h1, h2.symm⟩⟩

theorem mem_linkL {ps : Arr (Arr (Int × Int))} {v : Nat} {e : (Int × Int) × Int} : e ∈ linkL ps v ↔ ∃ u k, u < v ∧ k < (ps.f u).n ∧ e = entOf ps u k := by
  simp only [linkL, List.mem_flatMap, List.mem_range, mem_rowL]
  exact ⟨fun ⟨u, h1, k, h2, h3⟩ => ⟨u, k, h1, h2, h3⟩, fun ⟨u, k, h1, h2, h3⟩ => ⟨u, h1, k, h2, h3⟩⟩

theorem linkL_succ (ps : Arr (Arr (Int × Int))) (v : Nat) : linkL ps (v + 1) = linkL ps v ++ rowL ps v (ps.f v).n := by
  simp [linkL, List.range_succ]

theorem rowL_succ (ps : Arr (Arr (Int × Int))) (v i : Nat) : rowL ps v (i + 1) = rowL ps v i ++ [entOf ps v i] := by
  simp [rowL, List.range_succ]

/-- Was a link there already. -/
theorem row_find {ps : Arr (Arr (Int × Int))} {v i : Nat} (x : Int) (hw : ∀ k, k < i → 1 ≤ ((ps.f v).f k).2) :
    (optD (findP ((v : Int), x) (linkL ps v ++ rowL ps v i)) 0 != 0) = (fnd (fun k => ((ps.f v).f k).1 == x) i).isSome ∧
    ((fnd (fun k => ((ps.f v).f k).1 == x) i).isSome = false → findP ((v : Int), x) (linkL ps v ++ rowL ps v i) = none) := by
  cases h : findP ((v : Int), x) (linkL ps v ++ rowL ps v i) with
  | none =>
    rw [findP_none] at h
    have : fnd (fun k => ((ps.f v).f k).1 == x) i = none := fnd_none.2 fun k hk => by
      have := h (entOf ps v k) (List.mem_append_right _ (mem_rowL.2 ⟨k, hk, rfl⟩))
      simp only [beq_eq_false_iff_ne]
      intro e
      apply this
      simp only [entOf, e]
    rw [this]
    exact ⟨rfl, fun _ => rfl⟩
  | some w =>
    obtain ⟨e, h1, h2, h3⟩ := findP_some h
    rcases List.mem_append.1 h1 with h1 | h1
    · obtain ⟨u, k, hu, hk, rfl⟩ := mem_linkL.1 h1
      have := congrArg Prod.fst h2
      simp only [entOf] at this
      have : (u : Int) = (v : Int) := this
      omega
    · obtain ⟨k, hk, rfl⟩ := mem_rowL.1 h1
      have h4 : ((ps.f v).f k).1 = x := congrArg Prod.snd h2
      have h5 : (fnd (fun k => ((ps.f v).f k).1 == x) i).isSome = true := fnd_isSome.2 ⟨k, hk, by simpa using h4⟩
      have h6 : ((ps.f v).f k).2 = w := h3
      have := hw k hk
      rw [h5]
      refine ⟨?_, fun q => by cases q⟩
      simp only [optD]
      have : ¬ w = 0 := by omega
      simpa using this

theorem validL2 {R : Type} {N : Nat} (hF : Fuel N) (ps : Arr (Arr (Int × Int))) (n v : Nat) (t55 : Arr (Arr (Int × Int))) (t56 t57 : Int) (sl : List (Int × Bool)) (hl : (ps.f v).n < N) (hn : n ≤ 24) (k0 : Option R) (k1 : Int → List ((Int × Int) × Int) → Option R) :
    s_graph_Valid_L2 N n v t55 t56 t57 (ps.f v) (ps.f v).n sl (fun _ => k0) k1 N 0 (linkL ps v) = sel (fnd (lbad (ps.f v) v n) (ps.f v).n).isSome k0 (k1 (ps.f v).n (linkL ps (v + 1))) := by
  have h := loop_check (fun m (s : Int × List ((Int × Int) × Int)) => s_graph_Valid_L2 N n v t55 t56 t57 (ps.f v) (ps.f v).n sl (fun _ => k0) k1 m s.1 s.2) (fun j => ((j : Int), linkL ps v ++ rowL ps v j)) (ps.f v).n (lbad (ps.f v) v n) k0 (k1 (ps.f v).n (linkL ps (v + 1))) (fun m j hj hp => ?_) (fun _ m => ?_) N hl
  · have e0 : linkL ps v ++ rowL ps v 0 = linkL ps v := by simp [rowL]
    simp only [e0] at h
    exact h
  · simp only [s_graph_Valid_L2]
    have hw : ∀ k, k < j → 1 ≤ ((ps.f v).f k).2 := fun k hk => (lbad_false (hp k hk)).2.2.2.1
    obtain ⟨e1, e2⟩ := row_find ((ps.f v).f j).1 hw
    simp only [inr_nat, hj, decide_true, chk_true, Int.ofNat_lt, sel_true, Int.toNat_natCast]
    rw [wsucc (by omega)]
    unfold lbad
    by_cases c0 : ((ps.f v).f j).1 < 0
    · simp [c0, show ¬ (0 ≤ ((ps.f v).f j).1) from by omega]
    · by_cases c1 : ((ps.f v).f j).1 ≥ (n : Int)
      · simp [c0, c1, show ¬ (((ps.f v).f j).1 ≤ (n : Int) - 1) from by omega]
      · have c2 : (0 ≤ ((ps.f v).f j).1 ∧ ((ps.f v).f j).1 ≤ (n : Int) - 1) := by omega
        simp only [c0, c1, decide_false, sel_false, c2, and_self, decide_true, Bool.not_true, Bool.false_or]
        cases c3 : ((ps.f v).f j).1 == (v : Int) with
        | true => simp
        | false =>
          simp only [sel_false, Bool.false_or]
          by_cases c4 : ((ps.f v).f j).2 < 1
          · simp [c4, show ¬ (1 ≤ ((ps.f v).f j).2) from by omega]
          · by_cases c5 : ((ps.f v).f j).2 > 15
            · simp [c4, c5, show ¬ (((ps.f v).f j).2 ≤ 15) from by omega]
            · have c6 : (1 ≤ ((ps.f v).f j).2 ∧ ((ps.f v).f j).2 ≤ 15) := by omega
              simp only [c4, c5, decide_false, sel_false, c6, and_self, decide_true, Bool.not_true, Bool.false_or]
              have e1' : (optD (α := Int) (mfind (.pair (.int .i64) (.int .i64)) (.int .i64) ((v : Int), ((ps.f v).f j).1) (linkL ps v ++ rowL ps v j)) 0 != 0) = _ := e1
              rw [e1']
              cases hd : (fnd (fun k => ((ps.f v).f k).1 == ((ps.f v).f j).1) j).isSome with
              | true => rfl
              | false =>
                have e3 : mput CP CI ((v : Int), ((ps.f v).f j).1) ((ps.f v).f j).2 (linkL ps v ++ rowL ps v j) = linkL ps v ++ rowL ps v (j + 1) := by
                  exact (putP_new (w := ((ps.f v).f j).2) (e2 hd)).trans (by rw [rowL_succ, List.append_assoc]; rfl)
                simp only [sel_false]
                exact congrArg (fun l => s_graph_Valid_L2 N n v t55 t56 t57 (ps.f v) (ps.f v).n sl (fun _ => k0) k1 m ((j + 1 : Nat) : Int) l) e3
  · simp [s_graph_Valid_L2, linkL_succ]

theorem linkL_length {ps : Arr (Arr (Int × Int))} {n : Nat} (h : ∀ v, v < n → (ps.f v).n ≤ 24) : (linkL ps n).length ≤ n * 24 := by
  induction n with
  | zero => simp [linkL]
  | succ n ih =>
    rw [linkL_succ, List.length_append]
    have := ih fun v hv => h v (by omega)
    have h2 := h n (by omega)
    simp only [rowL, List.length_map, List.length_range]
    omega

def lkbad (ps : Arr (Arr (Int × Int))) (v : Nat) : Bool := (fnd (lbad (ps.f v) v ps.n) (ps.f v).n).isSome

theorem deg_small {ps : Arr (Arr (Int × Int))} {v : Nat} (hv : v < ps.n) (h : lkbad ps v = false) : (ps.f v).n < ps.n := by
  have h' : fnd (lbad (ps.f v) v ps.n) (ps.f v).n = none := by simpa [lkbad] using h
  rw [fnd_none] at h'
  have q := fun i hi => lbad_false (h' i hi)
  have := pigeon ps.n ((ps.f v).n + 1) (fun i => if i < (ps.f v).n then ((ps.f v).f i).1.toNat else v) (fun i hi => by
    show (if i < (ps.f v).n then ((ps.f v).f i).1.toNat else v) < ps.n
    split
    · rename_i h1; have := q i h1; omega
    · exact hv) (fun i hi k hk => by
    show (if k < (ps.f v).n then ((ps.f v).f k).1.toNat else v) ≠ (if i < (ps.f v).n then ((ps.f v).f i).1.toNat else v)
    split <;> split
    · rename_i h1 h2
      have q1 := q i h2
      have q2 := q k h1
      have := q1.2.2.2.2.2 k hk
      omega
    · rename_i h1 h2
      have q2 := q k h1
      omega
    · omega
    · omega)
  omega

theorem nbad_eq {ids : Arr Int} {ps : Arr (Arr (Int × Int))} : (fnd (nbad ids ps) ps.n).isSome = ((fnd (idbad ids) ps.n).isSome || (fnd (lkbad ps) ps.n).isSome) := by
  rw [Bool.eq_iff_iff, Bool.or_eq_true, fnd_isSome, fnd_isSome, fnd_isSome]
  constructor
  · rintro ⟨v, hv, h⟩
    simp only [nbad, Bool.or_eq_true] at h
    rcases h with h | h | h | h
    · exact .inl ⟨v, hv, by simp only [idbad, h, Bool.true_or]⟩
    · right
      refine ⟨v, hv, ?_⟩
      cases hb : lkbad ps v with
      | true => rfl
      | false =>
        have := deg_small hv hb
        simp at h; omega
    · exact .inr ⟨v, hv, h⟩
    · exact .inl ⟨v, hv, by simp only [idbad, h, Bool.or_true]⟩
  · rintro (⟨v, hv, h⟩ | ⟨v, hv, h⟩)
    · refine ⟨v, hv, ?_⟩
      simp only [idbad, Bool.or_eq_true] at h
      rcases h with h | h <;> simp only [nbad, h, Bool.true_or, Bool.or_true]
    · exact ⟨v, hv, by simp only [lkbad] at h; simp [nbad, h]⟩

theorem wlook_eq {ids : Arr Int} {ps : Arr (Arr (Int × Int))} (hall : ∀ u, u < ps.n → NOK ids ps u) {a : Nat} (ha : a < ps.n) (b : Int) :
    wlook (linkL ps ps.n) a b = if portOf (ps.f a) b < 0 then 0 else ((ps.f a).f (portOf (ps.f a) b).toNat).2 := by
  have e : wlook (linkL ps ps.n) a b = optD (findP ((a : Int), b) (linkL ps ps.n)) 0 := rfl
  rw [e]
  rcases portOf_cases (ps.f a) b with ⟨hp, hno⟩ | ⟨i, hp, hi, hto, _⟩
  · rw [if_pos (by omega)]
    cases h : findP ((a : Int), b) (linkL ps ps.n) with
    | none => rfl
    | some w =>
      obtain ⟨e, h1, h2, h3⟩ := findP_some h
      obtain ⟨u, k, hu, hk, rfl⟩ := mem_linkL.1 h1
      have h4 : (u : Int) = a := congrArg Prod.fst h2
      have h5 : ((ps.f u).f k).1 = b := congrArg Prod.snd h2
      have : u = a := by omega
      subst this
      exact absurd h5 (hno k hk)
  · rw [if_neg (by omega), hp]
    simp only [Int.toNat_natCast]
    cases h : findP ((a : Int), b) (linkL ps ps.n) with
    | none =>
      rw [findP_none] at h
      exact absurd (by simp only [entOf, hto]) (h (entOf ps a i) (mem_linkL.2 ⟨a, i, ha, hi, rfl⟩))
    | some w =>
      obtain ⟨e, h1, h2, h3⟩ := findP_some h
      obtain ⟨u, k, hu, hk, rfl⟩ := mem_linkL.1 h1
      have h4 : (u : Int) = a := congrArg Prod.fst h2
      have h5 : ((ps.f u).f k).1 = b := congrArg Prod.snd h2
      have : u = a := by omega
      subst this
      have : k = i := by
        rcases Nat.lt_trichotomy k i with h | h | h
        · exact absurd (h5.trans hto.symm) ((hall u ha).once i hi k h)
        · exact h
        · exact absurd (hto.trans h5.symm) ((hall u ha).once k hk i h)
      subst this
      exact h3.symm

theorem wsym_eq {ids : Arr Int} {ps : Arr (Arr (Int × Int))} (hall : ∀ u, u < ps.n → NOK ids ps u) :
    wsym (linkL ps ps.n) = !(fnd (fun v => (fnd (bbad ps v) (ps.f v).n).isSome) ps.n).isSome := by
  rw [Bool.eq_iff_iff]
  unfold wsym
  rw [List.all_eq_true, Bool.not_eq_true', ← Bool.not_eq_true, fnd_isSome]
  have one : ∀ v i, v < ps.n → i < (ps.f v).n → ((!(wlook (linkL ps ps.n) ((ps.f v).f i).1 v != ((ps.f v).f i).2)) = true ↔ bbad ps v i = false) := by
    intro v i hv hi
    have t0 := (hall v hv).to0 i hi
    have t1 := (hall v hv).to1 i hi
    have hw := (hall v hv).w0 i hi
    have e : (((ps.f v).f i).1.toNat : Int) = ((ps.f v).f i).1 := by omega
    have := wlook_eq hall (a := ((ps.f v).f i).1.toNat) (by omega) (v : Int)
    rw [e] at this
    rw [this]
    simp only [bbad, Bool.or_eq_false_iff, decide_eq_false_iff_not]
    by_cases hp : portOf (ps.f ((ps.f v).f i).1.toNat) v < 0
    · simp only [hp, if_true, not_true, false_and, iff_false]
      simp; omega
    · simp [hp]
  constructor
  · rintro h ⟨v, hv, hb⟩
    rw [fnd_isSome] at hb
    obtain ⟨i, hi, hb⟩ := hb
    have := (one v i hv hi).1 (h (entOf ps v i) (mem_linkL.2 ⟨v, i, hv, hi, rfl⟩))
    rw [hb] at this; cases this
  · intro h e he
    obtain ⟨v, i, hv, hi, rfl⟩ := mem_linkL.1 he
    refine (one v i hv hi).2 ?_
    cases hb : bbad ps v i with
    | false => rfl
    | true => exact absurd ⟨v, hv, fnd_isSome.2 ⟨i, hi, hb⟩⟩ h

theorem graph_Valid_spec {N : Nat} (hF : Fuel N) (ids : Arr Int) (ps : Arr (Arr (Int × Int))) (hi : ids.n < N) (hp : ps.n < N) (hl : ∀ v, v < ps.n → (ps.f v).n < N) :
    s_graph_Valid N ids ps = some (validB ids ps) := by
  unfold s_graph_Valid validB
  by_cases h1 : 1 ≤ ps.n ∧ ps.n ≤ 24
  · have c1 : ¬ ((ps.n : Int) < 1) := by omega
    have c2 : ¬ ((ps.n : Int) > 24) := by omega
    simp only [c1, c2, decide_false, sel_false, h1, and_self, decide_true, Bool.true_and]
    by_cases h2 : ids.n = ps.n
    · simp only [h2, bne_self_eq_false, sel_false, decide_true, Bool.true_and]
      have e0 := validL0 (R := Bool) hF ids ps (ps.n : Int) hi (some false) (fun _ o1 => s_graph_Valid_L1 N ps.n ps ps.n o1 (fun _ => some false) (fun _ o1_3 => chk (decide (o1_3.length < N)) (sel (wsym o1_3) (some true) (some false))) N 0 [])
      rw [h2] at e0
      refine e0.trans ?_
      rw [nbad_eq]
      cases hb : (fnd (idbad ids) ps.n).isSome with
      | true => simp
      | false =>
        simp only [sel_false, Bool.false_or]
        refine (loop_check (fun m (s : Int × List ((Int × Int) × Int)) => s_graph_Valid_L1 N ps.n ps ps.n (seenL ids ps.n) (fun _ => some false) (fun _ o1_3 => chk (decide (o1_3.length < N)) (sel (wsym o1_3) (some true) (some false))) m s.1 s.2) (fun j => ((j : Int), linkL ps j)) ps.n (lkbad ps) (some false) (chk (decide ((linkL ps ps.n).length < N)) (sel (wsym (linkL ps ps.n)) (some true) (some false))) (fun m j hj hq => ?_) (fun _ m => ?_) N hp).trans ?_
        · simp only [s_graph_Valid_L1]
          simp only [inr_nat, hj, decide_true, chk_true, Int.ofNat_lt, sel_true, Int.toNat_natCast]
          have e2 := validL2 (R := Bool) hF ps ps.n j ps ps.n j (seenL ids ps.n) (hl j hj) h1.2 (some false) (fun _ o1_2 => s_graph_Valid_L1 N ps.n ps ps.n (seenL ids ps.n) (fun _ => some false) (fun _ o1_3 => chk (decide (o1_3.length < N)) (sel (wsym o1_3) (some true) (some false))) m (IntKind.i64.wrap ((j : Int) + 1)) o1_2)
          refine e2.trans ?_
          rw [wsucc (by omega)]
          rfl
        · simp [s_graph_Valid_L1]
        · cases hk : (fnd (lkbad ps) ps.n).isSome with
          | true => simp
          | false =>
            have hk' : fnd (lkbad ps) ps.n = none := by simpa using hk
            rw [fnd_none] at hk'
            have hnb : fnd (nbad ids ps) ps.n = none := by
              have := nbad_eq (ids := ids) (ps := ps)
              rw [hb, hk] at this
              simpa using this
            rw [fnd_none] at hnb
            have hall : ∀ u, u < ps.n → NOK ids ps u := fun u hu => nbad_false (hnb u hu)
            have hlen := linkL_length (ps := ps) (n := ps.n) fun v hv => by have := deg_small hv (hk' v hv); omega
            have hlt : (linkL ps ps.n).length < N := by
              have : ps.n * 24 ≤ 24 * 24 := Nat.mul_le_mul_right _ h1.2
              omega
            simp only [sel_false, hlt, decide_true, chk_true, wsym_eq hall]
            cases (fnd (fun v => (fnd (bbad ps v) (ps.f v).n).isSome) ps.n).isSome <;> rfl
    · have h3 : ((ids.n : Int) != (ps.n : Int)) = true := by simp; omega
      simp [h2, h3]
  · by_cases c1 : (ps.n : Int) < 1
    · simp [c1, h1]
    · have c2 : (ps.n : Int) > 24 := by omega
      simp [c1, c2, h1]
end Sx
