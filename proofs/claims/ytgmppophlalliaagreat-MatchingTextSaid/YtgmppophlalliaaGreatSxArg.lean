/-
  Sx: arguments as abstract values.
-/
import Derived.Test.YtgmppophlalliaaGreatSxCode
import Derived.Deep.Slices
import Derived.ChangeArms
namespace Sx
open Go
set_option linter.unusedSimpArgs false
set_option linter.unusedVariables false

/-- What a cell of a type is. -/
inductive CSh where
  | int (k : IntKind)
  | bool
  | str
  | sl (es : List CSh)

/-- A slice that is only read, of a list. -/
def roL (sz : Nat) (l : List (List AV)) : AV := .ro sz l.length fun i => l.getD i []

inductive FitC : CSh → AV → Prop
  | int {k : IntKind} {n : Int} : (Lit.int k n).wf = true → FitC (.int k) (.v (.int k n))
  | bool {b : Bool} : FitC .bool (.v (.bool b))
  | str {s : ByteArray} : s.size ≤ maxLen → FitC .str (.v (.string s))
  | sl {es : List CSh} {l : List (List AV)} : l.length ≤ maxLen → (∀ e ∈ l, e.length = es.length) → (∀ (e : List AV), e ∈ l → ∀ (i : Nat) (s : CSh) (c : AV), es[i]? = some s → e[i]? = some c → FitC s c) → FitC (.sl es) (roL es.length l)

section
variable (P : Program)

def shapeFs (sh : TypeId → Option (List CSh)) : List Field → Nat → Option (List CSh)
  | [], _ => some []
  | f :: fs, i => if f.offset = i then (sh f.type).bind fun l => if P.cellsOf f.type = l.length then (shapeFs sh fs (i + l.length)).map (l ++ ·) else none else none

def shapeT : Nat → TypeId → Option (List CSh)
  | 0, _ => none
  | d + 1, t => match P.underlying t with
    | some (.int k) => some [.int k]
    | some .bool => some [.bool]
    | some .string => some [.str]
    | some (.slice e) => (shapeT d e).bind fun l => if P.cellsOf e = l.length ∧ 0 < l.length then some [.sl l] else none
    | some (.struct fs) => (shapeFs P (shapeT d) fs.toList 0).bind fun l => if P.cellsOf t = l.length then some l else none
    | some (.array n e) => (shapeT d e).bind fun l => if P.cellsOf e = l.length ∧ P.cellsOf t = n * l.length then some (List.replicate n l).flatten else none
    | _ => none
end

variable {P : Program} {φ : Nat → Option Nat} {ρ : Rho}

structure AR (φ : Nat → Option Nat) (w : World) (ρ : Rho) (shs : List CSh) (avs : List AV) (cs : List Value) : Prop where
  la : avs.length = shs.length
  lc : cs.length = shs.length
  fit : ∀ (i : Nat) (s : CSh) (c : AV), shs[i]? = some s → avs[i]? = some c → FitC s c
  vr : ∀ (i : Nat) (c : AV) (u : Value), avs[i]? = some c → cs[i]? = some u → VR φ (fun b => b < w.heap.size) w ρ false c u
  one : ∀ u ∈ cs, u.oneCell' = true

theorem AR.nil {w : World} : AR φ w ρ [] [] [] := ⟨rfl, rfl, fun i s c h => by simp at h, fun i c u h => by simp at h, by simp⟩

theorem AR.one' {w : World} {s : CSh} {c : AV} {u : Value} (h1 : FitC s c) (h2 : VR φ (fun b => b < w.heap.size) w ρ false c u) (h3 : u.oneCell' = true) : AR φ w ρ [s] [c] [u] :=
  ⟨rfl, rfl, fun i s' c' h h' => by cases i <;> simp_all, fun i c' u' h h' => by cases i <;> simp_all, by simpa using h3⟩

theorem AR.append {w : World} {s1 s2 : List CSh} {a1 a2 : List AV} {c1 c2 : List Value} (h : AR φ w ρ s1 a1 c1) (k : AR φ w ρ s2 a2 c2) : AR φ w ρ (s1 ++ s2) (a1 ++ a2) (c1 ++ c2) where
  la := by simp [h.la, k.la]
  lc := by simp [h.lc, k.lc]
  fit i s c hs hc := by
    rw [List.getElem?_append] at hs hc
    rw [h.la] at hc
    split at hs
    · rename_i q; rw [if_pos q] at hc; exact h.fit i s c hs hc
    · rename_i q; rw [if_neg q] at hc; exact k.fit _ s c hs hc
  vr i c u hc hu := by
    rw [List.getElem?_append] at hc hu
    rw [h.la] at hc
    rw [h.lc] at hu
    split at hc
    · rename_i q; rw [if_pos q] at hu; exact h.vr i c u hc hu
    · rename_i q; rw [if_neg q] at hu; exact k.vr _ c u hc hu
  one u hu := by
    rcases List.mem_append.1 hu with q | q
    · exact h.one u q
    · exact k.one u q

theorem cells?_at {w : World} {base : Nat} {a : Addr} {n : Nat} {cs : List Value} (h : w.cells? base a n = some cs) : cs.length = n ∧ ∀ (j : Nat) (u : Value), cs[j]? = some u → w.cell? (a.add j) = some u := by
  unfold World.cells? at h
  split at h
  · obtain ⟨h1, h2⟩ := mapM_list _ _ _ h
    refine ⟨by simpa using h1, fun j u hu => ?_⟩
    have hj : j < n := by have := (List.getElem?_eq_some_iff.1 hu).1; simp at h1; omega
    exact h2 j j u (by simp [hj]) hu
  · cases h

section
variable {H : Type} {enc : TypeId × Value → H} {w : World} {base : Nat} {spare : Nat → Bool} {held : Bool}

theorem open_fields {sh : TypeId → Option (List CSh)} {r : TypeId → List Value → Option (DataW H × List MemPlace)} (hr : ∀ t cs x shs, r t cs = some x → sh t = some shs → ∃ avs, AR φ w ρ shs avs cs) (cs : List Value) :
    ∀ (fs : List Field) (i : Nat) (shs : List CSh) (xs : List (DataW H × List MemPlace)), shapeFs P sh fs i = some shs → fs.mapM (fun f => r f.type ((cs.drop f.offset).take (P.cellsOf f.type))) = some xs → i + shs.length = cs.length →
    ∃ avs, AR φ w ρ shs avs (cs.drop i)
  | [], i, shs, xs, h, hm, hl => by
    simp [shapeFs] at h; subst h
    exact ⟨[], by rw [List.drop_eq_nil_of_le (by simp at hl; omega)]; exact .nil⟩
  | f :: fs, i, shs, xs, h, hm, hl => by
    simp only [shapeFs] at h
    split at h
    · rename_i ho
      simp only [Option.bind_eq_some_iff] at h
      obtain ⟨l, h1, h⟩ := h
      split at h
      · rename_i hc
        simp only [Option.map_eq_some_iff] at h
        obtain ⟨l', h2, rfl⟩ := h
        rw [List.mapM_cons] at hm
        cases e1 : r f.type ((cs.drop f.offset).take (P.cellsOf f.type)) with
        | none => rw [e1] at hm; cases hm
        | some x =>
          rw [e1] at hm
          cases e2 : fs.mapM (fun f => r f.type ((cs.drop f.offset).take (P.cellsOf f.type))) with
          | none => rw [e2] at hm; cases hm
          | some xs' =>
            obtain ⟨a1, q1⟩ := hr _ _ _ _ e1 h1
            obtain ⟨a2, q2⟩ := open_fields hr cs fs (i + l.length) l' xs' h2 e2 (by simp at hl; omega)
            refine ⟨a1 ++ a2, ?_⟩
            have : cs.drop i = (cs.drop f.offset).take (P.cellsOf f.type) ++ cs.drop (i + l.length) := by
              rw [ho, hc, ← List.drop_drop]
              exact (List.take_append_drop _ _).symm
            rw [this]
            exact q1.append q2
      · cases h
    · cases h

theorem open_rows {l : List CSh} {r : List Value → Option (DataW H × List MemPlace)} (hr : ∀ cs x, r cs = some x → ∃ avs, AR φ w ρ l avs cs) (cs : List Value) :
    ∀ (n i : Nat) (xs : List (DataW H × List MemPlace)), (List.range' i n).mapM (fun i => r ((cs.drop (i * l.length)).take l.length)) = some xs → (i + n) * l.length = cs.length → ∃ avs, AR φ w ρ (List.replicate n l).flatten avs (cs.drop (i * l.length))
  | 0, i, xs, hm, hl => ⟨[], by rw [List.drop_eq_nil_of_le (by simp at hl; omega)]; exact .nil⟩
  | n + 1, i, xs, hm, hl => by
    rw [List.range'_succ, List.mapM_cons] at hm
    cases e1 : r ((cs.drop (i * l.length)).take l.length) with
    | none => rw [e1] at hm; cases hm
    | some x =>
      rw [e1] at hm
      cases e2 : (List.range' (i + 1) n).mapM (fun i => r ((cs.drop (i * l.length)).take l.length)) with
      | none => rw [e2] at hm; cases hm
      | some xs' =>
        obtain ⟨a1, q1⟩ := hr _ _ e1
        obtain ⟨a2, q2⟩ := open_rows hr cs n (i + 1) xs' e2 (by rw [show i + 1 + n = i + (n + 1) from by omega]; exact hl)
        refine ⟨a1 ++ a2, ?_⟩
        rw [List.replicate_succ, List.flatten_cons]
        have : cs.drop (i * l.length) = (cs.drop (i * l.length)).take l.length ++ cs.drop ((i + 1) * l.length) := by
          rw [Nat.add_mul, Nat.one_mul, ← List.drop_drop]
          exact (List.take_append_drop _ _).symm
        rw [this]
        exact q1.append q2

theorem open_any : ∀ (d fuel : Nat) (t : TypeId) (cs : List Value) (x : DataW H × List MemPlace) (shs : List CSh), DataW.trod enc P w base spare held fuel t cs = some x → shapeT P d t = some shs → ∃ avs, AR φ w ρ shs avs cs
  | 0, fuel, t, cs, x, shs, h, hs => by simp [shapeT] at hs
  | d + 1, fuel, t, cs, x, shs, h, hs => by
    simp only [shapeT] at hs
    split at hs
    · rename_i k hu
      cases hs
      obtain ⟨n, rfl, _, hw⟩ := DataW.trod_int hu h
      exact ⟨_, AR.one' (.int hw) .v rfl⟩
    · rename_i hu
      cases hs
      obtain ⟨b, rfl, _⟩ := DataW.trod_bool hu h
      exact ⟨_, AR.one' .bool .v rfl⟩
    · rename_i hu
      cases hs
      obtain ⟨s, rfl, _, hl⟩ := DataW.trod_string hu h
      exact ⟨_, AR.one' (.str hl) .v rfl⟩
    · rename_i e hu
      simp only [Option.bind_eq_some_iff] at hs
      obtain ⟨l, hl, hs⟩ := hs
      split at hs
      · rename_i hc
        cases hs
        rcases Deep.open_slice hu h with ⟨rfl, _⟩ | ⟨a, len, cap, m, n, D, Pl, rfl, hb, hlc, hcm, hm, _, hel⟩
        · exact ⟨_, AR.one' (.sl (l := []) (by simp) (by simp) (fun e he => by simp at he)) .ro0 rfl⟩
        · have hlm : len ≤ m := by rw [hm]; split <;> omega
          have each : ∀ i, i < len → ∃ y : List AV × List Value, w.cells? base (a.add (i * l.length)) l.length = some y.2 ∧ AR φ w ρ l y.1 y.2 := fun i hi => by
            obtain ⟨cs', q1, q2⟩ := hel i (by omega)
            rw [hc.1] at q1
            obtain ⟨avs, q3⟩ := open_any d n e cs' _ l q2 hl
            exact ⟨(avs, cs'), q1, q3⟩
          obtain ⟨y, hy⟩ := Deep.choose_lt each
          have hget : ∀ i, i < len → ((List.range len).map fun i => (y i).1).getD i [] = (y i).1 := fun i hi => by simp [List.getD, hi]
          refine ⟨[roL l.length ((List.range len).map fun i => (y i).1)], AR.one' (.sl (by simp; omega) (fun q hq => ?_) (fun q hq i s c h1 h2 => ?_)) ?_ rfl⟩
          · obtain ⟨i, hi, rfl⟩ := List.mem_map.1 hq
            exact (hy i (by simpa using hi)).2.la
          · obtain ⟨j, hj, rfl⟩ := List.mem_map.1 hq
            exact (hy j (by simpa using hj)).2.fit i s c h1 h2
          · unfold roL
            simp only [List.length_map, List.length_range]
            by_cases h0 : len = 0
            · subst h0; exact .ro0
            · have hcell : ∀ i j u, i < len → (y i).2[j]? = some u → w.cell? (a.add (i * l.length + j)) = some u := fun i j u hi hu => by
                rw [← add_add]
                exact (cells?_at (hy i hi).1).2 j u hu
              have hT : a.block < w.heap.size := by
                have hlen := (cells?_at (hy 0 (by omega)).1).1
                have := hcell 0 0 ((y 0).2[0]'(by omega)) (by omega) (List.getElem?_eq_getElem (by omega))
                have := World.block_lt_of_cell? w _ this
                rwa [add_block] at this
              refine .ro (us := fun i => (y i).2) (by omega) hlc hT (fun i hi => ?_) (fun i hi => ?_) (fun i j u hi hu => hcell i j u hi hu) (fun i u hi hu => (hy i hi).2.one u hu) (fun i j c u hi hc' hu => ?_)
              · rw [hget i hi]; exact (hy i hi).2.la
              · exact (hy i hi).2.lc
              · rw [hget i hi] at hc'; exact (hy i hi).2.vr j c u hc' hu
      · cases hs
    · rename_i fs hu
      simp only [Option.bind_eq_some_iff] at hs
      obtain ⟨l, hl, hs⟩ := hs
      split at hs
      · rename_i hc
        cases hs
        cases fuel with
        | zero => simp [DataW.trod] at h
        | succ fuel =>
          simp only [DataW.trod, hu] at h
          split at h
          · rename_i hlen
            simp only [Option.map_eq_some_iff] at h
            obtain ⟨xs, hm, _⟩ := h
            obtain ⟨avs, q⟩ := open_fields (P := P) (r := DataW.trod enc P w base spare held fuel) (fun t cs x shs h1 h2 => open_any d fuel t cs x shs h1 h2) cs fs.toList 0 _ xs hl hm (by omega)
            exact ⟨avs, by simpa using q⟩
          · cases h
      · cases hs
    · rename_i n e hu
      simp only [Option.bind_eq_some_iff] at hs
      obtain ⟨l, hl, hs⟩ := hs
      split at hs
      · rename_i hc
        cases hs
        cases fuel with
        | zero => simp [DataW.trod] at h
        | succ fuel =>
          simp only [DataW.trod, hu] at h
          split at h
          · rename_i hlen
            simp only [Option.map_eq_some_iff] at h
            obtain ⟨xs, hm, _⟩ := h
            rw [List.range_eq_range', hc.1] at hm
            obtain ⟨avs, q⟩ := open_rows (r := DataW.trod enc P w base spare held fuel e) (fun cs x h1 => open_any d fuel e cs x l h1 hl) cs n 0 xs hm (by rw [Nat.zero_add, hlen, hc.2])
            exact ⟨avs, by simpa using q⟩
          · cases h
      · cases hs
    · cases hs
end
end Sx
