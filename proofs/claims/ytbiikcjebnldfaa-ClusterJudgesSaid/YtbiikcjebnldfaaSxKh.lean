/-
  K: arguments of a law.
-/
import Derived.Test.YtbiikcjebnldfaaSxKg
import Derived.Test.YtbiikcjebnldfaaSxArg
import Derived.Test.YtbiikcjebnldfaaSxRow
namespace Sx
open Go
set_option linter.unusedSimpArgs false
set_option linter.unusedVariables false

/-- What is known of a value of an argument. -/
def TyWf : (c : CK) → c.ty → Prop
  | .int k, n => (Lit.int k n).wf = true
  | .bool, _ => True
  | .str, s => s.size ≤ maxLen
  | .arr e, a => a.n ≤ maxLen ∧ ∀ i, i < a.n → TyWf e (a.f i)
  | .pair a b, p => TyWf a p.1 ∧ TyWf b p.2

def csL (f : CSh → Option CK) : List CSh → Option CK
  | [] => none
  | [s] => f s
  | s :: r => match f s, csL f r with
    | some a, some b => some (.pair a b)
    | _, _ => none

def csCK : Nat → CSh → Option CK
  | _, .int k => some (.int k)
  | _, .bool => some .bool
  | _, .str => some .str
  | d + 1, .sl es => (csL (csCK d) es).map .arr
  | _, _ => none

theorem csCK_nc : ∀ (d : Nat) (s : CSh) (c : CK), csCK d s = some c → c.nc = 1
  | d, .int k, c, h => by cases d <;> (simp only [csCK] at h; cases h; rfl)
  | d, .bool, c, h => by cases d <;> (simp only [csCK] at h; cases h; rfl)
  | d, .str, c, h => by cases d <;> (simp only [csCK] at h; cases h; rfl)
  | 0, .sl es, c, h => by cases h
  | d + 1, .sl es, c, h => by
    simp only [csCK, Option.map_eq_some_iff] at h
    obtain ⟨e, _, rfl⟩ := h
    rfl

theorem csL_nc {f : CSh → Option CK} (hf : ∀ s c, f s = some c → c.nc = 1) : ∀ (es : List CSh) (c : CK), csL f es = some c → c.nc = es.length
  | [], c, h => by cases h
  | [s], c, h => by simpa using hf s c h
  | s :: t :: r, c, h => by
    simp only [csL] at h
    split at h
    · rename_i a b h1 h2
      cases h
      have := csL_nc hf (t :: r) b h2
      simp only [CK.nc, hf s a h1, this, List.length_cons]; omega
    · cases h

theorem fit_list {f : CSh → Option CK} (hf : ∀ s c a, f s = some c → FitC s a → ∃ x : c.ty, FL (ofTy c x) [a] ∧ TyWf c x) :
    ∀ (es : List CSh) (c : CK) (e : List AV), csL f es = some c → e.length = es.length → (∀ (i : Nat) (s : CSh) (a : AV), es[i]? = some s → e[i]? = some a → FitC s a) → ∃ x : c.ty, FL (ofTy c x) e ∧ TyWf c x
  | [], c, e, h, _, _ => by cases h
  | [s], c, e, h, hl, hs => by
    match e, hl with
    | [a], _ => exact hf s c a h (hs 0 s a rfl rfl)
  | s :: t :: r, c, e, h, hl, hs => by
    simp only [csL] at h
    split at h
    · rename_i p q h1 h2
      cases h
      match e, hl with
      | a :: e', hl =>
        obtain ⟨x, h3, h4⟩ := hf s p a h1 (hs 0 s a rfl rfl)
        obtain ⟨y, h5, h6⟩ := fit_list hf (t :: r) q e' h2 (by simpa using hl) (fun i s' a' g1 g2 => hs (i + 1) s' a' (by simpa using g1) (by simpa using g2))
        exact ⟨(x, y), h3.append h5, h4, h6⟩
    · cases h

theorem fit_ty : ∀ (d : Nat) (s : CSh) (c : CK) (a : AV), csCK d s = some c → FitC s a → ∃ x : c.ty, FL (ofTy c x) [a] ∧ TyWf c x
  | d, .int k, c, a, h, hf => by
    have h' : c = .int k := by cases d <;> (simp only [csCK] at h; cases h; rfl)
    subst h'
    cases hf with
    | int hw => exact ⟨_, .one .i, hw⟩
  | d, .bool, c, a, h, hf => by
    have h' : c = .bool := by cases d <;> (simp only [csCK] at h; cases h; rfl)
    subst h'
    cases hf with
    | bool => exact ⟨_, .one .b, trivial⟩
  | d, .str, c, a, h, hf => by
    have h' : c = .str := by cases d <;> (simp only [csCK] at h; cases h; rfl)
    subst h'
    cases hf with
    | str hl => exact ⟨_, .one .s, hl⟩
  | 0, .sl es, c, a, h, hf => by cases h
  | d + 1, .sl es, c, a, h, hf => by
    simp only [csCK, Option.map_eq_some_iff] at h
    obtain ⟨ce, hce, rfl⟩ := h
    cases hf with
    | sl hl hlen hfit =>
      rename_i l
      have each : ∀ i, i < l.length → ∃ y : ce.ty, FL (ofTy ce y) (l.getD i []) ∧ TyWf ce y := fun i hi => by
        have hm : l.getD i [] ∈ l := by simp [List.getD, hi]
        exact fit_list (fit_ty d) es ce _ hce (hlen _ hm) (fun j s c h1 h2 => hfit _ hm j s c h1 h2)
      have hch : ∃ f : Nat → ce.ty, ∀ i, i < l.length → FL (ofTy ce (f i)) (l.getD i []) ∧ TyWf ce (f i) := by
        refine ⟨fun i => if h : i < l.length then Classical.choose (each i h) else ce.dflt, fun i hi => ?_⟩
        simp only [hi, dif_pos]
        exact Classical.choose_spec (each i hi)
      obtain ⟨f, hf⟩ := hch
      have hnc := csL_nc (csCK_nc d) es ce hce
      refine ⟨(⟨l.length, f⟩ : Arr ce.ty), ?_, hl, fun i hi => (hf i hi).2⟩
      have : roL es.length l = .ro ce.nc (⟨l.length, f⟩ : Arr ce.ty).n fun i => l.getD i [] := by rw [hnc]; rfl
      rw [this]
      exact .one (.mkRo fun i hi => (hf i hi).1)

/-- An argument of a type of structs. -/
theorem arg_agg {P : Program} {t : TypeId} {x : AV} {shs : List CSh} {c : CK} (hs : shapeT P 8 t = some shs) (hc : csL (csCK 8) shs = some c) (h2 : shs.length ≠ 1) (h : ArgFit P t x) : ∃ y : c.ty, FV (.agg (ofTy c y)) x ∧ TyWf c y := by
  obtain ⟨shs', avs, h3, h4, h5, h6⟩ := h
  rw [hs] at h3; cases h3
  obtain ⟨y, h7, h8⟩ := fit_list (fit_ty 8) shs c avs hc h4 h5
  rcases h6 with ⟨_, rfl⟩ | rfl
  · exact ⟨y, .agg h7.1 h7.2, h8⟩
  · simp at h4; omega

/-- An argument of a type of one cell. -/
theorem arg_cell {P : Program} {t : TypeId} {x : AV} {s : CSh} {c : CK} (hs : shapeT P 8 t = some [s]) (hc : csCK 8 s = some c) (hn : ∀ fs, P.underlying t ≠ some (.struct fs)) (h : ArgFit P t x) : ∃ y : c.ty, FL (ofTy c y) [x] ∧ TyWf c y := by
  obtain ⟨shs', avs, h3, h4, h5, h6⟩ := h
  rw [hs] at h3; cases h3
  rcases h6 with ⟨⟨fs, hfs⟩, _⟩ | rfl
  · exact absurd hfs (hn fs)
  · exact fit_ty 8 s c x hc (h5 0 s x rfl rfl)

/-- A law's answer. -/
theorem law_of {M : Prg} {N D d : Nat} {e : Ent} {mf : MF} (h : EntOK M N D e) (hr : e.r = .cell .bool) (hm : M.fns e.g = some mf) (hfr : e.fresh = false) (hd : D ≤ d) {x : argTy e.a} {as : List AV} (hx : FL (argEnc e.a x) as)
    (hf : ∀ y, e.f x = some y → e.r.enc y = .b true) (hs : ∃ y, e.f x = some y) : evP N (evF M N d) mf as = some (.b true) := by
  obtain ⟨_, mf', h1, _, h2⟩ := h
  rw [hm] at h1; cases h1
  obtain ⟨y, hy⟩ := hs
  obtain ⟨a, h3, h4⟩ := (h2 d hd x y hy as hx).1 hfr
  rw [hf y hy] at h3
  cases h3
  exact h4
end Sx
