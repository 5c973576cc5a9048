/-
  Sx: from the evaluator's answer to the statement's row.
-/
import Derived.Test.YtgmppophlalliaaGreatSxArg
import Derived.ProofKit
import Derived.ChangeSame
import Derived.OpenShut
import Derived.RowKit3
import Derived.ReadAgain
namespace Sx
open Go
set_option linter.unusedSimpArgs false
set_option linter.unusedVariables false

section
variable {P : Program} {φ : Nat → Option Nat}

/-- What was there is there. -/
def Kept (W W' : World) : Prop := W.keptBut W' (fun _ => False) ∧ ∀ i, i < W.heap.size → W'.heap[i]? = W.heap[i]?

theorem kept_of_since {T T' : Nat → Prop} {w w' : World} (s : Since 0 T w (fun _ => none) T' w' (fun _ => none)) : Kept w w' := by
  have hh : ∀ i, i < w.heap.size → w'.heap[i]? = w.heap[i]? := fun i hi => s.frame i hi (fun h i' _ hi' => by cases hi')
  refine ⟨⟨s.os, s.output, fun i hi => ?_⟩, hh⟩
  rw [hh i hi]
  cases w.heap[i]? with
  | none => rfl
  | some o =>
    cases o with
    | cells c t fr => exact ⟨rfl, rfl, rfl, fun _ _ => rfl⟩
    | map es clock => exact .inr ⟨rfl, rfl⟩
    | _ => rfl

/-- The statement's last part, where the call left all as it was and its answer points nowhere. -/
theorem post_kept {H : Type} {enc : TypeId × Value → H} {f : Func} {s : ChangeSpec} {apart fresh handsOn again : Bool} {W W' : World} {args : Array Value} {v : Value} {ds gs : List (DataW H)} {before pa pv : List MemPlace}
    (hW : DataW.Whole enc P f.params.toList s.vars apart W args.toList ds gs before)
    (hres : ∀ (b : Nat) (sp : Nat → Bool) (hd : Bool), DataW.TrodAll enc P W' b sp hd f.resultTypes.toList (v.resultList f.resultTypes.size) (s.fn H (ds ++ gs)).results [])
    (hargs : ∀ sp : Nat → Bool, (∀ p ∈ before, sp p.block = true) → DataW.TrodAll enc P W' 0 sp true f.params.toList args.toList (s.fn H (ds ++ gs)).args pa)
    (hvars : ∀ sp : Nat → Bool, (∀ p ∈ before, sp p.block = true) → DataW.TrodVars enc P W' sp s.vars (s.fn H (ds ++ gs)).vars pv)
    (hps : before = pa ++ pv) (hk : Kept W W')
    (hok : ∀ (j : Nat) (t : TypeId) (r : Value), f.resultTypes[j]? = some t → (v.resultList f.resultTypes.size)[j]? = some r → Value.okWide P W' .any 0 t r) :
    s.post enc P f apart fresh handsOn again W args v W' := by
  have hlt : ∀ p ∈ before, p.block < W.heap.size := fun p hp => hW.lt p hp
  have hin : ∀ p ∈ before, (fun b => decide (b < W.heap.size)) p.block = true := fun p hp => by simpa using hlt p hp
  refine ⟨ds, gs, before, [], pa, pv, hW, hres _ _ _, hargs _ hin, hvars _ hin, World.keptBut_mono (fun p hp => hp.elim) hk.1, fun _ => ?_⟩
  obtain ⟨_, _, _, _, _, hz, hn⟩ := hW
  refine ⟨hok, _, _, ([] ++ pa) ++ pv, ⟨[] ++ pa, pv, ChangeShapes.trodAll_append (hargs _ (fun _ _ => rfl)) (hres _ _ _), hvars _ (fun _ _ => rfl), rfl, fun b off hp => ?_, fun ha => ?_⟩, fun p hp _ => by rw [hps]; simpa using hp⟩
  · have hb : MemPlace.cell b off ∈ before := by rw [hps]; simpa using hp
    have hlb : b < W.heap.size := hlt _ hb
    have := hz b off hb
    simpa only [World.frozen?, hk.2 b hlb] using this
  · have := hn ha
    rw [hps] at this
    simpa using this

/-- An argument of a type, as an abstract value. -/
def ArgFit (P : Program) (t : TypeId) (x : AV) : Prop :=
  ∃ shs avs, shapeT P 8 t = some shs ∧ avs.length = shs.length ∧ (∀ (i : Nat) (s : CSh) (c : AV), shs[i]? = some s → avs[i]? = some c → FitC s c) ∧
    ((∃ fs, P.underlying t = some (.struct fs)) ∧ x = .agg avs ∨ avs = [x])

theorem FitC.apart {s : CSh} {x : AV} (h : FitC s x) (d : Nat) : apart d x = true := by
  cases h <;> (cases d <;> rfl)

theorem open_arg {H : Type} {enc : TypeId × Value → H} {W : World} {b base : Nat} {sp : Nat → Bool} {hd : Bool} {r : Reach} {t : TypeId} {shs : List CSh} {v : Value} {dt : DataW H} {p : List MemPlace} (hs : shapeT P 8 t = some shs)
    (hk : (∃ fs, P.underlying t = some (.struct fs)) ∨ (shs.length = 1 ∧ ∀ v, Value.okWide P W r base t v → v.oneCell' = true)) (hok : Value.okWide P W r base t v) (h : DataW.Trod enc P W b sp hd t v dt p) :
    ∃ x, ArgFit P t x ∧ VR φ (fun b => b < W.heap.size) W (fun _ => none) true x v ∧ apart 8 x = true := by
  obtain ⟨fuel, hf⟩ := h
  obtain ⟨avs, q⟩ := open_any (φ := φ) (ρ := fun _ => none) 8 fuel t v.cells.toList _ shs hf hs
  rcases hk with ⟨fs, hu⟩ | ⟨h1, h2⟩
  · obtain ⟨cs, rfl, hsz⟩ := WideShapes.okWide_struct hu hok
    have hq : (Value.agg cs).cells.toList = cs.toList := rfl
    rw [hq] at q
    refine ⟨.agg avs, ⟨shs, avs, hs, q.la, q.fit, .inl ⟨⟨fs, hu⟩, rfl⟩⟩, ?_, ?_⟩
    · have := VR.agg (φ := φ) (T := fun b => b < W.heap.size) (w := W) (ρ := fun _ => none) (l := true) (cs := avs) (us := cs.toList) (by rw [q.la, q.lc]) (fun i c u hc hu => (q.vr i c u hc hu).up true) q.one
      simpa using this
    · simp only [Sx.apart, List.all_eq_true]
      intro c hc
      obtain ⟨i, hi⟩ := List.getElem?_of_mem hc
      have hil : i < shs.length := by rw [← q.la]; exact (List.getElem?_eq_some_iff.1 hi).1
      exact (q.fit i _ c (List.getElem?_eq_getElem hil) hi).apart _
  · have hone := h2 v hok
    have hcells : v.cells = #[v] := by cases v <;> first | rfl | (simp [Value.oneCell'] at hone)
    rw [hcells] at q
    obtain ⟨x, rfl⟩ : ∃ x, avs = [x] := by
      have := q.la
      cases avs with
      | nil => simp [h1] at this
      | cons x l => cases l with
        | nil => exact ⟨x, rfl⟩
        | cons => simp [h1] at this
    have hfit := q.fit 0 (shs[0]'(by omega)) x (List.getElem?_eq_getElem (by omega)) rfl
    exact ⟨x, ⟨shs, [x], hs, q.la, q.fit, .inr rfl⟩, (q.vr 0 x v rfl rfl).up true, hfit.apart _⟩

theorem one_of_slice {W : World} {r : Reach} {base : Nat} {t e : TypeId} (hu : P.underlying t = some (.slice e)) (v : Value) (h : Value.okWide P W r base t v) : v.oneCell' = true := by
  simp only [Value.okWide, hu] at h
  cases v <;> first | rfl | (simp [Cell.okWide, Cell.ok, hu] at h)

theorem one_of_int {W : World} {r : Reach} {base : Nat} {t : TypeId} {k : IntKind} (hu : P.underlying t = some (.int k)) (v : Value) (h : Value.okWide P W r base t v) : v.oneCell' = true := by
  simp only [Value.okWide, hu] at h
  cases v <;> first | rfl | (simp [Cell.okWide, Cell.ok, hu] at h)

theorem one_of_bool {W : World} {r : Reach} {base : Nat} {t : TypeId} (hu : P.underlying t = some .bool) (v : Value) (h : Value.okWide P W r base t v) : v.oneCell' = true := by
  simp only [Value.okWide, hu] at h
  cases v <;> first | rfl | (simp [Cell.okWide, Cell.ok, hu] at h)

/-- A law's call. -/
theorem law_calls {M : Prg} {pu : Nat → Bool} (hF : Fits P φ M pu) (hX : ExtSound P φ M) (N d : Nat) {f g : Nat} (hfg : φ f = some g) (hx : M.ext g = none) {mf : MF} (hm : M.fns g = some mf) {args : List AV} {vs : List Value} {W : World}
    (he : evP N (evF M N d) mf args = some (.b true)) (hl : args.length = vs.length) (hv : ∀ (i : Nat) (c : AV) (u : Value), args[i]? = some c → vs[i]? = some u → VR φ (fun b => b < W.heap.size) W (fun _ => none) true c u) (hG : GL (fun b => b < W.heap.size) W) :
    Calls P f vs.toArray W fun e w' => e = .returned (.bool true) ∧ Kept W w' := by
  obtain ⟨fn, A, hfn, htr⟩ := hF.fns f g mf hfg hx hm
  refine (pure_sound hF (evF_sound hF hX N d) (evF_pure hF N d) (evF_lim hF N d) N hfn htr he hl hv (fun b hb => hb) hG).mono (fun e w' hq => ?_)
  obtain ⟨T', v, rfl, s, hT', hvr⟩ := hq
  cases hvr
  exact ⟨rfl, kept_of_since s⟩

/-- The arguments read as they did. -/
theorem args_again {H : Type} {enc : TypeId × Value → H} {W W' : World} {T : TypeId → Prop} (K : Kids P T) (hz : ∀ t e, T t → P.underlying t = some (.slice e) → 0 < P.cellsOf e) {ts : List TypeId} {vs : List Value} {ds : List (DataW H)} {ps : List MemPlace} (hT : ∀ t ∈ ts, T t)
    (h : DataW.TrodAll enc P W 0 (fun _ => true) true ts vs ds ps) (sp : Nat → Bool) (hs : ∀ p ∈ ps, sp p.block = true) (hlt : ∀ p ∈ ps, p.block < W.heap.size) (hg : ∀ i, i < W.heap.size → W'.heap[i]? = W.heap[i]?) : DataW.TrodAll enc P W' 0 sp true ts vs ds ps := by
  have h1 := DataW.TrodAll.respare K hz hT h hs
  have same : ∀ p ∈ ps, W.sameAt W' p := fun p hp => by
    have hh := hg p.block (hlt p hp)
    cases p with
    | cell b off =>
      have hh' : W'.heap[b]? = W.heap[b]? := hh
      show W'.cell? ⟨b, off, none⟩ = W.cell? ⟨b, off, none⟩
      simp only [World.cell?, hh']
    | map b => exact hh
  clear hT h hs hlt
  induction ts generalizing vs ds ps with
  | nil => cases vs <;> cases ds <;> exact h1
  | cons t ts ih =>
    cases vs with
    | nil => cases ds <;> exact h1
    | cons v vs =>
      cases ds with
      | nil => exact h1
      | cons d ds =>
        obtain ⟨p, q, ⟨n, hn⟩, h2, rfl⟩ := h1
        exact ⟨p, q, ⟨n, DataW.trod_carry n _ _ _ hn (fun x hx => same x (List.mem_append_left _ hx))⟩, ih h2 (fun x hx => same x (List.mem_append_right _ hx)), rfl⟩
end
end Sx
