/-
  Sx: each operation does what the evaluator says: maps.
-/
import Derived.Test.YtgmppophlalliaaGreatSxOpG
import Derived.MapKept
import Derived.WideKeyRuns
import Derived.Laws.IdiomRangeMap
namespace Sx
open Go
set_option linter.unusedSimpArgs false
set_option linter.unusedVariables false

section
variable {P : Program} {φ : Nat → Option Nat} {nt : Nat} {T0 : Nat → Prop} {w0 : World} {ρ0 : Rho} {T : Nat → Prop} {ρ : Rho} {tm : Env} {H : Hp} {a : Act} {w : World}

/-- What a search answers. -/
def FR (φ : Nat → Option Nat) (T : Nat → Prop) (w : World) (ρ : Rho) (l : List MapEntry) (u : Value) (base : Nat) : Option (Nat × AV) → Option (Nat × Value) → Prop
  | none, none => True
  | some (i, v), some (i', v') => i = i' ∧ VR φ T w ρ true v v' ∧ ∃ e, l[i - base]? = some e ∧ base ≤ i ∧ Instr.sameBits 10000 e.key u = true
  | _, _ => False

theorem FR.cons {l : List MapEntry} {e : MapEntry} {u : Value} {base : Nat} : ∀ {r : Option (Nat × AV)} {r' : Option (Nat × Value)}, FR φ T w ρ l u (base + 1) r r' → FR φ T w ρ (e :: l) u base r r'
  | none, none, _ => trivial
  | some (i, v), some (i', v'), h => by
    obtain ⟨h1, h2, x, h3, h4, h5⟩ := h
    refine ⟨h1, h2, x, ?_, by omega, h5⟩
    rw [show i - base = i - (base + 1) + 1 from by omega]
    simpa using h3
  | none, some _, h => h.elim
  | some _, none, h => h.elim

theorem same_cell {k : Nat} {x y : AV} {u v : Value} (he : eqCell k x y = some true) (hx : VR φ T w ρ true x u) (hy : VR φ T w ρ true y v) (n : Nat) : Instr.sameBits n v u = true := by
  unfold eqCell at he
  split at he
  · cases hx; cases hy
    split at he
    · rename_i hk; simp at he; subst hk; subst he; cases n <;> simp [Instr.sameBits]
    · cases he
  · cases hx; cases hy; simp at he; subst he; cases n <;> simp [Instr.sameBits]
  · cases hx; cases hy; simp only [Option.some.injEq] at he; rw [MapKept.bytes_beq] at he; subst he; cases n <;> simp [Instr.sameBits, MapKept.bytes_beq]
  · cases he

theorem same_cells (n : Nat) : ∀ {ks : List Nat} {xs ys : List AV} {us vs : List Value}, eqCells ks xs ys = some true → xs.length = us.length → ys.length = vs.length →
    (∀ (i : Nat) (c : AV) (u : Value), xs[i]? = some c → us[i]? = some u → VR φ T w ρ true c u) → (∀ (i : Nat) (c : AV) (u : Value), ys[i]? = some c → vs[i]? = some u → VR φ T w ρ true c u) →
    vs.length = us.length ∧ (vs.zip us).all (fun p => Instr.sameBits n p.1 p.2) = true
  | [], [], [], us, vs, _, h1, h2, _, _ => by
    cases us <;> cases vs <;> simp_all
  | k :: ks, x :: xs, y :: ys, us, vs, he, h1, h2, hx, hy => by
    cases us with
    | nil => simp at h1
    | cons u us =>
      cases vs with
      | nil => simp at h2
      | cons v vs =>
        simp only [eqCells] at he
        cases e1 : eqCell k x y with
        | none => rw [e1] at he; cases he
        | some r =>
          rw [e1] at he
          cases e2 : eqCells ks xs ys with
          | none => rw [e2] at he; cases he
          | some r' =>
            rw [e2] at he
            simp at he
            obtain ⟨rfl, rfl⟩ := he
            obtain ⟨q1, q2⟩ := same_cells n (us := us) (vs := vs) e2 (by simpa using h1) (by simpa using h2) (fun i c u h h' => hx (i + 1) c u (by simpa using h) (by simpa using h')) (fun i c u h h' => hy (i + 1) c u (by simpa using h) (by simpa using h'))
            refine ⟨by simp [q1], ?_⟩
            simp only [List.zip_cons_cons, List.all_cons, Bool.and_eq_true]
            exact ⟨same_cell e1 (hx 0 x u rfl rfl) (hy 0 y v rfl rfl) n, q2⟩
  | [], [], _ :: _, _, _, he, _, _, _, _ => by simp [eqCells] at he
  | [], _ :: _, _, _, _, he, _, _, _, _ => by simp [eqCells] at he
  | _ :: _, [], _, _, _, he, _, _, _, _ => by simp [eqCells] at he
  | _ :: _, _ :: _, [], _, _, he, _, _, _, _ => by simp [eqCells] at he

theorem same_key {ks : List Nat} {x y : AV} {u v : Value} (he : evEq ks x y = some true) (hx : VR φ T w ρ true x u) (hy : VR φ T w ρ true y v) : Instr.sameBits 10000 v u = true := by
  unfold evEq at he
  split at he
  · cases hx with
    | agg a1 a2 a3 =>
      cases hy with
      | agg b1 b2 b3 =>
        rename_i us vs
        obtain ⟨q1, q2⟩ := same_cells 9999 he a1 b1 a2 b2
        rw [show 10000 = 9999 + 1 from rfl]
        simp only [Instr.sameBits, Bool.and_eq_true]
        exact ⟨by simpa using q1, by simpa using q2⟩
  · cases he

/-- The keys of entries. -/
def KeysR (φ : Nat → Option Nat) (T : Nat → Prop) (w : World) (ρ : Rho) (es : List (AV × AV)) (l : List MapEntry) : Prop :=
  es.length = l.length ∧ ∀ (i : Nat) (p : AV × AV) (e : MapEntry), es[i]? = some p → l[i]? = some e → VR φ T w ρ true p.1 e.key ∧ VR φ T w ρ true p.2 e.val

theorem now_cell {d : TypeDesc} {k : Nat} (hd : (∃ q, d = .int q ∧ k = 0) ∨ (d = .bool ∧ k = 1) ∨ (d = .string ∧ k = 2)) {x y : AV} {u v : Value} {b : Bool} (he : eqCell k x y = some b) (hx : VR φ T w ρ true x u) (hy : VR φ T w ρ true y v) : Instr.sameNow d u v = some b := by
  unfold eqCell at he
  split at he
  · cases hx; cases hy
    split at he
    · rename_i hk; cases he; subst hk
      rcases hd with ⟨q, rfl, _⟩ | ⟨_, h⟩ | ⟨_, h⟩
      · simp [Instr.sameNow]
      · cases h
      · cases h
    · cases he
  · cases hx; cases hy; cases he
    rcases hd with ⟨q, _, h⟩ | ⟨rfl, _⟩ | ⟨_, h⟩
    · cases h
    · simp [Instr.sameNow]
    · cases h
  · cases hx; cases hy; cases he
    rcases hd with ⟨q, _, h⟩ | ⟨_, h⟩ | ⟨rfl, _⟩
    · cases h
    · cases h
    · simp [Instr.sameNow]
  · cases he

theorem find_now {d : TypeDesc} {k : Nat} (hd : (∃ q, d = .int q ∧ k = 0) ∨ (d = .bool ∧ k = 1) ∨ (d = .string ∧ k = 2)) {x : AV} {u : Value} (hx : VR φ T w ρ true x u) :
    ∀ (es : List (AV × AV)) (l : List MapEntry) (i : Nat) (r : Option (Nat × AV)), KeysR φ T w ρ es l → evFind false [k] x es i = some r → ∃ r', Instr.findNow d u l i = some r' ∧ FR φ T w ρ l u i r r'
  | [], l, i, r, hk, h => by
    have : l = [] := by have := hk.1; simpa using this.symm
    subst this
    simp [evFind] at h; subst h
    exact ⟨none, rfl, trivial⟩
  | p :: es, [], i, r, hk, h => by have := hk.1; simp at this
  | p :: es, e :: l, i, r, hk, h => by
    obtain ⟨k1, k2⟩ := hk.2 0 p e rfl rfl
    simp only [evFind, evKey, Bool.false_eq_true, if_false] at h
    cases he : eqCell k x p.1 with
    | none => rw [he] at h; cases h
    | some b =>
      rw [he] at h
      have hn := now_cell hd he hx k1
      cases b with
      | true =>
        simp at h; subst h
        exact ⟨some (i, e.val), by simp [Instr.findNow, hn], rfl, k2, e, by simp, Nat.le_refl _, same_cell he hx k1 _⟩
      | false =>
        obtain ⟨r', q1, q2⟩ := find_now hd hx es l (i + 1) r ⟨by have := hk.1; simpa using this, fun j p' e' a b => hk.2 (j + 1) p' e' (by simpa using a) (by simpa using b)⟩ h
        exact ⟨r', by simp [Instr.findNow, hn, q1], q2.cons⟩

theorem find_ask {t : TypeId} {ks : List Nat} (ht : flatT P t = some ks) {x : AV} {u : Value} (hx : VR φ T w ρ true x u) :
    ∀ (es : List (AV × AV)) (l : List MapEntry) (i : Nat) (r : Option (Nat × AV)), KeysR φ T w ρ es l → evFind true ks x es i = some r → ∃ r', (Instr.findAsking t u l i).run P w = .ok r' w ∧ FR φ T w ρ l u i r r'
  | [], l, i, r, hk, h => by
    have : l = [] := by have := hk.1; simpa using this.symm
    subst this
    simp [evFind] at h; subst h
    exact ⟨none, rfl, trivial⟩
  | p :: es, [], i, r, hk, h => by have := hk.1; simp at this
  | p :: es, e :: l, i, r, hk, h => by
    obtain ⟨k1, k2⟩ := hk.2 0 p e rfl rfl
    simp only [evFind, evKey, if_true] at h
    cases he : evEq ks x p.1 with
    | none => rw [he] at h; cases h
    | some b =>
      rw [he] at h
      have hn : (Op.equal t u e.key).run P w = .ok b w := by
        have key : ∀ kv, VR φ T w ρ true p.1 kv → (Op.equal t u kv).run P w = .ok b w := fun kv hkv => by
          have he2 := he
          unfold evEq at he2
          split at he2
          · rename_i xs ys hq
            cases hx with
            | agg a1 a2 a3 =>
              rw [hq] at hkv
              cases hkv with
              | agg b1 b2 b3 => exact flat_eq ht he2 a1 a2 b1 b2
          · cases he2
        exact key _ k1
      cases b with
      | true =>
        simp at h; subst h
        exact ⟨some (i, e.val), by simp [Instr.findAsking, hn, Result.andThen_ok], rfl, k2, e, by simp, Nat.le_refl _, same_key he hx k1⟩
      | false =>
        obtain ⟨r', q1, q2⟩ := find_ask ht hx es l (i + 1) r ⟨by have := hk.1; simpa using this, fun j p' e' a b => hk.2 (j + 1) p' e' (by simpa using a) (by simpa using b)⟩ h
        exact ⟨r', by simp [Instr.findAsking, hn, Result.andThen_ok, q1], q2.cons⟩

theorem plain_desc {t : TypeId} {k : Nat} (h : plainT P t = some k) : ∃ d, P.underlying t = some d ∧ ((∃ q, d = .int q ∧ k = 0) ∨ (d = .bool ∧ k = 1) ∨ (d = .string ∧ k = 2)) := by
  unfold plainT at h
  split at h <;> cases h
  · rename_i q hq; exact ⟨_, hq, .inl ⟨_, rfl, rfl⟩⟩
  · rename_i hq; exact ⟨_, hq, .inr (.inl ⟨rfl, rfl⟩)⟩
  · rename_i hq; exact ⟨_, hq, .inr (.inr ⟨rfl, rfl⟩)⟩

theorem plain_check {t : TypeId} {k : Nat} (h : plainT P t = some k) (em : Bool) (n : Nat) (v : Value) : (Instr.checkKey em (n + 1) t v).run P w = .ok () w := by
  obtain ⟨d, hd, hk⟩ := plain_desc h
  rw [Instr.checkKey]
  simp only [Sem.run_bind, run_und hd, Result.andThen_ok]
  rcases hk with ⟨q, rfl, _⟩ | ⟨rfl, _⟩ | ⟨rfl, _⟩ <;> rfl

theorem flat_check (em : Bool) (n : Nat) (us : Array Value) : ∀ (fs : List Field) (i : Nat) (ks : List Nat), flatFields P fs i = some ks → i + ks.length ≤ us.size →
    (do for f in fs do if f.name ≠ "_" then Instr.checkKey em (n + 1) f.type (← part f.type us f.offset) : Sem Unit).run P w = .ok () w
  | [], i, ks, h, hl => by simp
  | f :: fs, i, ks, h, hl => by
    simp only [flatFields] at h
    split at h
    · rename_i hn
      cases hp : plainT P f.type with
      | none => rw [hp] at h; cases h
      | some k =>
        rw [hp] at h
        cases hq : flatFields P fs (i + 1) with
        | none => rw [hq] at h; cases h
        | some l =>
          rw [hq] at h
          simp at h; subst h
          simp at hl
          have ih := flat_check em n us fs (i + 1) l hq (by omega)
          have hu : us[f.offset]? = some us[i] := by rw [hn.2]; exact Array.getElem?_eq_getElem (by omega)
          simp only [List.forIn_cons, Sem.run_bind, hn.1, ne_eq, not_false_eq_true, if_true, plain_part hp us _ _ hu, plain_check hp, Result.andThen_ok, Sem.run_pure]
          simpa only [Sem.run_bind, Sem.run_pure, ne_eq] using ih
    · cases h

structure MapT (P : Program) (t : TypeId) (st : Bool) (ks : List Nat) (k e : TypeId) : Prop where
  und : P.underlying t = some (.map k e)
  kd : (st = false ∧ ∃ q, ks = [q] ∧ plainT P k = some q) ∨ (st = true ∧ flatT P k = some ks ∧ ∃ fs, P.underlying k = some (.struct fs) ∧ flatFields P fs.toList 0 = some ks)

theorem mapT_spec {t : TypeId} {q : Bool × List Nat × TypeId} (h : mapT P t = some q) : ∃ k, MapT P t q.1 q.2.1 k q.2.2 := by
  unfold mapT at h
  split at h
  · rename_i k e hu
    refine ⟨k, ?_⟩
    split at h
    · rename_i r hr
      cases h
      exact ⟨hu, .inl ⟨rfl, r, rfl, hr⟩⟩
    · split at h
      · rename_i fs hfs
        simp only [Option.bind_eq_some_iff] at h
        obtain ⟨ks, hks, h⟩ := h
        split at h
        · cases h
          refine ⟨hu, .inr ⟨rfl, hks, fs, hfs, ?_⟩⟩
          unfold flatT at hks
          rw [hfs] at hks
          simp only at hks
          split at hks
          · exact hks
          · cases hks
        · cases h
      · cases h
  · cases h

theorem MapT.check {t : TypeId} {st : Bool} {ks : List Nat} {k e : TypeId} (M : MapT P t st ks k e) {x : AV} {u : Value} (hk : keyOK st ks x = true) (hx : VR φ T w ρ true x u) (em : Bool) : (Instr.checkKey em 10000 k u).run P w = .ok () w := by
  rcases M.kd with ⟨rfl, q, rfl, hp⟩ | ⟨rfl, hf, fs, hu, hff⟩
  · exact plain_check hp em 9999 u
  · unfold keyOK at hk
    simp only [if_true] at hk
    split at hk
    · cases hx with
      | agg a1 a2 a3 =>
        rename_i us
        have h1 := flat_check (P := P) (w := w) em 9998 us.toArray fs.toList 0 ks hff (by simp at hk; simp; omega)
        rw [show 10000 = 9999 + 1 from rfl, Instr.checkKey]
        simp only [Sem.run_bind, run_und hu, Result.andThen_ok]
        rw [← Array.forIn_toList]
        simpa only [Sem.run_bind, Sem.run_pure] using h1
    · cases hk

theorem MapT.find {t : TypeId} {st : Bool} {ks : List Nat} {k e : TypeId} (M : MapT P t st ks k e) {x : AV} {u : Value} (hx : VR φ T w ρ true x u) {es : List (AV × AV)} {l : List MapEntry} {r : Option (Nat × AV)}
    (hk : KeysR φ T w ρ es l) (h : evFind st ks x es 0 = some r) : ∃ r', (Instr.findKey k u l).run P w = .ok r' w ∧ FR φ T w ρ l u 0 r r' := by
  rcases M.kd with ⟨rfl, q, rfl, hp⟩ | ⟨rfl, hf, fs, hu, hff⟩
  · obtain ⟨d, hd, hq⟩ := plain_desc hp
    obtain ⟨r', h1, h2⟩ := find_now hq hx es l 0 r hk h
    exact ⟨r', MapKept.run_findKey hd h1, h2⟩
  · obtain ⟨r', h1, h2⟩ := find_ask hf hx es l 0 r hk h
    exact ⟨r', by rw [run_findKey_eq w (by rw [hu])]; exact h1, h2⟩

theorem run_zeroV {t : TypeId} {z : AV} (h : zeroV P t = some z) (T : Nat → Prop) (ρ : Rho) : ∃ v, (zeroValue t).run P w = .ok v w ∧ VR φ T w ρ true z v := by
  unfold zeroV at h
  cases hi : P.info? t with
  | none => rw [hi] at h; cases h
  | some i =>
    rw [hi] at h
    cases hz : i.zero with
    | none => simp [hz] at h
    | some v =>
      simp only [Option.bind_some, hz] at h
      refine ⟨v, by simp [zeroValue, run_typeInfo' hi, hz], ?_⟩
      split at h
      · rename_i cs hcs
        cases hcs
        split at h
        · rename_i hall
          cases h
          rw [List.all_eq_true] at hall
          refine VR.agg (us := cs.toList) (by simp) (fun j c u hc hu => by rw [List.getElem?_map, hu] at hc; simp at hc; subst hc; exact .v) (fun u hu => ?_)
          have := hall (.v u) (List.mem_map_of_mem hu)
          rw [← oneC_eq]; exact this
        · cases h
      · cases h
      · rename_i x h1 h2 h3; cases h3; cases h; exact .v
      · rename_i h3; cases h3

theorem op_look {t : TypeId} {st : Bool} {ks : List Nat} {k e : TypeId} (M : MapT P t st ks k e) {z : AV} (hz : zeroV P e = some z) {ok : Bool} {m x y : AV} {mv u : Value} (hr : HR φ T w ρ H.obs) (hm : VR φ T w ρ true m mv) (hx : VR φ T w ρ true x u)
    (he : evLook H st ks z ok m x = some y) : ∃ r, (Instr.lookup t mv u ok).run P w = .ok r w ∧ VR φ T w ρ true y r := by
  obtain ⟨zv, z1, z2⟩ := run_zeroV (φ := φ) (w := w) hz T ρ
  unfold evLook at he
  split at he
  · rename_i hk
    split at he
    · rename_i h
      cases hm with
      | mp g1 g2 =>
        rename_i inf
        split at he
        · rename_i es ho
          obtain ⟨i, ents, clock, e1, e2, e3, e4, ⟨e5, e6, e7⟩, e8, e9⟩ := hr.ob h _ ho
          rw [g1] at e1; cases e1
          simp only [Option.map_eq_some_iff] at he
          obtain ⟨r, hr', rfl⟩ := he
          obtain ⟨r', f1, f2⟩ := M.find hx (l := ents.toList) ⟨by simp [e5], fun j p q a b => e8 j p q a (by simpa using b)⟩ hr'
          simp only [Instr.lookup, Sem.run_bind, run_und M.und, Result.andThen_ok, MapKept.run_getObj_map e4, Sem.run_pure, M.check hk hx, f1]
          cases r with
          | none =>
            cases r' with
            | some => exact f2.elim
            | none =>
              cases ok with
              | true =>
                refine ⟨.tuple #[zv, .bool false], by simp [z1], VR.tup (us := [zv, .bool false]) rfl (fun i c u hc hu => ?_)⟩
                rcases i with _ | _ | i
                · simp at hc hu; subst hc; subst hu; exact z2
                · simp at hc hu; subst hc; subst hu; exact .v
                · simp at hc
              | false => exact ⟨zv, by simp [z1], z2⟩
          | some p =>
            obtain ⟨i, v⟩ := p
            cases r' with
            | none => exact f2.elim
            | some p' =>
              obtain ⟨i', v'⟩ := p'
              obtain ⟨q1, q2, _⟩ := f2
              cases ok with
              | true =>
                refine ⟨.tuple #[v', .bool true], by simp, VR.tup (us := [v', .bool true]) rfl (fun i c u hc hu => ?_)⟩
                rcases i with _ | _ | i
                · simp at hc hu; subst hc; subst hu; exact q2
                · simp at hc hu; subst hc; subst hu; exact .v
                · simp at hc
              | false => exact ⟨v', by simp, q2⟩
        · cases he
    · rename_i o
      split at he
      · rename_i ho
        cases o with
        | some => cases ho
        | none =>
          cases he
          cases hm
          obtain ⟨r', f1, f2⟩ := M.find (es := []) (l := []) hx ⟨rfl, fun j p q a b => by simp at a⟩ rfl
          cases r' with
          | some => exact f2.elim
          | none =>
            simp only [Instr.lookup, Sem.run_bind, run_und M.und, Result.andThen_ok, Sem.run_pure, M.check hk hx, f1]
            cases ok with
            | true =>
              refine ⟨.tuple #[zv, .bool false], by simp [z1], VR.tup (us := [zv, .bool false]) rfl (fun i c u hc hu => ?_)⟩
              rcases i with _ | _ | i
              · simp at hc hu; subst hc; subst hu; exact z2
              · simp at hc hu; subst hc; subst hu; exact .v
              · simp at hc
            | false => exact ⟨zv, by simp [z1], z2⟩
      · cases he
    · cases he
  · cases he

/-- A new object that is a map or an iterator. -/
theorem RL.newMeta (h : RL φ nt T0 w0 ρ0 T ρ tm H a w) {dst : Option Nat} (hd : dst.all (fun d => d < nt) = true) {obj : Obj} {ao : AO} (ho : OR φ T (pushW w obj) (setR ρ H.obs.length ⟨w.heap.size, 0, 0, 0⟩) H.obs.length ao)
    {x : AV} {v : Value} (hx : VR φ T (pushW w obj) (setR ρ H.obs.length ⟨w.heap.size, 0, 0, 0⟩) true x v) (hth : Thaw obj := by first | rfl | trivial | assumption) :
    RL φ nt T0 w0 ρ0 T (setR ρ H.obs.length ⟨w.heap.size, 0, 0, 0⟩) (putD dst x tm) (H.push ao) (a.put dst v) (pushW w obj) := by
  have s := since_push (lim := H.lim) h.hr obj T (fun _ q => q) (fun _ q => .inl q)
  have hn : ρ H.obs.length = none := h.hr.out _ (Nat.le_refl _)
  have s' := since_setR s H.obs.length ⟨w.heap.size, 0, 0, 0⟩ h.ll (Nat.le_refl _) hn
  have hr' := h.hr.pushOld obj T (fun _ q => q) (fun _ q => .inl q)
  have hr2 : HR φ T (pushW w obj) (setR ρ H.obs.length ⟨w.heap.size, 0, 0, 0⟩) (H.push ao).obs := by
    refine hr'.pushObj ao ⟨w.heap.size, 0, 0, 0⟩ (fun k i hi e => ?_) ho
    have := (h.hr.has hi).1; simp only at e; omega
  exact (h.step s' hr2 rfl (by simp [Hp.push])).val hd hx

theorem setR_self (ρ : Rho) (h : Nat) (i : Info) (hi : ρ h = some i) : setR ρ h i = ρ := by
  funext k
  unfold setR
  split
  · rename_i e; subst e; exact hi.symm
  · rfl

theorem ext_setB0 {T : Nat → Prop} {w : World} {ρ : Rho} {obs : List AO} (H : HR φ T w ρ obs) {h : Nat} {i : Info} (hi : ρ h = some i) (o : Obj) : Ext T w ρ T (setB w i.blk o) ρ :=
  ⟨fun _ q => q, fun b hb => setB_far _ _ _ _ (fun e => (H.has hi).2 (e ▸ hb)), fun k i' hk => ⟨i', hk, Nat.le_refl _, fun _ => rfl, fun _ => rfl⟩⟩

theorem since_setB0 {lim : Nat} {T : Nat → Prop} {w : World} {ρ : Rho} {obs : List AO} (H : HR φ T w ρ obs) {h : Nat} {i : Info} (hi : ρ h = some i) (hl : lim ≤ h) (o : Obj) (ho : Thaw o := by first | rfl | trivial | assumption) : Since lim T w ρ T (setB w i.blk o) ρ where
  nf := thaws_setB w i.blk o ho
  size := by simp [setB]
  os := rfl
  tape := rfl
  output := rfl
  ext := ⟨fun _ q => q, fun b hb => setB_far _ _ _ _ (fun e => (H.has hi).2 (e ▸ hb)), fun k i' hk => ⟨i', hk, Nat.le_refl _, fun _ => rfl, fun _ => rfl⟩⟩
  tnew b hb := .inl hb
  wb k i' hk hi' := .inr ⟨i', hi', rfl⟩
  low k hk := rfl
  frame b hb hn := setB_far _ _ _ _ (fun e => hn h i hl hi e.symm)

/-- An object that is a map or an iterator is written. -/
theorem RL.putMeta (hR : RL φ nt T0 w0 ρ0 T ρ tm H a w) {h : Nat} {i : Info} (hi : ρ h = some i) (hl : H.lim ≤ h) {obj : Obj} {ao : AO} (ho : OR φ T (setB w i.blk obj) ρ h ao) (hth : Thaw obj := by first | rfl | trivial | assumption) :
    RL φ nt T0 w0 ρ0 T ρ tm (H.put h ao) a (setB w i.blk obj) := by
  have s := since_setB0 (lim := H.lim) hR.hr hi hl obj
  have hh : h < H.obs.length := by
    rcases Nat.lt_or_ge h H.obs.length with q | q
    · exact q
    · rw [hR.hr.out h q] at hi; cases hi
  have e := setR_self ρ h i hi
  have hr2 := hR.hr.putObj (T' := T) (w' := setB w i.blk obj) hh i ao (by rw [e]; exact s.ext) (fun b hb => .inl hb) (fun b hb => by have := hR.hr.old b hb; simp [setB]; omega)
    (fun k j hk hj => by
      have hne : j.blk ≠ i.blk := fun q => hk (hR.hr.inj k h j i hj hi q)
      exact ⟨hne, setB_far _ _ _ _ hne⟩) (by rw [e]; exact ho)
  rw [e] at hr2
  exact hR.step s hr2 rfl (by simp [Hp.put])

theorem op_mkmap (hR : RL φ nt T0 w0 ρ0 T ρ tm H a w) {dst : Option Nat} (hd : dst.all (fun d => d < nt) = true) (t : TypeId) :
    ∃ w' ρ' v, (Instr.makeMap t none).run P w = .ok v w' ∧ RL φ nt T0 w0 ρ0 T ρ' (putD dst (.mp H.obs.length) tm) (H.push (.mp [])) (a.put dst v) w' := by
  have hA : ∀ (w : World) (o : Obj), w.alloc o = pushW w o := fun _ _ => rfl
  refine ⟨pushW w (.map #[] 0), _, .map (some w.heap.size), by simp [Instr.makeMap, hA], hR.newMeta hd ?_ (.mp (inf := ⟨w.heap.size, 0, 0, 0⟩) (by simp [setR]) rfl)⟩
  refine ⟨⟨w.heap.size, 0, 0, 0⟩, #[], 0, by simp [setR], rfl, rfl, push_new _ _, ⟨rfl, rfl, by simp⟩, by simp, fun q => ?_⟩
  have := hR.hr.old _ q; simp at this

theorem op_rng {t : TypeId} {st : Bool} {ks : List Nat} {k e : TypeId} (M : MapT P t st ks k e) (hR : RL φ nt T0 w0 ρ0 T ρ tm H a w) {dst : Option Nat} (hd : dst.all (fun d => d < nt) = true) {h : Nat} {es : List (AV × AV)} {mv : Value}
    (hm : VR φ T w ρ true (.mp h) mv) (ho : H.obs[h]? = some (.mp es)) :
    ∃ w' ρ' v, (Instr.range t mv).run P w = .ok v w' ∧ RL φ nt T0 w0 ρ0 T ρ' (putD dst (.it H.obs.length) tm) (H.push (.it h es.length (some #[]))) (a.put dst v) w' := by
  have hA : ∀ (w : World) (o : Obj), w.alloc o = pushW w o := fun _ _ => rfl
  cases hm with
  | mp g1 g2 =>
    rename_i inf
    obtain ⟨i, ents, clock, e1, e2, e3, e4, ⟨e5, e6, e7⟩, e8, e9⟩ := hR.hr.ob h _ ho
    rw [g1] at e1; cases e1
    have hlt : h < H.obs.length := (List.getElem?_eq_some_iff.1 ho).1
    have hrun := run_range_map w t k e inf.blk ents clock M.und e4
    rw [hA, e6] at hrun
    refine ⟨_, _, _, hrun, hR.newMeta hd ?_ (.it (inf := ⟨w.heap.size, 0, 0, 0⟩) (by simp [setR]) rfl)⟩
    refine ⟨⟨w.heap.size, 0, 0, 0⟩, inf, #[], by simp [setR], rfl, rfl, ⟨by unfold setR; rw [if_neg (by omega)]; exact g1, g2⟩, push_new _ _, fun s' q => by cases q; rfl, fun q => ?_⟩
    have := hR.hr.old _ q; simp at this

theorem find_born_at {es : Array MapEntry} (hb : ∀ (k : Nat) (e : MapEntry), es[k]? = some e → e.born = k) {j : Nat} {e : MapEntry} (he : es[j]? = some e) : es.find? (·.born == j) = some e := by
  rw [Array.find?_eq_some_iff_getElem]
  obtain ⟨hj, rfl⟩ := Array.getElem?_eq_some_iff.1 he
  refine ⟨by simp [hb j _ he], j, hj, rfl, fun k hk => ?_⟩
  have := hb k es[k] (Array.getElem?_eq_getElem (by omega))
  simp [this]; omega

theorem op_ent (hr : HR φ T w ρ H.obs) {h m n j : Nat} {es : List (AV × AV)} {p : AV × AV} {v : Value} (hv : VR φ T w ρ true (.it h) v) {s : Array Nat} (ho : H.obs[h]? = some (.it m n (some s))) (hs : s.back? = some j) (hm : H.obs[m]? = some (.mp es)) (hn : es.length = n) (hp : es[j]? = some p) :
    ∃ r, (Instr.entry v).run P w = .ok r w ∧ VR φ T w ρ true (.tup [p.1, p.2]) r := by
  cases hv with
  | it g1 g2 =>
    obtain ⟨i, mi, seen, e1, e2, e3, ⟨e4, e4'⟩, e5, e6, e7⟩ := hr.ob h _ ho
    rw [g1] at e1; cases e1
    obtain ⟨i', ents, clock, f1, f2, f3, f4, ⟨f5, f6, f7⟩, f8, f9⟩ := hr.ob m _ hm
    rw [e4] at f1; cases f1
    have hj : j < ents.size := by rw [f5]; exact (List.getElem?_eq_some_iff.1 hp).1
    have hje := Array.getElem?_eq_getElem hj
    obtain ⟨q1, q2⟩ := f8 j p _ hp hje
    have e6 := e6 s rfl
    subst e6
    refine ⟨.tuple #[ents[j].key, ents[j].val], ?_, VR.tup (us := [ents[j].key, ents[j].val]) rfl (fun i c u hc hu => ?_)⟩
    · simp only [Instr.entry, getObj, Sem.run_bind, Sem.run, e5, f4, Result.andThen, hs, find_born_at f7 hje]
      subst f6; subst hn
      simp only [bne_self_eq_false, Bool.false_eq_true, if_false]
      rfl
    · rcases i with _ | _ | i
      · simp at hc hu; subst hc; subst hu; exact q1
      · simp at hc hu; subst hc; subst hu; exact q2
      · simp at hc

theorem op_mput {t : TypeId} {st : Bool} {ks : List Nat} {k e : TypeId} (M : MapT P t st ks k e) (hR : RL φ nt T0 w0 ρ0 T ρ tm H a w) {h : Nat} {es : List (AV × AV)} {mv u xv : Value} {kx x : AV} {r : Option (Nat × AV)}
    (hm : VR φ T w ρ true (.mp h) mv) (ho : H.obs[h]? = some (.mp es)) (hl : H.lim ≤ h) (hk : keyOK st ks kx = true) (hkx : VR φ T w ρ true kx u) (hx : VR φ T w ρ true x xv) (he : evFind st ks kx es 0 = some r) :
    ∃ w', (Instr.mapUpdate t mv u xv).run P w = .ok () w' ∧ RL φ nt T0 w0 ρ0 T ρ tm (H.put h (.mp (putAt es kx x r))) a w' := by
  cases hm with
  | mp g1 g2 =>
    rename_i inf
    obtain ⟨i, ents, clock, e1, e2, e3, e4, ⟨e5, e6, e7⟩, e8, e9⟩ := hR.hr.ob h _ ho
    rw [g1] at e1; cases e1
    obtain ⟨r', f1, f2⟩ := M.find hkx (l := ents.toList) ⟨by simp [e5], fun j p q a b => e8 j p q a (by simpa using b)⟩ he
    have hsi : ∀ obj, Ext T w ρ T (setB w inf.blk obj) ρ := fun obj => ext_setB0 hR.hr g1 obj
    cases r with
    | none =>
      cases r' with
      | some => exact f2.elim
      | none =>
        refine ⟨setB w inf.blk (.map (ents.push { key := u, val := xv, born := clock }) (clock + 1)), ?_, hR.putMeta g1 hl ?_⟩
        · simp only [Instr.mapUpdate, Sem.run_bind, run_und M.und, Result.andThen_ok, MapKept.run_getObj_map e4, M.check hk hkx, f1, MapKept.run_setObj_map _ e4]
          rfl
        · refine ⟨inf, _, _, g1, e2, g2, setB_at _ _ _ (hR.hr.has g1).1, ⟨by simp [putAt, e5], by simp [putAt, e6], fun q e' hq => ?_⟩, fun q p e' hp hq => ?_, e9⟩
          · rw [Array.getElem?_push] at hq
            split at hq
            · cases hq; rename_i e0; simp [e6, ← e5, e0]
            · exact e7 q e' hq
          · simp only [putAt] at hp
            rw [List.getElem?_append] at hp
            rw [Array.getElem?_push] at hq
            split at hp
            · rename_i hlt
              rw [if_neg (by omega)] at hq
              exact ⟨(e8 q p e' hp hq).1.mono (hsi _), (e8 q p e' hp hq).2.mono (hsi _)⟩
            · rename_i hge
              have : q = es.length := by
                rcases Nat.lt_or_ge (q - es.length) 1 with q' | q'
                · omega
                · rw [List.getElem?_eq_none (by simpa using q')] at hp; cases hp
              subst this
              rw [if_pos e5.symm] at hq
              simp at hp
              cases hq; subst hp
              exact ⟨hkx.mono (hsi _), hx.mono (hsi _)⟩
    | some p0 =>
      obtain ⟨i, v⟩ := p0
      cases r' with
      | none => exact f2.elim
      | some p' =>
        obtain ⟨i', v'⟩ := p'
        obtain ⟨rfl, q2, e0, q3, _, q4⟩ := f2
        simp only [Nat.sub_zero, Array.getElem?_toList] at q3
        refine ⟨setB w inf.blk (.map (ents.modify i fun e => { e with key := u, val := xv }) clock), ?_, hR.putMeta g1 hl ?_⟩
        · have hst : (Instr.keyThatStays e0.key u).run P w = .ok u w := by simp [Instr.keyThatStays, q4]
          simp only [Instr.mapUpdate, Sem.run_bind, run_und M.und, Result.andThen_ok, MapKept.run_getObj_map e4, M.check hk hkx, f1, q3, Option.map_some, Option.getD_some, hst, MapKept.run_setObj_map _ e4]
          rfl
        · refine ⟨inf, _, _, g1, e2, g2, setB_at _ _ _ (hR.hr.has g1).1, ⟨by simp [putAt, e5], by simp [putAt, e6], fun q e' hq => ?_⟩, fun q p e' hp hq => ?_, e9⟩
          · rw [Array.getElem?_modify] at hq
            split at hq
            · simp only [Option.map_eq_some_iff] at hq
              obtain ⟨e1, hq, rfl⟩ := hq
              exact e7 q e1 hq
            · exact e7 q e' hq
          · simp only [putAt] at hp
            rw [Array.getElem?_modify] at hq
            by_cases hqi : i = q
            · subst hqi
              rw [if_pos rfl] at hq
              simp only [Option.map_eq_some_iff] at hq
              obtain ⟨e1, hq, rfl⟩ := hq
              rw [List.getElem?_set_self (by rw [← e5]; exact (Array.getElem?_eq_some_iff.1 hq).1)] at hp
              cases hp
              exact ⟨hkx.mono (hsi _), hx.mono (hsi _)⟩
            · rw [if_neg hqi] at hq
              rw [List.getElem?_set_ne hqi] at hp
              exact ⟨(e8 q p e' hp hq).1.mono (hsi _), (e8 q p e' hp hq).2.mono (hsi _)⟩
end
end Sx
