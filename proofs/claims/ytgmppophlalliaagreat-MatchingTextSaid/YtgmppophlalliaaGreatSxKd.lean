/-
  K: its operations are Sx's.
-/
import Derived.Test.YtgmppophlalliaaGreatSxKc
namespace Sx
open Go
set_option linter.unusedSimpArgs false
set_option linter.unusedVariables false

section
variable {R : Type}

theorem chk_some {b : Bool} {x : Option R} {r : R} : chk b x = some r ↔ b = true ∧ x = some r := by cases b <;> simp [chk]
theorem sel_some {b : Bool} {x y : Option R} {r : R} (h : sel b x y = some r) : (b = true ∧ x = some r) ∨ (b = false ∧ y = some r) := by cases b <;> simp_all [sel]
theorem kO?_some {α : Type} {o : Option α} {k : α → Option R} {r : R} (h : kO? o k = some r) : ∃ x, o = some x ∧ k x = some r := by
  cases o with
  | none => cases h
  | some x => exact ⟨x, rfl, h⟩
theorem kI_some {v : KV} {k : IntKind → Int → Option R} {r : R} (h : kI v k = some r) : ∃ kd n, v = .i kd n ∧ k kd n = some r := by
  cases v with
  | i kd n => exact ⟨kd, n, rfl, h⟩
  | _ => cases h
theorem kB_some {v : KV} {k : Bool → Option R} {r : R} (h : kB v k = some r) : ∃ t, v = .b t ∧ k t = some r := by
  cases v with
  | b t => exact ⟨t, rfl, h⟩
  | _ => cases h
theorem kKnown_some {v : KV} {k : KV → Option R} {r : R} (h : kKnown v k = some r) : k v = some r ∧ v ≠ .U ∧ ∀ n, v ≠ .un n := by
  cases v <;> first | cases h | exact ⟨h, by simp, by simp⟩

variable {ρ : Rh} {H : List AO}

theorem RV.i_inv {k : IntKind} {n : Int} {a : AV} (h : RV ρ H (.i k n) a) : a = .v (.int k n) := by
  cases h with | free f => cases f; rfl
theorem RV.b_inv {x : Bool} {a : AV} (h : RV ρ H (.b x) a) : a = .v (.bool x) := by
  cases h with | free f => cases f; rfl
theorem RV.s_inv {x : ByteArray} {a : AV} (h : RV ρ H (.s x) a) : a = .v (.string x) := by
  cases h with | free f => cases f; rfl
theorem RV.nil_inv {a : AV} (h : RV ρ H .nil a) : a = .v (.slice none 0 0) := by
  cases h with | free f => cases f; rfl
theorem RV.unit_inv {a : AV} (h : RV ρ H .unit a) : ∃ t, a = .v (.tuple t) := by
  cases h with
  | free f => cases f
  | unit => exact ⟨_, rfl⟩
theorem RV.agg_inv {cs : List KV} {a : AV} (h : RV ρ H (.agg cs) a) : ∃ as, a = .agg as ∧ FL cs as := by
  cases h with | free f => cases f with | agg hl hf => exact ⟨_, rfl, hl, hf⟩
theorem RV.tup_inv {cs : List KV} {a : AV} (h : RV ρ H (.tup cs) a) : ∃ as, a = .tup as ∧ FL cs as := by
  cases h with | free f => cases f with | tup hl hf => exact ⟨_, rfl, hl, hf⟩
theorem RV.rp_inv {cs : List KV} {a : AV} (h : RV ρ H (.rp cs) a) : ∃ as, a = .rp as ∧ FL cs as := by
  cases h with | free f => cases f with | rp hl hf => exact ⟨_, rfl, hl, hf⟩
theorem RV.fn_inv {g : Nat} {cs : List KV} {a : AV} (h : RV ρ H (.fn g cs) a) : ∃ as, a = .fn g as ∧ FL cs as := by
  cases h with | free f => cases f with | fn hl hf => exact ⟨_, rfl, hl, hf⟩
theorem RV.un_inv {n : Nat} {a : AV} (h : RV ρ H (.un n) a) : ∃ z, a = .un z ∧ z.length = n := by
  cases h with
  | free f => cases f
  | un => exact ⟨_, rfl, rfl⟩
theorem RV.ro_inv {c : CK} {x : Arr c.ty} {a : AV} (h : RV ρ H (.ro c x) a) : (∃ f, a = .ro c.nc x.n f ∧ ∀ i, i < x.n → FL (ofTy c (x.f i)) (f i)) ∨ (a = .v (.slice none 0 0) ∧ x.n = 0) := by
  cases h with
  | free f => cases f with
    | ro hl hf => exact .inl ⟨_, rfl, fun i hi => ⟨hl i hi, hf i hi⟩⟩
    | ro0 hn => exact .inr ⟨rfl, hn⟩
theorem RV.hp_inv {h i o : Nat} {a : AV} (q : RV ρ H (.hp h i o) a) : ∃ j ver sz els, a = .hp j ver i o ∧ ρ h = some (some j) ∧ H[j]? = some (.sl ver sz els) := by
  cases q with
  | free f => cases f
  | hp hr hH => exact ⟨_, _, _, _, rfl, hr, hH⟩
theorem RV.own_inv {h : Nat} {a : AV} (q : RV ρ H (.own h) a) : (∃ j ver sz els, a = .sl j ver 0 els.length ∧ ρ h = some (some j) ∧ H[j]? = some (.sl ver sz els)) ∨ (a = .v (.slice none 0 0) ∧ ρ h = some none) := by
  cases q with
  | free f => cases f
  | own hr hH => exact .inl ⟨_, _, _, _, rfl, hr, hH⟩
  | own0 hr => exact .inr ⟨rfl, hr⟩

theorem RV.known {v : KV} {a : AV} (h : RV ρ H v a) (h1 : v ≠ .U) (h2 : ∀ n, v ≠ .un n) : a.known = true := by
  cases h with
  | free f => cases f <;> rfl
  | U => exact absurd rfl h1
  | un => exact absurd rfl (h2 _)
  | _ => rfl

theorem kev_ok {tm : KEnv} {am : Env} (h : KE ρ H tm am) (o : Opd) : RV ρ H (kev tm o) (ev am o) := by
  cases o with
  | t n => exact h n
  | c v =>
    simp only [kev, ev]
    unfold ofV
    split
    · exact .free .i
    · exact .free .b
    · exact .free .s
    · exact .free .nil
    · exact .U
  | f g => exact .free (.fn rfl (by simp))

theorem ofV_ok (v : Value) : RV ρ H (ofV v) (.v v) := by
  unfold ofV
  split
  · exact .free .i
  · exact .free .b
  · exact .free .s
  · exact .free .nil
  · exact .U

theorem plain_free {v : KV} {a : AV} (hp : v.plain = true) (h : RV ρ H v a) : FV v a := by
  cases h with
  | free f => exact f
  | _ => cases hp

theorem solid_ok {v : KV} {a : AV} (hs : v.solid = true) (h : RV ρ H v a) : a.solid = true ∧ FL v.cells a.cells := by
  cases h with
  | free f =>
    cases f with
    | agg hl hf => exact ⟨rfl, hl, hf⟩
    | i => exact ⟨rfl, .one .i⟩
    | b => exact ⟨rfl, .one .b⟩
    | s => exact ⟨rfl, .one .s⟩
    | nil => exact ⟨rfl, .one .nil⟩
    | ro h1 h2 => exact ⟨rfl, .one (.ro h1 h2)⟩
    | ro0 h1 => exact ⟨rfl, .one (.ro0 h1)⟩
    | tup => simp [KV.solid, KV.cells, KV.plain] at hs
    | rp => simp [KV.solid, KV.cells, KV.plain] at hs
    | fn => simp [KV.solid, KV.cells, KV.plain] at hs
  | _ => simp [KV.solid, KV.cells, KV.plain] at hs

theorem kFill_ok {n off : Nat} {cells new z : List KV} {as bs : List AV} (h : kFill n cells off new = some z) (f1 : FL cells as) (f2 : FL new bs) : ∃ zs, fillC n as off bs = some zs ∧ FL z zs := by
  unfold kFill at h
  split at h
  · rename_i hc
    simp only [Bool.and_eq_true] at hc
    have h1 := Nat.eq_of_beq_eq_true hc.1
    have h2 := Nat.le_of_ble_eq_true hc.2
    cases h
    refine ⟨as.take off ++ bs ++ as.drop (off + n), ?_, ((f1.take off).append f2).append (f1.drop _)⟩
    unfold fillC
    rw [if_pos ⟨by rw [← f2.1]; exact h1, by rw [← f1.1]; exact h2⟩]
  · cases h

theorem kBuild_ok {tm : KEnv} {am : Env} (hE : KE ρ H tm am) : ∀ (ps : List (Nat × Nat × Opd)) (z : List KV) (as : List AV) (cs : List KV), kBuild tm z ps = some cs → FL z as → ∃ bs, evBuild am as ps = some bs ∧ FL cs bs
  | [], z, as, cs, h, f => by simp only [kBuild] at h; cases h; exact ⟨as, rfl, f⟩
  | (off, n, x) :: ps, z, as, cs, h, f => by
    simp only [kBuild] at h
    split at h
    · rename_i hs
      split at h
      · rename_i z' hz
        obtain ⟨h1, h2⟩ := solid_ok hs (kev_ok hE x)
        obtain ⟨zs, h3, h4⟩ := kFill_ok hz f h2
        obtain ⟨bs, h5, h6⟩ := kBuild_ok hE ps z' zs cs h h4
        exact ⟨bs, by simp only [evBuild, if_pos h1, h3, Option.bind]; exact h5, h6⟩
      · cases h
    · cases h

theorem kTake_ok {kd : Option Nat} {cs : List KV} {as : List AV} {k : KV → Option R} {r : R} (h : kTake kd cs k = some r) (f : FL cs as) : ∃ v a, k v = some r ∧ takeK kd as = some a ∧ FV v a := by
  cases kd with
  | none =>
    cases cs with
    | nil => cases h
    | cons c cs =>
      obtain ⟨a, as', rfl, hf, _⟩ := f.head
      exact ⟨c, a, h, rfl, hf⟩
  | some n =>
    simp only [kTake] at h
    obtain ⟨h1, h2⟩ := chk_some.1 h
    have h3 := Nat.le_of_ble_eq_true h1
    refine ⟨_, .agg (as.take n), h2, ?_, .agg (f.take n).1 (f.take n).2⟩
    simp only [takeK]
    rw [if_pos (by rw [← f.1]; exact h3)]

theorem kBinI_ok {op : BinOp} {kd : IntKind} {a b : Int} {k : KV → Option R} {r : R} (h : kBinI op kd a b k = some r) : ∃ v x, k v = some r ∧ binI op kd a b = some x ∧ FV v (.v x) := by
  cases op <;> simp only [kBinI] at h <;> first
    | (cases h; done)
    | exact ⟨_, _, h, rfl, .i⟩
    | exact ⟨_, _, h, rfl, .b⟩
    | (obtain ⟨h1, h2⟩ := chk_some.1 h
       have h3 : ¬ b = 0 := by simpa using h1
       exact ⟨_, _, h2, by simp only [binI]; rw [if_neg h3], .i⟩)

theorem kBin_ok {op : BinOp} {x y : KV} {ax ay : AV} {k : KV → Option R} {r : R} (h : kBin op x y k = some r) (hx : RV ρ H x ax) (hy : RV ρ H y ay) : ∃ v a, k v = some r ∧ evBin op ax ay = some a ∧ FV v a := by
  unfold kBin at h
  split at h
  · rename_i kd a kd' b
    obtain rfl := hx.i_inv
    obtain rfl := hy.i_inv
    split at h
    · obtain ⟨h1, h2⟩ := chk_some.1 h
      have h3 : ¬ b < 0 := by simpa using h1
      exact ⟨_, _, h2, by simp only [evBin, shiftI]; rw [if_neg h3]; rfl, .i⟩
    · obtain ⟨h1, h2⟩ := chk_some.1 h
      have h3 : ¬ b < 0 := by simpa using h1
      exact ⟨_, _, h2, by simp only [evBin, shiftI]; rw [if_neg h3]; rfl, .i⟩
    · rename_i n1 n2
      obtain ⟨h1, h2⟩ := chk_some.1 h
      have h3 : kd = kd' := by simpa using h1
      obtain ⟨v, z, h4, h5, h6⟩ := kBinI_ok h2
      refine ⟨v, .v z, h4, ?_, h6⟩
      unfold evBin
      split
      · split
        · rename_i e1 e2 _; exact absurd rfl (n1 ·)
        · rename_i e1 e2 _; exact absurd rfl (n2 ·)
        · rename_i e1 e2 _ _ _
          cases e1; cases e2
          rw [if_pos h3, h5]; rfl
      · rename_i e1 e2; cases e1
      · rename_i e1 e2; exact absurd rfl (e1 _ _ _ _ rfl)
  · rename_i a b
    obtain rfl := hx.s_inv
    obtain rfl := hy.s_inv
    split at h
    · obtain ⟨h1, h2⟩ := chk_some.1 h
      have h3 : a.size + b.size ≤ 2 ^ 40 := by simpa [roomS] using h1
      exact ⟨_, _, h2, by simp only [evBin, binS]; rw [if_pos h3]; rfl, .s⟩
    · exact ⟨_, _, h, rfl, .b⟩
    · exact ⟨_, _, h, rfl, .b⟩
    · cases h
  · cases h

theorem kEq1_ok {q : Nat} {x y : KV} {ax ay : AV} {t : Bool} (h : kEq1 q x y = some t) (hx : FV x ax) (hy : FV y ay) : eqCell q ax ay = some t := by
  unfold kEq1 at h
  split at h
  · cases hx; cases hy; exact h
  · cases hx; cases hy; exact h
  · cases hx; cases hy; exact h
  · cases h

theorem kEqs_ok : ∀ (ks : List Nat) (xs ys : List KV) (as bs : List AV) (t : Bool), kEqs ks xs ys = some t → FL xs as → FL ys bs → eqCells ks as bs = some t
  | [], [], [], as, bs, t, h, f1, f2 => by
    obtain rfl := f1.nil'; obtain rfl := f2.nil'; exact h
  | k :: ks, x :: xs, y :: ys, as, bs, t, h, f1, f2 => by
    obtain ⟨a, as', rfl, ha, f1'⟩ := f1.head
    obtain ⟨b, bs', rfl, hb, f2'⟩ := f2.head
    simp only [kEqs] at h
    split at h
    · rename_i u hu
      split at h
      · rename_i w hw
        cases h
        have e1 := kEq1_ok hu ha hb
        have e2 := kEqs_ok ks xs ys as' bs' w hw f1' f2'
        unfold eqCells
        rw [e1, e2]; rfl
      · cases h
    · cases h
  | [], [], _ :: _, _, _, _, h, _, _ => by cases h
  | [], _ :: _, _, _, _, _, h, _, _ => by cases h
  | _ :: _, [], _, _, _, _, h, _, _ => by cases h
  | _ :: _, _ :: _, [], _, _, _, h, _, _ => by cases h

theorem kUn_ok {op : UnOp} {x : KV} {ax : AV} {k : KV → Option R} {r : R} (h : kUn op x k = some r) (hx : RV ρ H x ax) : ∃ v a, k v = some r ∧ evUn op ax = some a ∧ FV v a := by
  unfold kUn at h
  split at h
  · obtain rfl := hx.i_inv; exact ⟨_, _, h, rfl, .i⟩
  · obtain rfl := hx.b_inv; exact ⟨_, _, h, rfl, .b⟩
  · obtain rfl := hx.i_inv; exact ⟨_, _, h, rfl, .i⟩
  · cases h

theorem kMax2_ok {x y z : KV} {ax ay : AV} (h : kMax2 x y = some z) (hx : RV ρ H x ax) (hy : RV ρ H y ay) : ∃ az, evMax2 ax ay = some az ∧ RV ρ H z az := by
  unfold kMax2 at h
  split at h
  · obtain rfl := hx.i_inv
    obtain rfl := hy.i_inv
    split at h
    · rename_i e; cases h; exact ⟨_, by simp only [evMax2]; rw [if_pos e], .free .i⟩
    · cases h
  · cases h
theorem kMin2_ok {x y z : KV} {ax ay : AV} (h : kMin2 x y = some z) (hx : RV ρ H x ax) (hy : RV ρ H y ay) : ∃ az, evMin2 ax ay = some az ∧ RV ρ H z az := by
  unfold kMin2 at h
  split at h
  · obtain rfl := hx.i_inv
    obtain rfl := hy.i_inv
    split at h
    · rename_i e; cases h; exact ⟨_, by simp only [evMin2]; rw [if_pos e], .free .i⟩
    · cases h
  · cases h

theorem kFold_ok {f : KV → KV → Option KV} {g : AV → AV → Option AV} (hf : ∀ {x y z : KV} {ax ay : AV}, f x y = some z → RV ρ H x ax → RV ρ H y ay → ∃ az, g ax ay = some az ∧ RV ρ H z az) :
    ∀ (ys : List KV) (as : List AV) (x z : KV) (a : AV), kFold f x ys = some z → RV ρ H x a → ys.length = as.length → (∀ (i : Nat) (u : KV) (b : AV), ys[i]? = some u → as[i]? = some b → RV ρ H u b) → ∃ az, evFold g a as = some az ∧ RV ρ H z az
  | [], [], x, z, a, h, hx, _, _ => by simp only [kFold] at h; cases h; exact ⟨a, rfl, hx⟩
  | y :: ys, b :: as, x, z, a, h, hx, hl, hr => by
    simp only [kFold] at h
    split at h
    · rename_i w hw
      obtain ⟨aw, h1, h2⟩ := hf hw hx (hr 0 y b rfl rfl)
      obtain ⟨az, h3, h4⟩ := kFold_ok hf ys as w z aw h h2 (by simpa using hl) (fun i u b' e1 e2 => hr (i + 1) u b' (by simpa using e1) (by simpa using e2))
      exact ⟨az, by simp only [evFold, h1, Option.bind]; exact h3, h4⟩
    · cases h
  | [], _ :: _, _, _, _, _, _, hl, _ => by simp at hl
  | _ :: _, [], _, _, _, _, _, hl, _ => by simp at hl

theorem map_rel {tm : KEnv} {am : Env} (hE : KE ρ H tm am) (xs : List Opd) : (xs.map (kev tm)).length = (xs.map (ev am)).length ∧ ∀ (i : Nat) (u : KV) (b : AV), (xs.map (kev tm))[i]? = some u → (xs.map (ev am))[i]? = some b → RV ρ H u b := by
  refine ⟨by simp, fun i u b h1 h2 => ?_⟩
  simp only [List.getElem?_map, Option.map_eq_some_iff] at h1 h2
  obtain ⟨x, hx, rfl⟩ := h1
  obtain ⟨x', hx', rfl⟩ := h2
  rw [hx] at hx'; cases hx'
  exact kev_ok hE x

theorem kFolds_ok {f : KV → KV → Option KV} {g : AV → AV → Option AV} (hf : ∀ {x y z : KV} {ax ay : AV}, f x y = some z → RV ρ H x ax → RV ρ H y ay → ∃ az, g ax ay = some az ∧ RV ρ H z az) {tm : KEnv} {am : Env} (hE : KE ρ H tm am) {xs : List Opd} {z : KV}
    (h : kFolds f (xs.map (kev tm)) = some z) : ∃ az, evFolds g (xs.map (ev am)) = some az ∧ RV ρ H z az := by
  obtain ⟨h1, h2⟩ := map_rel hE xs
  cases hk : xs.map (kev tm) with
  | nil => rw [hk] at h; cases h
  | cons y ys =>
    rw [hk] at h h1 h2
    cases ha : xs.map (ev am) with
    | nil => rw [ha] at h1; simp at h1
    | cons b as =>
      rw [ha] at h1 h2
      exact kFold_ok hf ys as y z b h (h2 0 y b rfl rfl) (by simpa using h1) (fun i u b' e1 e2 => h2 (i + 1) u b' (by simpa using e1) (by simpa using e2))
end
end Sx
