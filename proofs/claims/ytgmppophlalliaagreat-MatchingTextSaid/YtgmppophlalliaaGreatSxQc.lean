/-
  Q: what the parts mean.
-/
import Derived.Test.YtgmppophlalliaaGreatSxQb
namespace Sx.Q
open Go
set_option linter.unusedVariables false
set_option linter.unusedSimpArgs false

section
variable {ρ : Type} {r : ρ}

theorem fN_ok {x : Nat} {k : Nat → Option ρ} (h : fN x k = some r) : k x = some r := by cases x <;> exact h
theorem ck_ok {c : Bool} {x : Option ρ} (h : ck c x = some r) : c = true ∧ x = some r := by
  cases c with
  | false => cases h
  | true => exact ⟨rfl, h⟩
theorem fB_ok {c : Bool} {k : Bool → Option ρ} (h : fB c k = some r) : k c = some r := by cases c <;> exact h
theorem ble_ok {a b : Nat} {x : Option ρ} (h : ck (Nat.ble a b) x = some r) : a ≤ b ∧ x = some r := by
  obtain ⟨h1, h2⟩ := ck_ok h
  exact ⟨Nat.le_of_ble_eq_true h1, h2⟩
theorem beq_ok {a b : Nat} {x : Option ρ} (h : ck (Nat.beq a b) x = some r) : a = b ∧ x = some r := by
  obtain ⟨h1, h2⟩ := ck_ok h
  exact ⟨Nat.eq_of_beq_eq_true h1, h2⟩
theorem bool_ok {c : Bool} {x y : Option ρ} (h : Bool.rec (motive := fun _ => Option ρ) x y c = some r) : c = false ∧ x = some r ∨ c = true ∧ y = some r := by
  cases c with
  | false => exact .inl ⟨rfl, h⟩
  | true => exact .inr ⟨rfl, h⟩
theorem beqr_ok {a b : Nat} {x y : Option ρ} (h : Bool.rec (motive := fun _ => Option ρ) x y (Nat.beq a b) = some r) : a ≠ b ∧ x = some r ∨ a = b ∧ y = some r := by
  rcases bool_ok h with ⟨h1, h2⟩ | ⟨h1, h2⟩
  · exact .inl ⟨fun q => by rw [q] at h1; simp at h1, h2⟩
  · exact .inr ⟨Nat.eq_of_beq_eq_true h1, h2⟩

theorem onI_ok {v : V} {ki km : Nat → Nat → Option ρ} (h : onI v ki km = some r) : (∃ c x, v = .i c x ∧ ki c x = some r) ∨ (∃ c x, v = .m c x ∧ km c x = some r) := by
  cases v <;> first | (cases h; done) | exact .inl ⟨_, _, rfl, h⟩ | exact .inr ⟨_, _, rfl, h⟩
theorem onI1_ok {v : V} {ki : Nat → Nat → Option ρ} (h : onI v ki n2 = some r) : ∃ c x, v = .i c x ∧ ki c x = some r := by
  rcases onI_ok h with h | ⟨_, _, _, h⟩
  · exact h
  · cases h
theorem onB_ok {v : V} {k : Bool → Option ρ} (h : onB v k = some r) : ∃ t, v = .b t ∧ k t = some r := by
  cases v <;> first | (cases h; done) | exact ⟨_, rfl, h⟩
theorem onS_ok {v : V} {k : Nat → Nat → Option ρ} (h : onS v k = some r) : ∃ c x, v = .s c x ∧ k c x = some r := by
  cases v <;> first | (cases h; done) | exact ⟨_, _, rfl, h⟩
theorem onAgg_ok {v : V} {k : V → Option ρ} (h : onAgg v k = some r) : ∃ l, v = .agg l ∧ k l = some r := by
  cases v <;> first | (cases h; done) | exact ⟨_, rfl, h⟩
theorem onTup_ok {v : V} {k : V → Option ρ} (h : onTup v k = some r) : ∃ l, v = .tup l ∧ k l = some r := by
  cases v <;> first | (cases h; done) | exact ⟨_, rfl, h⟩
theorem onUn_ok {v : V} {k : V → Option ρ} (h : onUn v k = some r) : ∃ l, v = .un l ∧ k l = some r := by
  cases v <;> first | (cases h; done) | exact ⟨_, rfl, h⟩
theorem onFn_ok {v : V} {k : Nat → V → Option ρ} (h : onFn v k = some r) : ∃ g l, v = .fn g l ∧ k g l = some r := by
  cases v <;> first | (cases h; done) | exact ⟨_, _, rfl, h⟩
theorem onMp_ok {v : V} {k : Nat → Option ρ} (h : onMp v k = some r) : ∃ l, v = .mp l ∧ k l = some r := by
  cases v <;> first | (cases h; done) | exact ⟨_, rfl, h⟩
theorem onOm_ok {v : V} {k : V → Option ρ} (h : onOm v k = some r) : ∃ l, v = .om l ∧ k l = some r := by
  cases v <;> first | (cases h; done) | exact ⟨_, rfl, h⟩
theorem onOs_ok {v : V} {k : Nat → Nat → Nat → V → Option ρ} (h : onOs v k = some r) : ∃ a b c d, v = .os a b c d ∧ k a b c d = some r := by
  cases v <;> first | (cases h; done) | exact ⟨_, _, _, _, rfl, h⟩
theorem onL_ok {v : V} {kn : Option ρ} {k : V → V → Option ρ} (h : onL v kn k = some r) : (v = .nil ∧ kn = some r) ∨ ∃ a b, v = .cons a b ∧ k a b = some r := by
  cases v <;> first | (cases h; done) | exact .inl ⟨rfl, h⟩ | exact .inr ⟨_, _, rfl, h⟩
theorem onP_ok {v : V} {kr : V → Option ρ} {kh : Nat → Nat → Nat → Nat → Option ρ} (h : onP v kr kh = some r) : (∃ l, v = .rp l ∧ kr l = some r) ∨ ∃ a b c d, v = .hp a b c d ∧ kh a b c d = some r := by
  cases v <;> first | (cases h; done) | exact .inl ⟨_, rfl, h⟩ | exact .inr ⟨_, _, _, _, rfl, h⟩
theorem onA_ok {v : V} {kr : V → Option ρ} {kh : Nat → Nat → Nat → Nat → Option ρ} (h : onA v kr kh = some r) : (∃ l, v = .un l ∧ kr l = some r) ∨ ∃ a b c d, v = .hp a b c d ∧ kh a b c d = some r := by
  cases v <;> first | (cases h; done) | exact .inl ⟨_, rfl, h⟩ | exact .inr ⟨_, _, _, _, rfl, h⟩
theorem onSl_ok {v : V} {kz : Option ρ} {kr : Nat → Nat → Nat → Nat → V → Option ρ} {kh : Nat → Nat → Nat → Nat → Option ρ} (h : onSl v kz kr kh = some r) :
    (v = .zs ∧ kz = some r) ∨ (∃ a b c m d, v = .ro a b c m d ∧ kr a b c m d = some r) ∨ ∃ a b c d, v = .sl a b c d ∧ kh a b c d = some r := by
  cases v <;> first | (cases h; done) | exact .inl ⟨rfl, h⟩ | exact .inr (.inl ⟨_, _, _, _, _, rfl, h⟩) | exact .inr (.inr ⟨_, _, _, _, rfl, h⟩)
theorem onSS_ok {v : V} {ks : Nat → Nat → Option ρ} {kr : Nat → Nat → Nat → Nat → V → Option ρ} {kh : Nat → Nat → Nat → Nat → Option ρ} (h : onSS v ks kr kh = some r) :
    (∃ c x, v = .s c x ∧ ks c x = some r) ∨ (∃ a b c m d, v = .ro a b c m d ∧ kr a b c m d = some r) ∨ ∃ a b c d, v = .sl a b c d ∧ kh a b c d = some r := by
  cases v <;> first | (cases h; done) | exact .inl ⟨_, _, rfl, h⟩ | exact .inr (.inl ⟨_, _, _, _, _, rfl, h⟩) | exact .inr (.inr ⟨_, _, _, _, rfl, h⟩)
theorem known_ok {v : V} {k : Option ρ} (h : known v k = some r) : (dec v).known = true ∧ k = some r := by
  cases v <;> first | (cases h; done) | exact ⟨rfl, h⟩
theorem solid_ok {v : V} {k : V → Option ρ} (h : solid v k = some r) : ∃ l, k l = some r ∧ (dec v).solid = true ∧ (dec v).cells = decL l := by
  cases v with
  | w x => obtain ⟨h1, h2⟩ := ck_ok h; exact ⟨_, h2, h1, by simp [decL, dec, AV.cells]⟩
  | s n x => exact ⟨_, h, by simp [dec, AV.solid, oneC], by simp [decL, dec, AV.cells]⟩
  | _ => first | (cases h; done) | exact ⟨_, h, rfl, by simp [decL, dec, AV.cells]⟩

/-! ### Lists -/

theorem lenL_eq (l : V) : lenL l = (decL l).length := by
  induction l with
  | cons a b _ ih => show Nat.succ (lenL b) = _; rw [ih]; simp [decL]
  | _ => rfl

theorem takeL_ok : ∀ {l : V} {n : Nat} {k : V → Option ρ}, takeL l n k = some r → ∃ l', k l' = some r ∧ decL l' = (decL l).take n ∧ n ≤ (decL l).length := by
  intro l
  induction l with
  | nil =>
    intro n k h
    rcases beqr_ok h with ⟨_, h⟩ | ⟨rfl, h⟩
    · cases h
    · exact ⟨_, h, rfl, by simp⟩
  | cons a b _ ih =>
    intro n k h
    rcases beqr_ok h with ⟨h0, h⟩ | ⟨rfl, h⟩
    · obtain ⟨l', h1, h2, h3⟩ := ih h
      refine ⟨_, h1, ?_, ?_⟩
      · rw [decL, h2, decL]
        obtain ⟨m, rfl⟩ : ∃ m, n = m + 1 := ⟨n - 1, by omega⟩
        rfl
      · simp only [decL, List.length_cons]
        have : Nat.pred n = n - 1 := rfl
        omega
    · exact ⟨_, h, by simp [decL], by simp⟩
  | _ => intro n k h; cases h

theorem dropL_ok : ∀ {l : V} {n : Nat} {k : V → Option ρ}, dropL l n k = some r → ∃ l', k l' = some r ∧ decL l' = (decL l).drop n ∧ n ≤ (decL l).length := by
  intro l
  induction l with
  | nil =>
    intro n k h
    rcases beqr_ok h with ⟨_, h⟩ | ⟨rfl, h⟩
    · cases h
    · exact ⟨_, h, rfl, by simp⟩
  | cons a b _ ih =>
    intro n k h
    rcases beqr_ok h with ⟨h0, h⟩ | ⟨rfl, h⟩
    · obtain ⟨l', h1, h2, h3⟩ := ih h
      refine ⟨_, h1, ?_, ?_⟩
      · rw [h2, decL]
        obtain ⟨m, rfl⟩ : ∃ m, n = m + 1 := ⟨n - 1, by omega⟩
        rfl
      · simp only [decL, List.length_cons]
        have : Nat.pred n = n - 1 := rfl
        omega
    · exact ⟨_, h, by simp [decL], by simp⟩
  | _ => intro n k h; cases h

theorem fillL_ok : ∀ {l : V} {n : Nat} {new : V} {k : V → Option ρ}, fillL l n new k = some r → ∃ l', k l' = some r ∧ decL l' = (decL l).take n ++ decL new ++ (decL l).drop (n + (decL new).length) ∧ n + (decL new).length ≤ (decL l).length := by
  intro l
  induction l with
  | nil =>
    intro n new k h
    rcases beqr_ok h with ⟨_, h⟩ | ⟨rfl, h⟩
    · cases h
    · rcases onL_ok h with ⟨rfl, h⟩ | ⟨_, _, _, h⟩
      · exact ⟨_, h, rfl, by simp [decL]⟩
      · cases h
  | cons a b _ ih =>
    intro n new k h
    rcases beqr_ok h with ⟨h0, h⟩ | ⟨rfl, h⟩
    · obtain ⟨l', h1, h2, h3⟩ := ih h
      refine ⟨_, h1, ?_, ?_⟩
      · obtain ⟨m, rfl⟩ : ∃ m, n = m + 1 := ⟨n - 1, by omega⟩
        rw [decL, h2, decL]
        have : m + 1 + (decL new).length = (m + (decL new).length) + 1 := by omega
        rw [this]
        rfl
      · simp only [decL, List.length_cons]
        have : Nat.pred n = n - 1 := rfl
        omega
    · rcases onL_ok h with ⟨rfl, h⟩ | ⟨a', b', rfl, h⟩
      · exact ⟨_, h, by simp [decL], by simp [decL]⟩
      · obtain ⟨l', h1, h2, h3⟩ := ih h
        refine ⟨_, h1, ?_, ?_⟩
        · simp only [decL, h2]
          simp
        · simp only [decL, List.length_cons]
          omega
  | _ => intro n new k h; cases h

theorem appL_ok : ∀ {l y : V} {k : V → Option ρ}, appL l y k = some r → ∃ l', k l' = some r ∧ decL l' = decL l ++ decL y := by
  intro l
  induction l with
  | nil => intro y k h; exact ⟨_, h, by simp [decL]⟩
  | cons a b _ ih =>
    intro y k h
    obtain ⟨l', h1, h2⟩ := ih h
    exact ⟨_, h1, by simp [decL, h2]⟩
  | _ => intro y k h; cases h

theorem takeK'_ok {o : Option Nat} {l : V} {k : V → Option ρ} (h : takeK' o l k = some r) : ∃ v, k v = some r ∧ takeK o (decL l) = some (dec v) := by
  cases o with
  | none =>
    rcases onL_ok h with ⟨rfl, h⟩ | ⟨a, b, rfl, h⟩
    · cases h
    · exact ⟨_, h, by simp [decL, takeK]⟩
  | some n =>
    obtain ⟨l', h1, h2, h3⟩ := takeL_ok h
    exact ⟨_, h1, by simp [takeK, h3, dec, h2]⟩

theorem nthL_ok : ∀ {l : V} {n : Nat} {k : V → Option ρ}, nthL l n k = some r → ∃ v, k v = some r ∧ (decL l)[n]? = some (dec v) := by
  intro l
  induction l with
  | nil => intro n k h; cases h
  | cons a b _ ih =>
    intro n k h
    rcases beqr_ok h with ⟨h0, h⟩ | ⟨rfl, h⟩
    · obtain ⟨v, h1, h2⟩ := ih h
      obtain ⟨m, rfl⟩ : ∃ m, n = m + 1 := ⟨n - 1, by omega⟩
      exact ⟨v, h1, by simpa [decL] using h2⟩
    · exact ⟨_, h, by simp [decL]⟩
  | _ => intro n k h; cases h

/-! ### Tries -/

theorem decT_eq : ∀ (t : V) (j : Nat), decT t j = decL (tget t j) := by
  intro t
  induction t with
  | nd x l r' _ ihl ihr =>
    intro j
    simp only [decT, tget]
    split
    · rfl
    · split
      · exact ihl _
      · exact ihr _
  | _ => intro j; rfl

theorem tgt_ok : ∀ {t : V} {j : Nat} {k : V → Option ρ}, tgt t j k = some r → k (tget t j) = some r := by
  intro t
  induction t with
  | nd x l r' _ ihl ihr =>
    intro j k h
    simp only [tget]
    rcases beqr_ok h with ⟨h0, h⟩ | ⟨rfl, h⟩
    · rw [if_neg h0]
      rcases beqr_ok h with ⟨h1, h⟩ | ⟨h1, h⟩
      · have h1' : ¬ j % 2 = 1 := h1
        rw [if_neg h1']
        exact ihr h
      · have h1' : j % 2 = 1 := h1
        rw [if_pos h1']
        exact ihl h
    · rw [if_pos rfl]; exact h
  | _ => intro j k h; cases h

theorem tset_ok : ∀ {t : V} {j : Nat} {v : V} {k : V → Option ρ}, tset t j v k = some r → ∃ t', k t' = some r ∧ ∀ j', tget t' j' = if j' = j then v else tget t j' := by
  intro t
  induction t with
  | nil =>
    intro j v k h
    rcases beqr_ok h with ⟨_, h⟩ | ⟨rfl, h⟩
    · cases h
    · refine ⟨_, h, fun j' => ?_⟩
      simp only [tget]
      split
      · rfl
      · split <;> rfl
  | nd x l r' _ ihl ihr =>
    intro j v k h
    rcases beqr_ok h with ⟨h0, h⟩ | ⟨rfl, h⟩
    · rcases beqr_ok h with ⟨h1, h⟩ | ⟨h1, h⟩
      · have h1' : ¬ j % 2 = 1 := h1
        obtain ⟨t', h2, h3⟩ := ihr h
        refine ⟨_, h2, fun j' => ?_⟩
        simp only [tget, h3]
        have e : Nat.pred (Nat.div j 2) = j / 2 - 1 := rfl
        rw [e]
        by_cases q0 : j' = 0
        · subst q0; simp [h0, Ne.symm h0]
        · simp only [if_neg q0]
          by_cases q1 : j' % 2 = 1
          · have : ¬ j' = j := fun q => h1' (q ▸ q1)
            simp only [if_pos q1, if_neg this]
          · simp only [if_neg q1]
            by_cases q2 : j' = j
            · subst q2; simp
            · have : ¬ j' / 2 - 1 = j / 2 - 1 := by omega
              simp only [if_neg this, if_neg q2]
      · have h1' : j % 2 = 1 := h1
        obtain ⟨t', h2, h3⟩ := ihl h
        refine ⟨_, h2, fun j' => ?_⟩
        simp only [tget, h3]
        have e : Nat.div j 2 = j / 2 := rfl
        rw [e]
        by_cases q0 : j' = 0
        · subst q0; simp [h0, Ne.symm h0]
        · simp only [if_neg q0]
          by_cases q1 : j' % 2 = 1
          · simp only [if_pos q1]
            by_cases q2 : j' = j
            · subst q2; simp
            · have : ¬ j' / 2 = j / 2 := by omega
              simp only [if_neg this, if_neg q2]
          · have : ¬ j' = j := fun q => q1 (q ▸ h1')
            simp only [if_neg q1, if_neg this]
    · refine ⟨_, h, fun j' => ?_⟩
      simp only [tget]
      split <;> rfl
  | _ => intro j v k h; cases h

/-! ### Objects -/

theorem obs_len (n : Nat) (t : V) : (decH n t).obs.length = n := by simp [decH]
theorem obs_get {n h : Nat} (t : V) (hh : h < n) : (decH n t).obs[h]? = some (decO (tget t h)) := by simp [decH, hh]
theorem get_of {n h ver sz c : Nat} {t t' : V} (hh : h < n) (he : tget t h = .os ver sz c t') : (decH n t).get h ver = some (sz, (List.range c).map (decT t')) := by
  unfold Hp.get
  rw [obs_get t hh, he]
  simp [decO]
theorem decH_push {n : Nat} {t t' o : V} (h : ∀ j, tget t' j = if j = n then o else tget t j) : decH (n + 1) t' = (decH n t).push (decO o) := by
  simp only [decH, Hp.push, List.range_succ, List.map_append, List.map_cons, List.map_nil]
  congr 2
  · apply List.map_congr_left
    intro j hj
    have : ¬ j = n := by have := List.mem_range.1 hj; omega
    rw [h, if_neg this]
  · rw [h, if_pos rfl]
theorem decH_put {n i : Nat} {t t' o : V} (h : ∀ j, tget t' j = if j = i then o else tget t j) : decH n t' = (decH n t).put i (decO o) := by
  simp only [decH, Hp.put]
  congr 1
  apply List.ext_getElem?
  intro j
  rw [List.getElem?_set]
  simp only [List.length_map, List.length_range, List.getElem?_map]
  by_cases hj : j < n
  · simp only [List.getElem?_range hj, Option.map_some, h]
    by_cases q : j = i
    · subst q; simp [hj]
    · have : ¬ i = j := fun w => q w.symm
      simp [q, this]
  · have : (List.range n)[j]? = none := by simp; omega
    simp only [this, Option.map_none]
    split
    · split
      · rename_i h1 h2; omega
      · rfl
    · rfl

theorem obj_ok {n h ver : Nat} {t : V} {k : Nat → Nat → V → Option ρ} (hh : obj n t h ver k = some r) :
    ∃ sz c t', k sz c t' = some r ∧ h < n ∧ tget t h = .os ver sz c t' ∧ (decH n t).get h ver = some (sz, (List.range c).map (decT t')) := by
  obtain ⟨h1, h2⟩ := ble_ok hh
  have h3 := tgt_ok h2
  obtain ⟨a, b, c, d, h4, h5⟩ := onOs_ok h3
  obtain ⟨rfl, h6⟩ := beq_ok h5
  exact ⟨b, c, d, h6, h1, h4, get_of h1 h4⟩
theorem obm_ok {n h : Nat} {t : V} {k : V → Option ρ} (hh : obm n t h k = some r) :
    ∃ es, k es = some r ∧ h < n ∧ (decH n t).obs[h]? = some (.mp (decM es)) := by
  obtain ⟨h1, h2⟩ := ble_ok hh
  have h3 := tgt_ok h2
  obtain ⟨es, h4, h5⟩ := onOm_ok h3
  exact ⟨es, h5, h1, by rw [obs_get t h1, h4]; simp [decO]⟩
theorem push_ok {n : Nat} {t o : V} {k : Nat → V → Option ρ} (h : push n t o k = some r) : ∃ t', k (n + 1) t' = some r ∧ decH (n + 1) t' = (decH n t).push (decO o) := by
  obtain ⟨t', h1, h2⟩ := tset_ok h
  exact ⟨t', fN_ok h1, decH_push h2⟩
theorem elem_ok {n i : Nat} {t : V} {k : V → Option ρ} (h : elem n t i k = some r) : i < n ∧ k (tget t i) = some r ∧ ((List.range n).map (decT t))[i]? = some (decL (tget t i)) := by
  obtain ⟨h1, h2⟩ := ble_ok h
  have h1' : i < n := h1
  exact ⟨h1, tgt_ok h2, by simp [h1', decT_eq]⟩

theorem copyT_ok {src : V} : ∀ {c i j : Nat} {t : V} {k : V → Option ρ}, copyT c src i j t k = some r → ∃ t', k t' = some r ∧ ∀ x, tget t' x = if j ≤ x ∧ x < j + c then tget src (i + (x - j)) else tget t x
  | 0, i, j, t, k, h => ⟨t, h, fun x => by rw [if_neg (by omega)]⟩
  | c + 1, i, j, t, k, h => by
    have e : copyT (c + 1) src i j t k = tgt src i fun x => tset t j x fun t' => fN (i + 1) fun i' => fN (j + 1) fun j' => copyT c src i' j' t' k := rfl
    rw [e] at h
    have h1 := tgt_ok h
    obtain ⟨t1, h2, h3⟩ := tset_ok h1
    have h2' := fN_ok (k := fun j' => copyT c src (i + 1) j' t1 k) (fN_ok (k := fun i' => fN (j + 1) fun j' => copyT c src i' j' t1 k) h2)
    obtain ⟨t', h4, h5⟩ := copyT_ok h2'
    refine ⟨t', h4, fun x => ?_⟩
    rw [h5, h3]
    by_cases q : x = j
    · subst q
      rw [if_neg (by omega), if_pos rfl, if_pos (by omega)]
      simp
    · by_cases q2 : j ≤ x ∧ x < j + (c + 1)
      · rw [if_pos (by omega), if_pos q2]
        congr 1
        omega
      · rw [if_neg (by omega), if_neg q, if_neg q2]
theorem fillT_ok {y : V} : ∀ {c j : Nat} {t : V} {k : V → Option ρ}, fillT c y j t k = some r → ∃ t', k t' = some r ∧ ∀ x, tget t' x = if j ≤ x ∧ x < j + c then y else tget t x
  | 0, j, t, k, h => ⟨t, h, fun x => by rw [if_neg (by omega)]⟩
  | c + 1, j, t, k, h => by
    obtain ⟨t1, h2, h3⟩ := tset_ok (show tset t j y _ = some r from h)
    have h2' := fN_ok h2
    obtain ⟨t', h4, h5⟩ := fillT_ok h2'
    refine ⟨t', h4, fun x => ?_⟩
    rw [h5, h3]
    by_cases q : x = j
    · subst q
      rw [if_neg (by omega), if_pos rfl, if_pos (by omega)]
    · by_cases q2 : j ≤ x ∧ x < j + (c + 1)
      · rw [if_pos (by omega), if_pos q2]
      · rw [if_neg (by omega), if_neg q, if_neg q2]
theorem chunks_ok {sz : Nat} : ∀ {c : Nat} {l : V} {j : Nat} {t : V} {k : V → Option ρ}, chunks sz c l j t k = some r → ∃ t', k t' = some r ∧ ∀ x, decL (tget t' x) = if j ≤ x ∧ x < j + c then ((decL l).drop ((x - j) * sz)).take sz else decL (tget t x)
  | 0, l, j, t, k, h => ⟨t, h, fun x => by rw [if_neg (by omega)]⟩
  | c + 1, l, j, t, k, h => by
    obtain ⟨e, h1, h2, _⟩ := takeL_ok (show takeL l sz _ = some r from h)
    obtain ⟨l', h3, h4, _⟩ := dropL_ok h1
    obtain ⟨t1, h5, h6⟩ := tset_ok h3
    have h5' := fN_ok h5
    obtain ⟨t', h7, h8⟩ := chunks_ok h5'
    refine ⟨t', h7, fun x => ?_⟩
    rw [h8, h6]
    by_cases q : x = j
    · subst q
      rw [if_neg (by omega), if_pos rfl, if_pos (by omega), h2]
      simp
    · by_cases q2 : j ≤ x ∧ x < j + (c + 1)
      · rw [if_pos (by omega), if_pos q2, h4, List.drop_drop]
        have : sz + (x - j.succ) * sz = (x - j) * sz := by
          have e : x - j = (x - j.succ) + 1 := by omega
          rw [e, Nat.succ_mul]; omega
        rw [this]
      · rw [if_neg (by omega), if_neg q, if_neg q2]

/-! ### Slots -/

theorem look_cons (s k : Nat) (v : V) (tl : E) : look s (.cons k v tl) = if k = s then some v else look s tl := rfl
theorem lk_ok {s : Nat} : ∀ {e : E} {k : V → Option ρ}, lk s e k = some r → ∃ v, look s e = some v ∧ k v = some r := by
  intro e
  induction e with
  | nil => intro k h; cases h
  | cons s' v tl ih =>
    intro k h
    rcases beqr_ok h with ⟨h0, h⟩ | ⟨h0, h⟩
    · rw [look_cons, if_neg h0]; exact ih h
    · exact ⟨v, by rw [look_cons, if_pos h0], h⟩
theorem lkD_ok {s : Nat} {d : Option ρ} : ∀ {e : E} {k : V → Option ρ}, lkD s e k d = some r → (∃ v, look s e = some v ∧ k v = some r) ∨ (look s e = none ∧ d = some r) := by
  intro e
  induction e with
  | nil => intro k h; exact .inr ⟨rfl, h⟩
  | cons s' v tl ih =>
    intro k h
    rcases beqr_ok h with ⟨h0, h⟩ | ⟨h0, h⟩
    · rw [look_cons, if_neg h0]; exact ih h
    · exact .inl ⟨v, by rw [look_cons, if_pos h0], h⟩
theorem EqE.cons {e : E} {tm : Env} (h : EqE e tm) (s : Nat) (v : V) : EqE (.cons s v e) ((s, dec v) :: tm) := by
  intro s' v' h'
  rw [look_cons] at h'
  simp only [get]
  by_cases q : s = s'
  · rw [if_pos q] at h' ⊢
    cases h'; rfl
  · rw [if_neg q] at h' ⊢
    exact h s' v' h'

theorem get_keepL (ks : List Nat) (tm : Env) (s : Nat) (h : s ∈ ks) : get s (keepL ks tm) = get s tm := by
  induction ks with
  | nil => cases h
  | cons k ks ih =>
    show get s ((k, get k tm) :: keepL ks tm) = _
    simp only [get]
    by_cases q : k = s
    · rw [if_pos q, q]
    · rw [if_neg q]
      rcases List.mem_cons.1 h with rfl | h
      · exact absurd rfl q
      · exact ih h

theorem keep_sub {e : E} : ∀ {ks : List Nat} {k : E → Option ρ}, keep ks e k = some r → ∃ e', k e' = some r ∧ ∀ s v, look s e' = some v → s ∈ ks ∧ look s e = some v
  | [], k, h => ⟨_, h, fun s v q => by cases q⟩
  | s :: ks, k, h => by
    rcases lkD_ok h with ⟨v, h1, h⟩ | ⟨h1, h⟩
    · obtain ⟨e', h2, h3⟩ := keep_sub (k := fun r => k (.cons s v r)) h
      refine ⟨_, h2, fun s' v' q => ?_⟩
      rw [look_cons] at q
      by_cases w : s = s'
      · rw [if_pos w] at q; cases q; subst w; exact ⟨by simp, h1⟩
      · rw [if_neg w] at q
        obtain ⟨q1, q2⟩ := h3 s' v' q
        exact ⟨List.mem_cons_of_mem _ q1, q2⟩
    · obtain ⟨e', h2, h3⟩ := keep_sub (k := k) h
      exact ⟨e', h2, fun s' v' q => ⟨List.mem_cons_of_mem _ (h3 s' v' q).1, (h3 s' v' q).2⟩⟩
theorem keep_ok {e : E} {tm : Env} (he : EqE e tm) {ks : List Nat} {k : E → Option ρ} (h : keep ks e k = some r) : ∃ e', k e' = some r ∧ EqE e' (keepL ks tm) := by
  obtain ⟨e', h1, h2⟩ := keep_sub h
  refine ⟨e', h1, fun s v q => ?_⟩
  obtain ⟨q1, q2⟩ := h2 s v q
  rw [get_keepL ks tm s q1]
  exact he s v q2

/-! ### Values in -/

theorem kd_kc (k : IntKind) : kd (kc k) = k := by cases k <;> rfl

theorem decS_encS (l : List UInt8) : (List.range l.length).map (fun i => UInt8.ofNat (l.foldr (fun c r => c.toNat + r * 256) 0 >>> (8 * i))) = l := by
  induction l with
  | nil => rfl
  | cons c l ih =>
    rw [List.length_cons, List.range_succ_eq_map, List.map_cons, List.map_map]
    congr 1
    · simp only [List.foldr_cons, Nat.mul_zero, Nat.shiftRight_zero]
      apply UInt8.toNat_inj.1
      rw [UInt8.toNat_ofNat']
      have := c.toNat_lt
      omega
    · conv => rhs; rw [← ih]
      apply List.map_congr_left
      intro i _
      simp only [Function.comp, List.foldr_cons]
      congr 1
      rw [show 8 * (Nat.succ i) = 8 + 8 * i by omega, Nat.shiftRight_add]
      congr 1
      rw [Nat.shiftRight_eq_div_pow]
      have := c.toNat_lt
      omega

theorem decS_enc (s : ByteArray) : decS s.size (encS s) = s := by
  cases s with
  | mk d =>
    unfold decS encS
    have h := decS_encS d.toList
    have h2 : (ByteArray.mk d).size = d.toList.length := rfl
    rw [h2]
    show ByteArray.mk _ = _
    rw [h]

theorem encV_ok (v : Value) : dec (encV v) = .v v := by
  unfold encV
  split
  · split
    · simp only [dec, kd_kc]
    · simp only [dec, kd_kc]
  · rfl
  · simp only [dec, decS_enc]
  · rfl
  · split
    · rename_i vs h
      have : vs = #[] := Array.eq_empty_of_size_eq_zero h
      subst this; rfl
    · rfl
  · rfl

theorem encK_ok {v : Value} {k : V → Option ρ} (h : encK v k = some r) : k (encV v) = some r := by
  unfold encK at h
  split at h
  · rename_i s
    exact fN_ok (k := fun x => k (.s s.size x)) (fN_ok (k := fun n => fN (encS s) fun x => k (.s n x)) h)
  · exact h
theorem opd_ok {e : E} {tm : Env} (he : EqE e tm) {x : Opd} {k : V → Option ρ} (h : opd e x k = some r) : ∃ v, k v = some r ∧ ev tm x = dec v := by
  cases x with
  | t n => obtain ⟨v, h1, h2⟩ := lk_ok h; exact ⟨v, h2, he n v h1⟩
  | c v => exact ⟨_, encK_ok h, (encV_ok v).symm⟩
  | f g => exact ⟨_, h, by simp [ev, dec, decL]⟩

theorem opdL_ok {e : E} {tm : Env} (he : EqE e tm) : ∀ {xs : List Opd} {k : V → Option ρ}, opdL e xs k = some r → ∃ l, k l = some r ∧ xs.map (ev tm) = decL l ∧ (xs.map (ev tm)).all AV.known = true
  | [], k, h => ⟨_, h, rfl, rfl⟩
  | x :: xs, k, h => by
    obtain ⟨v, h1, h2⟩ := opd_ok he (show opd e x _ = some r from h)
    obtain ⟨h3, h4⟩ := known_ok h1
    obtain ⟨l, h5, h6, h7⟩ := opdL_ok he (k := fun r => k (.cons v r)) h4
    exact ⟨_, h5, by simp [decL, h2, h6], by simp [h2, h3]; simpa using h7⟩

theorem encA_ok {a : AV} {k : V → Option ρ} (h : encA a k = some r) : ∃ v, k v = some r ∧ a = dec v := by
  cases a with
  | v x => exact ⟨_, h, (encV_ok x).symm⟩
  | _ => cases h
theorem encL_ok : ∀ {z : List AV} {k : V → Option ρ}, encL z k = some r → ∃ l, k l = some r ∧ z = decL l
  | [], k, h => ⟨_, h, rfl⟩
  | a :: z, k, h => by
    have e : encL (a :: z) k = encA a fun v => encL z fun r => k (.cons v r) := rfl
    rw [e] at h
    obtain ⟨v, h1, rfl⟩ := encA_ok h
    obtain ⟨l, h2, rfl⟩ := encL_ok (k := fun r => k (.cons v r)) h1
    exact ⟨_, h2, rfl⟩
end
end Sx.Q
