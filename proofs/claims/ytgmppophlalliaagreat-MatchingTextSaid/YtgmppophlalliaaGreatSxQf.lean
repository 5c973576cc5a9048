/-
  Q: operations are the evaluator's, second part.
-/
import Derived.Test.YtgmppophlalliaaGreatSxQe
namespace Sx.Q
open Go
set_option linter.unusedVariables false
set_option linter.unusedSimpArgs false

section
variable {ρ : Type} {r : ρ}
variable {call : QCall ρ} {call' : CallF} {e : E} {tm : Env} {n : Nat} {t : V} {kv : KV ρ} {ks : KS ρ}

theorem lenV_ok {k : Nat} {v : V} {kk : Nat → Option ρ} (h : lenV n t k v kk = some r) : ∃ c, kk c = some r ∧ evLen (decH n t) k (dec v) = some (.i c) := by
  match k, h with
  | 0, h =>
    obtain ⟨c, x, rfl, h1⟩ := onS_ok (k := fun c _ => kk c) h
    exact ⟨c, h1, by simp [dec, evLen, decS_size]⟩
  | 1, h =>
    rcases onSl_ok (kz := kk 0) (kr := fun _ _ c _ _ => kk c) (kh := fun h ver off len => obj n t h ver fun _ _ _ => kk len) h with ⟨rfl, h1⟩ | ⟨a, b, c, bd, d, rfl, h1⟩ | ⟨h0, ver, off, len, rfl, h1⟩
    · exact ⟨0, h1, by simp [dec, evLen]⟩
    · exact ⟨c, h1, by simp [dec, evLen]⟩
    · obtain ⟨sz, c, t', h2, _, _, h3⟩ := obj_ok h1
      exact ⟨len, h2, by simp [dec, evLen, h3]⟩
  | k + 2, h => cases h

theorem o_len (he : EqE e tm) (k : Nat) (x : Opd) : OkO call call' e tm n t kv ks r (q_len k x) (.len k x) := by
  intro h
  obtain ⟨a, h1, ha⟩ := opd_ok he h
  obtain ⟨c, h2, hc⟩ := lenV_ok h1
  exact .val h2 (by simp [evO, ha, hc, dec, kd])

theorem fold_v {f : AV → AV → Option AV} (hf : ∀ x y z, f x y = some z → x.known = true ∧ y.known = true) : ∀ (l : List AV) (x : AV) (z : AV), evFold f x l = some z → z.known = true → x.known = true ∧ l.all AV.known = true
  | [], x, z, h, hz => by cases h; exact ⟨hz, rfl⟩
  | y :: ys, x, z, h, hz => by
    simp only [evFold, Option.bind_eq_some_iff] at h
    obtain ⟨w, h1, h2⟩ := h
    have h3 := hf x y w h1
    have h4 := fold_v hf ys w z h2 hz
    exact ⟨h3.1, by simp [h3.2]; simpa using h4.2⟩

theorem o_mx (he : EqE e tm) (xs : List Opd) : OkO call call' e tm n t kv ks r (q_mx xs) (.mx xs) := by
  intro h
  obtain ⟨l, h1, h2, h3⟩ := opdL_ok he h
  obtain ⟨v, h4, h5, _⟩ := valV_ok h1
  rw [h2] at h3
  exact .val h4 (by simp only [evO, h2, if_pos h3, h5, Option.map_some])
theorem o_mn (he : EqE e tm) (xs : List Opd) : OkO call call' e tm n t kv ks r (q_mn xs) (.mn xs) := by
  intro h
  obtain ⟨l, h1, h2, h3⟩ := opdL_ok he h
  obtain ⟨v, h4, h5, _⟩ := valV_ok h1
  rw [h2] at h3
  exact .val h4 (by simp only [evO, h2, if_pos h3, h5, Option.map_some])

theorem cut_range (tr : V) (off len c : Nat) (h : off + len ≤ c) : (((List.range c).map (decT tr)).drop off).take len = (List.range len).map fun i => decT tr (off + i) := by
  apply List.ext_getElem?
  intro i
  simp only [List.getElem?_take, List.getElem?_drop, List.getElem?_map]
  by_cases hi : i < len
  · rw [if_pos hi, List.getElem?_range hi, List.getElem?_range (by omega)]
    simp
  · rw [if_neg hi]
    have : (List.range len)[i]? = none := by simp; omega
    rw [this]; rfl

theorem els_ok {sz : Nat} {v : V} {k : Nat → Nat → V → Option ρ} (h : els n t sz v k = some r) : ∃ off c tr, k off c tr = some r ∧ evEls (decH n t) sz (dec v) = some ((List.range c).map fun i => decT tr (off + i)) := by
  rcases onSl_ok h with ⟨rfl, h1⟩ | ⟨sz', off, c, bd, tr, rfl, h1⟩ | ⟨h0, ver, off, len, rfl, h1⟩
  · exact ⟨0, 0, .nil, h1, by simp [dec, evEls]⟩
  · obtain ⟨h2, h3⟩ := beq_ok h1
    obtain ⟨h4, h5⟩ := ble_ok h3
    subst h2
    refine ⟨off, c, tr, h5, ?_⟩
    simp only [dec, evEls, if_true]
    congr 1
    apply List.map_congr_left
    intro i hi
    have := List.mem_range.1 hi
    have h4' : off + c ≤ bd := h4
    rw [if_pos (by omega)]
  · obtain ⟨sz', c, t', h2, _, _, h3⟩ := obj_ok h1
    obtain ⟨h4, h5⟩ := beq_ok h2
    obtain ⟨h6, h7⟩ := ble_ok h5
    subst h4
    refine ⟨off, len, t', h7, ?_⟩
    have h6' : off + len ≤ c := h6
    simp only [dec, evEls, h3, Option.bind_some, List.length_map, List.length_range, h6', and_self, if_true, cut_range t' off len c h6']

theorem pow44 : (17592186044416 : Nat) = 2 ^ 44 := by decide

theorem o_app (he : EqE e tm) (sz bytes : Nat) (x y : Opd) : OkO call call' e tm n t kv ks r (q_app sz bytes x y) (.app sz bytes x y) := by
  intro h
  obtain ⟨a, h1, ha⟩ := opd_ok he h
  obtain ⟨b, h2, hb⟩ := opd_ok he h1
  obtain ⟨offy, ny, ty, h3, h4⟩ := els_ok h2
  rcases onSl_ok h3 with ⟨hz, h5⟩ | ⟨_, _, _, _, _, _, h5⟩ | ⟨h0, ver, off, len, hz, h5⟩
  · subst hz
    obtain ⟨h6, h7⟩ := ble_ok h5
    obtain ⟨h8, h9⟩ := ble_ok h7
    rw [pow44] at h6 h8
    have h6' : ny * bytes ≤ 2 ^ 44 := h6
    rcases beqr_ok h9 with ⟨h10, h11⟩ | ⟨h10, h11⟩
    · obtain ⟨t1, h12, h13⟩ := copyT_ok h11
      obtain ⟨t2, h14, h15⟩ := push_ok h12
      refine .valH h14 ?_
      simp only [evO, ha, hb, dec, evApp, h4, Option.bind_some, List.length_map, List.length_range, h6', h8, and_self, if_true, h10, if_false, Option.map_some, obs_len, h15, decO]
      congr 4
      apply List.map_congr_left
      intro i hi
      have := List.mem_range.1 hi
      rw [decT_eq, decT_eq, h13, if_pos (by omega)]
      simp
    · subst h10
      refine .valH (n' := n) (t' := t) h11 ?_
      simp only [evO, ha, hb, dec, evApp, h4, Option.bind_some, List.range_zero, List.map_nil, List.length_nil, Nat.zero_mul, Nat.zero_le, and_self, if_true, Option.map_some]
  · cases h5
  · subst hz
    obtain ⟨sz', c, t', h6, h7, h8, h9⟩ := obj_ok h5
    obtain ⟨h10, h11⟩ := beq_ok h6
    obtain ⟨h12, h13⟩ := beq_ok h11
    obtain ⟨h14, h15⟩ := ble_ok h13
    have h16 := fN_ok (k := fun c => ck (Nat.ble (Nat.mul c bytes) 17592186044416) (ck (Nat.ble c 17592186044416) (copyT ny ty offy len t' fun t1 => fN (Nat.succ ver) fun ver' => tset t h0 (.os ver' sz' c t1) fun t2 => kv (.sl h0 ver' 0 c) n t2))) h15
    obtain ⟨h17, h18⟩ := ble_ok h16
    obtain ⟨h19, h20⟩ := ble_ok h18
    obtain ⟨t1, h21, h22⟩ := copyT_ok h20
    have h23 := fN_ok (k := fun ver' => tset t h0 (.os ver' sz' (Nat.add len ny) t1) fun t2 => kv (.sl h0 ver' 0 (Nat.add len ny)) n t2) h21
    obtain ⟨t2, h24, h25⟩ := tset_ok h23
    subst h10; subst h12
    rw [pow44] at h17 h19
    have h17' : (len + ny) * bytes ≤ 2 ^ 44 := h17
    have h19' : len + ny ≤ 2 ^ 44 := h19
    have hl : (decH n t).lim ≤ h0 := Nat.zero_le _
    refine .valH h24 ?_
    simp only [evO, ha, hb, dec, evApp, h4, h9, Option.bind_some, List.length_map, List.length_range, h17', h19', hl, h14, and_self, if_true, Option.map_some]
    rw [decH_put h25]
    simp only [decO]
    have hlist : (List.map (decT t') (List.range c)).take len ++ List.map (fun i => decT ty (offy + i)) (List.range ny) = List.map (decT t1) (List.range (Nat.add len ny)) := by
      show _ = List.map (decT t1) (List.range (len + ny))
      rw [List.range_add, List.map_append, List.map_map]
      congr 1
      · have := cut_range t' 0 len c (by omega)
        rw [List.drop_zero] at this
        rw [this]
        apply List.map_congr_left
        intro i hi
        have := List.mem_range.1 hi
        rw [decT_eq, decT_eq, h22, if_neg (by omega)]
        simp
      · apply List.map_congr_left
        intro i hi
        have := List.mem_range.1 hi
        simp only [Function.comp]
        rw [decT_eq, decT_eq, h22, if_pos (by omega)]
        congr 2
        omega
    rw [hlist]
    rfl

theorem o_mks (he : EqE e tm) (sz bytes : Nat) (z : List AV) (l c : Opd) : OkO call call' e tm n t kv ks r (q_mks sz bytes z l c) (.mks sz bytes z l c) := by
  intro h
  obtain ⟨a, h1, ha⟩ := opd_ok he h
  obtain ⟨b, h2, hb⟩ := opd_ok he h1
  obtain ⟨c0, x, hx, h3⟩ := onI1_ok h2
  obtain ⟨c1, y, hy, h4⟩ := onI1_ok h3
  obtain ⟨h5, h6⟩ := beq_ok h4
  obtain ⟨h7, h8⟩ := ble_ok h6
  obtain ⟨h9, h10⟩ := ble_ok h8
  obtain ⟨zl, h11, h12⟩ := encL_ok h10
  obtain ⟨h13, h14⟩ := beq_ok h11
  obtain ⟨t', h15, h16⟩ := fillT_ok h14
  obtain ⟨t1, h17, h18⟩ := push_ok h15
  subst hx; subst hy; subst h5; subst h12
  rw [pow44] at h7 h9
  rw [lenL_eq] at h13
  have h7' : x * bytes ≤ 2 ^ 44 := h7
  refine .valH h17 ?_
  have h7'' : (x : Int) * (bytes : Int) ≤ 2 ^ 44 := by exact_mod_cast h7'
  have h9'' : (x : Int) ≤ 2 ^ 44 := by exact_mod_cast h9
  simp only [evO, ha, hb, dec, Int.ofNat_eq_natCast, Int.natCast_nonneg, h7'', h9'', h13, and_self, if_true, Int.toNat_natCast, obs_len, h18, decO]
  congr 3
  have : List.replicate x (decL zl) = List.map (decT t') (List.range x) := by
    apply List.ext_getElem?
    intro i
    by_cases hi : i < x
    · simp [hi, List.getElem?_replicate, decT_eq, h16]
    · simp [hi, List.getElem?_replicate]
  rw [this]

theorem bnd_ok (he : EqE e tm) {x : Option Opd} {d top : Nat} {k : Nat → Option ρ} (h : bnd x e d top k = some r) (hd : d ≤ top) : ∃ i, k i = some r ∧ evSlcB x tm d top = some i ∧ i ≤ top := by
  cases x with
  | none => exact ⟨d, h, rfl, hd⟩
  | some o =>
    obtain ⟨v, h1, hv⟩ := opd_ok he (show opd e o _ = some r from h)
    obtain ⟨c, i, hi, h2⟩ := onI1_ok h1
    obtain ⟨h3, h4⟩ := ble_ok h2
    subst hi
    refine ⟨i, h4, ?_, h3⟩
    simp [evSlcB, hv, dec, h3]

theorem o_slc (he : EqE e tm) (sz : Nat) (x : Opd) (lo hi mx : Option Opd) : OkO call call' e tm n t kv ks r (q_slc sz x lo hi mx) (.slc sz x lo hi mx) := by
  intro h
  cases mx with
  | some mo =>
    obtain ⟨a, h1, ha⟩ := opd_ok he (show opd e x (fun a => onSl a none (fun sz' off c bd tr => ck (Nat.beq sz sz') (ck (Nat.ble 1 sz) (ck hi.isSome (bnd (some mo) e 0 c fun m => bnd hi e 0 m fun h => bnd lo e 0 h fun l => fN (Nat.sub h l) fun c' => fN (Nat.add off l) fun off' => kv (.ro sz off' c' bd tr) n t)))) (fun _ _ _ _ => none)) = some r from h)
    rcases onSl_ok h1 with ⟨_, h2⟩ | ⟨sz', off, c, bd, tr, hz, h2⟩ | ⟨_, _, _, _, _, h2⟩
    · cases h2
    · obtain ⟨h3, h3'⟩ := beq_ok h2
      obtain ⟨h4', h4''⟩ := ble_ok h3'
      obtain ⟨h4, h4b⟩ := ck_ok h4''
      obtain ⟨m, g1, g2, g3⟩ := bnd_ok he h4b (Nat.zero_le _)
      obtain ⟨i, h5, h6, h7⟩ := bnd_ok he g1 (Nat.zero_le _)
      obtain ⟨j, h8, h9, h10⟩ := bnd_ok he h5 (Nat.zero_le _)
      have h11 := fN_ok (k := fun c' => fN (Nat.add off j) fun off' => kv (.ro sz off' c' bd tr) n t) h8
      have h12 := fN_ok (k := fun off' => kv (.ro sz off' (Nat.sub i j) bd tr) n t) h11
      subst hz; subst h3
      refine .val h12 ?_
      have hpos : 0 < sz := h4'
      simp only [evO, ha, evSlcH, evSlcQ, evSlc3, dec, Option.isSome_some, hpos, h4, and_self, if_true, g2, Option.bind_some, h6, h9, Option.map_some]
      show some (Eff.val (AV.ro sz (i - j) _)) = some (Eff.val (AV.ro sz (i - j) _))
      congr 3
      funext q
      show (if off + (j + q) < bd then decT tr (off + (j + q)) else []) = if off + j + q < bd then decT tr (off + j + q) else []
      rw [Nat.add_assoc]
    · cases h2
  | none =>
    obtain ⟨a, h1, ha⟩ := opd_ok he (show opd e x _ = some r from h)
    rcases onSS_ok h1 with ⟨c, y, hz, h2⟩ | ⟨sz', off, c, bd, tr, hz, h2⟩ | ⟨h', ver, off, len, hz, h2⟩
    · obtain ⟨h3, h4⟩ := beq_ok h2
      obtain ⟨i, h5, h6, h7⟩ := bnd_ok he h4 (Nat.le_refl _)
      obtain ⟨j, h8, h9, h10⟩ := bnd_ok he h5 (Nat.zero_le _)
      have h11 := fN_ok (k := fun c' => fN (Nat.mod (Nat.shiftRight y (Nat.mul 8 j)) (Nat.pow 2 (Nat.mul 8 c'))) fun y' => kv (.s c' y') n t) h8
      have h12 := fN_ok (k := fun y' => kv (.s (Nat.sub i j) y') n t) h11
      subst hz; subst h3
      refine .val h12 ?_
      have := decS_cut (x := y) h10 h7
      simp only [evO, ha, evSlcH, evSlcQ, Option.isSome_none, Bool.false_eq_true, if_false, evSlc, dec, if_true, decS_size, h6, Option.bind_some, h9, Option.map_some, ← this]
      rfl
    · obtain ⟨h3, h3'⟩ := beq_ok h2
      obtain ⟨h4', h4⟩ := ble_ok h3'
      obtain ⟨i, h5, h6, h7⟩ := bnd_ok he h4 (Nat.le_refl _)
      obtain ⟨j, h8, h9, h10⟩ := bnd_ok he h5 (Nat.zero_le _)
      have h11 := fN_ok (k := fun c' => fN (Nat.add off j) fun off' => kv (.ro sz off' c' bd tr) n t) h8
      have h12 := fN_ok (k := fun off' => kv (.ro sz off' (Nat.sub i j) bd tr) n t) h11
      subst hz; subst h3
      refine .val h12 ?_
      have h4'' : 0 < sz := h4'
      simp only [evO, ha, evSlcH, evSlcQ, Option.isSome_none, Bool.false_eq_true, if_false, evSlc, dec, h4'', and_self, if_true, h6, Option.bind_some, h9, Option.map_some]
      show some (Eff.val (AV.ro sz (i - j) _)) = some (Eff.val (AV.ro sz (i - j) _))
      congr 3
      funext q
      show (if off + (j + q) < bd then decT tr (off + (j + q)) else []) = if off + j + q < bd then decT tr (off + j + q) else []
      rw [Nat.add_assoc]
    · obtain ⟨sz', c, t', h3, h4, h5, h6⟩ := obj_ok h2
      obtain ⟨h7, h7'⟩ := beq_ok h3
      obtain ⟨h8', h8⟩ := ble_ok h7'
      obtain ⟨i, h9, h10, h11⟩ := bnd_ok he h8 (Nat.le_refl _)
      obtain ⟨j, h12, h13, h14⟩ := bnd_ok he h9 (Nat.zero_le _)
      have key : (j = 0 ∨ j < len) ∧ kv (.sl h' ver (off + j) (i - j)) n t = some r := by
        rcases beqr_ok h12 with ⟨h15, h16⟩ | ⟨h15, h16⟩
        · obtain ⟨h17, h18⟩ := ble_ok h16
          exact ⟨.inr h17, fN_ok (k := fun off' => kv (.sl h' ver off' (Nat.sub i j)) n t) (fN_ok (k := fun c' => fN (Nat.add off j) fun off' => kv (.sl h' ver off' c') n t) h18)⟩
        · exact ⟨.inl h15, fN_ok (k := fun off' => kv (.sl h' ver off' (Nat.sub i j)) n t) (fN_ok (k := fun c' => fN (Nat.add off j) fun off' => kv (.sl h' ver off' c') n t) h16)⟩
      subst hz; subst h7
      refine .val key.2 ?_
      have h8'' : 0 < sz := h8'
      simp only [evO, ha, evSlcH, dec, Option.isNone_none, if_true, h6, Option.bind_some, h8'', and_self, h10, h13, key.1, Option.map_some]

theorem o_ext (he : EqE e tm) (x : Opd) (i : Nat) : OkO call call' e tm n t kv ks r (q_ext x i) (.ext x i) := by
  intro h
  obtain ⟨a, h1, ha⟩ := opd_ok he h
  obtain ⟨l, hl, h2⟩ := onTup_ok h1
  obtain ⟨v, h3, h4⟩ := nthL_ok h2
  subst hl
  exact .val h3 (by simp [evO, ha, dec, h4])

theorem o_mkf (he : EqE e tm) (g : Nat) (cap : List Opd) : OkO call call' e tm n t kv ks r (q_mkf g cap) (.mkf g cap) := by
  intro h
  obtain ⟨l, h1, h2, h3⟩ := opdL_ok he h
  rw [h2] at h3
  exact .val h1 (by simp only [evO, h2, if_pos h3, dec])
theorem o_mkb (he : EqE e tm) (g : Nat) (cap : List Opd) : OkO call call' e tm n t kv ks r (q_mkb g cap) (.mkb g cap) := by
  intro h
  obtain ⟨l, h1, h2, h3⟩ := opdL_ok he h
  rw [h2] at h3
  exact .val h1 (by simp only [evO, h2, if_pos h3, dec])
theorem o_call (hc : Snd call call') (he : EqE e tm) (g : Nat) (args : List Opd) : OkO call call' e tm n t kv ks r (q_call g args) (.call g args) := by
  intro h
  obtain ⟨l, h1, h2, h3⟩ := opdL_ok he h
  obtain ⟨v, n', t', h4, h5⟩ := hc _ _ _ _ _ _ h1
  rw [h2] at h3
  exact .valH h4 (by simp only [evO, h2, if_pos h3, h5, Option.map_some])
theorem o_callv (hc : Snd call call') (he : EqE e tm) (f : Opd) (args : List Opd) : OkO call call' e tm n t kv ks r (q_callv f args) (.callv f args) := by
  intro h
  obtain ⟨a, h1, ha⟩ := opd_ok he h
  obtain ⟨g, cap, hg, h2⟩ := onFn_ok h1
  obtain ⟨l, h3, h4, h5⟩ := opdL_ok he h2
  obtain ⟨l', h6, h7⟩ := appL_ok h3
  obtain ⟨v, n', t', h8, h9⟩ := hc _ _ _ _ _ _ h6
  subst hg
  rw [h4] at h5
  exact .valH h8 (by simp only [evO, ha, dec, h4, if_pos h5, ← h7, h9, Option.map_some])
theorem o_mkmap : OkO call call' e tm n t kv ks r q_mkmap .mkmap := by
  intro h
  obtain ⟨t', h1, h2⟩ := push_ok h
  exact .valH h1 (by simp [evO, dec, obs_len, h2, decO, decM])
theorem o_nck (he : EqE e tm) (x : Opd) : OkO call call' e tm n t kv ks r (q_nck x) (.nck x) := by
  intro h
  obtain ⟨a, h1, ha⟩ := opd_ok he h
  rcases onP_ok h1 with ⟨l, hl, h2⟩ | ⟨_, _, _, _, hl, h2⟩
  · subst hl; exact .val h2 (by simp [evO, ha, dec])
  · subst hl; exact .val h2 (by simp [evO, ha, dec])

theorem bytesT_ok : ∀ {c y j : Nat} {t : V} {k : V → Option ρ}, bytesT c y j t k = some r → ∃ t', k t' = some r ∧ (∀ x, x < j → tget t' x = tget t x) ∧ ∀ x, x < c → tget t' (j + x) = .cons (.i 4 ((y >>> (8 * x)) % 256)) .nil
  | 0, y, j, t, k, h => ⟨t, h, fun _ _ => rfl, fun x hx => by omega⟩
  | c + 1, y, j, t, k, h => by
    have h0 : fN (Nat.mod y 256) (fun b => tset t j (.cons (.i 4 b) .nil) fun t' => fN (Nat.shiftRight y 8) fun y' => fN (j + 1) fun j' => bytesT c y' j' t' k) = some r := h
    have h1 := fN_ok (k := fun b => tset t j (.cons (.i 4 b) .nil) fun t' => fN (Nat.shiftRight y 8) fun y' => fN (j + 1) fun j' => bytesT c y' j' t' k) h0
    obtain ⟨t1, h2, h3⟩ := tset_ok h1
    have h4 := fN_ok (k := fun j' => bytesT c (Nat.shiftRight y 8) j' t1 k) (fN_ok (k := fun y' => fN (j + 1) fun j' => bytesT c y' j' t1 k) h2)
    obtain ⟨t', h5, h6, h7⟩ := bytesT_ok h4
    refine ⟨t', h5, fun x hx => ?_, fun x hx => ?_⟩
    · rw [h6 x (by omega), h3, if_neg (by omega)]
    · cases x with
      | zero => rw [Nat.add_zero, h6 j (by omega), h3, if_pos rfl]; rfl
      | succ x =>
        have := h7 x (by omega)
        rw [show j + (x + 1) = j + 1 + x by omega, this, show 8 * (x + 1) = 8 + 8 * x by omega, Nat.shiftRight_add]
        rfl

theorem o_s2b (he : EqE e tm) (x : Opd) : OkO call call' e tm n t kv ks r (q_s2b x) (.s2b x) := by
  intro h
  obtain ⟨a, h1, ha⟩ := opd_ok he h
  obtain ⟨c, y, hs, h2⟩ := onS_ok h1
  obtain ⟨tr, h3, _, h5⟩ := bytesT_ok h2
  subst hs
  refine .val h3 ?_
  simp only [evO, ha, dec, decS_size]
  congr 3
  funext i
  by_cases hi : i < c
  · have hi' : 0 + i < c := by omega
    have h6 := h5 i hi
    rw [if_pos hi, if_pos hi', decT_eq, h6]
    have h7 : (decS c y).data.toList.getD i 0 = UInt8.ofNat (y >>> (8 * i)) := by
      rw [decS_toList]
      simp [List.getD, hi]
    rw [h7]
    simp only [decL, dec, kd]
    rw [UInt8.toNat_ofNat']
    rfl
  · have hi' : ¬ 0 + i < c := by omega
    rw [if_neg hi, if_neg hi']

theorem o_nilq (he : EqE e tm) (neg : Bool) (x : Opd) : OkO call call' e tm n t kv ks r (q_nilq neg x) (.nilq neg x) := by
  intro h
  obtain ⟨a, h1, ha⟩ := opd_ok he h
  rcases onSl_ok h1 with ⟨hz, h2⟩ | ⟨sz', off, c, bd, tr, hz, h2⟩ | ⟨h0, ver, off, len, hz, h2⟩
  · subst hz
    exact .val h2 (by cases neg <;> simp [evO, ha, dec, evNil])
  · obtain ⟨h3, h4⟩ := ble_ok h2
    subst hz
    have h3' : 0 < c := h3
    exact .val h4 (by cases neg <;> simp [evO, ha, dec, evNil, h3'])
  · obtain ⟨sz', c, t', h3, _, _, h4⟩ := obj_ok h2
    subst hz
    exact .val h3 (by cases neg <;> simp [evO, ha, dec, evNil, evLen, h4])

/-! ### Maps -/

theorem one1_ok {st : Bool} {ks : List Nat} {k : Nat → Option ρ} (h : one1 st ks k = some r) : ∃ c, k c = some r ∧ st = false ∧ ks = [c] := by
  cases st with
  | true => cases h
  | false =>
    cases ks with
    | nil => cases h
    | cons c l => cases l with
      | nil => exact ⟨c, h, rfl, rfl⟩
      | cons _ _ => cases h

theorem str_beq' (a b : ByteArray) : (a == b) = decide (a = b) := by
  rw [Bool.eq_iff_iff]
  simp only [decide_eq_true_eq]
  constructor
  · intro h
    cases a with
    | mk a => cases b with
      | mk b =>
        have h' : (a == b) = true := h
        congr 1
        exact eq_of_beq h'
  · rintro rfl
    cases a with
    | mk a => show (a == a) = true; simp

theorem eqK_ok {c : Nat} {x y : V} {k : Bool → Option ρ} (h : eqK c x y k = some r) : ∃ tt, k tt = some r ∧ eqCell c (dec x) (dec y) = some tt := by
  match c, h with
  | 0, h =>
    have h : onI x (fun c a => onI y (fun c' b => ck (Nat.beq c c') (fB (Nat.beq a b) k)) (fun c' b => ck (Nat.beq c c') (k false))) (fun c a => onI y (fun c' b => ck (Nat.beq c c') (k false)) (fun c' b => ck (Nat.beq c c') (fB (Nat.beq a b) k))) = some r := h
    rcases onI_ok h with ⟨c, a, hx, h1⟩ | ⟨c, a, hx, h1⟩ <;> rcases onI_ok h1 with ⟨c', b, hy, h2⟩ | ⟨c', b, hy, h2⟩ <;> obtain ⟨h3, h4⟩ := beq_ok h2 <;> subst hx <;> subst hy <;> subst h3
    · refine ⟨_, fB_ok h4, ?_⟩
      simp only [dec, eqCell, if_true]
      congr 1
      rw [Bool.eq_iff_iff]; simp; omega
    · exact ⟨_, h4, by simp [dec, eqCell]⟩
    · exact ⟨_, h4, by simp [dec, eqCell]⟩
    · refine ⟨_, fB_ok h4, ?_⟩
      simp only [dec, eqCell, if_true]
      congr 1
      rw [Bool.eq_iff_iff]; simp
  | 1, h =>
    obtain ⟨a, hx, h1⟩ := onB_ok (k := fun a => onB y fun b => fB (a == b) k) h
    obtain ⟨b, hy, h2⟩ := onB_ok h1
    subst hx; subst hy
    exact ⟨_, fB_ok h2, by simp [dec, eqCell]⟩
  | 2, h =>
    obtain ⟨a1, a2, hx, h1⟩ := onS_ok (k := fun a1 a2 => onS y fun b1 b2 => eqS a1 a2 b1 b2 k) h
    obtain ⟨b1, b2, hy, h2⟩ := onS_ok h1
    subst hx; subst hy
    refine ⟨_, eqS_ok h2, ?_⟩
    simp only [dec, eqCell, str_beq']
  | c + 3, h => cases h

theorem isK_ok {c : Nat} {x : V} {k : Option ρ} (h : isK c x k = some r) : k = some r ∧ isKind c (dec x) = true := by
  match c, h with
  | 0, h => rcases onI_ok (ki := fun _ _ => k) (km := fun _ _ => k) h with ⟨_, _, rfl, h1⟩ | ⟨_, _, rfl, h1⟩ <;> exact ⟨h1, rfl⟩
  | 1, h => obtain ⟨_, rfl, h1⟩ := onB_ok (k := fun _ => k) h; exact ⟨h1, rfl⟩
  | 2, h => obtain ⟨_, _, rfl, h1⟩ := onS_ok (k := fun _ _ => k) h; exact ⟨h1, rfl⟩
  | c + 3, h => cases h

theorem findM_ok {c : Nat} {key : V} : ∀ {es : V} {i : Nat} {ks : Nat → V → Option ρ} {kn : Option ρ}, findM c key es i ks kn = some r →
    (∃ j v, ks j v = some r ∧ i ≤ j ∧ j - i < (decM es).length ∧ evFind false [c] (dec key) (decM es) i = some (some (j, dec v))) ∨
    (kn = some r ∧ evFind false [c] (dec key) (decM es) i = some none ∧ ∀ y (k' : V → Option ρ), appL es y k' = some r → ∃ es', k' es' = some r ∧ decM es' = decM es ++ decM y) := by
  intro es
  induction es with
  | nil => intro i ks kn h; exact .inr ⟨h, rfl, fun y k' h' => ⟨y, h', rfl⟩⟩
  | cons p rest _ ih =>
    intro i ks kn h
    have h : onL p none (fun a v => eqK c key a fun tt => Bool.rec (motive := fun _ => Option ρ) (fN (Nat.succ i) fun i' => findM c key rest i' ks kn) (ks i v) tt) = some r := h
    rcases onL_ok h with ⟨_, h1⟩ | ⟨a, v, hp, h1⟩
    · cases h1
    · subst hp
      obtain ⟨tt, h2, h3⟩ := eqK_ok h1
      have hk : evKey false [c] (dec key) (dec a) = some tt := by simp [evKey, h3]
      rcases bool_ok h2 with ⟨rfl, h4⟩ | ⟨rfl, h4⟩
      · have h5 := fN_ok (k := fun i' => findM c key rest i' ks kn) h4
        rcases ih h5 with ⟨j, w, h6, h7, h8, h9⟩ | ⟨h6, h7, h8⟩
        · refine .inl ⟨j, w, h6, by omega, ?_, ?_⟩
          · simp only [decM, List.length_cons]; omega
          · simp only [decM, evFind, hk]; exact h9
        · refine .inr ⟨h6, ?_, fun y k' h' => ?_⟩
          · simp only [decM, evFind, hk]; exact h7
          · obtain ⟨es', h9, h10⟩ := h8 y (fun r => k' (.cons (.cons a v) r)) h'
            exact ⟨_, h9, by simp [decM, h10]⟩
      · exact .inl ⟨i, v, h4, Nat.le_refl _, by simp [decM], by simp only [decM, evFind, hk]⟩
  | _ => intro i ks kn h; cases h

theorem setM_ok : ∀ {es : V} {i : Nat} {a b : V} {k : V → Option ρ}, setM es i (.cons a b) k = some r → i < (decM es).length → ∃ es', k es' = some r ∧ decM es' = (decM es).set i (dec a, dec b) := by
  intro es
  induction es with
  | cons p rest _ ih =>
    intro i a b k h hi
    cases p with
    | cons x y =>
      rcases beqr_ok h with ⟨h0, h1⟩ | ⟨h0, h1⟩
      · obtain ⟨m, rfl⟩ : ∃ m, i = m + 1 := ⟨i - 1, by omega⟩
        have hm : m < (decM rest).length := by simp only [decM, List.length_cons] at hi; omega
        obtain ⟨es', h2, h3⟩ := ih h1 hm
        exact ⟨_, h2, by simp [decM, h3]⟩
      · subst h0
        exact ⟨_, h1, by simp [decM]⟩
    | _ => simp [decM] at hi
  | _ => intro i a b k h hi; simp [decM] at hi

theorem o_look (he : EqE e tm) (st : Bool) (kk : List Nat) (z : AV) (ok : Bool) (m k : Opd) : OkO call call' e tm n t kv ks r (q_look st kk z ok m k) (.look st kk z ok m k) := by
  intro h
  obtain ⟨c, h1, h2, h3⟩ := one1_ok h
  obtain ⟨a, h4, ha⟩ := opd_ok he h1
  obtain ⟨key, h5, hk⟩ := opd_ok he h4
  obtain ⟨h6, h7⟩ := isK_ok h5
  obtain ⟨l, hl, h8⟩ := onMp_ok h6
  obtain ⟨es, h9, h10, h11⟩ := obm_ok h8
  subst h2; subst h3; subst hl
  have hkey : keyOK false [c] (dec key) = true := by simpa [keyOK] using h7
  rcases findM_ok h9 with ⟨j, v, h12, h13, h14, h15⟩ | ⟨h12, h13, h14⟩
  · rcases bool_ok h12 with ⟨rfl, h16⟩ | ⟨rfl, h16⟩
    · exact .val h16 (by simp [evO, ha, hk, evLook, hkey, dec, h11, h15])
    · exact .val h16 (by simp [evO, ha, hk, evLook, hkey, dec, h11, h15, decL])
  · obtain ⟨v, h15, h16⟩ := encA_ok h12
    rcases bool_ok h15 with ⟨rfl, h17⟩ | ⟨rfl, h17⟩
    · exact .val h17 (by simp [evO, ha, hk, evLook, hkey, dec, h11, h13, h16])
    · exact .val h17 (by simp [evO, ha, hk, evLook, hkey, dec, h11, h13, h16, decL])

theorem o_mput (he : EqE e tm) (st : Bool) (kk : List Nat) (m k x : Opd) : OkO call call' e tm n t kv ks r (q_mput st kk m k x) (.mput st kk m k x) := by
  intro h
  obtain ⟨c, h1, h2, h3⟩ := one1_ok h
  obtain ⟨a, h4, ha⟩ := opd_ok he h1
  obtain ⟨key, h5, hk⟩ := opd_ok he h4
  obtain ⟨v, h6, hv⟩ := opd_ok he h5
  obtain ⟨h7, h8⟩ := known_ok h6
  obtain ⟨h9, h10⟩ := isK_ok h8
  obtain ⟨l, hl, h11⟩ := onMp_ok h9
  obtain ⟨es, h12, h13, h14⟩ := obm_ok h11
  subst h2; subst h3; subst hl
  have hkey : keyOK false [c] (dec key) = true := by simpa [keyOK] using h10
  have hlim : (decH n t).lim ≤ l := Nat.zero_le _
  rcases findM_ok h12 with ⟨j, w, h15, h16, h17, h18⟩ | ⟨h15, h16, h17⟩
  · obtain ⟨es', h19, h20⟩ := setM_ok h15 h17
    obtain ⟨t', h21, h22⟩ := tset_ok h19
    refine .hp h21 ?_
    simp only [evO, ha, dec, h14, hk, hv, hlim, hkey, h7, and_self, if_true, h18, Option.map_some, putAt, decH_put h22, decO, h20, Nat.sub_zero]
  · obtain ⟨es', h19, h20⟩ := h17 _ _ h15
    obtain ⟨t', h21, h22⟩ := tset_ok h19
    refine .hp h21 ?_
    simp only [evO, ha, dec, h14, hk, hv, hlim, hkey, h7, and_self, if_true, h16, Option.map_some, putAt, decH_put h22, decO, h20, decM]

theorem qO_ok (hc : Snd call call') (he : EqE e tm) (m : MO) : OkO call call' e tm n t kv ks r (qO m) m := by
  cases m with
  | mv x => exact o_mv he x
  | pick c a b => exact o_pick he c a b
  | alloc z => exact o_alloc z
  | new z => exact o_new z
  | box c x => exact o_box he c x
  | boxm c x => exact o_boxm he c x
  | build z ps => exact o_build he z ps
  | lit sz z ps m => exact o_lit he sz z ps m
  | load k x => exact o_load he k x
  | store c a x => exact o_store he c a x
  | mat c s x => exact o_mat he c s x
  | bin op x y => exact o_bin he op x y
  | eqn neg kk x y => exact o_eqn he neg kk x y
  | eqb neg x y => exact o_eqb he neg x y
  | un op x => exact o_un he op x
  | conv k x => exact o_conv he k x
  | fld off k x => exact o_fld he off k x
  | fadr off x => exact o_fadr he off x
  | iadr sz x i => exact o_iadr he sz x i
  | idx len sz k x i => exact o_idx he len sz k x i
  | sidx x i => exact o_sidx he x i
  | len k x => exact o_len he k x
  | mx xs => exact o_mx he xs
  | mn xs => exact o_mn he xs
  | app sz bytes x y => exact o_app he sz bytes x y
  | mks sz bytes z l c => exact o_mks he sz bytes z l c
  | slc sz x lo hi mx => exact o_slc he sz x lo hi mx
  | ext x i => exact o_ext he x i
  | mkf g cap => exact o_mkf he g cap
  | mkb g cap => exact o_mkb he g cap
  | call g args => exact o_call hc he g args
  | callv f args => exact o_callv hc he f args
  | mkmap => exact o_mkmap
  | look st kk z ok m k => exact o_look he st kk z ok m k
  | mput st kk m k x => exact o_mput he st kk m k x
  | rng m => intro h; cases h
  | ent x => intro h; cases h
  | nck x => exact o_nck he x
  | s2b x => exact o_s2b he x
  | nilq neg x => exact o_nilq he neg x
  | nop => intro h; cases h
end
end Sx.Q
