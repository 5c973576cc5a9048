/-
  Q: the functions that are not entered are the evaluator's: syntax.Catch, strings.Contains, strings.ContainsRune, strings.IndexByte.
-/
import Derived.Test.YtgmppophlalliaaGreatSxQi
import Derived.Test.YtgmppophlalliaaGreatSxQg
import Derived.Test.YtgmppophlalliaaGreatSxQT
import Derived.Test.YtgmppophlalliaaGreatSxX
import Derived.Lib.IndexMore
import Derived.Lib.IndexLaws
namespace Sx.Q
open Go
set_option linter.unusedVariables false

section
variable {ρ : Type} {r : ρ}

theorem subAt_ok {m y : Nat} : ∀ {c x : Nat} {k : Bool → Option ρ}, subAt m y c x k = some r → ∃ t, k t = some r ∧ (t = true ↔ ∃ i, i < c ∧ (x >>> (8 * i)) % 2 ^ (8 * m) = y)
  | 0, x, k, h => ⟨false, h, by simp⟩
  | c + 1, x, k, h => by
    have h0 : Bool.rec (motive := fun _ => Option ρ) (fN (Nat.shiftRight x 8) fun x' => subAt m y c x' k) (k true) (Nat.beq (Nat.mod x (Nat.pow 2 (Nat.mul 8 m))) y) = some r := h
    rcases beqr_ok h0 with ⟨h1, h2⟩ | ⟨h1, h2⟩
    · obtain ⟨t, h3, h4⟩ := subAt_ok (fN_ok (k := fun x' => subAt m y c x' k) h2)
      refine ⟨t, h3, h4.trans ⟨fun ⟨i, hi, he⟩ => ⟨i + 1, by omega, ?_⟩, fun ⟨i, hi, he⟩ => ?_⟩⟩
      · rw [← he, show 8 * (i + 1) = 8 + 8 * i by omega, Nat.shiftRight_add]; rfl
      · cases i with
        | zero => exact absurd he h1
        | succ i =>
          refine ⟨i, by omega, ?_⟩
          rw [← he, show 8 * (i + 1) = 8 + 8 * i by omega, Nat.shiftRight_add]; rfl
    · exact ⟨true, h2, by simp; exact ⟨0, by omega, h1⟩⟩

theorem occ_iff {n x m y i : Nat} (hy : y < 2 ^ (8 * m)) (hi : i + m ≤ n) : Lib.occAt (decS n x).data.toList (decS m y).data.toList i = true ↔ (x >>> (8 * i)) % 2 ^ (8 * m) = y := by
  have hcut := decS_cut (x := x) (l := i) (h := i + m) (n := n) (by omega) hi
  rw [show i + m - i = m by omega] at hcut
  have hl : (decS m y).data.toList.length = m := decS_size m y
  have hn : (decS n x).data.toList.length = n := decS_size n x
  have hext : ((decS n x).extract i (i + m)).data.toList = ((decS n x).data.toList.drop i).take m := by
    rw [ByteArray.data_extract, Array.toList_extract, List.extract_eq_take_drop, show i + m - i = m by omega]
  unfold Lib.occAt
  rw [List.isPrefixOf_iff_prefix, List.prefix_iff_eq_take, hl, ← hext, ← hcut]
  have hb : (x >>> (8 * i)) % 2 ^ (8 * m) < 2 ^ (8 * m) := Nat.mod_lt _ (Nat.two_pow_pos _)
  constructor
  · intro h
    exact ((decS_inj hy hb).1 (ext_bytes h)).2.symm
  · intro h; rw [h]

theorem contains_iff {n x m y : Nat} (hy : y < 2 ^ (8 * m)) : Lib.contains (decS n x).data.toList (decS m y).data.toList = true ↔ m ≤ n ∧ ∃ i, i < n - m + 1 ∧ (x >>> (8 * i)) % 2 ^ (8 * m) = y := by
  have hl : (decS m y).data.toList.length = m := decS_size m y
  have hn : (decS n x).data.toList.length = n := decS_size n x
  unfold Lib.contains
  rw [decide_eq_true_eq]
  rcases Lib.index_spec (decS n x).data.toList (decS m y).data.toList with ⟨h1, h2⟩ | ⟨i, h1, h2, h3, h4⟩
  · rw [h1]
    constructor
    · intro h; omega
    · rintro ⟨hm, i, hi, he⟩
      have := h2 i (by rw [hn]; omega)
      rw [(occ_iff hy (by omega)).2 he] at this
      cases this
  · have hroom := Lib.index_room (decS n x).data.toList (decS m y).data.toList (by rw [h1]; omega)
    rw [h1, hl, hn] at hroom
    constructor
    · intro _
      exact ⟨by omega, i, by omega, (occ_iff hy (by omega)).1 h3⟩
    · intro _; rw [h1]; omega

theorem x_contains_ok {l : V} {n : Nat} {t : V} {k : KV ρ} (h : x_contains l n t k = some r) : ∃ v n' t', k v n' t' = some r ∧ x1 (decL l) (decH n t) = some (dec v, decH n' t') := by
  obtain ⟨a, b, h1, h2⟩ := two_ok h
  obtain ⟨c, x, ha, h3⟩ := onS_ok h1
  obtain ⟨m, y, hb, h4⟩ := onS_ok h3
  obtain ⟨h5, h6⟩ := lt_ok h4
  obtain ⟨h7, h8⟩ := ble_ok h6
  subst ha; subst hb
  have h7' : c < 4294967281 := h7
  have hx : x1 (decL l) (decH n t) = some (.b (Lib.contains (decS c x).data.toList (decS m y).data.toList), decH n t) := by
    rw [h2]
    simp only [dec, x1, decS_size, if_pos h7']
  rcases bool_ok h8 with ⟨h9, h10⟩ | ⟨h9, h10⟩
  · refine ⟨_, n, t, h10, ?_⟩
    have : Lib.contains (decS c x).data.toList (decS m y).data.toList = false := by
      rw [Bool.eq_false_iff]
      intro q
      have := ((contains_iff h5).1 q).1
      have h9' : ¬ m ≤ c := fun w => by rw [Nat.ble_eq_true_of_le w] at h9; cases h9
      exact h9' this
    rw [hx, this]; simp [dec]
  · have h9' := Nat.le_of_ble_eq_true h9
    obtain ⟨tt, h11, h12⟩ := subAt_ok h10
    refine ⟨_, n, t, h11, ?_⟩
    have : Lib.contains (decS c x).data.toList (decS m y).data.toList = tt := by
      rw [Bool.eq_iff_iff, contains_iff h5, h12]
      exact ⟨fun q => q.2, fun q => ⟨h9', q⟩⟩
    rw [hx, this]; simp [dec]

theorem byteAt_ok {y : Nat} (hy : y ≤ 255) : ∀ {c i x : Nat} {k : V → Option ρ}, byteAt' y c i x k = some r → ∃ v, k v = some r ∧ ∃ z, Lib.indexByte ((List.range c).map fun j => UInt8.ofNat (x >>> (8 * j))) (UInt8.ofNat y) = z ∧ ((z = -1 ∧ v = .m 3 0) ∨ ∃ o, z = Int.ofNat o ∧ v = .i 3 (i + o))
  | 0, i, x, k, h => ⟨_, h, -1, rfl, .inl ⟨rfl, rfl⟩⟩
  | c + 1, i, x, k, h => by
    have h0 : Bool.rec (motive := fun _ => Option ρ) (fN (Nat.shiftRight x 8) fun x' => fN (Nat.succ i) fun i' => byteAt' y c i' x' k) (k (.i 3 i)) (Nat.beq (Nat.mod x 256) y) = some r := h
    have hlist : (List.range (c + 1)).map (fun j => UInt8.ofNat (x >>> (8 * j))) = UInt8.ofNat x :: (List.range c).map fun j => UInt8.ofNat ((x >>> 8) >>> (8 * j)) := by
      rw [List.range_succ_eq_map, List.map_cons, List.map_map]
      congr 1
      apply List.map_congr_left
      intro j _
      simp only [Function.comp]
      rw [show 8 * (Nat.succ j) = 8 + 8 * j by omega, Nat.shiftRight_add]
    rw [hlist]
    have hbeq : (UInt8.ofNat x == UInt8.ofNat y) = decide (x % 256 = y) := by
      rw [Bool.eq_iff_iff]
      simp only [beq_iff_eq, decide_eq_true_eq]
      rw [← UInt8.toNat_inj, UInt8.toNat_ofNat', UInt8.toNat_ofNat']
      omega
    simp only [Lib.indexByte, hbeq]
    rcases beqr_ok h0 with ⟨h1, h2⟩ | ⟨h1, h2⟩
    · have h1' : ¬ x % 256 = y := h1
      have h2' := fN_ok (k := fun i' => byteAt' y c i' (Nat.shiftRight x 8) k) (fN_ok (k := fun x' => fN (Nat.succ i) fun i' => byteAt' y c i' x' k) h2)
      obtain ⟨v, h3, z, h4, h5⟩ := byteAt_ok hy h2'
      have h4' : Lib.indexByte ((List.range c).map fun j => UInt8.ofNat ((x >>> 8) >>> (8 * j))) (UInt8.ofNat y) = z := h4
      rw [h4']
      refine ⟨v, h3, _, rfl, ?_⟩
      rcases h5 with ⟨rfl, hv⟩ | ⟨o, rfl, hv⟩
      · exact .inl ⟨by simp [h1'], hv⟩
      · refine .inr ⟨o + 1, ?_, ?_⟩
        · simp [h1']
        · rw [hv]; congr 1; omega
    · have h1' : x % 256 = y := h1
      exact ⟨_, h2, 0, by simp [h1'], .inr ⟨0, rfl, rfl⟩⟩

theorem dec_int {k : IntKind} {c x : Nat} {z : Int} (h : dec (.i c x) = .v (.int k z)) : z = x := by
  simp [dec] at h; exact h.2.symm

theorem x_indexByte_ok {l : V} {n : Nat} {t : V} {k : KV ρ} (h : x_indexByte l n t k = some r) : ∃ v n' t', k v n' t' = some r ∧ x3 (decL l) (decH n t) = some (dec v, decH n' t') := by
  obtain ⟨a, b, h1, h2⟩ := two_ok h
  obtain ⟨c, x, ha, h3⟩ := onS_ok h1
  obtain ⟨c0, y, hb, h4⟩ := onI1_ok h3
  obtain ⟨h5, h6⟩ := beq_ok h4
  obtain ⟨h7, h8⟩ := ble_ok h6
  subst ha; subst hb; subst h5
  obtain ⟨v, h9, z, h10, h11⟩ := byteAt_ok h7 h8
  refine ⟨v, n, t, h9, ?_⟩
  have hx : x3 (decL l) (decH n t) = some (.i z, decH n t) := by
    rw [h2, ← h10, ← decS_toList]
    simp only [dec, kd, x3]
    rfl
  rw [hx]
  rcases h11 with ⟨rfl, rfl⟩ | ⟨o, rfl, rfl⟩
  · simp [dec, kd]
  · simp [dec, kd]

theorem x_containsRune_ok {l : V} {n : Nat} {t : V} {k : KV ρ} (h : x_containsRune l n t k = some r) : ∃ v n' t', k v n' t' = some r ∧ x2 (decL l) (decH n t) = some (dec v, decH n' t') := by
  obtain ⟨a, b, h1, h2⟩ := two_ok h
  obtain ⟨c, x, ha, h3⟩ := onS_ok h1
  obtain ⟨c0, y, hb, h4⟩ := onI1_ok h3
  obtain ⟨h5, h6⟩ := beq_ok h4
  obtain ⟨h7, h8⟩ := ble_ok h6
  subst ha; subst hb; subst h5
  obtain ⟨v, h9, z, h10, h11⟩ := byteAt_ok (by omega) h8
  have h7' : (y : Int) < 128 := by omega
  have hx : x2 (decL l) (decH n t) = some (.b (decide (0 ≤ z)), decH n t) := by
    rw [h2, ← h10, ← decS_toList]
    simp only [dec, kd, x2]
    rw [if_pos ⟨by simp, by simpa using h7'⟩]
    rfl
  rcases h11 with ⟨rfl, rfl⟩ | ⟨o, rfl, rfl⟩
  · exact ⟨_, n, t, h9, by rw [hx]; simp [dec]⟩
  · exact ⟨_, n, t, h9, by rw [hx]; simp [dec]⟩

theorem qxS_ok : ExtOK (ρ := ρ) qxS prgS := by
  constructor
  · intro g h
    show extS g = none
    unfold extS
    have h' : Bool.rec (motive := fun _ => Option (V → Nat → V → KV ρ → Option ρ)) (Bool.rec (motive := fun _ => Option (V → Nat → V → KV ρ → Option ρ)) (Bool.rec (motive := fun _ => Option (V → Nat → V → KV ρ → Option ρ)) none (some x_indexByte) (Nat.beq g 232)) (some x_containsRune) (Nat.beq g 230)) (some x_contains) (Nat.beq g 231) = none := h
    cases h1 : Nat.beq g 231 with
    | true => rw [h1] at h'; cases h'
    | false =>
      rw [h1] at h'
      cases h2 : Nat.beq g 230 with
      | true => rw [h2] at h'; cases h'
      | false =>
        rw [h2] at h'
        cases h3 : Nat.beq g 232 with
        | true => rw [h3] at h'; cases h'
        | false =>
          have e1 : ¬ g = 231 := fun q => by subst q; simp at h1
          have e2 : ¬ g = 230 := fun q => by subst q; simp at h2
          have e3 : ¬ g = 232 := fun q => by subst q; simp at h3
          simp [e1, e2, e3]
  · intro g f hg l n t k r h
    show ∃ v n' t', k v n' t' = some r ∧ ∃ y, extS g = some y ∧ y (decL l) (decH n t) = some (dec v, decH n' t')
    have h' : Bool.rec (motive := fun _ => Option (V → Nat → V → KV ρ → Option ρ)) (Bool.rec (motive := fun _ => Option (V → Nat → V → KV ρ → Option ρ)) (Bool.rec (motive := fun _ => Option (V → Nat → V → KV ρ → Option ρ)) none (some x_indexByte) (Nat.beq g 232)) (some x_containsRune) (Nat.beq g 230)) (some x_contains) (Nat.beq g 231) = some f := hg
    cases h1 : Nat.beq g 231 with
    | true =>
      rw [h1] at h'; cases h'
      obtain rfl := Nat.eq_of_beq_eq_true h1
      obtain ⟨v, n', t', h2, h3⟩ := x_contains_ok h
      exact ⟨v, n', t', h2, x1, rfl, h3⟩
    | false =>
      rw [h1] at h'
      cases h2 : Nat.beq g 230 with
      | true =>
        rw [h2] at h'; cases h'
        obtain rfl := Nat.eq_of_beq_eq_true h2
        obtain ⟨v, n', t', h3, h4⟩ := x_containsRune_ok h
        exact ⟨v, n', t', h3, x2, rfl, h4⟩
      | false =>
        rw [h2] at h'
        cases h3 : Nat.beq g 232 with
        | true =>
          rw [h3] at h'; cases h'
          obtain rfl := Nat.eq_of_beq_eq_true h3
          obtain ⟨v, n', t', h4, h5⟩ := x_indexByte_ok h
          exact ⟨v, n', t', h4, x3, rfl, h5⟩
        | false => rw [h3] at h'; cases h'

theorem x_catch_ok {call : QCall ρ} {call' : CallF} (hc : Snd call call') {l : V} {n : Nat} {t : V} {k : KV ρ} (h : x_catch call l n t k = some r) : ∃ v n' t', k v n' t' = some r ∧ catchX call' (decL l) (decH n t) = some (dec v, decH n' t') := by
  rcases onL_ok h with ⟨_, h1⟩ | ⟨a, l1, e1, h1⟩
  · cases h1
  · rcases onL_ok h1 with ⟨e2, h2⟩ | ⟨_, _, _, h2⟩
    · subst e1; subst e2
      cases a with
      | bm g l =>
        obtain ⟨v, n', t', h3, h4⟩ := hc _ _ _ _ _ _ (show call g l n t _ = some r from h2)
        refine ⟨_, n', t', h3, ?_⟩
        simp [decL, dec, catchX, h4, kd]
      | _ => cases h2
    · cases h2

/-- The seat's functions, run by the kernel. -/
noncomputable def qS : QCall ρ := qF qxS qT catchN 59
noncomputable def qx : QX ρ := fun g => Bool.rec (qxS g) (some (x_catch qS)) (Nat.beq g 165)
theorem qS_ok : Snd (ρ := ρ) qS (evF prgS catchN catchD) := qF_ov (D := 1) (ExtOK.ov qxS_ok _ 0) qT_ok 59

theorem qx_ok : ExtOK (ρ := ρ) qx ⟨prgF, extF⟩ := by
  constructor
  · intro g h
    show extF g = none
    have h' : Bool.rec (motive := fun _ => Option (V → Nat → V → KV ρ → Option ρ)) (qxS g) (some (x_catch qS)) (Nat.beq g 165) = none := h
    unfold extF
    cases h1 : Nat.beq g 165 with
    | true => rw [h1] at h'; cases h'
    | false =>
      rw [h1] at h'
      have e1 : ¬ g = 165 := fun q => by subst q; simp at h1
      rw [if_neg e1]
      exact qxS_ok.1 g h'
  · intro g f hg l n t k r h
    show ∃ v n' t', k v n' t' = some r ∧ ∃ y, extF g = some y ∧ y (decL l) (decH n t) = some (dec v, decH n' t')
    have h' : Bool.rec (motive := fun _ => Option (V → Nat → V → KV ρ → Option ρ)) (qxS g) (some (x_catch qS)) (Nat.beq g 165) = some f := hg
    unfold extF
    cases h1 : Nat.beq g 165 with
    | true =>
      rw [h1] at h'; cases h'
      have e1 := Nat.eq_of_beq_eq_true h1
      rw [if_pos e1]
      obtain ⟨v, n', t', h2, h3⟩ := x_catch_ok qS_ok h
      exact ⟨v, n', t', h2, _, rfl, h3⟩
    | false =>
      rw [h1] at h'
      have e1 : ¬ g = 165 := fun q => by subst q; simp at h1
      rw [if_neg e1]
      exact qxS_ok.2 g f h' _ _ _ _ _ h

end
end Sx.Q
