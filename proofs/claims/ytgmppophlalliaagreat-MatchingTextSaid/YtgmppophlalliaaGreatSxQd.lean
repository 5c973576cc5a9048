/-
  Q: numbers and strings.
-/
import Derived.Test.YtgmppophlalliaaGreatSxQc
namespace Sx.Q
open Go
set_option linter.unusedVariables false
set_option linter.unusedSimpArgs false

/-! ### Strings -/

theorem toList_loop (s : ByteArray) : ∀ (k i : Nat) (acc : List UInt8), s.size - i = k → ByteArray.toList.loop s i acc = acc.reverse ++ s.data.toList.drop i := by
  intro k
  induction k with
  | zero =>
    intro i acc h
    unfold ByteArray.toList.loop
    have h1 : ¬ i < s.size := by omega
    rw [if_neg h1]
    have h2 : s.data.toList.drop i = [] := by
      apply List.drop_eq_nil_of_le
      have : s.data.toList.length = s.size := rfl
      omega
    rw [h2, List.append_nil]
  | succ k ih =>
    intro i acc h
    unfold ByteArray.toList.loop
    have h1 : i < s.size := by omega
    rw [if_pos h1, ih (i + 1) _ (by omega)]
    have h3 : i < s.data.toList.length := h1
    have h2 : s.data.toList.drop i = s.data.toList[i] :: s.data.toList.drop (i + 1) := List.drop_eq_getElem_cons h3
    rw [h2, List.reverse_cons, List.append_assoc]
    congr 1
    show [s.get! i] ++ s.data.toList.drop (i + 1) = _
    have : s.get! i = s.data.toList[i] := by
      cases s with
      | mk d =>
        show d[i]! = _
        have hd : i < d.size := h1
        simp [getElem!_pos d i hd]
    rw [this]
    rfl
theorem toList_eq (s : ByteArray) : s.toList = s.data.toList := by
  unfold ByteArray.toList
  rw [toList_loop s _ 0 [] rfl]
  simp

theorem decS_size (n x : Nat) : (decS n x).size = n := by
  show (List.toArray _).size = n
  simp
theorem decS_toList (n x : Nat) : (decS n x).data.toList = (List.range n).map fun i => UInt8.ofNat (x >>> (8 * i)) := rfl

theorem byte_get (n x i : Nat) (h : i < n) : (decS n x).data[i]? = some (UInt8.ofNat (x >>> (8 * i))) := by
  rw [← Array.getElem?_toList, decS_toList]
  simp [h]

/-- Bytes tell a number below 256^n. -/
theorem bytes_inj {n : Nat} : ∀ {x y : Nat}, x < 2 ^ (8 * n) → y < 2 ^ (8 * n) → (∀ i, i < n → UInt8.ofNat (x >>> (8 * i)) = UInt8.ofNat (y >>> (8 * i))) → x = y := by
  induction n with
  | zero => intro x y hx hy _; simp at hx hy; omega
  | succ n ih =>
    intro x y hx hy h
    have h0 := h 0 (by omega)
    simp only [Nat.mul_zero, Nat.shiftRight_zero] at h0
    have h0' : x % 256 = y % 256 := by
      have := congrArg UInt8.toNat h0
      simpa [UInt8.toNat_ofNat'] using this
    have e : 2 ^ (8 * (n + 1)) = 2 ^ (8 * n) * 256 := by rw [Nat.mul_add, Nat.pow_add]
    rw [e] at hx hy
    have h1 : x / 256 = y / 256 := ih (by omega) (by omega) (fun i hi => by
      have := h (i + 1) (by omega)
      rw [show 8 * (i + 1) = 8 + 8 * i by omega, Nat.shiftRight_add, Nat.shiftRight_add] at this
      simpa [Nat.shiftRight_eq_div_pow] using this)
    omega

theorem decS_inj {n x n' x' : Nat} (hx : x < 2 ^ (8 * n)) (hx' : x' < 2 ^ (8 * n')) : decS n x = decS n' x' ↔ n = n' ∧ x = x' := by
  constructor
  · intro h
    have hn : n = n' := by rw [← decS_size n x, h, decS_size]
    subst hn
    refine ⟨rfl, bytes_inj hx hx' fun i hi => ?_⟩
    have h1 := byte_get n x i hi
    have h2 := byte_get n x' i hi
    rw [h, h2] at h1
    exact (Option.some.inj h1).symm
  · rintro ⟨rfl, rfl⟩; rfl

theorem ext_bytes {a b : ByteArray} (h : a.data.toList = b.data.toList) : a = b := by
  cases a with
  | mk a => cases b with
    | mk b => congr 1; exact Array.toList_inj.1 h

theorem two_split {n i : Nat} (h : i < n) : 2 ^ (8 * n) = 2 ^ (8 * i) * (256 * 2 ^ (8 * (n - (i + 1)))) := by
  rw [show (256 : Nat) = 2 ^ 8 from rfl, ← Nat.pow_add, ← Nat.pow_add]
  congr 1
  omega

theorem u8_eq {a b : Nat} (h : a % 256 = b % 256) : UInt8.ofNat a = UInt8.ofNat b := by
  apply UInt8.toNat_inj.1
  rw [UInt8.toNat_ofNat', UInt8.toNat_ofNat']
  exact h

theorem decS_app {n x n' x' : Nat} (hx : x < 2 ^ (8 * n)) : decS (n + n') (x + x' * 2 ^ (8 * n)) = decS n x ++ decS n' x' := by
  apply ext_bytes
  rw [ByteArray.toList_data_append, decS_toList, decS_toList, decS_toList, List.range_add, List.map_append, List.map_map]
  congr 1
  · apply List.map_congr_left
    intro i hi
    have hi' := List.mem_range.1 hi
    apply u8_eq
    rw [Nat.shiftRight_eq_div_pow, Nat.shiftRight_eq_div_pow, two_split hi', ← Nat.mul_assoc, Nat.mul_comm x' _, Nat.mul_assoc, Nat.add_mul_div_left _ _ (Nat.two_pow_pos _), Nat.mul_comm x', Nat.mul_assoc, Nat.add_mul_mod_self_left]
  · apply List.map_congr_left
    intro i hi
    simp only [Function.comp]
    congr 1
    rw [show 8 * (n + i) = 8 * n + 8 * i by omega, Nat.shiftRight_add]
    congr 1
    rw [Nat.shiftRight_eq_div_pow, Nat.add_mul_div_right _ _ (Nat.two_pow_pos _), Nat.div_eq_of_lt hx]
    omega

theorem decS_cut {n x l h : Nat} (h1 : l ≤ h) (h2 : h ≤ n) : decS (h - l) ((x >>> (8 * l)) % 2 ^ (8 * (h - l))) = (decS n x).extract l h := by
  apply ext_bytes
  rw [ByteArray.data_extract, Array.toList_extract, decS_toList, decS_toList]
  apply List.ext_getElem?
  intro i
  simp only [List.extract_eq_take_drop, List.getElem?_take, List.getElem?_drop, List.getElem?_map]
  by_cases hi : i < h - l
  · rw [if_pos hi, List.getElem?_range hi, List.getElem?_range (by omega)]
    simp only [Option.map_some]
    congr 1
    apply u8_eq
    rw [Nat.shiftRight_eq_div_pow, two_split hi, Nat.mod_mul_right_div_self, Nat.mod_mul_right_mod, ← Nat.shiftRight_eq_div_pow, ← Nat.shiftRight_add]
    congr 2
    omega
  · rw [if_neg hi]
    simp
    omega

/-! ### Numbers -/

theorem wrap_of {c x : Nat} (h : x ≤ kmax c) : (kd c).wrap (Int.ofNat x) = Int.ofNat x := by
  match c, h with
  | 0, h | 1, h | 2, h | 3, h | 4, h | 5, h | 6, h | 7, h =>
    simp only [kmax] at h
    simp only [kd, IntKind.wrap, IntKind.bits, IntKind.signed, Int.ofNat_eq_natCast]
    simp
    omega
  | n + 8, h =>
    simp only [kmax] at h
    have : x = 0 := by omega
    subst this
    rfl

section
variable {ρ : Type} {r : ρ}

theorem slow_ok {op : BinOp} {x y : V} {k : V → Option ρ} (h : slow op x y k = some r) : ∃ v, k v = some r ∧ evBin op (dec x) (dec y) = some (dec v) := by
  unfold slow at h
  split at h
  · rename_i a ha
    exact ⟨_, h, by rw [ha, encV_ok]⟩
  · cases h

theorem evBin_int {op : BinOp} {k : IntKind} {a b : Int} (h1 : op ≠ .shl) (h2 : op ≠ .shr) : evBin op (.v (.int k a)) (.v (.int k b)) = (binI op k a b).map .v := by
  cases op <;> first | (exact absurd rfl h1) | (exact absurd rfl h2) | simp [evBin]

theorem binN_ok {op : BinOp} {c a b : Nat} {k : V → Option ρ} (h : binN op c a b (slow op (.i c a) (.i c b) k) k = some r) : ∃ v, k v = some r ∧ evBin op (dec (.i c a)) (dec (.i c b)) = some (dec v) := by
  cases op
  case add =>
    rcases bool_ok (fN_ok (k := fun x => Bool.rec (motive := fun _ => Option ρ) (slow .add (.i c a) (.i c b) k) (k (.i c x)) (Nat.ble x (kmax c))) h) with ⟨_, h⟩ | ⟨h1, h⟩
    · exact slow_ok h
    · refine ⟨_, h, ?_⟩
      have h2 := wrap_of (Nat.le_of_ble_eq_true h1)
      have e : (Int.ofNat a + Int.ofNat b) = Int.ofNat (Nat.add a b) := rfl
      simp only [dec]
      rw [evBin_int (by decide) (by decide), binI, e, h2]; rfl
  case sub =>
    rcases bool_ok h with ⟨_, h⟩ | ⟨h0, h⟩
    · exact slow_ok h
    · have h0 := Nat.le_of_ble_eq_true h0
      rcases bool_ok (fN_ok (k := fun x => Bool.rec (motive := fun _ => Option ρ) (slow .sub (.i c a) (.i c b) k) (k (.i c x)) (Nat.ble x (kmax c))) h) with ⟨_, h⟩ | ⟨h1, h⟩
      · exact slow_ok h
      · refine ⟨_, h, ?_⟩
        have h2 := wrap_of (Nat.le_of_ble_eq_true h1)
        have e : (Int.ofNat a - Int.ofNat b) = Int.ofNat (Nat.sub a b) := by
          show (a : Int) - (b : Int) = ((a - b : Nat) : Int)
          omega
        simp only [dec]
        rw [evBin_int (by decide) (by decide), binI, e, h2]; rfl
  case mul =>
    rcases bool_ok (fN_ok (k := fun x => Bool.rec (motive := fun _ => Option ρ) (slow .mul (.i c a) (.i c b) k) (k (.i c x)) (Nat.ble x (kmax c))) h) with ⟨_, h⟩ | ⟨h1, h⟩
    · exact slow_ok h
    · refine ⟨_, h, ?_⟩
      have h2 := wrap_of (Nat.le_of_ble_eq_true h1)
      have e : (Int.ofNat a * Int.ofNat b) = Int.ofNat (Nat.mul a b) := rfl
      simp only [dec]
      rw [evBin_int (by decide) (by decide), binI, e, h2]; rfl
  case eql =>
    have h := fB_ok (k := fun t => k (.b t)) h
    refine ⟨_, h, ?_⟩
    simp only [dec]
    rw [evBin_int (by decide) (by decide), binI]
    simp only [Option.map_some, Int.ofNat_eq_natCast]
    congr 3
    rw [Bool.eq_iff_iff]
    simp
    try omega
  case neq =>
    have h := fB_ok (k := fun t => k (.b (not t))) h
    refine ⟨_, h, ?_⟩
    simp only [dec]
    rw [evBin_int (by decide) (by decide), binI]
    simp only [Option.map_some, Int.ofNat_eq_natCast]
    congr 3
    have e : Nat.beq a b = ((a : Int) == (b : Int)) := by
      rw [Bool.eq_iff_iff]
      simp
      omega
    show (!((a : Int) == (b : Int))) = _
    rw [← e]
  case lss =>
    have h := fB_ok (k := fun t => k (.b t)) h
    refine ⟨_, h, ?_⟩
    simp only [dec]
    rw [evBin_int (by decide) (by decide), binI]
    simp only [Option.map_some, Int.ofNat_eq_natCast]
    congr 3
    rw [Bool.eq_iff_iff]
    simp
    try omega
  case leq =>
    have h := fB_ok (k := fun t => k (.b t)) h
    refine ⟨_, h, ?_⟩
    simp only [dec]
    rw [evBin_int (by decide) (by decide), binI]
    simp only [Option.map_some, Int.ofNat_eq_natCast]
    congr 3
    rw [Bool.eq_iff_iff]
    simp
    try omega
  case gtr =>
    have h := fB_ok (k := fun t => k (.b t)) h
    refine ⟨_, h, ?_⟩
    simp only [dec]
    rw [evBin_int (by decide) (by decide), binI]
    simp only [Option.map_some, Int.ofNat_eq_natCast]
    congr 3
    rw [Bool.eq_iff_iff]
    simp
    try omega
  case geq =>
    have h := fB_ok (k := fun t => k (.b t)) h
    refine ⟨_, h, ?_⟩
    simp only [dec]
    rw [evBin_int (by decide) (by decide), binI]
    simp only [Option.map_some, Int.ofNat_eq_natCast]
    congr 3
    rw [Bool.eq_iff_iff]
    simp
    try omega
  all_goals exact slow_ok h

theorem lt_ok {n x : Nat} {k : Option ρ} (h : ck (Nat.ble (Nat.succ x) (Nat.pow 2 (Nat.mul 8 n))) k = some r) : x < 2 ^ (8 * n) ∧ k = some r := ble_ok h

theorem eqS_ok {n x n' x' : Nat} {k : Bool → Option ρ} (h : eqS n x n' x' k = some r) : k (decide (decS n x = decS n' x')) = some r := by
  obtain ⟨h1, h⟩ := lt_ok h
  obtain ⟨h2, h⟩ := lt_ok h
  have hi := decS_inj h1 h2
  rcases beqr_ok h with ⟨h3, h⟩ | ⟨h3, h⟩
  · have : ¬ decS n x = decS n' x' := fun q => h3 (hi.1 q).1
    rw [decide_eq_false this]; exact h
  · have h := fB_ok h
    have e : Nat.beq x x' = decide (decS n x = decS n' x') := by
      have hi' : decS n x = decS n' x' ↔ x = x' := by rw [hi]; simp [h3]
      rw [Bool.eq_iff_iff]
      simp only [hi', decide_eq_true_eq]
      exact ⟨Nat.eq_of_beq_eq_true, fun q => by rw [q]; simp⟩
    rw [← e]; exact h

theorem str_beq (a b : ByteArray) : (a.toList == b.toList) = decide (a = b) := by
  rw [toList_eq, toList_eq, Bool.eq_iff_iff]
  simp only [beq_iff_eq, decide_eq_true_eq]
  exact ⟨ext_bytes, fun h => by rw [h]⟩

theorem binS_ok {op : BinOp} {n x n' x' : Nat} {k : V → Option ρ} (h : binS' op n x n' x' k = some r) : ∃ v, k v = some r ∧ evBin op (dec (.s n x)) (dec (.s n' x')) = some (dec v) := by
  cases op
  case add =>
    obtain ⟨h1, h⟩ := lt_ok h
    obtain ⟨h2, h⟩ := ble_ok h
    have h := fN_ok (k := fun c => fN (Nat.add x (Nat.mul x' (Nat.pow 2 (Nat.mul 8 n)))) fun y => k (.s c y)) h
    have h := fN_ok (k := fun y => k (.s (Nat.add n n') y)) h
    refine ⟨_, h, ?_⟩
    have e := decS_app (n' := n') (x' := x') h1
    have h2' : n + n' ≤ 2 ^ 40 := h2
    simp only [dec, evBin, binS, decS_size, if_pos h2', Option.map_some]
    rw [← e]; rfl
  case eql =>
    have h := eqS_ok (k := fun t => k (.b t)) h
    exact ⟨_, h, by simp only [dec, evBin, binS, str_beq, Option.map_some]⟩
  case neq =>
    have h := eqS_ok (k := fun t => k (.b (not t))) h
    exact ⟨_, h, by simp only [dec, evBin, binS, str_beq, Option.map_some]⟩
  all_goals cases h

theorem bin_ok {op : BinOp} {x y : V} {k : V → Option ρ} (h : bin op x y k = some r) : ∃ v, k v = some r ∧ evBin op (dec x) (dec y) = some (dec v) := by
  cases x with
  | i c a =>
    rcases onI_ok h with ⟨c', b, rfl, h⟩ | ⟨c', b, rfl, h⟩
    · rcases beqr_ok h with ⟨_, h⟩ | ⟨rfl, h⟩
      · exact slow_ok h
      · exact binN_ok h
    · exact slow_ok h
  | m c a => exact slow_ok h
  | s n a =>
    obtain ⟨n', b, rfl, h⟩ := onS_ok h
    exact binS_ok h
  | _ => cases h
theorem valV_ok {a : Option AV} {k : V → Option ρ} (h : valV a k = some r) : ∃ v, k v = some r ∧ a = some (dec v) ∧ ∃ x, dec v = .v x := by
  unfold valV at h
  split at h
  · exact ⟨_, h, by rw [encV_ok], _, encV_ok _⟩
  · cases h
end
end Sx.Q
