/-
  Sx: when the machine's memory is as an abstract state says.
-/
import Derived.Test.YtgmppophlalliaaGreatSxTr
import Derived.Calls
import Derived.WalkKit
namespace Sx
open Go

structure Info where
  blk : Nat
  ver : Nat
  sz : Nat
  cap : Nat

abbrev Rho := Nat → Option Info

section
variable (φ : Nat → Option Nat)

/-- The value v is as x says; l: x may lean on objects. -/
inductive VR (T : Nat → Prop) (w : World) (ρ : Rho) : Bool → AV → Value → Prop
  | U {l} {x : Value} : VR T w ρ l .U x
  | v {l} {x : Value} : VR T w ρ l (.v x) x
  | agg {l} {cs : List AV} {us : List Value} : cs.length = us.length → (∀ (i : Nat) (c : AV) (u : Value), cs[i]? = some c → us[i]? = some u → VR T w ρ l c u) → (∀ u ∈ us, u.oneCell' = true) → VR T w ρ l (.agg cs) (.agg us.toArray)
  | tup {l} {cs : List AV} {us : List Value} : cs.length = us.length → (∀ (i : Nat) (c : AV) (u : Value), cs[i]? = some c → us[i]? = some u → VR T w ρ l c u) → VR T w ρ l (.tup cs) (.tuple us.toArray)
  | ro0 {l} {sz : Nat} {f : Nat → List AV} {A : Option Addr} {cap : Nat} : VR T w ρ l (.ro sz 0 f) (.slice A 0 cap)
  | ro {l} {sz n : Nat} {f : Nat → List AV} {cap : Nat} {a : Addr} {us : Nat → List Value} : 0 < n → n ≤ cap → T a.block → (∀ i, i < n → (f i).length = sz) → (∀ i, i < n → (us i).length = sz) →
      (∀ (i j : Nat) (u : Value), i < n → (us i)[j]? = some u → w.cell? (a.add (i * sz + j)) = some u) → (∀ (i : Nat) (u : Value), i < n → u ∈ us i → u.oneCell' = true) →
      (∀ (i j : Nat) (c : AV) (u : Value), i < n → (f i)[j]? = some c → (us i)[j]? = some u → VR T w ρ false c u) → VR T w ρ l (.ro sz n f) (.slice (some a) n cap)
  | rp {cs : List AV} {a : Addr} {us : List Value} : T a.block → cs.length = us.length → (∀ (j : Nat) (u : Value), us[j]? = some u → w.cell? (a.add j) = some u) → (∀ u ∈ us, u.oneCell' = true) →
      (∀ (i : Nat) (c : AV) (u : Value), cs[i]? = some c → us[i]? = some u → VR T w ρ true c u) → VR T w ρ true (.rp cs) (.pointer (some a))
  | fn {g f : Nat} {cap : List AV} {us : List Value} : φ f = some g → cap.length = us.length → (∀ (i : Nat) (c : AV) (u : Value), cap[i]? = some c → us[i]? = some u → VR T w ρ true c u) → VR T w ρ true (.fn g cap) (.func (.func f) #[] us.toArray)
  | bm {g f : Nat} {cap : List AV} {us : List Value} : φ f = some g → cap.length = us.length → (∀ (i : Nat) (c : AV) (u : Value), cap[i]? = some c → us[i]? = some u → VR T w ρ true c u) → VR T w ρ true (.bm g cap) (.func (.func f) us.toArray #[])
  | hp {h ver i o : Nat} {x : Value} {a : Addr} {inf : Info} : ρ h = some inf → ver ≤ inf.ver → x = .pointer (some a) → (ver = inf.ver → a = ⟨inf.blk, i * inf.sz + o, none⟩) → VR T w ρ true (.hp h ver i o) x
  | sl {h ver off len : Nat} {x : Value} {A : Option Addr} {n cap : Nat} {inf : Info} : ρ h = some inf → ver ≤ inf.ver → x = .slice A n cap →
      (ver = inf.ver → A = some ⟨inf.blk, off * inf.sz, none⟩ ∧ n = len ∧ len ≤ cap ∧ off + cap ≤ inf.cap) → VR T w ρ true (.sl h ver off len) x
  | mp {h : Nat} {inf : Info} : ρ h = some inf → inf.sz = 0 → VR T w ρ true (.mp h) (.map (some inf.blk))
  | it {h : Nat} {inf : Info} : ρ h = some inf → inf.sz = 0 → VR T w ρ true (.it h) (.pointer (some ⟨inf.blk, 0, none⟩))

structure Ext (T : Nat → Prop) (w : World) (ρ : Rho) (T' : Nat → Prop) (w' : World) (ρ' : Rho) : Prop where
  st : ∀ b, T b → T' b
  heap : ∀ b, T b → w'.heap[b]? = w.heap[b]?
  rho : ∀ h i, ρ h = some i → ∃ i', ρ' h = some i' ∧ i.ver ≤ i'.ver ∧ (i.ver = i'.ver → i' = i) ∧ (i.sz = 0 → i' = i)

variable {φ}

theorem Ext.refl (T : Nat → Prop) (w : World) (ρ : Rho) : Ext T w ρ T w ρ := ⟨fun _ h => h, fun _ _ => rfl, fun _ i h => ⟨i, h, Nat.le_refl _, fun _ => rfl, fun _ => rfl⟩⟩

theorem Ext.trans {T T1 T2 : Nat → Prop} {w w1 w2 : World} {ρ ρ1 ρ2 : Rho} (a : Ext T w ρ T1 w1 ρ1) (b : Ext T1 w1 ρ1 T2 w2 ρ2) : Ext T w ρ T2 w2 ρ2 where
  st x h := b.st x (a.st x h)
  heap x h := (b.heap x (a.st x h)).trans (a.heap x h)
  rho h i hi := by
    obtain ⟨i1, h1, l1, e1, z1⟩ := a.rho h i hi
    obtain ⟨i2, h2, l2, e2, z2⟩ := b.rho h i1 h1
    refine ⟨i2, h2, Nat.le_trans l1 l2, fun e => ?_, fun e => ?_⟩
    · have e1' : i.ver = i1.ver := by omega
      have := e1 e1'
      subst this
      exact e2 e
    · have := z1 e
      subst this
      exact z2 e

theorem cell_same {w w' : World} {a : Addr} (h : w'.heap[a.block]? = w.heap[a.block]?) : w'.cell? a = w.cell? a := by
  simp only [World.cell?, h]

theorem add_block (a : Addr) (n : Nat) : (a.add n).block = a.block := by unfold Addr.add; split <;> rfl

theorem add_add (a : Addr) (m n : Nat) : (a.add m).add n = a.add (m + n) := by
  unfold Addr.add
  by_cases h : m = 0
  · subst h; simp
  · by_cases k : n = 0
    · subst k; simp
    · simp [h, k, Nat.add_assoc]

theorem add_mk (b o n : Nat) : (⟨b, o, none⟩ : Addr).add n = ⟨b, o + n, none⟩ := by unfold Addr.add; split <;> simp_all

theorem VR.mono {T T' : Nat → Prop} {w w' : World} {ρ ρ' : Rho} {l : Bool} {x : AV} {u : Value} (h : VR φ T w ρ l x u) (e : Ext T w ρ T' w' ρ') : VR φ T' w' ρ' l x u := by
  induction h with
  | U => exact .U
  | v => exact .v
  | agg h1 _ h3 ih => exact .agg h1 ih h3
  | tup h1 _ ih => exact .tup h1 ih
  | ro0 => exact .ro0
  | ro h1 h2 h3 h4 h5 h6 h7 _ ih => exact .ro h1 h2 (e.st _ h3) h4 h5 (fun i j u hi hu => (cell_same (by rw [add_block]; exact e.heap _ h3)).trans (h6 i j u hi hu)) h7 ih
  | rp h1 h2 h3 h4 _ ih => exact .rp (e.st _ h1) h2 (fun j u hu => (cell_same (by rw [add_block]; exact e.heap _ h1)).trans (h3 j u hu)) h4 ih
  | fn h1 h2 _ ih => exact .fn h1 h2 ih
  | bm h1 h2 _ ih => exact .bm h1 h2 ih
  | hp h1 h2 h3 h4 =>
    obtain ⟨i', e1, e2, e3, _⟩ := e.rho _ _ h1
    exact .hp e1 (Nat.le_trans h2 e2) h3 (fun q => by have := e3 (by omega); subst this; exact h4 q)
  | sl h1 h2 h3 h4 =>
    obtain ⟨i', e1, e2, e3, _⟩ := e.rho _ _ h1
    exact .sl e1 (Nat.le_trans h2 e2) h3 (fun q => by have := e3 (by omega); subst this; exact h4 q)
  | mp h1 h2 =>
    obtain ⟨i', e1, _, _, e4⟩ := e.rho _ _ h1
    have := e4 h2
    subst this
    exact .mp e1 h2
  | it h1 h2 =>
    obtain ⟨i', e1, _, _, e4⟩ := e.rho _ _ h1
    have := e4 h2
    subst this
    exact .it e1 h2

/-- What leans on no object stays so whatever becomes of the objects. -/
theorem VR.base {T T' : Nat → Prop} {w w' : World} {ρ ρ' : Rho} {l : Bool} {x : AV} {u : Value} (h : VR φ T w ρ l x u) (hl : l = false) (e1 : ∀ b, T b → T' b) (e2 : ∀ b, T b → w'.heap[b]? = w.heap[b]?) (l' : Bool) : VR φ T' w' ρ' l' x u := by
  induction h generalizing l' with
  | U => exact .U
  | v => exact .v
  | agg h1 _ h3 ih => exact .agg h1 (fun i c u a b => ih i c u a b hl l') h3
  | tup h1 _ ih => exact .tup h1 (fun i c u a b => ih i c u a b hl l')
  | ro0 => exact .ro0
  | ro h1 h2 h3 h4 h5 h6 h7 _ ih => exact .ro h1 h2 (e1 _ h3) h4 h5 (fun i j u hi hu => (cell_same (by rw [add_block]; exact e2 _ h3)).trans (h6 i j u hi hu)) h7 (fun i j c u a b c' => ih i j c u a b c' rfl false)
  | rp => cases hl
  | fn => cases hl
  | bm => cases hl
  | hp => cases hl
  | sl => cases hl
  | mp => cases hl
  | it => cases hl

theorem VR.up {T : Nat → Prop} {w : World} {ρ ρ' : Rho} {x : AV} {u : Value} (h : VR φ T w ρ false x u) (l : Bool) : VR φ T w ρ' l x u := h.base rfl (fun _ h => h) (fun _ _ => rfl) l

theorem VR.solid {T : Nat → Prop} {w : World} {ρ : Rho} {l : Bool} {x : AV} {u : Value} (h : VR φ T w ρ l x u) (hs : x.solid = true) : (∃ cs, x = .agg cs) ∨ (u.oneCell' = true ∧ x.cells = [x] ∧ u.cells = #[u]) := by
  cases h with
  | U => simp [AV.solid] at hs
  | v => right; cases u <;> simp_all [AV.solid, oneC, Value.oneCell', AV.cells, Value.cells]
  | agg => left; exact ⟨_, rfl⟩
  | tup => simp [AV.solid] at hs
  | ro0 => right; exact ⟨rfl, rfl, rfl⟩
  | ro => right; exact ⟨rfl, rfl, rfl⟩
  | rp => right; exact ⟨rfl, rfl, rfl⟩
  | fn => right; exact ⟨rfl, rfl, rfl⟩
  | bm => right; exact ⟨rfl, rfl, rfl⟩
  | hp _ _ h => subst h; right; exact ⟨rfl, rfl, rfl⟩
  | sl _ _ h => subst h; right; exact ⟨rfl, rfl, rfl⟩
  | mp => right; exact ⟨rfl, rfl, rfl⟩
  | it => right; exact ⟨rfl, rfl, rfl⟩

/-- The cells of a value, one by one. -/
theorem VR.cells {T : Nat → Prop} {w : World} {ρ : Rho} {l : Bool} {x : AV} {u : Value} (h : VR φ T w ρ l x u) (hs : x.solid = true) :
    x.cells.length = u.cells.size ∧ (∀ (i : Nat) (c : AV) (y : Value), x.cells[i]? = some c → u.cells[i]? = some y → VR φ T w ρ l c y) ∧ (∀ y ∈ u.cells.toList, y.oneCell' = true) := by
  rcases h.solid hs with ⟨cs, rfl⟩ | ⟨h1, h2, h3⟩
  · cases h with
    | agg a b c => exact ⟨by simpa [AV.cells, Value.cells] using a, fun i c y hc hy => b i c y (by simpa [AV.cells] using hc) (by simpa [Value.cells] using hy), by simpa [Value.cells] using c⟩
  · rw [h2, h3]
    refine ⟨rfl, fun i c y hc hy => ?_, ?_⟩
    · cases i with
      | zero => simp at hc hy; subst hc; subst hy; exact h
      | succ i => simp at hc
    · simpa using h1

/-- An object lies in memory. -/
def OR (φ : Nat → Option Nat) (T : Nat → Prop) (w : World) (ρ : Rho) (h : Nat) : AO → Prop
  | .sl ver sz els => ∃ i arr t, ρ h = some i ∧ i.ver = ver ∧ i.sz = sz ∧ 0 < sz ∧ w.heap[i.blk]? = some (.cells arr t (0, 0)) ∧ arr.size = i.cap * sz ∧ els.length ≤ i.cap ∧
      (∀ e ∈ els, e.length = sz) ∧ (∀ (k j : Nat) (e : List AV) (c : AV), els[k]? = some e → e[j]? = some c → ∃ u, arr[k * sz + j]? = some u ∧ VR φ T w ρ true c u) ∧ (∀ u ∈ arr.toList, u.oneCell' = true) ∧ ¬ T i.blk
  | .mp es => ∃ i ents clock, ρ h = some i ∧ i.ver = 0 ∧ i.sz = 0 ∧ w.heap[i.blk]? = some (.map ents clock) ∧ (ents.size = es.length ∧ clock = es.length ∧ ∀ (k : Nat) (e : MapEntry), ents[k]? = some e → e.born = k) ∧
      (∀ (k : Nat) (p : AV × AV) (e : MapEntry), es[k]? = some p → ents[k]? = some e → VR φ T w ρ true p.1 e.key ∧ VR φ T w ρ true p.2 e.val) ∧ ¬ T i.blk
  | .it m n s => ∃ i mi seen, ρ h = some i ∧ i.ver = 0 ∧ i.sz = 0 ∧ (ρ m = some mi ∧ mi.sz = 0) ∧ w.heap[i.blk]? = some (.mapIter (some mi.blk) n seen n) ∧
      (∀ s', s = some s' → seen = s') ∧ ¬ T i.blk

/-- Does the seat's program hold the library's variable internal/bytealg.MaxLen, in block 0. -/
def seatGlob : Bool := true

/-- That variable holds a number, and never turns. -/
def GL (T : Nat → Prop) (w : World) : Prop := seatGlob = true → ∃ m : Int, T 0 ∧ w.cell? ⟨0, 0, none⟩ = some (.int .i64 m)

structure HR (φ : Nat → Option Nat) (T : Nat → Prop) (w : World) (ρ : Rho) (obs : List AO) : Prop where
  ob : ∀ h o, obs[h]? = some o → OR φ T w ρ h o
  out : ∀ h, obs.length ≤ h → ρ h = none
  inj : ∀ h h' i i', ρ h = some i → ρ h' = some i' → i.blk = i'.blk → h = h'
  old : ∀ b, T b → b < w.heap.size
  gl : GL T w

theorem GL.step {T T' : Nat → Prop} {w w' : World} (h : GL T w) (h1 : ∀ b, T b → T' b) (h2 : ∀ b, T b → w'.heap[b]? = w.heap[b]?) : GL T' w' := fun q => by
  obtain ⟨m, a, b⟩ := h q
  exact ⟨m, h1 _ a, (cell_same (a := ⟨0, 0, none⟩) (h2 0 a)).trans b⟩

theorem GL.ext {T T' : Nat → Prop} {w w' : World} {ρ ρ' : Rho} (h : GL T w) (e : Ext T w ρ T' w' ρ') : GL T' w' := h.step e.st e.heap

theorem HR.has {T : Nat → Prop} {w : World} {ρ : Rho} {obs : List AO} (H : HR φ T w ρ obs) {h : Nat} {i : Info} (hi : ρ h = some i) : i.blk < w.heap.size ∧ ¬ T i.blk := by
  have hl : h < obs.length := by
    rcases Nat.lt_or_ge h obs.length with q | q
    · exact q
    · rw [H.out h q] at hi; cases hi
  have ho := H.ob h _ (List.getElem?_eq_getElem hl)
  revert ho
  cases obs[h] with
  | sl ver sz els =>
    rintro ⟨i', arr, t, e1, _, _, _, e2, _, _, _, _, _, e3⟩
    rw [hi] at e1; cases e1
    exact ⟨(Array.getElem?_eq_some_iff.1 e2).1, e3⟩
  | mp es =>
    rintro ⟨i', ents, t, e1, _, _, e2, _, _, e3⟩
    rw [hi] at e1; cases e1
    exact ⟨(Array.getElem?_eq_some_iff.1 e2).1, e3⟩
  | it m n s =>
    rintro ⟨i', mi, seen, e1, _, _, _, e2, _, e3⟩
    rw [hi] at e1; cases e1
    exact ⟨(Array.getElem?_eq_some_iff.1 e2).1, e3⟩

/-- A slot. 'un': a variable of this call alone, in a block from B on. -/
def SR (φ : Nat → Option Nat) (B : Nat) (T : Nat → Prop) (w : World) (ρ : Rho) (x : AV) (u : Value) : Prop :=
  match x with
  | .un z => ∃ b arr t, u = .pointer (some ⟨b, 0, none⟩) ∧ w.heap[b]? = some (.cells arr t (0, 0)) ∧ arr.size = z.length ∧ ¬ T b ∧ (∀ h i, ρ h = some i → i.blk ≠ b) ∧ B ≤ b
  | x => VR φ T w ρ true x u

structure TR (φ : Nat → Option Nat) (B : Nat) (T : Nat → Prop) (w : World) (ρ : Rho) (tm : Env) (tmps : Array Value) : Prop where
  slot : ∀ s, SR φ B T w ρ (get s tm) (tmps.getD s undef)
  apart : ∀ s s' z z', s ≠ s' → get s tm = .un z → get s' tm = .un z' → tmps.getD s undef ≠ tmps.getD s' undef

/-- Nothing is asked of a new block. -/
def Thaw (_ : Obj) : Prop := True

def Thaws (w w' : World) : Prop := ∀ b : Nat, (∀ o : Obj, w.heap[b]? = some o → Thaw o) → ∀ o : Obj, w'.heap[b]? = some o → Thaw o

/-- What has become of the world since. -/
structure Since (lim : Nat) (T : Nat → Prop) (w : World) (ρ : Rho) (T' : Nat → Prop) (w' : World) (ρ' : Rho) : Prop where
  size : w.heap.size ≤ w'.heap.size
  os : w'.os = w.os
  tape : w'.tape = w.tape
  output : w'.output = w.output
  ext : Ext T w ρ T' w' ρ'
  tnew : ∀ b, T' b → T b ∨ w.heap.size ≤ b
  wb : ∀ h i, lim ≤ h → ρ' h = some i → w.heap.size ≤ i.blk ∨ ∃ i0, ρ h = some i0 ∧ i0.blk = i.blk
  low : ∀ h, h < lim → ρ' h = ρ h
  frame : ∀ b, b < w.heap.size → (∀ h i, lim ≤ h → ρ h = some i → i.blk ≠ b) → w'.heap[b]? = w.heap[b]?
  nf : Thaws w w'

theorem Since.refl (lim : Nat) (T : Nat → Prop) (w : World) (ρ : Rho) : Since lim T w ρ T w ρ :=
  ⟨Nat.le_refl _, rfl, rfl, rfl, Ext.refl _ _ _, fun _ h => .inl h, fun _ i _ h => .inr ⟨i, h, rfl⟩, fun _ _ => rfl, fun _ _ _ => rfl, fun _ h => h⟩

theorem Since.trans {lim : Nat} {T T1 T2 : Nat → Prop} {w w1 w2 : World} {ρ ρ1 ρ2 : Rho} (a : Since lim T w ρ T1 w1 ρ1) (b : Since lim T1 w1 ρ1 T2 w2 ρ2) : Since lim T w ρ T2 w2 ρ2 where
  size := Nat.le_trans a.size b.size
  os := b.os.trans a.os
  tape := b.tape.trans a.tape
  output := b.output.trans a.output
  ext := a.ext.trans b.ext
  tnew x h := by
    rcases b.tnew x h with q | q
    · exact a.tnew x q
    · exact .inr (Nat.le_trans a.size q)
  wb h i hl hi := by
    rcases b.wb h i hl hi with q | ⟨i1, h1, e1⟩
    · exact .inl (Nat.le_trans a.size q)
    · rcases a.wb h i1 hl h1 with q | ⟨i0, h0, e0⟩
      · exact .inl (by omega)
      · exact .inr ⟨i0, h0, e0.trans e1⟩
  low h hl := (b.low h hl).trans (a.low h hl)
  nf x h := b.nf x (a.nf x h)
  frame x hx hn := by
    refine (b.frame x (Nat.lt_of_lt_of_le hx a.size) fun h i hl hi => ?_).trans (a.frame x hx hn)
    rcases a.wb h i hl hi with q | ⟨i0, h0, e0⟩
    · omega
    · rw [← e0]; exact hn h i0 hl h0

/-- A call that turns no object that was there speaks for every bound. -/
theorem Since.lower {lim lim' : Nat} {T T' : Nat → Prop} {w w' : World} {ρ : Rho} (a : Since lim T w ρ T' w' ρ) (hn : ∀ h, lim ≤ h → ρ h = none) : Since lim' T w ρ T' w' ρ where
  size := a.size
  os := a.os
  tape := a.tape
  output := a.output
  ext := a.ext
  tnew := a.tnew
  wb h i _ hi := .inr ⟨i, hi, rfl⟩
  low _ _ := rfl
  frame x hx _ := a.frame x hx fun h i hl hi => by rw [hn h hl] at hi; cases hi
  nf := a.nf

end
end Sx
