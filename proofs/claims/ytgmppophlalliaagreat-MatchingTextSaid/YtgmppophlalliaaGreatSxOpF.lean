/-
  Sx: each operation does what the evaluator says: append.
-/
import Derived.Test.YtgmppophlalliaaGreatSxOpE
namespace Sx
open Go
set_option linter.unusedSimpArgs false
set_option linter.unusedVariables false

section
variable {P : Program} {φ : Nat → Option Nat} {nt : Nat} {T0 : Nat → Prop} {w0 : World} {ρ0 : Rho} {T : Nat → Prop} {ρ : Rho} {tm : Env} {H : Hp} {a : Act} {w : World}

/-- Cells that hold elements one behind the other. -/
def ER (φ : Nat → Option Nat) (T : Nat → Prop) (w : World) (ρ : Rho) (sz : Nat) (ys : List (List AV)) (news : List Value) : Prop :=
  news.length = ys.length * sz ∧ (∀ e ∈ ys, e.length = sz) ∧ (∀ (k j : Nat) (e : List AV) (c : AV), ys[k]? = some e → e[j]? = some c → ∃ u, news[k * sz + j]? = some u ∧ VR φ T w ρ true c u) ∧ ∀ u ∈ news, u.oneCell' = true

theorem div_at {sz i j : Nat} (h : j < sz) : (i * sz + j) / sz = i ∧ (i * sz + j) % sz = j := by
  have h0 : 0 < sz := by omega
  constructor
  · rw [Nat.add_comm, Nat.add_mul_div_right _ _ h0, Nat.div_eq_of_lt h, Nat.zero_add]
  · rw [Nat.add_comm, Nat.add_mul_mod_self_right, Nat.mod_eq_of_lt h]

theorem src_of (hr : HR φ T w ρ H.obs) {sz : Nat} {y : AV} {u : Value} {ys : List (List AV)} (hy : VR φ T w ρ true y u) (he : evEls H sz y = some ys) (h0 : 0 < sz) :
    ∃ news, (Builtin.lenOf u).run P w = .ok ys.length w ∧ (Builtin.firstCells sz ys.length u).run P w = .ok news.toArray w ∧ ER φ T w ρ sz ys news := by
  unfold evEls at he
  split at he
  · rename_i sz' n f
    split at he
    · rename_i hs
      cases he
      subst hs
      cases hy with
      | ro0 =>
        rename_i A cap
        refine ⟨[], by simp [Builtin.lenOf], ?_, by simp, by simp, fun k j e c h => by simp at h, by simp⟩
        cases A <;> simp [Builtin.firstCells, loadCells, loadCellsFrom]
      | ro g0 g1 g2 g3 g4 g5 g6 g7 =>
        rename_i cap ad us
        have hidx : ∀ k, k < n * sz → k / sz < n ∧ k % sz < sz := fun k hk => ⟨Nat.div_lt_of_lt_mul (by rw [Nat.mul_comm]; exact hk), Nat.mod_lt _ h0⟩
        have hat : ∀ k, k < n * sz → ∃ u, (us (k / sz))[k % sz]? = some u := fun k hk => by
          obtain ⟨a1, a2⟩ := hidx k hk
          exact ⟨_, List.getElem?_eq_getElem (by rw [g4 _ a1]; exact a2)⟩
        refine ⟨(List.range (n * sz)).map fun k => (us (k / sz)).getD (k % sz) undef, by simp [Builtin.lenOf], ?_, by simp, ?_, ?_, ?_⟩
        · simp only [Builtin.firstCells, List.length_map, List.length_range]
          refine run_loadCells w ad (n * sz) _ fun k hk => ?_
          obtain ⟨a1, a2⟩ := hidx k hk
          obtain ⟨u, hu⟩ := hat k hk
          have := g5 (k / sz) (k % sz) u a1 hu
          rw [Nat.mul_comm, Nat.div_add_mod] at this
          rw [this]
          simp [List.getD, hu]
        · intro e he
          simp at he
          obtain ⟨i, hi, rfl⟩ := he
          exact g3 i hi
        · intro k j e c hk hc
          rw [List.getElem?_map] at hk
          cases hrk : (List.range n)[k]? with
          | none => rw [hrk] at hk; cases hk
          | some q =>
            rw [hrk] at hk
            simp at hk
            have hkn : k < n := by have := (List.getElem?_eq_some_iff.1 hrk).1; simpa using this
            have hq : q = k := by have := (List.getElem?_eq_some_iff.1 hrk).2; simpa using this.symm
            subst hq
            subst hk
            have hj : j < sz := by have := (List.getElem?_eq_some_iff.1 hc).1; rw [g3 q hkn] at this; exact this
            obtain ⟨d1, d2⟩ := div_at (i := q) hj
            have hlt : q * sz + j < n * sz := by
              have : (q + 1) * sz ≤ n * sz := Nat.mul_le_mul_right _ hkn
              rw [Nat.add_mul] at this; omega
            obtain ⟨u, hu⟩ := hat _ hlt
            rw [d1, d2] at hu
            refine ⟨u, ?_, (g7 q j c u hkn hc hu).up true⟩
            rw [List.getElem?_map, List.getElem?_range hlt]
            simp [d1, d2, List.getD, hu]
        · intro u hu
          simp at hu
          obtain ⟨k, hk, rfl⟩ := hu
          obtain ⟨a1, a2⟩ := hidx k hk
          obtain ⟨u, hu⟩ := hat k hk
          rw [hu]
          exact g6 _ u a1 (List.mem_of_getElem? hu)
    · cases he
  · rename_i h ver off len
    cases hg : H.get h ver with
    | none => rw [hg] at he; cases he
    | some ob =>
      rw [hg] at he
      simp only [Option.bind_some] at he
      split at he
      · rename_i hs
        cases he
        obtain ⟨hs1, hs2⟩ := hs
        subst hs1
        obtain ⟨_, _, inf', arr, ty, e1, e2, e3, e4, e5, e6, e7, e8, e9, e10, e11⟩ := hr.live hg
        cases hy with
        | sl h1 h2 h3 h4 =>
          rw [h1] at e1; cases e1
          obtain ⟨q1, q2, q3, q4⟩ := h4 e2.symm
          subst q1; subst q2; subst h3
          rename_i len cap
          have hll : ((ob.2.drop off).take len).length = len := by simp; omega
          have hsz : (off + len) * ob.1 ≤ arr.size := by rw [e6]; exact Nat.mul_le_mul_right _ (by omega)
          rw [Nat.add_mul] at hsz
          refine ⟨(arr.toList.drop (off * ob.1)).take (len * ob.1), by simp [Builtin.lenOf]; omega, ?_, by rw [hll]; simp; omega, ?_, ?_, ?_⟩
          · rw [hll]
            simp only [Builtin.firstCells]
            have := run_loadCells_list (P := P) w ⟨inf'.blk, off * inf'.sz, none⟩ ((arr.toList.drop (off * ob.1)).take (len * ob.1)) (fun j u hu => by
              rw [List.getElem?_take] at hu
              split at hu
              · rw [List.getElem?_drop] at hu
                rw [add_mk, e3]
                simp [World.cell?, e5]
                simpa using hu
              · cases hu)
            rw [show ((arr.toList.drop (off * ob.1)).take (len * ob.1)).length = len * ob.1 from by simp; omega] at this
            exact this
          · intro e he
            exact e8 e (List.mem_of_mem_drop (List.mem_of_mem_take he))
          · intro k j e c hk hc
            rw [List.getElem?_take] at hk
            split at hk
            · rename_i hkl
              rw [List.getElem?_drop] at hk
              obtain ⟨u, u1, u2⟩ := e9 (off + k) j e c hk hc
              refine ⟨u, ?_, u2⟩
              have hj : j < ob.1 := by have := (List.getElem?_eq_some_iff.1 hc).1; rw [e8 e (List.mem_of_getElem? hk)] at this; exact this
              have hlt : k * ob.1 + j < len * ob.1 := by
                have : (k + 1) * ob.1 ≤ len * ob.1 := Nat.mul_le_mul_right _ hkl
                rw [Nat.add_mul] at this; omega
              rw [List.getElem?_take, if_pos hlt, List.getElem?_drop]
              rw [Nat.add_mul, Nat.add_assoc] at u1
              simpa using u1
            · cases hk
          · intro u hu
            exact e10 u (List.mem_of_mem_drop (List.mem_of_mem_take hu))
      · cases he
  · cases he
    cases hy
    exact ⟨[], by simp [Builtin.lenOf], by simp [Builtin.firstCells], by simp, by simp, fun k j e c h => by simp at h, by simp⟩
  · rename_i s
    split at he
    · rename_i hs
      cases he
      subst hs
      cases hy
      have hlen : s.toList.length = s.size := by rw [ByteArray.toList_eq]; simp
      have hex : (s.extract 0 s.size).data = s.data := by
        apply Array.ext'
        simp [ByteArray.data_extract]
      refine ⟨s.toList.map fun b => .int .u8 b.toNat, by simp [Builtin.lenOf, hlen], ?_, by simp, ?_, ?_, ?_⟩
      · simp only [Builtin.firstCells, List.length_map, hlen, hex, Sem.run_pure]
        rw [ByteArray.toList_eq]
        congr 1
        apply Array.ext'
        simp
      · intro e he; simp at he; obtain ⟨b, _, rfl⟩ := he; rfl
      · intro k j e c hk hc
        rw [List.getElem?_map] at hk
        cases hb : s.toList[k]? with
        | none => rw [hb] at hk; cases hk
        | some b =>
          rw [hb] at hk
          simp at hk
          subst hk
          cases j with
          | zero => simp at hc; subst hc; exact ⟨.int .u8 b.toNat, by simp [hb], .v⟩
          | succ j => simp at hc
      · intro u hu; simp at hu; obtain ⟨b, _, rfl⟩ := hu; rfl
    · cases he
  · cases he

theorem setRow_setB {w : World} {g : Nat} {old cs : Array Value} {t : TypeId} {fr : Nat × Nat} (hg : w.heap[g]? = some (.cells old t fr)) : w.setRow g cs = setB w g (.cells cs t fr) := by
  have hlt : g < w.heap.size := (Array.getElem?_eq_some_iff.1 hg).1
  have he : w.heap[g] = .cells old t fr := (Array.getElem?_eq_some_iff.1 hg).2
  unfold World.setRow setB
  congr 1
  apply Array.ext_getElem?
  intro i
  rw [Array.getElem?_modify, Array.getElem?_setIfInBounds]
  by_cases hi : g = i
  · subst hi
    simp [hlt, he]
  · simp [hi]

/-- Only a draw. -/
def drewW (w : World) : World := { w with drawn := w.drawn + 1 }

theorem since_drew (lim : Nat) (T : Nat → Prop) (w : World) (ρ : Rho) : Since lim T w ρ T (drewW w) ρ :=
  ⟨Nat.le_refl _, rfl, rfl, rfl, ⟨fun _ h => h, fun _ _ => rfl, fun h i hi => ⟨i, hi, Nat.le_refl _, fun _ => rfl, fun _ => rfl⟩⟩, fun _ h => .inl h, fun _ i _ h => .inr ⟨i, h, rfl⟩, fun _ _ => rfl, fun _ _ _ => rfl, fun _ h => h⟩

theorem HR.drew {obs : List AO} (h : HR φ T w ρ obs) : HR φ T (drewW w) ρ obs := h.since (since_drew obs.length T w ρ) h.out h.old

/-- The bounds of an append. -/
theorem fits {need old bytes : Nat} (h : old < need) (hb : need * bytes ≤ 2 ^ 44) : ¬ Builtin.nextslicecap need old * bytes > 2 ^ 48 := by
  have := growslice_fits (need := need) (old := old) (bytes := bytes) h (by have : (2 : Nat) ^ 44 = 17592186044416 := by decide
                                                                            omega)
  have : (2 : Nat) ^ 48 = 281474976710656 := by decide
  omega

theorem size_zero (z : Array Value) (n : Nat) : (Builtin.zeroCells z n).size = n * z.size := by simp [Builtin.zeroCells]

theorem zero_one {z : Array Value} (hz : ∀ u ∈ z.toList, u.oneCell' = true) (n : Nat) : ∀ u ∈ (Builtin.zeroCells z n).toList, u.oneCell' = true := by
  intro u hu
  simp [Builtin.zeroCells] at hu
  obtain ⟨i, hi, rfl⟩ := hu
  have h0 : 0 < z.size := by
    rcases Nat.eq_zero_or_pos z.size with h | h
    · rw [h] at hi; simp at hi
    · exact h
  have hm : i % z.size < z.size := Nat.mod_lt _ h0
  rw [getElem!_pos z _ hm]
  exact hz _ (by simp)

/-- An append that makes new memory: what the machine does. -/
theorem run_grow {t u e : TypeId} {ty : TypeId} {sz bytes n cap m : Nat} {A : Option Addr} {y : Value} {z : Value} {olds news : List Value} (ht : P.underlying t = some (.slice e)) (hu : (∃ e', P.underlying u = some (.slice e')) ∨ P.underlying u = some .string)
    (hs : sizeT P e = some sz) (hb : bytesT P e = some bytes) (hz : (zeroValue e).run P (drewW w) = .ok z (drewW w)) (hzs : z.cells.size = sz) (h0 : 0 < bytes)
    (h1 : (Builtin.lenOf y).run P w = .ok m w) (h2 : (Builtin.firstCells sz m y).run P (drewW w) = .ok news.toArray (drewW w)) (h3 : (Builtin.firstCells sz n (.slice A n cap)).run P (drewW w) = .ok olds.toArray (drewW w))
    (hg : cap < n + m) (hbig : (n + m) * bytes ≤ 2 ^ 44) (hsm : n + m ≤ 2 ^ 44) :
    ∃ c, n + m ≤ c ∧ (Builtin.append_ #[t, u] ty #[.slice A n cap, y]).run P w = .ok (.slice (some ⟨w.heap.size, 0, none⟩) (n + m) c) (pushW (drewW w) (.cells (olds ++ news ++ (Builtin.zeroCells z.cells (c - (n + m))).toList).toArray e)) := by
  unfold bytesT at hb
  cases hi : P.info? e with
  | none => rw [hi] at hb; cases hb
  | some i =>
    rw [hi] at hb
    simp at hb
    have h44 : (2 : Nat) ^ 44 = 17592186044416 := by decide
    have hmx : IntKind.i64.max = 9223372036854775807 := by decide
    refine ⟨Question.cut (.appendCap (n + m) cap e) (w.tape w.drawn (.appendCap (n + m) cap e)), by simp [Question.cut], ?_⟩
    have e1 : ¬ (n + m ≤ cap) := by omega
    have e3 := fits hg hbig
    have hnn : ¬ (9223372036854775807 < (n : Int) + (m : Int)) := by omega
    have e4 : ¬ (281474976710656 < Builtin.nextslicecap (n + m) cap * bytes) := by
      have h48 : (2 : Nat) ^ 48 = 281474976710656 := by decide
      omega
    have hq : (choose (.appendCap (n + m) cap e)).run P w = .ok (Question.cut (.appendCap (n + m) cap e) (w.tape w.drawn (.appendCap (n + m) cap e))) (drewW w) := by
      simp [run_choose, Question.forced, drewW]
    have hA : ∀ (w : World) (o : Obj), w.alloc o = pushW w o := fun _ _ => rfl
    have hD : w.drew = drewW w := rfl
    rcases hu with ⟨e', hd⟩ | hd
    all_goals
      simp [Builtin.append_, run_und ht, run_sizeT hs, run_und hd, run_typeInfo' hi, e1, h1, hb, hnn, e4, hq, h2, h3, hz, newRow, Question.forced, hD, hA]
      exact ⟨rfl, by congr 2; apply Array.ext'; simp⟩

/-- An append within the capacity. -/
theorem run_room {t u e : TypeId} {ty : TypeId} {sz len cap m b : Nat} {y : Value} {news : List Value} {arr : Array Value} {tb : TypeId} (ht : P.underlying t = some (.slice e)) (hu : (∃ e', P.underlying u = some (.slice e')) ∨ P.underlying u = some .string)
    (hs : sizeT P e = some sz) (h1 : (Builtin.lenOf y).run P w = .ok m w) (h2 : (Builtin.firstCells sz m y).run P w = .ok news.toArray w) (hroom : len + m ≤ cap)
    (hb : w.heap[b]? = some (.cells arr tb (0, 0))) (hfit : len * sz + news.length ≤ arr.size) (h3 : ∀ u ∈ news, u.oneCell' = true) :
    (Builtin.append_ #[t, u] ty #[.slice (some ⟨b, 0, none⟩) len cap, y]).run P w = .ok (.slice (some ⟨b, 0, none⟩) (len + m) cap)
      (setB w b (.cells (arr.toList.take (len * sz) ++ news ++ arr.toList.drop (len * sz + news.length)).toArray tb (0, 0))) := by
  have hst := run_storeCells_at P b (len * sz) tb news 0 arr w hb (by omega) h3
  rw [setRow_setB hb] at hst
  simp only [Nat.add_zero] at hst
  rcases hu with ⟨e', hd'⟩ | hd'
  · simp [Builtin.append_, run_und ht, run_sizeT hs, run_und hd', h1, h2, hroom, add_mk, hst]
  · simp [Builtin.append_, run_und ht, run_sizeT hs, run_und hd', h1, h2, hroom, add_mk, hst]

theorem ER.nil (sz : Nat) : ER φ T w ρ sz [] [] := ⟨by simp, by simp, fun k j e c h => by simp at h, by simp⟩

theorem ER.append {sz : Nat} {xs ys : List (List AV)} {us vs : List Value} (hx : ER φ T w ρ sz xs us) (hy : ER φ T w ρ sz ys vs) : ER φ T w ρ sz (xs ++ ys) (us ++ vs) := by
  obtain ⟨a1, a2, a3, a4⟩ := hx
  obtain ⟨b1, b2, b3, b4⟩ := hy
  refine ⟨by simp [a1, b1, Nat.add_mul], fun e he => ?_, fun k j e c hk hc => ?_, fun u hu => ?_⟩
  · rcases List.mem_append.1 he with h | h
    · exact a2 e h
    · exact b2 e h
  · rw [List.getElem?_append] at hk
    split at hk
    · rename_i hlt
      obtain ⟨u, q1, q2⟩ := a3 k j e c hk hc
      exact ⟨u, by rw [List.getElem?_append_left (List.getElem?_eq_some_iff.1 q1).1]; exact q1, q2⟩
    · rename_i hge
      obtain ⟨u, q1, q2⟩ := b3 _ j e c hk hc
      refine ⟨u, ?_, q2⟩
      have : us.length ≤ k * sz + j := by rw [a1]; have := Nat.mul_le_mul_right sz (Nat.le_of_not_lt hge); omega
      rw [List.getElem?_append_right this, a1]
      have e1 : k * sz + j - xs.length * sz = (k - xs.length) * sz + j := by
        have h1 : xs.length * sz ≤ k * sz := Nat.mul_le_mul_right sz (Nat.le_of_not_lt hge)
        rw [Nat.sub_mul]; omega
      rw [e1]; exact q1
  · rcases List.mem_append.1 hu with h | h
    · exact a4 u h
    · exact b4 u h

theorem ER.mono {T' : Nat → Prop} {w' : World} {ρ' : Rho} {sz : Nat} {xs : List (List AV)} {us : List Value} (h : ER φ T w ρ sz xs us) (e : Ext T w ρ T' w' ρ') : ER φ T' w' ρ' sz xs us :=
  ⟨h.1, h.2.1, fun k j x c a b => let ⟨u, q1, q2⟩ := h.2.2.1 k j x c a b; ⟨u, q1, q2.mono e⟩, h.2.2.2⟩

set_option maxHeartbeats 2000000 in
theorem op_app {t u e ty : TypeId} {sz bytes : Nat} {zl : List AV} {x y : AV} {xv yv : Value} {r : AV × Hp} {dst : Option Nat} (hR : RL φ nt T0 w0 ρ0 T ρ tm H a w) (hd : dst.all (fun d => d < nt) = true)
    (ht : P.underlying t = some (.slice e)) (hu : (∃ e', P.underlying u = some (.slice e')) ∨ P.underlying u = some .string)
    (hs : sizeT P e = some sz) (hb : bytesT P e = some bytes) (hz : zeroT P e = some zl) (hzl : zl.length = sz) (h0 : 0 < sz) (hb0 : 0 < bytes)
    (hx : VR φ T w ρ true x xv) (hy : VR φ T w ρ true y yv) (he : evApp H sz bytes x y = some r) :
    ∃ v w' T' ρ', (Builtin.append_ #[t, u] ty #[xv, yv]).run P w = .ok v w' ∧ RL φ nt T0 w0 ρ0 T' ρ' (putD dst r.1 tm) r.2 (a.put dst v) w' := by
  unfold evApp at he
  cases hys : evEls H sz y with
  | none => rw [hys] at he; cases he
  | some ys =>
    rw [hys] at he
    simp only [Option.bind_some] at he
    obtain ⟨news, n1, n2, n3⟩ := src_of (P := P) hR.hr hy hys h0
    have hd1 : RL φ nt T0 w0 ρ0 T ρ tm H a (drewW w) := hR.step (since_drew H.lim T w ρ) hR.hr.drew rfl (Nat.le_refl _)
    have hyd : VR φ T (drewW w) ρ true y yv := hy.mono (since_drew H.lim T w ρ).ext
    obtain ⟨news', m1, m2, m3⟩ := src_of (P := P) hd1.hr hyd hys h0
    obtain ⟨z, z1, z2, z3⟩ := run_zeroT (w := drewW w) hz
    have zs : z.cells.size = sz := by rw [z2] at hzl; simpa using hzl
    have hl44 : (2 : Nat) ^ 44 = 17592186044416 := by decide
    split at he
    · -- nil
      cases hx
      split at he
      · rename_i hbd
        split at he
        · rename_i h00
          cases he
          rw [h00] at n1 n2
          have hn : news = [] := List.eq_nil_of_length_eq_zero (by have := n3.1; rw [h00] at this; simpa using this)
          refine ⟨.slice none 0 0, w, T, ρ, ?_, hR.val hd .v⟩
          subst hn
          rcases hu with ⟨e', hd'⟩ | hd' <;>
            simp [Builtin.append_, run_und ht, run_sizeT hs, run_und hd', n1, n2]
        · rename_i h00
          cases he
          obtain ⟨c, c1, c2⟩ := run_grow (P := P) (w := w) (t := t) (u := u) (ty := ty) (n := 0) (cap := 0) (A := none) (y := yv) (olds := []) (news := news') ht hu hs hb z1 zs hb0 n1 m2 (by simp [Builtin.firstCells]) (by omega) (by simpa using hbd.1) (by simpa using hbd.2)
          simp only [Nat.zero_add, List.nil_append] at c1 c2
          have key := hd1.newObj (dst := dst) (els := ys) (sz := sz) (cap := c) (cells := (news' ++ (Builtin.zeroCells z.cells (c - ys.length)).toList).toArray) (t := e)
            (x := .sl H.obs.length 0 0 ys.length) (v := .slice (some ⟨w.heap.size, 0, none⟩) ys.length c) hd h0
            (by simp [size_zero, zs, m3.1]; rw [← Nat.add_mul]; congr 1; omega) c1 m3.2.1
            (fun k j e' q a1 a2 => by
              obtain ⟨u', u1, u2⟩ := m3.2.2.1 k j e' q a1 a2
              refine ⟨u', ?_, u2⟩
              have := (List.getElem?_eq_some_iff.1 u1).1
              simp only [List.getElem?_toArray]
              rw [List.getElem?_append_left this]
              exact u1)
            (fun q hq => by
              simp only [List.mem_append] at hq
              rcases hq with hq | hq
              · exact m3.2.2.2 q hq
              · exact zero_one z3 _ q hq)
            (fun inf i1 i2 i3 i4 => VR.sl (inf := inf) (by simp [setR]) (by omega) rfl (fun _ => ⟨by rw [i1]; simp; rfl, rfl, c1, by rw [i4]; omega⟩))
          exact ⟨_, _, T, _, c2, key⟩
      · cases he
    · -- an object
      rename_i h ver off len
      cases hg : H.get h ver with
      | none => rw [hg] at he; cases he
      | some ob =>
        rw [hg] at he
        simp only [Option.bind_some] at he
        split at he
        · rename_i hc
          obtain ⟨hc1, hc2, hc3, hc4, hc5, hc6⟩ := hc
          cases he
          obtain ⟨hlt, hob, inf', arr, ty', e1, e2, e3, e4, e5, e6, e7, e8, e9, e10, e11⟩ := hR.hr.live hg
          subst hc1
          cases hx with
          | sl g1 g2 g3 g4 =>
            rw [g1] at e1; cases e1
            obtain ⟨q1, q2, q3, q4⟩ := g4 e2.symm
            subst q1; subst q2; subst g3; subst hc3
            rename_i len cap
            have hsz : len * ob.1 ≤ arr.size := by rw [e6]; exact Nat.mul_le_mul_right _ (by omega)
            have hcap : cap * ob.1 ≤ arr.size := by rw [e6]; exact Nat.mul_le_mul_right _ (by omega)
            by_cases hroom : len + ys.length ≤ cap
            · -- there is room
              have hfit : len * ob.1 + news.length ≤ arr.size := by
                have : (len + ys.length) * ob.1 ≤ cap * ob.1 := Nat.mul_le_mul_right _ hroom
                rw [Nat.add_mul] at this
                rw [n3.1]; omega
              have hrun := run_room (P := P) (w := w) (t := t) (u := u) (ty := ty) (y := yv) ht hu hs n1 n2 hroom e5 hfit n3.2.2.2
              rw [Nat.zero_mul]
              refine ⟨_, _, T, setR ρ h { inf' with ver := inf'.ver + 1 }, hrun, ?_⟩
              have s := since_setB (lim := H.lim) hR.hr g1 hc2 (.cells (arr.toList.take (len * ob.1) ++ news ++ arr.toList.drop (len * ob.1 + news.length)).toArray ty' (0, 0)) { inf' with ver := inf'.ver + 1 } ⟨rfl, by simp, by simp, by omega⟩
              have hold : ER φ T w ρ ob.1 (ob.2.take len) (arr.toList.take (len * ob.1)) := by
                refine ⟨by simp [Nat.min_eq_left hc4]; omega, fun e' he' => e8 e' (List.mem_of_mem_take he'), fun k j e' q a1 a2 => ?_, fun q hq => e10 q (List.mem_of_mem_take hq)⟩
                rw [List.getElem?_take] at a1
                have hkl : k < len := by
                  by_cases q : k < len
                  · exact q
                  · rw [if_neg q] at a1; cases a1
                rw [if_pos hkl] at a1
                obtain ⟨u', u1, u2⟩ := e9 k j e' q a1 a2
                refine ⟨u', ?_, u2⟩
                have hj : j < ob.1 := by have := (List.getElem?_eq_some_iff.1 a2).1; rw [e8 e' (List.mem_of_getElem? a1)] at this; exact this
                have hk : k < ob.2.length := (List.getElem?_eq_some_iff.1 a1).1
                have : (k + 1) * ob.1 ≤ len * ob.1 := Nat.mul_le_mul_right _ (by omega)
                rw [Nat.add_mul] at this
                rw [List.getElem?_take, if_pos (by omega)]
                simpa using u1
              have hnew := (hold.append n3).mono s.ext
              have hr' : HR φ T (setB w inf'.blk (.cells (arr.toList.take (len * ob.1) ++ news ++ arr.toList.drop (len * ob.1 + news.length)).toArray ty' (0, 0))) (setR ρ h { inf' with ver := inf'.ver + 1 }) (H.obs.set h (.sl (ver + 1) ob.1 (ob.2.take len ++ ys))) := by
                refine hR.hr.putObj hlt { inf' with ver := inf'.ver + 1 } _ s.ext (fun b hb => .inl hb) (fun b hb => by have := hR.hr.old b hb; simpa [setB] using this) (fun k i hk hi => ?_) ?_
                · have hne : i.blk ≠ inf'.blk := fun q => hk (hR.hr.inj k h i inf' hi g1 q)
                  exact ⟨hne, setB_far _ _ _ _ hne⟩
                · refine ⟨{ inf' with ver := inf'.ver + 1 }, _, ty', by simp [setR], by simp [e2], e3, h0, setB_at _ _ _ (hR.hr.has g1).1, ?_, ?_, hnew.2.1, ?_, ?_, e11⟩
                  · simp only [List.size_toArray, List.length_append, List.length_take, List.length_drop, Array.length_toList]
                    rw [← e6]
                    omega
                  · simp; omega
                  · intro k j e' q a1 a2
                    obtain ⟨u', u1, u2⟩ := hnew.2.2.1 k j e' q a1 a2
                    refine ⟨u', ?_, u2⟩
                    have := (List.getElem?_eq_some_iff.1 u1).1
                    simp only [List.getElem?_toArray]
                    rw [List.getElem?_append_left this]
                    exact u1
                  · intro q hq
                    simp only [List.mem_append] at hq
                    rcases hq with (hq | hq) | hq
                    · exact e10 q (List.mem_of_mem_take hq)
                    · exact n3.2.2.2 q hq
                    · exact e10 q (List.mem_of_mem_drop hq)
              have r := hR.step (H' := H.put h (.sl (ver + 1) ob.1 (ob.2.take len ++ ys))) s hr' rfl (by simp [Hp.put])
              refine r.val hd (VR.sl (inf := { inf' with ver := inf'.ver + 1 }) (by simp [setR]) (by simp; omega) rfl (fun _ => ⟨by simp, rfl, hroom, by simp; omega⟩))
            · -- it grows
              rw [Nat.zero_mul]
              have hold : (Builtin.firstCells ob.1 len (.slice (some ⟨inf'.blk, 0, none⟩) len cap)).run P (drewW w) = .ok (arr.toList.take (len * ob.1)).toArray (drewW w) := by
                simp only [Builtin.firstCells]
                have := run_loadCells_list (P := P) (drewW w) ⟨inf'.blk, 0, none⟩ (arr.toList.take (len * ob.1)) (fun j u hu => by
                  rw [List.getElem?_take] at hu
                  split at hu
                  · rw [add_mk]
                    have e5' : (drewW w).heap[inf'.blk]? = some (.cells arr ty' (0, 0)) := e5
                    simp [World.cell?, e5']
                    simpa using hu
                  · cases hu)
                rw [show (arr.toList.take (len * ob.1)).length = len * ob.1 from by simp; omega] at this
                exact this
              obtain ⟨c, c1, c2⟩ := run_grow (P := P) (w := w) (t := t) (u := u) (ty := ty) (n := len) (cap := cap) (A := some ⟨inf'.blk, 0, none⟩) (y := yv) ht hu hs hb z1 zs hb0 n1 m2 hold (by omega) hc5 hc6
              have hER : ER φ T (drewW w) ρ ob.1 (ob.2.take len) (arr.toList.take (len * ob.1)) := by
                refine ⟨by simp [Nat.min_eq_left hc4]; omega, fun e' he' => e8 e' (List.mem_of_mem_take he'), fun k j e' q a1 a2 => ?_, fun q hq => e10 q (List.mem_of_mem_take hq)⟩
                rw [List.getElem?_take] at a1
                have hkl : k < len := by
                  by_cases q : k < len
                  · exact q
                  · rw [if_neg q] at a1; cases a1
                rw [if_pos hkl] at a1
                obtain ⟨u', u1, u2⟩ := e9 k j e' q a1 a2
                refine ⟨u', ?_, u2.mono (since_drew H.lim T w ρ).ext⟩
                have hj : j < ob.1 := by have := (List.getElem?_eq_some_iff.1 a2).1; rw [e8 e' (List.mem_of_getElem? a1)] at this; exact this
                have hk : k < ob.2.length := (List.getElem?_eq_some_iff.1 a1).1
                have : (k + 1) * ob.1 ≤ len * ob.1 := Nat.mul_le_mul_right _ (by omega)
                rw [Nat.add_mul] at this
                rw [List.getElem?_take, if_pos (by omega)]
                simpa using u1
              generalize hcl : (arr.toList.take (len * ob.1) ++ news' ++ (Builtin.zeroCells z.cells (c - (len + ys.length))).toList).toArray = cells at c2
              have hbelow := (hR.hr.has g1).1
              have sp := since_push (lim := H.lim) hd1.hr (.cells cells e) T (fun _ q => q) (fun _ q => .inl q)
              have s := since_move sp g1 hc2 ⟨w.heap.size, ver + 1, ob.1, c⟩ ⟨Nat.le_refl _, by simp; omega, by omega⟩
              have hnew := (hER.append m3).mono s.ext
              have hr' : HR φ T (pushW (drewW w) (.cells cells e)) (setR ρ h ⟨w.heap.size, ver + 1, ob.1, c⟩) (H.obs.set h (.sl (ver + 1) ob.1 (ob.2.take len ++ ys))) := by
                refine hd1.hr.putObj hlt ⟨w.heap.size, ver + 1, ob.1, c⟩ _ s.ext (fun b hb => .inl hb) (fun b hb => by have := hR.hr.old b hb; simp [pushW, drewW]; omega) (fun k i hk hi => ?_) ?_
                · have := (hR.hr.has hi).1
                  exact ⟨by simp; omega, push_old _ _ _ this⟩
                · refine ⟨⟨w.heap.size, ver + 1, ob.1, c⟩, cells, e, by simp [setR], rfl, rfl, h0, push_new (drewW w) _, ?_, ?_, hnew.2.1, ?_, ?_, fun q => ?_⟩
                  · rw [← hcl]
                    simp only [List.size_toArray, List.length_append, List.length_take, Array.length_toList, size_zero, zs, m3.1]
                    have : c * ob.1 = len * ob.1 + ys.length * ob.1 + (c - (len + ys.length)) * ob.1 := by rw [← Nat.add_mul, ← Nat.add_mul]; congr 1; omega
                    rw [this]; omega
                  · simp; omega
                  · intro k j e' q a1 a2
                    obtain ⟨u', u1, u2⟩ := hnew.2.2.1 k j e' q a1 a2
                    refine ⟨u', ?_, u2⟩
                    have := (List.getElem?_eq_some_iff.1 u1).1
                    rw [← hcl]
                    simp only [List.getElem?_toArray]
                    rw [List.getElem?_append_left this]
                    exact u1
                  · intro q hq
                    rw [← hcl] at hq
                    simp only [List.mem_append] at hq
                    rcases hq with (hq | hq) | hq
                    · exact e10 q (List.mem_of_mem_take hq)
                    · exact m3.2.2.2 q hq
                    · exact zero_one z3 _ q hq
                  · have := hR.hr.old _ q; simp only at this; omega
              have r := hd1.step (H' := H.put h (.sl (ver + 1) ob.1 (ob.2.take len ++ ys))) s hr' rfl (by simp [Hp.put])
              exact ⟨_, _, T, _, c2, r.val hd (VR.sl (inf := ⟨w.heap.size, ver + 1, ob.1, c⟩) (by simp [setR]) (Nat.le_refl _) rfl (fun _ => ⟨by simp, rfl, c1, by simp⟩))⟩
        · cases he
    · cases he
end
end Sx
