/-
  K: the round over a map in graph.Valid, by hand.
-/
import Derived.Test.YtgmppophlalliaaGreatSxPre
namespace Sx
open Go
set_option linter.unusedSimpArgs false
set_option linter.unusedVariables false

abbrev CI : CK := .int .i64
abbrev CP : CK := .pair CI CI
abbrev CW : CK := .pair CP CI

/-- The weight of an entry, 0 if there is none. -/
def wlook (l : List ((Int × Int) × Int)) (a b : Int) : Int := optD (α := Int) (mfind CP CI (a, b) l) 0

/-- Each entry has one the other way round. -/
def wsym (l : List ((Int × Int) × Int)) : Bool := l.all fun e => !(wlook l e.1.2 e.1.1 != e.2)

def or_graph_Valid {R : Type} (N : Nat) (st : KSt) (k : KK R) : Option R :=
  match kget 7 st.tmps with
  | .mp h => kO? st.obs[h]? fun o => obDec [(true, CW)] [o] fun y => chk (decide (y.1.length < N)) (sel (wsym y.1) (k .nrm ⟨[], []⟩) (k .ret ⟨[(2, .b false)], []⟩))
  | _ => none

theorem obs_push (H : Hp) (o : AO) : (H.push o).obs = H.obs ++ [o] := rfl

set_option maxRecDepth 8000 in
/-- A round. -/
theorem valid_mid {N : Nat} {call : CallF} {H : Hp} {j J n q : Nat} {es : List (AV × AV)} {s : Array Nat} {l : List ((Int × Int) × Int)} (hj : H.obs[j]? = some (.mp es)) (hr : RM CP CI l es) (hl : l.length = n) (hq : q < n)
    (hJ : H.obs[J]? = some (.it j n (some (s.push q)))) {a b w : Int} (hx : l[q]? = some ((a, b), w)) :
    evC N call m_graph_Valid_L3 { tmps := (112, .b true) :: (111, .tup [.b true, (es.getD q (.U, .U)).1, (es.getD q (.U, .U)).2]) :: [(7, .mp j), (110, .it J)], hp := H } =
      if wlook l b a != w then some (.ret, { tmps := [(2, .b false)], hp := H }) else some (.nrm, { tmps := [(7, .mp j), (110, .it J), (124, .b false)], hp := H }) := by
  have hlen : l.length = es.length := hr.1
  have hql : q < es.length := by omega
  have he : es[q]? = some (es.getD q (.U, .U)) := by simp [List.getD, hql]
  have hen : es.length = n := by omega
  obtain ⟨hk, hv⟩ := hr.2 q _ _ hx he
  have hkey : (es.getD q (.U, .U)).1 = .agg [.i a, .i b] := by
    obtain ⟨cs, e1, f⟩ := (show ∃ cs, (es.getD q (.U, .U)).1 = .agg cs ∧ FL (ofTy CP (a, b)) cs from hk)
    obtain ⟨u, as1, rfl, f1, f⟩ := f.head
    obtain ⟨v, as2, rfl, f2, f⟩ := f.head
    obtain rfl := f.nil'
    cases f1; cases f2
    exact e1
  have hval : (es.getD q (.U, .U)).2 = .i w := by
    obtain ⟨u, as1, e1, f1, f⟩ := hv.head
    cases f1
    exact (List.cons.inj e1).1
  have hlook : evLook H true [0, 0] (.i 0) false (.mp j) (.agg [.i b, .i a]) = some (.i (wlook l b a)) := by
    have hkr : KeyR CP (b, a) (.agg [.i b, .i a]) := (show ∃ cs, AV.agg [.i b, .i a] = .agg cs ∧ FL (ofTy CP (b, a)) cs from ⟨_, rfl, .cons .i (.one .i)⟩)
    obtain ⟨o, h1, h2⟩ := find_ok (kc := CP) (vc := CI) (ks := [0, 0]) rfl hkr l es 0 hr
    have h1' : evFind true [0, 0] (.agg [.i b, .i a]) es 0 = some o := h1
    simp only [evLook, keyOK, List.length_cons, List.length_nil, BEq.rfl, if_true, hj, h1']
    unfold wlook
    cases hm : mfind CP CI (b, a) l with
    | some v =>
      rw [hm] at h2
      obtain ⟨i, c, rfl, f, _⟩ := h2
      obtain ⟨u, as1, e1, f1, _⟩ := f.head
      cases e1; cases f1
      rfl
    | none =>
      rw [hm] at h2
      obtain ⟨rfl, _⟩ := h2
      rfl
  generalize es.getD q (.U, .U) = en at he hkey hval ⊢
  obtain ⟨k1, v1⟩ := en
  simp only at hkey hval
  subst hkey
  subst hval
  have hback : (s.push q).back? = some q := by simp
  by_cases hc : wlook l b a != w
  · simp [m_graph_Valid_L3, evOp, evO, evBuild, hJ, hj, hen, hback, he, hlook, hc, takeK, fillC, evFadr, evLoad, evBin, binI, AV.known, AV.solid, AV.cells, oneC]
  · simp [m_graph_Valid_L3, evOp, evO, evBuild, hJ, hj, hen, hback, he, hlook, hc, takeK, fillC, evFadr, evLoad, evBin, binI, AV.known, AV.solid, AV.cells, oneC]
theorem keep_same (j J : Nat) (x : AV) (q : Nat) : get q (keepL [7, 110] [(7, .mp j), (110, .it J), (124, x)]) = get q (keepL [7, 110] [(7, AV.mp j), (110, .it J)]) := by simp

theorem entry_of {l : List ((Int × Int) × Int)} {q : Nat} (h : q < l.length) : ∃ a b w, l[q]? = some ((a, b), w) := ⟨_, _, _, List.getElem?_eq_getElem h⟩

set_option maxRecDepth 8000 in
theorem ora_graph_Valid {R : Type} (N d : Nat) (hd : 0 ≤ d) (call : CallF) (hcall : call = evF prg0 N (d + 1)) {ck : KCall R} (hC : CkOK ck call) :
    OraOK (R := R) N call (.seq (.reg [⟨some 109, .mv (.t 7), none⟩, ⟨some 110, .rng (.t 109), none⟩] [7, 110]) (.block 6 (.each 110 111 112 [7, 110] [(2, .bool false)] m_graph_Valid_L3))) (or_graph_Valid N) := by
  intro st k r ρ S h hS
  unfold or_graph_Valid at h
  split at h
  · rename_i g hg
    obtain ⟨o, ho, h⟩ := kO?_some h
    have h' : obDec [(true, CW)] [o] (fun y => chk (decide (y.1.length < N)) (sel (wsym y.1) (k .nrm ⟨[], []⟩) (k .ret ⟨[(2, .b false)], []⟩))) = some r := h
    clear h
    have hx1 : ∃ l : List ((Int × Int) × Int), chk (decide (l.length < N)) (sel (wsym l) (k .nrm ⟨[], []⟩) (k .ret ⟨[(2, .b false)], []⟩)) = some r ∧ o = ⟨CW, l, true⟩ := by
      obtain ⟨x, h1, hx⟩ := obDec_ok [(true, CW)] h'
      refine ⟨x.1, h1, ?_⟩
      have : [(⟨CW, x.1, true⟩ : KO)] = [o] := hx
      exact (List.cons.inj this).1.symm
    clear h'
    obtain ⟨l, hx2, rfl⟩ := hx1
    obtain ⟨hlt, h⟩ := chk_some.1 hx2
    clear hx2
    have hlt : l.length < N := by simpa using hlt
    have hv := hS.env 7
    rw [hg] at hv
    obtain ⟨j, e1, hr⟩ := hv.mp_inv
    obtain ⟨ao, hH, hob⟩ := hS.hr.real g _ j ho hr
    cases hob with
    | mp hrm =>
      rename_i es
      have hrm : RM CP CI l es := hrm
      have hlen : l.length = es.length := hrm.1
      have hjl : j < S.hp.obs.length := (List.getElem?_eq_some_iff.1 hH).1
      let J := S.hp.obs.length
      let n := es.length
      let H1 := S.hp.push (.it j n (some #[]))
      have hJ1 : H1.obs[J]? = some (.it j n (some #[])) := by simp [H1, J, Hp.push]
      have hj1 : H1.obs[j]? = some (.mp es) := by
        show (S.hp.obs ++ [_])[j]? = _
        rw [List.getElem?_append_left hjl]; exact hH
      have hJl : J < H1.obs.length := by simp [H1, J, Hp.push]
      have hne : J ≠ j := by omega
      have put_J : ∀ o, (H1.put J o).obs[J]? = some o := fun o => by simp only [Hp.put]; rw [List.getElem?_set]; simp [hJl]
      have put_j : ∀ o, (H1.put J o).obs[j]? = some (.mp es) := fun o => by simp only [Hp.put]; rw [List.getElem?_set, if_neg hne]; exact hj1
      have hreg : evC N call (.reg [⟨some 109, .mv (.t 7), none⟩, ⟨some 110, .rng (.t 109), none⟩] [7, 110]) S = some (.nrm, { tmps := [(7, .mp j), (110, .it J)], hp := H1 }) := by
        simp [evOp, evO, e1, hH, H1, J, n]
      have hmid : ∀ (s : Array Nat) (q : Nat) (a b w : Int), l[q]? = some ((a, b), w) →
          evC N call m_graph_Valid_L3 { tmps := (112, .b true) :: (111, .tup [.b true, (es.getD q (.U, .U)).1, (es.getD q (.U, .U)).2]) :: keepL [7, 110] [(7, .mp j), (110, .it J)], hp := H1.put J (.it j n (some (s.push q))) } =
            if wlook l b a != w then some (.ret, { tmps := [(2, .b false)], hp := H1.put J (.it j n (some (s.push q))) }) else some (.nrm, { tmps := [(7, .mp j), (110, .it J), (124, .b false)], hp := H1.put J (.it j n (some (s.push q))) }) := by
        intro s q a b w hx
        have hql : q < l.length := (List.getElem?_eq_some_iff.1 hx).1
        exact valid_mid (put_j _) hrm hlen (by omega) (put_J _) hx
      have hfin : noNrm (evC N call m_graph_Valid_L3 { tmps := (112, .b false) :: (111, .tup [.b false]) :: keepL [7, 110] [(7, .mp j), (110, .it J)], hp := H1.put J (.it j n none) }) = some (.exit 6, { tmps := (112, .b false) :: (111, .tup [.b false]) :: keepL [7, 110] [(7, .mp j), (110, .it J)], hp := H1.put J (.it j n none) }) := by
        simp [m_graph_Valid_L3, noNrm]
      have heach : ∀ v, eachGo [7, 110] n (keepL [7, 110] [(7, .mp j), (110, .it J)])
            (fun s q => evC N call m_graph_Valid_L3 { tmps := (112, .b true) :: (111, .tup [.b true, (es.getD q (.U, .U)).1, (es.getD q (.U, .U)).2]) :: keepL [7, 110] [(7, .mp j), (110, .it J)], hp := H1.put J (.it j n (some (s.push q))) })
            (fun s q => H1.put J (.it j n (some (s.push q)))) [(2, .bool false)]
            (noNrm (evC N call m_graph_Valid_L3 { tmps := (112, .b false) :: (111, .tup [.b false]) :: keepL [7, 110] [(7, .mp j), (110, .it J)], hp := H1.put J (.it j n none) }))
            (H1.put J (.it j n none)) = v →
          evC N call (.each 110 111 112 [7, 110] [(2, .bool false)] m_graph_Valid_L3) { tmps := [(7, .mp j), (110, .it J)], hp := H1 } = v := by
        intro v hv
        show evEach [7, 110] 110 111 112 [(2, .bool false)] N (evC N call m_graph_Valid_L3) { tmps := [(7, .mp j), (110, .it J)], hp := H1 } = v
        unfold evEach
        have e2 : get 110 (keepL [7, 110] [(7, AV.mp j), (110, .it J)]) = .it J := by simp
        simp only [e2, hJ1, hj1]
        rw [if_pos ⟨by simp, rfl, by show S.hp.lim ≤ _; rw [hS.lim]; omega, by omega, by show es.length < N; omega⟩]
        exact hv
      have hfr : ∀ (H' : Hp), H'.obs = H1.obs.set J (.it j n none) → Fr ρ S.hp.obs (fun _ => none) H'.obs := by
        intro H' e
        refine ⟨by rw [e]; simp [H1, Hp.push], fun i hi hn => ⟨?_, fun h e => by cases e⟩⟩
        rw [e, List.getElem?_set, if_neg (by omega)]
        show (S.hp.obs ++ [_])[i]? = _
        rw [List.getElem?_append_left hi]
      have hr0 : ∀ (H' : Hp), HRel (fun _ => none) H'.obs [] := fun H' => ⟨fun _ _ _ h => by (cases h), fun h => by simp, fun _ _ _ h => by simp at h, fun _ _ h => by simp at h⟩
      have hlim : (H1.put J (.it j n none)).lim = 0 := hS.lim
      rcases sel_some h with ⟨hw, h⟩ | ⟨hw, h⟩
      · refine ⟨.nrm, ⟨[], []⟩, { tmps := (112, .b false) :: (111, .tup [.b false]) :: keepL [7, 110] [(7, .mp j), (110, .it J)], hp := H1.put J (.it j n none) }, fun _ => none, h, ?_, ⟨fun s => .U, hr0 _, hlim⟩, hfr _ rfl⟩
        rw [evC_seq, hreg, thenC_nrm, evC_block, heach (some (.exit 6, { tmps := (112, .b false) :: (111, .tup [.b false]) :: keepL [7, 110] [(7, .mp j), (110, .it J)], hp := H1.put J (.it j n none) }))]
        · simp
        · unfold eachGo
          rw [if_pos, hfin]
          intro s q hq
          obtain ⟨a, b, w, hx⟩ := entry_of (l := l) (q := q) (by rw [hlen]; exact hq)
          have hwx : wlook l b a = w := by
            have := List.all_eq_true.1 hw ((a, b), w) (List.mem_of_getElem? hx)
            simpa using this
          refine ⟨_, by show evC N call m_graph_Valid_L3 _ = _; rw [hmid s q a b w hx, if_neg (by simp [hwx])], rfl, fun p => keep_same j J _ p⟩
      · refine ⟨.ret, ⟨[(2, .b false)], []⟩, { tmps := [(2, .b false)], hp := H1.put J (.it j n none) }, fun _ => none, h, ?_, ⟨fun s => ?_, hr0 _, hlim⟩, hfr _ rfl⟩
        · rw [evC_seq, hreg, thenC_nrm, evC_block, heach (some (.ret, { tmps := [(2, .b false)], hp := H1.put J (.it j n none) }))]
          · simp
          · have hbad : ∃ (q : Nat) (a b w : Int), l[q]? = some ((a, b), w) ∧ wlook l b a ≠ w := by
              have : ¬ (wsym l = true) := by rw [hw]; simp
              unfold wsym at this
              rw [List.all_eq_true] at this
              apply Classical.byContradiction
              intro hno
              apply this
              intro e he
              obtain ⟨q, hq⟩ := List.getElem?_of_mem he
              obtain ⟨⟨a, b⟩, w⟩ := e
              have : wlook l b a = w := Classical.byContradiction fun hne => hno ⟨q, a, b, w, hq, hne⟩
              simp [this]
            obtain ⟨q0, a0, b0, w0, hx0, hne0⟩ := hbad
            have hq0 : q0 < n := by have := (List.getElem?_eq_some_iff.1 hx0).1; show q0 < es.length; omega
            have hret : ∀ s : Array Nat, evC N call m_graph_Valid_L3 { tmps := (112, .b true) :: (111, .tup [.b true, (es.getD q0 (.U, .U)).1, (es.getD q0 (.U, .U)).2]) :: keepL [7, 110] [(7, .mp j), (110, .it J)], hp := H1.put J (.it j n (some (s.push q0))) } = some (.ret, { tmps := [(2, .b false)], hp := H1.put J (.it j n (some (s.push q0))) }) := fun s => by
              rw [hmid s q0 a0 b0 w0 hx0, if_pos (by simpa using hne0)]
            unfold eachGo
            rw [if_neg, if_pos, if_pos]
            · rfl
            · exact ⟨q0, hq0, fun s => ⟨_, hret s⟩⟩
            · intro s q hq
              obtain ⟨a, b, w, hx⟩ := entry_of (l := l) (q := q) (by rw [hlen]; exact hq)
              by_cases hwx : wlook l b a = w
              · exact .inl ⟨_, by show evC N call m_graph_Valid_L3 _ = _; rw [hmid s q a b w hx, if_neg (by simp [hwx])], rfl, fun p => keep_same j J _ p⟩
              · exact .inr ⟨_, by show evC N call m_graph_Valid_L3 _ = _; rw [hmid s q a b w hx, if_pos (by simpa using hwx)], rfl, fun p hp => by simp at hp; subst hp; rfl⟩
            · intro hall
              obtain ⟨st', h1, _⟩ := hall #[] q0 hq0
              have h2 := (hret #[]).symm.trans h1
              cases h2
        · rw [kget_cons]
          simp only [get_cons']
          split
          · exact .free .b
          · exact .U
  · cases h

/-! ### Closed graphs -/

abbrev aI (l : List Int) : Arr Int := arrL 0 l
abbrev aL (l : List (Int × Int)) : Arr (Int × Int) := arrL (0, 0) l
abbrev nilRow : Arr (Int × Int) := ⟨0, fun _ => (0, 0)⟩
abbrev aG (l : List (Arr (Int × Int))) : Arr (Arr (Int × Int)) := arrL nilRow l

theorem fv_ints (l : List Int) : FV (.ro (.int .i64) (aI l)) (ints l) := by
  have h : FV (.ro (.int .i64) (aI l)) (.ro 1 (aI l).n fun i => (l.map fun x => [AV.i x]).getD i []) := FV.mkRo (c := .int .i64) (x := aI l) (f := fun i => (l.map fun x => [AV.i x]).getD i []) fun i hi => by
    have hi : i < l.length := hi
    have : (l.map fun x => [AV.i x]).getD i [] = [AV.i (l.getD i 0)] := by simp [List.getD, hi]
    rw [this]
    exact .one .i
  have e : ints l = .ro 1 (aI l).n fun i => (l.map fun x => [AV.i x]).getD i [] := by simp [ints, roL, arrL]
  rw [e]; exact h

theorem fv_row (l : List (Int × Int)) : FV (.ro (.pair (.int .i64) (.int .i64)) (aL l)) (row l) := by
  have h : FV (.ro (.pair (.int .i64) (.int .i64)) (aL l)) (.ro 2 (aL l).n fun i => (l.map fun x => [AV.i x.1, AV.i x.2]).getD i []) := FV.mkRo (c := .pair (.int .i64) (.int .i64)) (x := aL l) (f := fun i => (l.map fun (x : Int × Int) => [AV.i x.1, AV.i x.2]).getD i []) fun i hi => by
    have hi : i < l.length := hi
    have : (l.map fun x => [AV.i x.1, AV.i x.2]).getD i [] = [AV.i (l.getD i (0, 0)).1, AV.i (l.getD i (0, 0)).2] := by simp [List.getD, hi]
    rw [this]
    exact .cons .i (.one .i)
  have e : row l = .ro 2 (aL l).n fun i => (l.map fun x => [AV.i x.1, AV.i x.2]).getD i [] := by simp [row, roL, arrL]
  rw [e]; exact h

theorem fv_rows (ls : List (List (Int × Int))) : FV (.ro (.arr (.pair (.int .i64) (.int .i64))) (aG (ls.map aL))) (rows ls) := by
  have h : FV (.ro (.arr (.pair (.int .i64) (.int .i64))) (aG (ls.map aL))) (.ro 1 (aG (ls.map aL)).n fun i => (ls.map fun r => [row r]).getD i []) := FV.mkRo (c := .arr (.pair (.int .i64) (.int .i64))) (x := aG (ls.map aL)) (f := fun i => (ls.map fun r => [row r]).getD i []) fun i hi => by
    have hi : i < ls.length := by simpa [arrL] using hi
    have e1 : (ls.map fun r => [row r]).getD i [] = [row (ls.getD i [])] := by simp [List.getD, hi]
    have e2 : (aG (ls.map aL)).f i = aL (ls.getD i []) := by simp [arrL, List.getD, hi]
    rw [e1, e2]
    exact .one (fv_row _)
  have e : rows ls = .ro 1 (aG (ls.map aL)).n fun i => (ls.map fun r => [row r]).getD i [] := by simp [rows, roL, arrL]
  rw [e]; exact h

/-- A region of closed operations. -/
theorem ora_closed {R : Type} {N : Nat} {call : CallF} {c : MC} {tm : KEnv} {am : Env} (hv : ∀ ρ H, KE ρ H tm am) (hrun : 100 ≤ N → ∀ S : St, S.hp.lim = 0 → evC N call c S = some (.nrm, { tmps := am, hp := S.hp })) :
    OraOK (R := R) N call c (fun st k => chk (decide (100 ≤ N)) (k .nrm ⟨tm, []⟩)) := by
  intro st k r ρ S h hS
  obtain ⟨h1, h⟩ := chk_some.1 h
  have hN : 100 ≤ N := by simpa using h1
  refine ⟨.nrm, ⟨tm, []⟩, { tmps := am, hp := S.hp }, fun _ => none, h, hrun hN S hS.lim, ⟨hv _ _, ⟨fun _ _ _ h => by (cases h), fun h => by simp, fun _ _ _ h => by simp at h, fun _ _ h => by simp at h⟩, hS.lim⟩, Nat.le_refl _, fun j hj hn => ⟨rfl, fun h e => by cases e⟩⟩

theorem KE.one' {ρ : Rh} {H : List AO} {s : Nat} {v : KV} {a : AV} (h : FV v a) : KE ρ H [(s, v)] [(s, a)] := fun q => by
  rw [kget_cons, get_cons']
  split
  · exact .free h
  · exact .U

/-! ### selfstablaw34.known -/

def or_selfstablaw34_known_1 {R : Type} (N : Nat) (_ : KSt) (k : KK R) : Option R :=
  chk (decide (100 ≤ N)) (k .nrm ⟨[(1, .rp [.ro (.int .i64) (aI [0, 1, 2]), .ro (.arr (.pair (.int .i64) (.int .i64))) (aG [aL [(1, 1)], aL [(0, 1), (2, 1)], aL [(1, 1)]])])], []⟩)


set_option maxRecDepth 8000 in
theorem ora_selfstablaw34_known_1 {R : Type} (N d : Nat) (hd : 10 ≤ d) (call : CallF) (hcall : call = evF prg0 N (d + 1)) {ck : KCall R} (hC : CkOK ck call) :
    OraOK (R := R) N call (.reg [⟨some 3, .lit 1 [.v (Value.int .i64 0), .v (Value.int .i64 0)] [(0, 1, (.c (Value.int IntKind.i64 0))), (1, 1, (.c (Value.int IntKind.i64 1)))] false, none⟩,
    ⟨some 4, .build [.v (Value.int .i64 0), .v (Value.slice none 0 0), .v (Value.slice none 0 0), .v (Value.slice none 0 0), .v (Value.bool false), .v (Value.bool false)] [(0, 1, (.c (Value.int IntKind.i64 3))), (1, 1, (.t 3))], none⟩,
    ⟨some 5, .call 31 [.t 4, .c (Value.int IntKind.i64 3)], none⟩,
    ⟨some 1, .alloc [.v (Value.slice none 0 0), .v (Value.slice none 0 0)], none⟩,
    ⟨none, .store 2 (.t 1) (.t 5), none⟩] [1]) (or_selfstablaw34_known_1 N) := by
  refine ora_closed (am := [(1, .rp [ints [0, 1, 2], rows [[(1, 1)], [(0, 1), (2, 1)], [(1, 1)]]])]) (fun ρ H => KE.one' ?_) (fun hN S hS => ?_)
  · have f : FL [.ro (.int .i64) (aI [0, 1, 2]), .ro (.arr (.pair (.int .i64) (.int .i64))) (aG [aL [(1, 1)], aL [(0, 1), (2, 1)], aL [(1, 1)]])] [ints [0, 1, 2], rows [[(1, 1)], [(0, 1), (2, 1)], [(1, 1)]]] := .cons (fv_ints _) (.one (fv_rows [[(1, 1)], [(0, 1), (2, 1)], [(1, 1)]]))
    exact .rp f.1 f.2
  · subst hcall
    obtain ⟨n, rfl⟩ : ∃ n, N = n + 100 := ⟨N - 100, by omega⟩
    obtain ⟨d, rfl⟩ : ∃ d', d = d' + 10 := ⟨d - 10, by omega⟩
    kernel_rfl
end Sx
