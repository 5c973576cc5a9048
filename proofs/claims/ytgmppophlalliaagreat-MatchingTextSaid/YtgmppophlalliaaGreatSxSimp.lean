/-
  Sx: laws for evaluating: calls, loops, values.
-/
import Derived.Test.YtgmppophlalliaaGreatSxArg
namespace Sx
open Go
set_option linter.unusedSimpArgs false
set_option linter.unusedVariables false

@[simp] theorem get_nil (s : Nat) : get s [] = .U := rfl
@[simp] theorem get_cons' (k s : Nat) (x : AV) (r : Env) : get s ((k, x) :: r) = if k = s then x else get s r := rfl
@[simp] theorem ev_t (tm : Env) (n : Nat) : ev tm (.t n) = get n tm := rfl
@[simp] theorem ev_c (tm : Env) (v : Value) : ev tm (.c v) = .v v := rfl
@[simp] theorem ev_f (tm : Env) (g : Nat) : ev tm (.f g) = .fn g [] := rfl
@[simp] theorem wanted_none (tm : Env) : wanted tm none = some true := rfl
@[simp] theorem putD_some (d : Nat) (x : AV) (tm : Env) : putD (some d) x tm = (d, x) :: tm := rfl
@[simp] theorem putD_none (x : AV) (tm : Env) : putD none x tm = tm := rfl
@[simp] theorem keepL_nil (tm : Env) : keepL [] tm = [] := rfl
@[simp] theorem keepL_cons (k : Nat) (l : List Nat) (tm : Env) : keepL (k :: l) tm = (k, get k tm) :: keepL l tm := rfl
@[simp] theorem app_val (st : St) (d : Option Nat) (x : AV) : app st d (.val x) = { tmps := putD d x st.tmps, hp := st.hp } := rfl
@[simp] theorem app_valH (st : St) (d : Option Nat) (x : AV) (H : Hp) : app st d (.valH x H) = { tmps := putD d x st.tmps, hp := H } := rfl
@[simp] theorem app_slot (st : St) (d : Option Nat) (s : Nat) (x : AV) : app st d (.slot s x) = { tmps := putD d (.v (.tuple #[])) ((s, x) :: st.tmps), hp := st.hp } := rfl
@[simp] theorem app_hp' (st : St) (d : Option Nat) (H : Hp) : app st d (.hp H) = { tmps := putD d (.v (.tuple #[])) st.tmps, hp := H } := rfl
@[simp] theorem known_v (x : Value) : (AV.v x).known = true := rfl
@[simp] theorem known_ro (a b : Nat) (f : Nat → List AV) : (AV.ro a b f).known = true := rfl
@[simp] theorem known_rp (cs : List AV) : (AV.rp cs).known = true := rfl
@[simp] theorem known_agg (cs : List AV) : (AV.agg cs).known = true := rfl
@[simp] theorem known_tup (cs : List AV) : (AV.tup cs).known = true := rfl
@[simp] theorem known_fn (g : Nat) (cs : List AV) : (AV.fn g cs).known = true := rfl
@[simp] theorem known_hp (a b c d : Nat) : (AV.hp a b c d).known = true := rfl
@[simp] theorem known_sl (a b c d : Nat) : (AV.sl a b c d).known = true := rfl
@[simp] theorem known_mp (a : Nat) : (AV.mp a).known = true := rfl
@[simp] theorem known_it (a : Nat) : (AV.it a).known = true := rfl
@[simp] theorem roL_known (a : Nat) (l : List (List AV)) : (roL a l).known = true := rfl
@[simp] theorem roL_solid (a : Nat) (l : List (List AV)) : (roL a l).solid = true := rfl
@[simp] theorem roL_cells (a : Nat) (l : List (List AV)) : (roL a l).cells = [roL a l] := rfl
@[simp] theorem apart_v (d : Nat) (x : Value) : apart d (.v x) = true := by cases d <;> rfl
@[simp] theorem apart_ro (d a b : Nat) (f : Nat → List AV) : apart d (.ro a b f) = true := by cases d <;> rfl
@[simp] theorem apart_roL (d a : Nat) (l : List (List AV)) : apart d (roL a l) = true := by cases d <;> rfl
@[simp] theorem freeze_v (H : Hp) (d : Nat) (x : Value) : freeze H d (.v x) = some (.v x) := by cases d <;> rfl
@[simp] theorem freeze_ro (H : Hp) (d a b : Nat) (f : Nat → List AV) : freeze H d (.ro a b f) = some (.ro a b f) := by cases d <;> rfl
@[simp] theorem freeze_roL (H : Hp) (d a : Nat) (l : List (List AV)) : freeze H d (roL a l) = some (roL a l) := by cases d <;> rfl
@[simp] theorem len_roL (H : Hp) (a : Nat) (l : List (List AV)) : evLen H 1 (roL a l) = some (.i l.length) := rfl

theorem iadr_roL (H : Hp) (a : Nat) (l : List (List AV)) (k : IntKind) (i : Int) (h0 : 0 ≤ i) (h1 : i < l.length) : evIadr H a (roL a l) (.v (.int k i)) = some (.rp (l.getD i.toNat [])) := by
  unfold roL; simp only [evIadr, if_true]; rw [if_pos ⟨h0, h1⟩]

theorem iadr_nat (H : Hp) (a : Nat) (l : List (List AV)) (k : IntKind) (i : Nat) (h1 : i < l.length) : evIadr H a (roL a l) (.v (.int k (i : Int))) = some (.rp (l.getD i [])) := by
  rw [iadr_roL _ _ _ _ _ (by omega) (by omega)]; rfl

@[simp] theorem solid_v (x : Value) : (AV.v x).solid = oneC x := rfl
@[simp] theorem solid_agg (cs : List AV) : (AV.agg cs).solid = true := rfl
@[simp] theorem solid_rp (cs : List AV) : (AV.rp cs).solid = true := rfl
@[simp] theorem solid_ro (a b : Nat) (f : Nat → List AV) : (AV.ro a b f).solid = true := rfl
@[simp] theorem solid_sl (a b c d : Nat) : (AV.sl a b c d).solid = true := rfl
@[simp] theorem solid_hp (a b c d : Nat) : (AV.hp a b c d).solid = true := rfl
@[simp] theorem solid_mp (a : Nat) : (AV.mp a).solid = true := rfl
@[simp] theorem solid_fn (g : Nat) (cs : List AV) : (AV.fn g cs).solid = true := rfl
@[simp] theorem cells_v (x : Value) : (AV.v x).cells = [.v x] := rfl
@[simp] theorem cells_agg (cs : List AV) : (AV.agg cs).cells = cs := rfl
@[simp] theorem cells_rp (cs : List AV) : (AV.rp cs).cells = [.rp cs] := rfl
@[simp] theorem cells_ro (a b : Nat) (f : Nat → List AV) : (AV.ro a b f).cells = [.ro a b f] := rfl
@[simp] theorem cells_sl (a b c d : Nat) : (AV.sl a b c d).cells = [.sl a b c d] := rfl
@[simp] theorem cells_hp (a b c d : Nat) : (AV.hp a b c d).cells = [.hp a b c d] := rfl
@[simp] theorem cells_mp (a : Nat) : (AV.mp a).cells = [.mp a] := rfl
@[simp] theorem cells_fn (g : Nat) (cs : List AV) : (AV.fn g cs).cells = [.fn g cs] := rfl
@[simp] theorem one_one (x : AV) : one [x] = x := rfl
@[simp] theorem one_two (x y : AV) (r : List AV) : one (x :: y :: r) = .tup (x :: y :: r) := rfl
@[simp] theorem one_nil : one [] = .tup [] := rfl

@[simp] theorem evOps_nil (call : CallF) (st : St) : evOps call [] st = some st := rfl
@[simp] theorem evOps_cons (call : CallF) (m : MOp) (ms : List MOp) (st : St) : evOps call (m :: ms) st = thenO (evOp call st m) (evOps call ms) := rfl
@[simp] theorem wanted_some (tm : Env) (s : Nat) (w : Bool) : wanted tm (some (s, w)) = match get s tm with
    | .v (.bool b) => some (b == w)
    | .v (.tuple _) => some false
    | _ => none := rfl

@[simp] theorem evC_skip (N : Nat) (call : CallF) (st : St) : evC N call .skip st = some (.nrm, st) := rfl
@[simp] theorem evC_reg (N : Nat) (call : CallF) (ops : List MOp) (live : List Nat) (st : St) : evC N call (.reg ops live) st = thenO (evOps call ops st) fun st' => some (.nrm, { st' with tmps := keepL live st'.tmps }) := rfl
@[simp] theorem evC_seq (N : Nat) (call : CallF) (a b : MC) (st : St) : evC N call (.seq a b) st = thenC (evC N call a st) (evC N call b) := rfl
@[simp] theorem evC_cond (N : Nat) (call : CallF) (c : Opd) (a b : MC) (st : St) : evC N call (.cond c a b) st = condB (ev st.tmps c) (evC N call a st) (evC N call b st) := rfl
@[simp] theorem evC_block (N : Nat) (call : CallF) (id : Nat) (c : MC) (st : St) : evC N call (.block id c) st = endB id (evC N call c st) := rfl
@[simp] theorem evC_loop (N : Nat) (call : CallF) (keep : List Nat) (c : MC) (st : St) : evC N call (.loop keep c) st = loopN (evC N call c) keep N st := rfl
@[simp] theorem evC_exit (N : Nat) (call : CallF) (id : Nat) (st : St) : evC N call (.exit id) st = some (.exit id, st) := rfl
@[simp] theorem evC_ret (N : Nat) (call : CallF) (st : St) : evC N call .ret st = some (.ret, st) := rfl

attribute [simp] evOp evO evLoad takeK evFadr evBin binI condB_bool evRes evUn evEq eqCells eqCell evBuild fillC oneC argEnv


theorem w64 {n : Int} (h0 : -9223372036854775808 ≤ n) (h1 : n ≤ 9223372036854775807) : IntKind.i64.wrap n = n := by
  have e : IntKind.i64.wrap n = if n % 18446744073709551616 ≥ 9223372036854775808 then n % 18446744073709551616 - 18446744073709551616 else n % 18446744073709551616 := by
    simp [IntKind.wrap, IntKind.signed, IntKind.bits]
  rw [e]
  split <;> omega

/-- A call of a pure function whose arguments lean on nothing. -/
theorem evF_call {M : Prg} {N d g : Nat} {mf : MF} {args : List AV} {r : AV} {H : Hp} (hx : M.ext g = none) (hm : M.fns g = some mf) (hp : mf.pure = true) (ha : args.all (apart 8) = true) (h : evP N (evF M N d) mf args = some r) : evF M N (d + 1) g args H = some (r, H) := by
  simp only [evF, hx, hm, hp, if_true, ha, Option.bind_some, h, handP, Bool.true_or]

/-! ### Loops -/

/-- Rounds that go on or leave: the first that leaves says what comes out. -/
theorem loopN_search {body : St → Option (Ex × St)} {keep : List Nat} (n : Nat) (S : Nat → St) (f : Nat → Option (Ex × St)) (rl : Ex × St) (hf : ∀ i, i < n → ∀ e s, f i = some (e, s) → e ≠ .nrm) (hl : rl.1 ≠ .nrm)
    (step : ∀ i, i < n → body { (S i) with tmps := keepL keep (S i).tmps } = (match f i with | some r => some r | none => some (.nrm, S (i + 1))))
    (last : body { (S n) with tmps := keepL keep (S n).tmps } = some rl) {N : Nat} (hN : n < N) : loopN body keep N (S 0) = some (((List.range n).findSome? f).getD rl) := by
  have gen : ∀ (m i N : Nat), i + m = n → m < N → loopN body keep N (S i) = some (((List.range' i m).findSome? f).getD rl) := by
    intro m
    induction m with
    | zero =>
      intro i N hi hN
      obtain ⟨N, rfl⟩ : ∃ k, N = k + 1 := ⟨N - 1, by omega⟩
      have : i = n := by omega
      subst this
      simp only [loopN, last]
      obtain ⟨e, s⟩ := rl
      cases e with
      | nrm => exact absurd rfl hl
      | exit id => rfl
      | ret => rfl
    | succ m ih =>
      intro i N hi hN
      obtain ⟨N, rfl⟩ : ∃ k, N = k + 1 := ⟨N - 1, by omega⟩
      simp only [loopN, step i (by omega)]
      rw [List.range'_succ]
      cases hfi : f i with
      | none =>
        simp only [thenC_nrm, List.findSome?_cons, hfi]
        exact ih (i + 1) N (by omega) (by omega)
      | some r =>
        obtain ⟨e, s⟩ := r
        simp only [List.findSome?_cons, hfi, Option.getD_some]
        cases e with
        | nrm => exact absurd rfl (hf i (by omega) _ _ hfi)
        | exit id => rfl
        | ret => rfl
  have := gen n 0 N (by omega) hN
  rwa [← List.range_eq_range'] at this

/-- The first round that leaves hands on a value. -/
theorem loopN_find {α : Type} {body : St → Option (Ex × St)} {keep : List Nat} (n : Nat) (S0 : St) (S : Nat → St) (h0 : S0 = S 0) (g : Nat → Option α) (F : α → Ex × St) (rl : Ex × St) (hF : ∀ x, (F x).1 ≠ .nrm) (hl : rl.1 ≠ .nrm)
    (step : ∀ i, i < n → body { (S i) with tmps := keepL keep (S i).tmps } = (match g i with | some x => some (F x) | none => some (.nrm, S (i + 1))))
    (last : body { (S n) with tmps := keepL keep (S n).tmps } = some rl) {N : Nat} (hN : n < N) :
    loopN body keep N S0 = (match (List.range n).findSome? g with | some x => some (F x) | none => some rl) := by
  subst h0
  rw [loopN_search n S (fun i => (g i).map F) rl (fun i hi e s h => by
    cases hg : g i with
    | none => rw [hg] at h; cases h
    | some x => rw [hg] at h; simp at h; have := hF x; rw [h] at this; exact this) hl (fun i hi => by rw [step i hi]; cases g i <;> rfl) last hN]
  have : ∀ l : List Nat, l.findSome? (fun i => (g i).map F) = (l.findSome? g).map F := fun l => by
    induction l with
    | nil => rfl
    | cons i l ih => simp only [List.findSome?_cons]; cases g i <;> simp [ih]
  rw [this]
  cases (List.range n).findSome? g <;> rfl

/-- A round that is bad leaves, always with the same. -/
theorem loopN_any {body : St → Option (Ex × St)} {keep : List Nat} (n : Nat) (S0 : St) (S : Nat → St) (h0 : S0 = S 0) (bad : Nat → Bool) (R rl : Ex × St) (hR : R.1 ≠ .nrm) (hl : rl.1 ≠ .nrm)
    (step : ∀ i, i < n → body { (S i) with tmps := keepL keep (S i).tmps } = if bad i = true then some R else some (.nrm, S (i + 1)))
    (last : body { (S n) with tmps := keepL keep (S n).tmps } = some rl) {N : Nat} (hN : n < N) :
    loopN body keep N S0 = if (List.range n).any bad = true then some R else some rl := by
  rw [loopN_find n S0 S h0 (fun i => if bad i = true then some () else none) (fun _ => R) rl (fun _ => hR) hl (fun i hi => by rw [step i hi]; cases bad i <;> rfl) last hN]
  have : ∀ l : List Nat, l.findSome? (fun i => if bad i = true then some () else none) = if l.any bad = true then some () else none := fun l => by
    induction l with
    | nil => rfl
    | cons i l ih => by_cases hb : bad i = true <;> simp [List.findSome?_cons, hb, ih]
  rw [this]
  cases (List.range n).any bad <;> rfl

/-- Rounds that all go on. -/
theorem loopN_all {body : St → Option (Ex × St)} {keep : List Nat} (n : Nat) (S : Nat → St) (rl : Ex × St) (hl : rl.1 ≠ .nrm)
    (step : ∀ i, i < n → body { (S i) with tmps := keepL keep (S i).tmps } = some (.nrm, S (i + 1)))
    (last : body { (S n) with tmps := keepL keep (S n).tmps } = some rl) {N : Nat} (hN : n < N) : loopN body keep N (S 0) = some rl := by
  have := loopN_search n S (fun _ => none) rl (fun _ _ _ _ h => by cases h) hl (fun i hi => step i hi) last hN
  rw [this]
  have h : (List.range n).findSome? (fun _ => (none : Option (Ex × St))) = none := by simp
  rw [h]; rfl

/-! ### Typed values -/

def ints (l : List Int) : AV := roL 1 (l.map fun x => [.i x])
def row (r : List (Int × Int)) : AV := roL 2 (r.map fun x => [.i x.1, .i x.2])
def rows (ps : List (List (Int × Int))) : AV := roL 1 (ps.map fun r => [row r])
def graph (ids : List Int) (ps : List (List (Int × Int))) : AV := .agg [ints ids, rows ps]
def grid (c : List (List Int)) : AV := roL 1 (c.map fun r => [ints r])


/-- An element; simp leaves it alone. -/
def nth {α : Type} (l : List α) (i : Nat) (d : α) : α := l.getD i d

theorem getD_map' {α β : Type} (l : List α) (f : α → β) (i : Nat) (d : β) (e : α) (h : i < l.length) : (l.map f).getD i d = f (l.getD i e) := by
  simp [List.getD, List.getElem?_map, List.getElem?_eq_getElem h]

@[simp] theorem len_ints (H : Hp) (l : List Int) : evLen H 1 (ints l) = some (.i l.length) := by simp [ints]
@[simp] theorem len_row (H : Hp) (l : List (Int × Int)) : evLen H 1 (row l) = some (.i l.length) := by simp [row]
@[simp] theorem len_rows (H : Hp) (l : List (List (Int × Int))) : evLen H 1 (rows l) = some (.i l.length) := by simp [rows]
@[simp] theorem len_grid (H : Hp) (l : List (List Int)) : evLen H 1 (grid l) = some (.i l.length) := by simp [grid]
theorem iadr_ints (H : Hp) (l : List Int) (k : IntKind) (i : Nat) (h : i < l.length) : evIadr H 1 (ints l) (.v (.int k (i : Int))) = some (.rp [.i (nth l i 0)]) := by
  unfold ints; rw [iadr_nat _ _ _ _ _ (by simpa using h), getD_map' _ _ _ _ 0 h]; rfl
theorem iadr_row (H : Hp) (l : List (Int × Int)) (k : IntKind) (i : Nat) (h : i < l.length) : evIadr H 2 (row l) (.v (.int k (i : Int))) = some (.rp [.i (nth l i (0, 0)).1, .i (nth l i (0, 0)).2]) := by
  unfold row; rw [iadr_nat _ _ _ _ _ (by simpa using h), getD_map' _ _ _ _ (0, 0) h]; rfl
theorem iadr_rows (H : Hp) (l : List (List (Int × Int))) (k : IntKind) (i : Nat) (h : i < l.length) : evIadr H 1 (rows l) (.v (.int k (i : Int))) = some (.rp [row (nth l i [])]) := by
  unfold rows; rw [iadr_nat _ _ _ _ _ (by simpa using h), getD_map' _ _ _ _ [] h]; rfl
theorem iadr_grid (H : Hp) (l : List (List Int)) (k : IntKind) (i : Nat) (h : i < l.length) : evIadr H 1 (grid l) (.v (.int k (i : Int))) = some (.rp [ints (nth l i [])]) := by
  unfold grid; rw [iadr_nat _ _ _ _ _ (by simpa using h), getD_map' _ _ _ _ [] h]; rfl
@[simp] theorem known_ints (l : List Int) : (ints l).known = true := rfl
@[simp] theorem known_row (l : List (Int × Int)) : (row l).known = true := rfl
@[simp] theorem known_rows (l : List (List (Int × Int))) : (rows l).known = true := rfl
@[simp] theorem known_grid (l : List (List Int)) : (grid l).known = true := rfl
@[simp] theorem known_graph (ids : List Int) (l : List (List (Int × Int))) : (graph ids l).known = true := rfl
@[simp] theorem solid_ints (l : List Int) : (ints l).solid = true := rfl
@[simp] theorem solid_row (l : List (Int × Int)) : (row l).solid = true := rfl
@[simp] theorem solid_rows (l : List (List (Int × Int))) : (rows l).solid = true := rfl
@[simp] theorem solid_grid (l : List (List Int)) : (grid l).solid = true := rfl
@[simp] theorem solid_graph (ids : List Int) (l : List (List (Int × Int))) : (graph ids l).solid = true := rfl
@[simp] theorem cells_ints (l : List Int) : (ints l).cells = [ints l] := rfl
@[simp] theorem cells_row (l : List (Int × Int)) : (row l).cells = [row l] := rfl
@[simp] theorem cells_rows (l : List (List (Int × Int))) : (rows l).cells = [rows l] := rfl
@[simp] theorem cells_grid (l : List (List Int)) : (grid l).cells = [grid l] := rfl
@[simp] theorem cells_graph (ids : List Int) (l : List (List (Int × Int))) : (graph ids l).cells = [ints ids, rows l] := rfl
@[simp] theorem apart_ints (d : Nat) (l : List Int) : apart d (ints l) = true := by simp [ints]
@[simp] theorem apart_row (d : Nat) (l : List (Int × Int)) : apart d (row l) = true := by simp [row]
@[simp] theorem apart_rows (d : Nat) (l : List (List (Int × Int))) : apart d (rows l) = true := by simp [rows]
@[simp] theorem apart_grid (d : Nat) (l : List (List Int)) : apart d (grid l) = true := by simp [grid]
@[simp] theorem apart_graph (d : Nat) (ids : List Int) (l : List (List (Int × Int))) : apart (d + 1) (graph ids l) = true := by simp [graph, apart]
@[simp] theorem freeze_ints (H : Hp) (d : Nat) (l : List Int) : freeze H d (ints l) = some (ints l) := by simp [ints]
@[simp] theorem freeze_row (H : Hp) (d : Nat) (l : List (Int × Int)) : freeze H d (row l) = some (row l) := by simp [row]
@[simp] theorem freeze_rows (H : Hp) (d : Nat) (l : List (List (Int × Int))) : freeze H d (rows l) = some (rows l) := by simp [rows]
@[simp] theorem freeze_grid (H : Hp) (d : Nat) (l : List (List Int)) : freeze H d (grid l) = some (grid l) := by simp [grid]


/-! ### Step by step -/

theorem evOps_step {call : CallF} {m : MOp} {ms : List MOp} {st st' : St} {r : Option St} (h1 : evOp call st m = some st') (h2 : evOps call ms st' = r) : evOps call (m :: ms) st = r := by
  rw [evOps_cons, h1]; exact h2

theorem reg_step {N : Nat} {call : CallF} {ops : List MOp} {live : List Nat} {st st' : St} {tm : Env} (h : evOps call ops st = some st') (hk : keepL live st'.tmps = tm) : evC N call (.reg ops live) st = some (.nrm, { tmps := tm, hp := st'.hp }) := by
  rw [evC_reg, h, ← hk]; rfl

theorem seq_step {N : Nat} {call : CallF} {a b : MC} {st st' : St} {r : Option (Ex × St)} (h1 : evC N call a st = some (.nrm, st')) (h2 : evC N call b st' = r) : evC N call (.seq a b) st = r := by
  rw [evC_seq, h1]; exact h2

theorem seq_ret {N : Nat} {call : CallF} {a b : MC} {st st' : St} (h1 : evC N call a st = some (.ret, st')) : evC N call (.seq a b) st = some (.ret, st') := by
  rw [evC_seq, h1]; rfl

theorem seq_exit {N : Nat} {call : CallF} {a b : MC} {st st' : St} {id : Nat} (h1 : evC N call a st = some (.exit id, st')) : evC N call (.seq a b) st = some (.exit id, st') := by
  rw [evC_seq, h1]; rfl

theorem cond_true {N : Nat} {call : CallF} {c : Opd} {a b : MC} {st : St} {r : Option (Ex × St)} (h1 : ev st.tmps c = .b true) (h2 : evC N call a st = r) : evC N call (.cond c a b) st = r := by
  rw [evC_cond, h1]; exact h2

theorem cond_false {N : Nat} {call : CallF} {c : Opd} {a b : MC} {st : St} {r : Option (Ex × St)} (h1 : ev st.tmps c = .b false) (h2 : evC N call b st = r) : evC N call (.cond c a b) st = r := by
  rw [evC_cond, h1]; exact h2

theorem block_nrm {N : Nat} {call : CallF} {id : Nat} {c : MC} {st st' : St} (h : evC N call c st = some (.nrm, st')) : evC N call (.block id c) st = some (.nrm, st') := by
  rw [evC_block, h]; rfl

theorem block_exit {N : Nat} {call : CallF} {id : Nat} {c : MC} {st st' : St} (h : evC N call c st = some (.exit id, st')) : evC N call (.block id c) st = some (.nrm, st') := by
  rw [evC_block, h]; simp

theorem block_ret {N : Nat} {call : CallF} {id : Nat} {c : MC} {st st' : St} (h : evC N call c st = some (.ret, st')) : evC N call (.block id c) st = some (.ret, st') := by
  rw [evC_block, h]; rfl


theorem seq_any {N : Nat} {call : CallF} {a b : MC} {st : St} {x r : Option (Ex × St)} (h1 : evC N call a st = x) (h2 : thenC x (evC N call b) = r) : evC N call (.seq a b) st = r := by
  rw [evC_seq, h1]; exact h2

theorem block_any {N : Nat} {call : CallF} {id : Nat} {c : MC} {st : St} {x r : Option (Ex × St)} (h1 : evC N call c st = x) (h2 : endB id x = r) : evC N call (.block id c) st = r := by
  rw [evC_block, h1]; exact h2

theorem cond_any {N : Nat} {call : CallF} {c : Opd} {a b : MC} {st : St} {t : Bool} {r : Option (Ex × St)} (h1 : ev st.tmps c = .b t) (h2 : (if t = true then evC N call a st else evC N call b st) = r) : evC N call (.cond c a b) st = r := by
  rw [evC_cond, h1]; exact h2

theorem loop_any {N : Nat} {call : CallF} {keep : List Nat} {c : MC} {st : St} {x : Option (Ex × St)} (h1 : loopN (evC N call c) keep N st = x) : evC N call (.loop keep c) st = x := h1

theorem then_nrm {a : St} {k : St → Option (Ex × St)} {r : Option (Ex × St)} (h : k a = r) : thenC (some (.nrm, a)) k = r := h
theorem then_ret {a : St} {k : St → Option (Ex × St)} : thenC (some (.ret, a)) k = some (.ret, a) := rfl
theorem then_exit {a : St} {id : Nat} {k : St → Option (Ex × St)} : thenC (some (.exit id, a)) k = some (.exit id, a) := rfl

end Sx
