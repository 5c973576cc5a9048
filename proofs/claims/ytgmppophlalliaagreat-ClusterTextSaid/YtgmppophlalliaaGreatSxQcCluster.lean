/-
  Q: program.Parse at the text, the sanity check, and the law behind them, run by the kernel.
-/
import Derived.Test.YtgmppophlalliaaGreatSxQr
namespace Sx.Q
open Go
set_option linter.unusedVariables false

def vCluster : V := (.tup (.cons (.agg (.cons (.s 7 32199698172701795) (.cons (.ro 6 0 2 2 (.nd (.cons (.s 1 109) (.cons (.i 3 2) (.cons (.i 3 0) (.cons (.i 3 0) (.cons (.i 3 0) (.cons (.i 3 0) .nil)))))) (.nd (.cons (.s 1 104) (.cons (.i 3 3) (.cons (.i 3 0) (.cons (.i 3 0) (.cons (.i 3 0) (.cons (.i 3 0) .nil)))))) .nil .nil) .nil)) (.cons (.ro 3 0 3 3 (.nd (.cons (.s 5 435777791340) (.cons (.ro 2 0 4 4 (.nd (.cons (.i 3 41) (.cons (.i 3 0) .nil)) (.nd (.cons (.i 3 5) (.cons (.i 3 0) .nil)) (.nd (.cons (.i 3 12) (.cons (.i 3 0) .nil)) .nil .nil) .nil) (.nd (.cons (.i 3 21) (.cons (.i 3 0) .nil)) .nil .nil))) (.cons (.ro 2 0 1 1 (.nd (.cons (.i 3 0) (.cons (.ro 2 0 1 1 (.nd (.cons (.i 3 3) (.cons (.i 3 0) .nil)) .nil .nil)) .nil)) .nil .nil)) .nil))) (.nd (.cons (.s 5 491328400997) (.cons (.ro 2 0 6 6 (.nd (.cons (.i 3 41) (.cons (.i 3 0) .nil)) (.nd (.cons (.i 3 19) (.cons (.i 3 0) .nil)) (.nd (.cons (.i 3 19) (.cons (.i 3 0) .nil)) .nil .nil) (.nd (.cons (.i 3 12) (.cons (.i 3 0) .nil)) .nil .nil)) (.nd (.cons (.i 3 5) (.cons (.i 3 0) .nil)) (.nd (.cons (.i 3 21) (.cons (.i 3 0) .nil)) .nil .nil) .nil))) (.cons (.ro 2 0 1 1 (.nd (.cons (.i 3 0) (.cons (.ro 2 0 1 1 (.nd (.cons (.i 3 2) (.cons (.i 3 0) .nil)) .nil .nil)) .nil)) .nil .nil)) .nil))) .nil .nil) (.nd (.cons (.s 5 500068609904) (.cons (.ro 2 0 7 7 (.nd (.cons (.i 3 36) (.cons (.i 3 0) .nil)) (.nd (.cons (.i 3 5) (.cons (.i 3 1) .nil)) (.nd (.cons (.i 3 5) (.cons (.i 3 0) .nil)) .nil .nil) (.nd (.cons (.i 3 23) (.cons (.i 3 0) .nil)) .nil .nil)) (.nd (.cons (.i 3 43) (.cons (.i 3 0) .nil)) (.nd (.cons (.i 3 4) (.cons (.i 3 0) .nil)) .nil .nil) (.nd (.cons (.i 3 12) (.cons (.i 3 0) .nil)) .nil .nil)))) (.cons (.ro 2 0 1 1 (.nd (.cons (.i 3 1) (.cons (.ro 2 0 5 5 (.nd (.cons (.i 3 43) (.cons (.i 3 0) .nil)) (.nd (.cons (.i 3 5) (.cons (.i 3 0) .nil)) (.nd (.cons (.i 3 23) (.cons (.i 3 0) .nil)) .nil .nil) .nil) (.nd (.cons (.i 3 4) (.cons (.i 3 0) .nil)) (.nd (.cons (.i 3 12) (.cons (.i 3 0) .nil)) .nil .nil) .nil))) .nil)) .nil .nil)) .nil))) .nil .nil))) .nil)))) (.cons (.i 3 0) (.cons (.i 3 0) .nil))))
def sCluster : V := (.s 204 7631943617275176326598627511136534650622588754159433694638884210676821632207236102518032257260050775290127951778483909622980138738135588393556085044343456542711504216361510131156224341752927050283016026426351523792918312997847990343279184755759231405559644628180175631107809933213919496981501395817485390671173311729286394724155517791857809760649676421149834144875206971771401467816869484589927607706814626851521946722793009338147511500042277568736164961819296584625613609588402839285101168)
set_option maxRecDepth 100000 in
theorem parse_Cluster_run (e n : Nat) (tr : V) : qF (ρ := V × Nat × V) qv qT catchN (e + 60) 115 (.cons sCluster .nil) n tr (fun v n t => some (v, n, t)) = some (vCluster, n, tr) := by kernel_rfl
theorem parse_Cluster : ∀ (d n : Nat) (tr : V), evF prg catchN (d + 90) 115 (decL (.cons sCluster .nil)) (decH n tr) = some (dec vCluster, decH n tr) :=
  run_fact (c := 60) qv_ok qT_ok parse_Cluster_run
noncomputable def qqCluster {ρ : Type} : QX ρ := fun g => Bool.rec (motive := fun _ => Option (V → Nat → V → KV ρ → Option ρ)) (qv g) (some (x_at (isStr 204 7631943617275176326598627511136534650622588754159433694638884210676821632207236102518032257260050775290127951778483909622980138738135588393556085044343456542711504216361510131156224341752927050283016026426351523792918312997847990343279184755759231405559644628180175631107809933213919496981501395817485390671173311729286394724155517791857809760649676421149834144875206971771401467816869484589927607706814626851521946722793009338147511500042277568736164961819296584625613609588402839285101168) vCluster)) (Nat.beq g 115)
theorem qqCluster_ok {ρ : Type} : OvOK (ρ := ρ) qqCluster prg catchN 90 := (qv_ok.deep (by decide)).more 115 _ (x_at_ok isStr_ok parse_Cluster)
set_option maxRecDepth 100000 in
theorem known_Cluster_run (e n : Nat) (tr : V) : qF (ρ := V × Nat × V) qqCluster qT catchN (e + 60) 2 .nil n tr (fun v n t => some (v, n, t)) = some (.b true, n, tr) := by kernel_rfl
theorem known_Cluster : ∀ (d n : Nat) (tr : V), evF prg catchN (d + 150) 2 (decL .nil) (decH n tr) = some (dec (.b true), decH n tr) :=
  run_fact (c := 60) qqCluster_ok qT_ok known_Cluster_run
noncomputable def qrCluster : QX Unit := fun g => Bool.rec (motive := fun _ => Option (V → Nat → V → KV Unit → Option Unit)) (Bool.rec (motive := fun _ => Option (V → Nat → V → KV Unit → Option Unit)) (qqCluster g) (some x_rest) (Nat.beq g 58)) (some (x_at isNil (.b true))) (Nat.beq g 2)
theorem qrCluster_ok : OvOK qrCluster prg catchN 150 :=
  ((qqCluster_ok.deep (by decide)).more 58 _ (x_rest_ok (D := 149) (fns := []) (f := fun x => s_selfstabworld_Within catchN x.1 x.2.1) ((ok_selfstabworld_Within catchN).mono (by decide)) within_lt)).more 2 _ (x_at_ok isNil_ok known_Cluster)
set_option maxRecDepth 100000 in
theorem law_Cluster_i (a : Nat) : qRun catchN (qF qrCluster qT catchN 60) m_selfstablaw34_ClusterText (.cons (.i 3 a) .nil) 0 .nil (fun v _ _ => onB v fun b => ck b (some ())) = some () := by kernel_rfl
set_option maxRecDepth 100000 in
theorem law_Cluster_m (a : Nat) : qRun catchN (qF qrCluster qT catchN 60) m_selfstablaw34_ClusterText (.cons (.m 3 a) .nil) 0 .nil (fun v _ _ => onB v fun b => ck b (some ())) = some () := by kernel_rfl
theorem law_Cluster (z : Int) : evP catchN (evF prg catchN 210) m_selfstablaw34_ClusterText [.v (.int .i64 z)] = some (.b true) := by
  cases z with
  | ofNat a => exact law_q (c := 60) qrCluster_ok qT_ok (args := .cons (.i 3 a) .nil) rfl rfl (law_Cluster_i a)
  | negSucc a => exact law_q (c := 60) qrCluster_ok qT_ok (args := .cons (.m 3 a) .nil) rfl rfl (law_Cluster_m a)
end Sx.Q
