/- FnExactInitialSecrets: both packages give the same secrets. -/
import Derived.Test.YtknoemdkfhkkhaaQSecretsFnExactInitialSecrets
set_option linter.unusedVariables false
set_option linter.unusedSimpArgs false
namespace Go.Proofs.Ytknoemdkfhkkhaa.Pure
open Go Go.Proofs Go.Proofs.YtknoemdkfhkkhaaPM Go.Proofs.Ytknoemdkfhkkhaa.Q Go.Proofs.Ytknoemdkfhkkhaa.CFnExactInitialSecrets Go.Proofs.Ytknoemdkfhkkhaa.GFnExactInitialSecrets

theorem FnExactInitialSecrets (a0 : ByteArray) (s0 : a0.size ≤ 140737488351232) : ∃ N, laws_FnExactInitialSecrets N a0 = some ((true, ()), ()) :=
  EvP.fin (EvP.of (fun k => laws_FnExactInitialSecrets.eq k _) (EvP.ite (fun _ => EvP.some rfl) (fun _ => EvP.to (Secrets_spec a0) (EvP.to (Secrets_impl a0)
    (EvP.no (by simp) (EvP.no (by simp) (EvP.no (by simp) (EvP.some rfl))))))))
end Go.Proofs.Ytknoemdkfhkkhaa.Pure
