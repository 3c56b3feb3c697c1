/- Part of a proof over this seat's program: the code of its functions, as the checked evaluator takes it (part 3). No condition. -/
import Derived.Test.YtfiambjmphjjgaaGreatDoorMsEnv
noncomputable section
namespace Go.Proofs.YtfiambjmphjjgaaGreatDoor.Ms
set_option linter.unusedVariables false
def f451 : FE := .code [s0, s1] (.seq (.ops [uM s3 (m_bx 3 t1)]) (.seq (.ops [uP s4 (p_mv t0), uP s5 (p_nil nilP true t4)]) (.cond t5 (.draw [q0 (uP s6 (p_mv t0)), q0 (uP s7 (p_nc [⟨ "Tick", 221⟩] t6)), q0 (uP s8 (p_fa 0 7 t7)), qR 0 s9 (r_ldn 3 t3), qA (uA s10 (a_call 408 [t8, t9]))]) .skip))) []
def fs3 : List Fe := [⟨451, f451⟩]
end Go.Proofs.YtfiambjmphjjgaaGreatDoor.Ms
