/- The plain law of EpochsTells: its Lean function answers true. Condition: numbers of their kinds. -/
import Derived.Test.YtdbebophchggfaaFEpochsTells
import Derived.Test.YtdbebophchggfaaE8
namespace Go.Proofs.Ytdbebophchggfaa.Ep
open Go.RowKit Go.Proofs.YtdbebophchggfaaW.PrintWords Go.Proofs.YtdbebophchggfaaW.PrintLast Go.Proofs.YtdbebophchggfaaW.PrintMore
set_option linter.unusedVariables false
set_option linter.unusedSimpArgs false
theorem pure_law (l : List S37) (x y : Int) (hw : wfS l) : drayagelaw06_EpochsTells.f 10000 l x y = some true := by
  unfold drayagelaw06_EpochsTells.f
  rcases many_cases l [] with h | ⟨h, hl, _⟩
  · rw [h, Option.bind_some, if_pos rfl, known_eq _ (by omega), Option.bind_some]
  · rw [h, Option.bind_some, if_neg (by simp), copied_eq l (by omega), Option.bind_some, Check_eq _ l (by omega) (by omega), Option.bind_some, At_eq _ l x (by omega) (by omega), Option.bind_some, End_eq _ l x y hw (by omega) (by omega), Option.bind_some,
      refCheck_eq _ l hw (by omega) (by omega), Option.bind_some, if_pos rfl, refAt_eq _ l x hw (by omega) (by omega), Option.bind_some, if_pos rfl, refEnd_eq _ l x y hw (by omega) (by omega), Option.bind_some, if_pos rfl, Same_eq _ l (by omega) (by omega), Option.bind_some, if_pos rfl,
      known_eq _ (by omega), Option.bind_some]
theorem law_all (A : Option Addr) (c : Nat) (l : List S37) (x y : Int) (w : World) (hc : l.length ≤ c) (hr : Kd.C k37 w A l.length l) (hw : wfS l) :
    Calls Try.prog 3 #[.slice A l.length c, .int .u64 x, .int .u32 y] w fun e w' => e = .returned (.bool true) ∧ Below w.heap.size w w' :=
  drayagelaw06_EpochsTells.calls 10000 A c l x y true w hr hc (pure_law l x y hw)
end Go.Proofs.Ytdbebophchggfaa.Ep
