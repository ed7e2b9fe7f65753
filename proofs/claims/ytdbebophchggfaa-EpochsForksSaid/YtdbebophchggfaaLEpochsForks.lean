/- The plain law of EpochsForks: its Lean function answers true. Condition: numbers of their kinds. -/
import Derived.Test.YtdbebophchggfaaFEpochsForks
import Derived.Test.YtdbebophchggfaaE8
namespace Go.Proofs.Ytdbebophchggfaa.Ep
open Go.RowKit Go.Proofs.YtdbebophchggfaaW.PrintWords Go.Proofs.YtdbebophchggfaaW.PrintLast Go.Proofs.YtdbebophchggfaaW.PrintMore
set_option linter.unusedVariables false
set_option linter.unusedSimpArgs false
theorem pure_law (a : List S37) (x : Int) (b : List S37) (y : Int) (wa : wfS a) (wb : wfS b) : drayagelaw06_EpochsForks.f 10000 a x b y = some true := by
  unfold drayagelaw06_EpochsForks.f
  rcases many_cases a b with h | ⟨h, la, lb⟩
  · rw [h, Option.bind_some, if_pos rfl, known_eq _ (by omega), Option.bind_some]
  · have hs : (if tbl b = true then (if tbl a = true then forkV b a (mn y x) else 0) else 0) = (if tbl a = true then (if tbl b = true then forkV a b (mn x y) else 0) else 0) := by
      by_cases ha : tbl a = true <;> by_cases hb : tbl b = true
      · rw [if_pos hb, if_pos ha, if_pos ha, if_pos hb, mn_comm y x, forkV_sym b a]
      · rw [if_neg hb, if_pos ha, if_neg hb]
      · rw [if_pos hb, if_neg ha, if_neg ha]
      · rw [if_neg hb, if_neg ha]
    rw [h, Option.bind_some, if_neg (by simp), Fork_eq a b x y wa wb, Option.bind_some, Fork_eq b a y x wb wa, Option.bind_some, refFork_eq _ a b x y wa wb (by omega) (by omega) (by omega), Option.bind_some, if_pos rfl, if_pos hs, known_eq _ (by omega), Option.bind_some]
theorem law_all (A : Option Addr) (c : Nat) (a : List S37) (x : Int) (B : Option Addr) (c2 : Nat) (b : List S37) (y : Int) (w : World) (hc : a.length ≤ c) (hr : Kd.C k37 w A a.length a) (wa : wfS a) (hc2 : b.length ≤ c2) (hr2 : Kd.C k37 w B b.length b) (wb : wfS b) :
    Calls Try.prog 4 #[.slice A a.length c, .int .u64 x, .slice B b.length c2, .int .u64 y] w fun e w' => e = .returned (.bool true) ∧ Below w.heap.size w w' :=
  drayagelaw06_EpochsForks.calls 10000 A c a x B c2 b y true w hr hc hr2 hc2 (pure_law a x b y wa wb)
end Go.Proofs.Ytdbebophchggfaa.Ep
