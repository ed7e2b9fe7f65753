/- The plain law of EpochsAdds: its Lean function answers true. Condition: numbers of their kinds. -/
import Derived.Test.YtdbebophchggfaaFEpochsAdds
import Derived.Test.YtdbebophchggfaaE8
namespace Go.Proofs.Ytdbebophchggfaa.Ep
open Go.RowKit Go.Proofs.YtdbebophchggfaaW.PrintWords Go.Proofs.YtdbebophchggfaaW.PrintLast Go.Proofs.YtdbebophchggfaaW.PrintMore
set_option linter.unusedVariables false
set_option linter.unusedSimpArgs false
theorem tbl_twice {l : List S37} (e n m : Int) : tbl (l ++ [(⟨e, n⟩ : S37)] ++ [(⟨e, m⟩ : S37)]) = false := by
  refine Bool.eq_false_iff.2 fun h => ?_
  have h1 := (tbl_lt h l.length (l.length + 1) (by omega) (by simp)).1
  unfold Ef at h1
  have h2 : rd_T37 (l ++ [(⟨e, n⟩ : S37)] ++ [(⟨e, m⟩ : S37)]) (l.length : Int) = (⟨e, n⟩ : S37) := by
    rw [rd_app1 _ _ _ (by simp)]
    exact rd_app2 l _
  have h3 : rd_T37 (l ++ [(⟨e, n⟩ : S37)] ++ [(⟨e, m⟩ : S37)]) ((l.length + 1 : Nat) : Int) = (⟨e, m⟩ : S37) := by
    have := rd_app2 (l ++ [(⟨e, n⟩ : S37)]) (⟨e, m⟩ : S37)
    simpa using this
  rw [h2, h3] at h1
  exact absurd h1 (by simp)
theorem law_l0 {l : List S37} (ht : tbl l = true) (hl : l.length ≤ 500) (x : Int) : ∀ (d i k : Nat), i + d = l.length → cnt l x ≤ i → 2 * d + 2000 < k → drayagelaw06_EpochsAdds.l0 k l x (l.take i) (i : Int) = some true := by
  intro d
  induction d with
  | zero =>
    intro i k h hi hk
    obtain ⟨k, rfl⟩ : ∃ m, k = m + 1 := ⟨k - 1, by omega⟩
    simp only [drayagelaw06_EpochsAdds.l0]
    rw [if_neg (by omega), List.take_of_length_le (by omega), Same_eq _ l (by omega) (by omega), Option.bind_some, if_pos rfl, known_eq _ (by omega), Option.bind_some]
  | succ d ih =>
    intro i k h hi hk
    obtain ⟨k, rfl⟩ : ∃ m, k = m + 1 := ⟨k - 1, by omega⟩
    obtain ⟨k, rfl⟩ : ∃ m, k = m + 1 := ⟨k - 1, by omega⟩
    have hil : i < l.length := by omega
    have hts := take_succ_rd l i hil
    have hok : tbl (l.take i ++ [(⟨Ef l i, Lf l i⟩ : S37)]) = true := by rw [← hts]; exact tbl_take ht _
    have hgt := cnt_high ht x i hi hil
    have hlen : (l.take i).length = i := by rw [List.length_take]; omega
    have hgo := ih (i + 1) k (by omega) (by omega) (by omega)
    rw [hts, ← w64 i (by omega)] at hgo
    simp only [drayagelaw06_EpochsAdds.l0]
    rw [if_pos (by omega), if_pos (by omega)]
    rw [show (rd_T37 l (i : Int)).f0 = Ef l i from rfl, show (rd_T37 l (i : Int)).f1 = Lf l i from rfl]
    rw [Add_eq _ (l.take i) (Ef l i) (Lf l i) (by omega) (by omega), Option.bind_some, if_pos hok, if_pos rfl, decide_eq_false (by omega)]
    simp only [drayagelaw06_EpochsAdds.j2, Bool.false_eq_true, if_false]
    rw [if_pos (by omega), if_pos (by omega)]
    rw [show (rd_T37 l (i : Int)).f0 = Ef l i from rfl, show (rd_T37 l (i : Int)).f1 = Lf l i from rfl]
    have hno : ∀ m : Int, epochs_Add.f k (l.take i ++ [(⟨Ef l i, Lf l i⟩ : S37)]) (Ef l i) m = some ([], 60) := fun m => by
      rw [Add_eq _ (l.take i ++ [(⟨Ef l i, Lf l i⟩ : S37)]) _ _ (by simp; omega) (by simp; omega), tbl_twice]
      rfl
    rw [hno, hno, Option.bind_some, Option.bind_some, if_pos rfl, if_pos rfl]
    exact hgo
theorem pure_law (l : List S37) (x : Int) : drayagelaw06_EpochsAdds.f 10000 l x = some true := by
  have hk : ∀ k, drayagelaw06_EpochsAdds.j0 (k + 1) l x true = (drayagelaw06_known.f k).bind fun t => some t := fun k => by simp only [drayagelaw06_EpochsAdds.j0, if_true]
  unfold drayagelaw06_EpochsAdds.f
  rcases many_cases l [] with h | ⟨h, hl, _⟩
  · rw [h, Option.bind_some, if_pos rfl, hk, known_eq _ (by omega), Option.bind_some]
  · rw [h, Option.bind_some, if_neg (by simp), Check_eq _ l (by omega) (by omega), Option.bind_some]
    unfold chkS
    by_cases ht : tbl l = true
    · have hc := cnt_le l x
      have hlen : (l.take (cnt l x)).length = cnt l x := by rw [List.length_take]; omega
      rw [if_pos ht, show ((0 : Int) != 0) = false from rfl]
      have hj0 : drayagelaw06_EpochsAdds.j0 (9999 + 1) l x false = ((epochs_Cut.f 9999 l x).bind fun t157 => (if (t157.length : Int) > (l.length : Int) then (some false) else (drayagelaw06_EpochsAdds.l0 9999 l x t157 (t157.length : Int)))) := by simp only [drayagelaw06_EpochsAdds.j0, Bool.false_eq_true, if_false]
      rw [hj0, Cut_eq _ l x (by omega) (by omega), Option.bind_some]
      unfold cutS
      rw [if_pos ht, hlen, if_neg (by omega)]
      exact law_l0 ht hl x (l.length - cnt l x) (cnt l x) 9999 (by omega) (Nat.le_refl _) (by omega)
    · rw [if_neg ht, show ((60 : Int) != 0) = true from rfl, hk, known_eq _ (by omega), Option.bind_some]
theorem law_all (A : Option Addr) (c : Nat) (l : List S37) (x : Int) (w : World) (hc : l.length ≤ c) (hr : Kd.C k37 w A l.length l) :
    Calls Try.prog 9 #[.slice A l.length c, .int .u64 x] w fun e w' => e = .returned (.bool true) ∧ Below w.heap.size w w' :=
  drayagelaw06_EpochsAdds.calls 10000 A c l x true w hr hc (pure_law l x)
end Go.Proofs.Ytdbebophchggfaa.Ep
