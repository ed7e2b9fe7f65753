/- The plain law of EpochsEnds: its Lean function answers true. Condition: numbers of their kinds. -/
import Derived.Test.YtdbebophchggfaaFEpochsEnds
import Derived.Test.YtdbebophchggfaaE8
namespace Go.Proofs.Ytdbebophchggfaa.Ep
open Go.RowKit Go.Proofs.YtdbebophchggfaaW.PrintWords Go.Proofs.YtdbebophchggfaaW.PrintLast Go.Proofs.YtdbebophchggfaaW.PrintMore
set_option linter.unusedVariables false
set_option linter.unusedSimpArgs false
theorem end_facts {l : List S37} (ht : tbl l = true) (hw : wfS l) (last ep : Int) (h0 : 0 ≤ last) :
    endS l last ep ≤ last ∧ 0 ≤ endS l last ep ∧ (0 < endS l last ep → atS l (endS l last ep) ≠ 0 ∧ atS l (endS l last ep) ≤ ep) ∧ (endS l last ep < last → 0 < endS l last ep → ep < atS l (endS l last ep + 1)) ∧
    (endS l last ep = 0 → ¬ (0 < l.length ∧ Lf l 0 ≤ last ∧ Ef l 0 ≤ ep)) := by
  obtain ⟨h1, h2, h3⟩ := down_spec l ep (cnt l last)
  have hc := cnt_le l last
  have hb := below_down ht last ep
  unfold endS endF
  generalize hm : down l ep (cnt l last) = m at *
  by_cases hm0 : m = 0
  · rw [if_pos hm0]
    refine ⟨h0, by omega, fun h => by omega, fun _ h => by omega, fun _ h => ?_⟩
    have := (hb 0 h.1).1 ⟨h.2.2, h.2.1⟩
    omega
  · rw [if_neg hm0]
    have hlow := (hb (m - 1) (by omega)).2 (by omega)
    have hpos := tbl_pos ht (m - 1) (by omega)
    by_cases hlt : m < l.length
    · rw [if_pos hlt]
      have hup := (tbl_lt ht (m - 1) m (by omega) hlt).2
      have hmn := mn_le last (Lf l m - 1)
      have hcn : cnt l (mn last (Lf l m - 1)) = m := cnt_is ht _ m (by omega) (fun _ => by unfold Lf at *; omega) (fun _ => by unfold Lf at *; omega)
      have hat : atS l (mn last (Lf l m - 1)) = Ef l (m - 1) := by unfold atS; rw [hcn, if_neg hm0]
      refine ⟨hmn.1, by unfold Lf at *; omega, fun _ => by rw [hat]; unfold Ef at *; omega, fun hl _ => ?_, fun h => by unfold Lf at *; omega⟩
      have he : mn last (Lf l m - 1) = Lf l m - 1 := by omega
      rw [he, show Lf l m - 1 + 1 = Lf l m by omega, (at_start ht m hlt).2]
      have hic : m < cnt l last := by
        rcases Nat.lt_or_ge m (cnt l last) with h' | h'
        · exact h'
        · have := cnt_high ht last m h' hlt
          omega
      exact h2 m (by omega) hic
    · rw [if_neg hlt]
      have hcn : cnt l last = m := by omega
      have hat : atS l last = Ef l (m - 1) := by unfold atS; rw [hcn, if_neg hm0]
      refine ⟨Int.le_refl _, h0, fun _ => by rw [hat]; unfold Ef at *; omega, fun h => by omega, fun h => by unfold Lf at *; omega⟩
theorem pure_law (l : List S37) (last ep : Int) (hw : wfS l) (h0 : 0 ≤ last) (h1 : last < 18446744073709551616) : drayagelaw06_EpochsEnds.f 10000 l last ep = some true := by
  have hk : ∀ k, drayagelaw06_EpochsEnds.j0 (k + 1) l last ep true = (drayagelaw06_known.f k).bind fun t => some t := fun k => by simp only [drayagelaw06_EpochsEnds.j0, if_true]
  unfold drayagelaw06_EpochsEnds.f
  rcases many_cases l [] with h | ⟨h, hl, _⟩
  · rw [h, Option.bind_some, if_pos rfl, hk, known_eq _ (by omega), Option.bind_some]
  · rw [h, Option.bind_some, if_neg (by simp), Check_eq _ l (by omega) (by omega), Option.bind_some]
    unfold chkS
    by_cases ht : tbl l = true
    · rw [if_pos ht]
      obtain ⟨f1, f2, f3, f4, f5⟩ := end_facts ht hw last ep h0
      have hj0 : ∀ k, drayagelaw06_EpochsEnds.j0 (k + 1) l last ep ((0 : Int) != 0) = ((epochs_End.f k l last ep).bind fun t132 => (if t132 > last then (some false) else (if t132 > 0 then ((epochs_At.f k l t132).bind fun t133 => (if t133 = 0 then (some false) else (if t133 > ep then (some false) else (drayagelaw06_EpochsEnds.j1 k l last ep t132)))) else (drayagelaw06_EpochsEnds.j1 k l last ep t132)))) := fun k => by simp [drayagelaw06_EpochsEnds.j0]
      have hj2 : ∀ k n, 11 ≤ k → n = endS l last ep → drayagelaw06_EpochsEnds.j2 k l last ep n false = some true := fun k n hk' hn => by
        obtain ⟨k, rfl⟩ : ∃ m, k = m + 1 := ⟨k - 1, by omega⟩
        have hkn : ((drayagelaw06_known.f k).bind fun t => some t) = some true := by rw [known_eq _ (by omega), Option.bind_some]
        simp only [drayagelaw06_EpochsEnds.j2, Bool.false_eq_true, if_false, hkn]
        by_cases hn0 : n = 0
        · rw [if_pos hn0]
          have hf := f5 (by omega)
          by_cases hl0 : (l.length : Int) > 0
          · rw [if_pos hl0, if_pos (by omega)]
            by_cases h6 : (rd_T37 l 0).f1 ≤ last
            · rw [if_pos h6, if_neg (show ¬ (rd_T37 l 0).f0 ≤ ep from fun h7 => hf ⟨by omega, h6, h7⟩)]
            · rw [if_neg h6]
          · rw [if_neg hl0]
        · rw [if_neg hn0]
      have hj1 : ∀ k n, 1100 ≤ k → n = endS l last ep → drayagelaw06_EpochsEnds.j1 k l last ep n = some true := fun k n hk' hn => by
        obtain ⟨k, rfl⟩ : ∃ m, k = m + 1 := ⟨k - 1, by omega⟩
        simp only [drayagelaw06_EpochsEnds.j1]
        by_cases hlt : n < last
        · by_cases hp : n > 0
          · have := f4 (by omega) (by omega)
            rw [if_pos hlt, if_pos hp, u64p n (by omega) (by omega), At_eq _ l _ (by omega) (by omega), Option.bind_some, if_pos ht, hn, decide_eq_false (by omega)]
            exact hj2 k _ (by omega) rfl
          · rw [if_pos hlt, if_neg hp]
            exact hj2 k n (by omega) hn
        · rw [if_neg hlt]
          exact hj2 k n (by omega) hn
      rw [hj0, End_eq _ l last ep hw (by omega) (by omega), Option.bind_some, if_pos ht, if_neg (by omega)]
      by_cases hp : endS l last ep > 0
      · have := f3 hp
        rw [if_pos hp, At_eq _ l _ (by omega) (by omega), Option.bind_some, if_pos ht, if_neg this.1, if_neg (by omega)]
        exact hj1 _ _ (by omega) rfl
      · rw [if_neg hp]
        exact hj1 _ _ (by omega) rfl
    · rw [if_neg ht, show ((60 : Int) != 0) = true from rfl, hk, known_eq _ (by omega), Option.bind_some]
theorem law_all (A : Option Addr) (c : Nat) (l : List S37) (x y : Int) (w : World) (hc : l.length ≤ c) (hr : Kd.C k37 w A l.length l) (hw : wfS l) (wx : (Lit.int .u64 x).wf = true) :
    Calls Try.prog 5 #[.slice A l.length c, .int .u64 x, .int .u32 y] w fun e w' => e = .returned (.bool true) ∧ Below w.heap.size w w' := by
  have hb := bounds_u64 wx
  exact drayagelaw06_EpochsEnds.calls 10000 A c l x y true w hr hc (pure_law l x y hw hb.1 (by omega))
end Go.Proofs.Ytdbebophchggfaa.Ep
