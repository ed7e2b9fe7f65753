/- The plain law of EpochsCuts: its Lean function answers true. Condition: numbers of their kinds. -/
import Derived.Test.YtdbebophchggfaaFEpochsCuts
import Derived.Test.YtdbebophchggfaaE8
namespace Go.Proofs.Ytdbebophchggfaa.Ep
open Go.RowKit Go.Proofs.YtdbebophchggfaaW.PrintWords Go.Proofs.YtdbebophchggfaaW.PrintLast Go.Proofs.YtdbebophchggfaaW.PrintMore
set_option linter.unusedVariables false
set_option linter.unusedSimpArgs false
theorem law_l1 (t x : List S37) (ht : x = t) (hl : t.length ≤ 500) : ∀ (d i k : Nat) (b : List S37), b.length ≤ 1000 → i + d = b.length → d + 600 < k → drayagelaw06_EpochsCuts.l1 k t x b (i : Int) = some true := by
  intro d
  induction d with
  | zero =>
    intro i k b hb h hk
    obtain ⟨k, rfl⟩ : ∃ m, k = m + 1 := ⟨k - 1, by omega⟩
    simp only [drayagelaw06_EpochsCuts.l1]
    rw [if_neg (by omega), ht, Same_eq _ t (by omega) (by omega), Option.bind_some, if_pos rfl, known_eq _ (by omega), Option.bind_some]
  | succ d ih =>
    intro i k b hb h hk
    obtain ⟨k, rfl⟩ : ∃ m, k = m + 1 := ⟨k - 1, by omega⟩
    have := ih (i + 1) k (b.set (i : Int).toNat (⟨9, (rd_T37 b (i : Int)).f1⟩ : S37)) (by simpa using hb) (by simp; omega) (by omega)
    rw [← w64 i (by omega)] at this
    simp only [drayagelaw06_EpochsCuts.l1]
    rw [if_pos (by omega), if_pos (by omega), this]
theorem law_l0 (t x b : List S37) (ht : x = t) (hl : t.length ≤ 500) (hb : b.length ≤ 1000) : ∀ (d i k : Nat) (a : List S37), a.length ≤ 1000 → i + d = a.length → d + 1700 < k → drayagelaw06_EpochsCuts.l0 k t x a b (i : Int) = some true := by
  intro d
  induction d with
  | zero =>
    intro i k a ha h hk
    obtain ⟨k, rfl⟩ : ∃ m, k = m + 1 := ⟨k - 1, by omega⟩
    simp only [drayagelaw06_EpochsCuts.l0]
    rw [if_neg (by omega)]
    exact law_l1 t x ht hl b.length 0 k b hb (by omega) (by omega)
  | succ d ih =>
    intro i k a ha h hk
    obtain ⟨k, rfl⟩ : ∃ m, k = m + 1 := ⟨k - 1, by omega⟩
    have := ih (i + 1) k (a.set (i : Int).toNat (⟨(rd_T37 a (i : Int)).f0, 7⟩ : S37)) (by simpa using ha) (by simp; omega) (by omega)
    rw [← w64 i (by omega)] at this
    simp only [drayagelaw06_EpochsCuts.l0]
    rw [if_pos (by omega), if_pos (by omega), this]
theorem pure_law (l : List S37) (x e n : Int) (hw : wfS l) (he : 0 ≤ e) (he' : e < 4294967296) (hn : 0 ≤ n) (hn' : n < 18446744073709551616) : drayagelaw06_EpochsCuts.f 10000 l x e n = some true := by
  unfold drayagelaw06_EpochsCuts.f
  rcases many_cases l [] with h | ⟨h, hl, _⟩
  · rw [h, Option.bind_some, if_pos rfl, known_eq _ (by omega), Option.bind_some]
  · have hc : (cutS l x).length ≤ 500 := by
      unfold cutS
      split
      · rw [List.length_take]; omega
      · simp
    have hj0 : ∀ b : List S37, b.length ≤ 1000 → drayagelaw06_EpochsCuts.j0 10000 l l (cutS l x) b false = some true := fun b hb => by
      simp only [drayagelaw06_EpochsCuts.j0, Bool.false_eq_true, if_false]
      exact law_l0 l l b rfl hl hb (cutS l x).length 0 9999 (cutS l x) (by omega) (by omega) (by omega)
    rw [h, Option.bind_some, if_neg (by simp), copied_eq l (by omega), Option.bind_some, Cut_eq _ l x (by omega) (by omega), Option.bind_some, Add_eq _ l e n (by omega) (by omega), Option.bind_some, refAdd_eq _ l e n hw he he' hn hn' (by omega) (by omega), Option.bind_some,
      refCut_eq _ l x hw (by omega) (by omega), Option.bind_some, Same_eq _ (cutS l x) (by omega) (by omega), Option.bind_some, if_pos rfl]
    have hlen : (if tbl (l ++ [(⟨e, n⟩ : S37)]) = true then (l ++ [(⟨e, n⟩ : S37)], (0 : Int)) else ([], 60)).1.length ≤ 501 := by
      split
      · simp; omega
      · simp
    rw [Same_eq _ _ (by omega) (by omega), Option.bind_some, if_pos rfl, if_pos rfl, Same_eq _ l (by omega) (by omega), Option.bind_some]
    exact hj0 _ (by omega)
theorem law_all (A : Option Addr) (c : Nat) (l : List S37) (x e n : Int) (w : World) (hc : l.length ≤ c) (hr : Kd.C k37 w A l.length l) (hw : wfS l) (we : (Lit.int .u32 e).wf = true) (wn : (Lit.int .u64 n).wf = true) :
    Calls Try.prog 8 #[.slice A l.length c, .int .u64 x, .agg #[.int .u32 e, .int .u64 n]] w fun e w' => e = .returned (.bool true) ∧ Below w.heap.size w w' := by
  have b1 := bounds_u32 we
  have b2 := bounds_u64 wn
  exact drayagelaw06_EpochsCuts.calls 10000 A c l x e n true w hr hc (pure_law l x e n hw b1.1 (by omega) b2.1 (by omega))
end Go.Proofs.Ytdbebophchggfaa.Ep
