/- The plain law of EpochsParts: its Lean function answers true. Condition: numbers of their kinds. -/
import Derived.Test.YtdbebophchggfaaFEpochsParts
import Derived.Test.YtdbebophchggfaaE8
namespace Go.Proofs.Ytdbebophchggfaa.Ep
open Go.RowKit Go.Proofs.YtdbebophchggfaaW.PrintWords Go.Proofs.YtdbebophchggfaaW.PrintLast Go.Proofs.YtdbebophchggfaaW.PrintMore
set_option linter.unusedVariables false
set_option linter.unusedSimpArgs false
theorem fork_self {a : List S37} (e : Int) : forkV a a e = e := by
  have h := cp_self a
  unfold forkV
  simp only [h, Nat.lt_irrefl, if_false]
theorem mn_self (x : Int) : mn x x = x := by unfold mn; split <;> rfl
theorem ahead {a b : List S37} (e x : Int) (h : x ≤ forkV a b e) : (cp a b < a.length → x < Lf a (cp a b)) ∧ (cp a b < b.length → x < Lf b (cp a b)) := by
  obtain ⟨v1, v2, v3, v4⟩ := forkV_spec a b e
  exact ⟨fun h' => by have := v2 h'; omega, fun h' => by have := v3 h'; omega⟩
theorem apart_next {a b : List S37} (ha : tbl a = true) (hb : tbl b = true) (e : Int) (h : forkV a b e < e) : atS a (forkV a b e + 1) ≠ atS b (forkV a b e + 1) := by
  obtain ⟨v1, v2, v3, v4⟩ := forkV_spec a b e
  rcases v4 with v4 | ⟨v4, v5⟩ | ⟨v4, v5⟩
  · omega
  · rw [v5, show Lf a (cp a b) - 1 + 1 = Lf a (cp a b) by omega, (at_start ha _ v4).2]
    exact fun h' => at_unlike ha hb v4 (fun h'' => by have := v3 h''; omega) h'.symm
  · rw [v5, show Lf b (cp a b) - 1 + 1 = Lf b (cp a b) by omega, (at_start hb _ v4).2]
    have := at_unlike (a := b) (b := a) hb ha (by rw [cp_sym]; exact v4) (fun h'' => by rw [cp_sym] at h'' ⊢; have := v2 h''; omega)
    rw [cp_sym] at this
    exact this
theorem forkV_pos {a b : List S37} (ha : tbl a = true) (hb : tbl b = true) (e : Int) (he : 0 ≤ e) : 0 ≤ forkV a b e := by
  obtain ⟨v1, v2, v3, v4⟩ := forkV_spec a b e
  rcases v4 with v4 | ⟨v4, v5⟩ | ⟨v4, v5⟩
  · omega
  · have := (tbl_pos ha _ v4).2
    omega
  · have := (tbl_pos hb _ v4).2
    omega
theorem pure_law (a : List S37) (x : Int) (b : List S37) (y z : Int) (wa : wfS a) (wb : wfS b) (hx : 0 ≤ x) (hx' : x < 18446744073709551616) (hy : 0 ≤ y) (hy' : y < 18446744073709551616) (hz : 0 ≤ z) : drayagelaw06_EpochsParts.f 10000 a x b y z = some true := by
  have hk : ∀ k, drayagelaw06_EpochsParts.j0 (k + 1) a x b y z true = (drayagelaw06_known.f k).bind fun t => some t := fun k => by simp only [drayagelaw06_EpochsParts.j0, if_true]
  unfold drayagelaw06_EpochsParts.f
  rcases many_cases a b with h | ⟨h, la, lb⟩
  · rw [h, Option.bind_some, if_pos rfl, hk, known_eq _ (by omega), Option.bind_some]
  · rw [h, Option.bind_some, if_neg (by simp), Check_eq _ a (by omega) (by omega), Option.bind_some]
    unfold chkS
    by_cases ha : tbl a = true
    · rw [if_pos ha, if_pos rfl, Check_eq _ b (by omega) (by omega), Option.bind_some]
      unfold chkS
      by_cases hb : tbl b = true
      · rw [if_pos hb, show ((0 : Int) != 0) = false from rfl]
        have hmn := mn_le x y
        obtain ⟨v1, v2, v3, v4⟩ := forkV_spec a b (mn x y)
        have hV0 := forkV_pos ha hb (mn x y) (by omega)
        have hj3 : ∀ k, 1100 ≤ k → drayagelaw06_EpochsParts.j3 k a b (forkV a b (mn x y)) false = some true := fun k hk' => by
          obtain ⟨k, rfl⟩ : ∃ m, k = m + 1 := ⟨k - 1, by omega⟩
          obtain ⟨q1, q2⟩ := ahead (a := a) (b := b) (mn x y) _ (Int.le_refl _)
          have hlen : (cutS b (forkV a b (mn x y))).length ≤ b.length := by unfold cutS; split <;> simp <;> omega
          simp only [drayagelaw06_EpochsParts.j3, Bool.false_eq_true, if_false]
          rw [Cut_eq _ a _ (by omega) (by omega), Option.bind_some, Cut_eq _ b _ (by omega) (by omega), Option.bind_some, cut_alike ha hb _ q1 q2, Same_eq _ _ (by omega) (by omega), Option.bind_some, if_pos rfl, known_eq _ (by omega), Option.bind_some]
        have hj2 : ∀ k, 1200 ≤ k → drayagelaw06_EpochsParts.j2 k a b z (forkV a b (mn x y)) false = some true := fun k hk' => by
          obtain ⟨k, rfl⟩ : ∃ m, k = m + 1 := ⟨k - 1, by omega⟩
          simp only [drayagelaw06_EpochsParts.j2, Bool.false_eq_true, if_false]
          by_cases hn0 : forkV a b (mn x y) = 0
          · rw [if_pos hn0, known_eq _ (by omega), Option.bind_some]
          · have ht := Int.tmod_eq_emod_of_nonneg (b := forkV a b (mn x y)) hz
            have ht1 : 0 ≤ z % forkV a b (mn x y) := Int.emod_nonneg _ hn0
            have ht2 : z % forkV a b (mn x y) < forkV a b (mn x y) := Int.emod_lt_of_pos _ (by omega)
            rw [if_neg hn0, ht, u64p _ ht1 (by omega)]
            obtain ⟨q1, q2⟩ := ahead (a := a) (b := b) (mn x y) (z % forkV a b (mn x y) + 1) (by omega)
            obtain ⟨p1, p2⟩ := ahead (a := a) (b := b) (mn x y) _ (Int.le_refl _)
            rw [At_eq _ a _ (by omega) (by omega), Option.bind_some, At_eq _ b _ (by omega) (by omega), Option.bind_some, if_pos ha, if_pos hb, if_pos (at_alike hb _ q1 q2), At_eq _ a _ (by omega) (by omega), Option.bind_some, At_eq _ b _ (by omega) (by omega), Option.bind_some, if_pos ha, if_pos hb,
              at_alike hb _ p1 p2, bne_self_eq_false]
            exact hj3 k (by omega)
        have hj1 : ∀ k, 1300 ≤ k → drayagelaw06_EpochsParts.j1 k a x b y z (forkV a b (mn x y)) false = some true := fun k hk' => by
          obtain ⟨k, rfl⟩ : ∃ m, k = m + 1 := ⟨k - 1, by omega⟩
          simp only [drayagelaw06_EpochsParts.j1, Bool.false_eq_true, if_false]
          by_cases h1 : forkV a b (mn x y) < x
          · by_cases h2 : forkV a b (mn x y) < y
            · have hne := apart_next ha hb (mn x y) (by omega)
              rw [if_pos h1, if_pos h2, u64p _ hV0 (by omega), At_eq _ a _ (by omega) (by omega), Option.bind_some, At_eq _ b _ (by omega) (by omega), Option.bind_some, if_pos ha, if_pos hb, beq_eq_false_iff_ne.mpr hne]
              exact hj2 k (by omega)
            · rw [if_pos h1, if_neg h2]
              exact hj2 k (by omega)
          · rw [if_neg h1]
            exact hj2 k (by omega)
        have hj0 : ∀ k, drayagelaw06_EpochsParts.j0 (k + 1) a x b y z false = ((epochs_Fork.f a x b y).bind fun t147 => (if t147 > x then (drayagelaw06_EpochsParts.j1 k a x b y z t147 true) else (if t147 > y then (drayagelaw06_EpochsParts.j1 k a x b y z t147 true) else ((epochs_Fork.f a x a x).bind fun t148 => (drayagelaw06_EpochsParts.j1 k a x b y z t147 (t148 != x)))))) := fun k => by simp only [drayagelaw06_EpochsParts.j0, Bool.false_eq_true, if_false]
        rw [hj0, Fork_eq a b x y wa wb, Option.bind_some, if_pos ha, if_pos hb, if_neg (by omega), if_neg (by omega), Fork_eq a a x x wa wa, Option.bind_some, if_pos ha, if_pos ha, fork_self, mn_self, bne_self_eq_false]
        exact hj1 _ (by omega)
      · rw [if_neg hb, show ((60 : Int) != 0) = true from rfl, hk, known_eq _ (by omega), Option.bind_some]
    · rw [if_neg ha, if_neg (by omega), hk, known_eq _ (by omega), Option.bind_some]
theorem law_all (A : Option Addr) (c : Nat) (a : List S37) (x : Int) (B : Option Addr) (c2 : Nat) (b : List S37) (y z : Int) (w : World) (hc : a.length ≤ c) (hr : Kd.C k37 w A a.length a) (wa : wfS a) (hc2 : b.length ≤ c2) (hr2 : Kd.C k37 w B b.length b) (wb : wfS b)
    (wx : (Lit.int .u64 x).wf = true) (wy : (Lit.int .u64 y).wf = true) (wz : (Lit.int .u64 z).wf = true) :
    Calls Try.prog 6 #[.slice A a.length c, .int .u64 x, .slice B b.length c2, .int .u64 y, .int .u64 z] w fun e w' => e = .returned (.bool true) ∧ Below w.heap.size w w' := by
  have b1 := bounds_u64 wx
  have b2 := bounds_u64 wy
  have b3 := bounds_u64 wz
  exact drayagelaw06_EpochsParts.calls 10000 A c a x B c2 b y z true w hr hc hr2 hc2 (pure_law a x b y z wa wb b1.1 (by omega) b2.1 (by omega) b3.1)
end Go.Proofs.Ytdbebophchggfaa.Ep
