/- Plain lemmas: what the reference's Lean functions of layer 6 come to, the code's beside them. Conditions: as many rounds as are needed, numbers of their kinds, at most a thousand starts. -/
import Derived.Test.YtdbebophchggfaaE5
namespace Go.Proofs.Ytdbebophchggfaa.Ep
open Go.RowKit Go.Proofs.YtdbebophchggfaaW.PrintWords Go.Proofs.YtdbebophchggfaaW.PrintLast Go.Proofs.YtdbebophchggfaaW.PrintMore
set_option linter.unusedVariables false
set_option linter.unusedSimpArgs false

def okAt (l : List S37) (i : Nat) : Prop := (if i = 0 then 0 else Ef l (i - 1)) < Ef l i ∧ (if i = 0 then 0 else Lf l (i - 1)) < Lf l i
theorem refCheck_l0 (l : List S37) (hw : wfS l) (hl : l.length ≤ 1000) : ∀ (d i k : Nat), i + d = l.length → d < k →
    ((∀ j, i ≤ j → j < l.length → okAt l j) → drayageref06_Check.l0 k l (i : Int) = some 0) ∧ (¬ (∀ j, i ≤ j → j < l.length → okAt l j) → drayageref06_Check.l0 k l (i : Int) = some 60) := by
  intro d
  induction d with
  | zero =>
    intro i k h hk
    obtain ⟨k, rfl⟩ : ∃ m, k = m + 1 := ⟨k - 1, by omega⟩
    refine ⟨fun _ => ?_, fun hn => absurd (fun j hj hj' => by omega) hn⟩
    simp only [drayageref06_Check.l0]
    rw [if_neg (by omega)]
  | succ d ih =>
    intro i k h hk
    obtain ⟨k, rfl⟩ : ∃ m, k = m + 1 := ⟨k - 1, by omega⟩
    obtain ⟨ih1, ih2⟩ := ih (i + 1) k (by omega) (by omega)
    have hi := hw i (by omega)
    have hstep : (∀ j, i ≤ j → j < l.length → okAt l j) ↔ okAt l i ∧ (∀ j, i + 1 ≤ j → j < l.length → okAt l j) := by
      constructor
      · intro h1
        exact ⟨h1 i (Nat.le_refl _) (by omega), fun j hj hj' => h1 j (by omega) hj'⟩
      · rintro ⟨h1, h2⟩ j hj hj'
        rcases Nat.lt_or_ge i j with h3 | h3
        · exact h2 j h3 hj'
        · obtain rfl : j = i := by omega
          exact h1
    rw [hstep]
    have hbody : drayageref06_Check.l0 (k + 1) l (i : Int) = (if (i : Int) < (l.length : Int) then (if 0 ≤ (i : Int) then (if ((rd_T37 l (i : Int)).f0) < 1 then (some 60) else (if ((rd_T37 l (i : Int)).f1) < 1 then (some 60) else (if (i : Int) > 0 then (if 0 ≤ (wrap64 ((i : Int) - 1)) then (if (wrap64 ((i : Int) - 1)) < (l.length : Int) then (if ((rd_T37 l (i : Int)).f0) ≤ ((rd_T37 l (wrap64 ((i : Int) - 1))).f0) then (some 60) else (if ((rd_T37 l (i : Int)).f1) ≤ ((rd_T37 l (wrap64 ((i : Int) - 1))).f1) then (some 60) else (drayageref06_Check.l0 k l (wrap64 ((i : Int) + 1))))) else (none)) else (none)) else (drayageref06_Check.l0 k l (wrap64 ((i : Int) + 1)))))) else (none)) else (some 0)) := by simp only [drayageref06_Check.l0]
    rw [hbody, if_pos (by omega), if_pos (by omega), w64 i (by omega)]
    unfold wfS at hw
    by_cases h0 : i = 0
    · subst h0
      have hok : okAt l 0 ↔ ¬ (rd_T37 l ((0 : Nat) : Int)).f0 < 1 ∧ ¬ (rd_T37 l ((0 : Nat) : Int)).f1 < 1 := by
        unfold okAt Ef Lf
        rw [if_pos rfl, if_pos rfl]
        omega
      by_cases h1 : (rd_T37 l ((0 : Nat) : Int)).f0 < 1
      · rw [if_pos h1]
        exact ⟨fun h2 => absurd h1 (hok.1 h2.1).1, fun _ => rfl⟩
      · rw [if_neg h1]
        by_cases h2 : (rd_T37 l ((0 : Nat) : Int)).f1 < 1
        · rw [if_pos h2]
          exact ⟨fun h3 => absurd h2 (hok.1 h3.1).2, fun _ => rfl⟩
        · rw [if_neg h2, if_neg (by omega)]
          exact ⟨fun h3 => ih1 h3.2, fun h3 => ih2 fun h4 => h3 ⟨hok.2 ⟨h1, h2⟩, h4⟩⟩
    · rw [w64m i (by omega) (by omega)]
      have hp := hw (i - 1) (by omega)
      unfold Ef Lf at hi hp
      have hok : okAt l i ↔ ¬ (rd_T37 l (i : Int)).f0 ≤ (rd_T37 l ((i - 1 : Nat) : Int)).f0 ∧ ¬ (rd_T37 l (i : Int)).f1 ≤ (rd_T37 l ((i - 1 : Nat) : Int)).f1 := by
        unfold okAt Ef Lf
        rw [if_neg h0, if_neg h0]
        omega
      by_cases h1 : (rd_T37 l (i : Int)).f0 < 1
      · rw [if_pos h1]
        exact ⟨fun h2 => absurd (hok.1 h2.1).1 (by omega), fun _ => rfl⟩
      · rw [if_neg h1]
        by_cases h2 : (rd_T37 l (i : Int)).f1 < 1
        · rw [if_pos h2]
          exact ⟨fun h3 => absurd (hok.1 h3.1).2 (by omega), fun _ => rfl⟩
        · rw [if_neg h2, if_pos (by omega), if_pos (by omega), if_pos (by omega)]
          by_cases h3 : (rd_T37 l (i : Int)).f0 ≤ (rd_T37 l ((i - 1 : Nat) : Int)).f0
          · rw [if_pos h3]
            exact ⟨fun h4 => absurd h3 (hok.1 h4.1).1, fun _ => rfl⟩
          · rw [if_neg h3]
            by_cases h4 : (rd_T37 l (i : Int)).f1 ≤ (rd_T37 l ((i - 1 : Nat) : Int)).f1
            · rw [if_pos h4]
              exact ⟨fun h5 => absurd h4 (hok.1 h5.1).2, fun _ => rfl⟩
            · rw [if_neg h4]
              exact ⟨fun h5 => ih1 h5.2, fun h5 => ih2 fun h6 => h5 ⟨hok.2 ⟨h3, h4⟩, h6⟩⟩
theorem refCheck_eq (k : Nat) (l : List S37) (hw : wfS l) (hk : l.length < k) (hl : l.length ≤ 1000) : drayageref06_Check.f k l = some (chkS l) := by
  obtain ⟨h1, h2⟩ := refCheck_l0 l hw hl l.length 0 k (by omega) hk
  unfold drayageref06_Check.f chkS
  by_cases ht : tbl l = true
  · rw [if_pos ht]
    exact h1 fun j _ hj => (tbl_iff l).1 ht j hj
  · rw [if_neg ht]
    exact h2 fun h3 => ht ((tbl_iff l).2 fun j hj => h3 j (by omega) hj)

/-! ### the epoch of an entry -/
theorem refAt_l0 {l : List S37} (ht : tbl l = true) (hl : l.length ≤ 1000) (x : Int) : ∀ (d i k : Nat) (v : Int), i + d = l.length → 2 * d + 1 < k → v = (if min i (cnt l x) = 0 then 0 else Ef l (min i (cnt l x) - 1)) →
    drayageref06_At.l0 k l x v 0 (i : Int) = some (atS l x) := by
  have hc := cnt_le l x
  intro d
  induction d with
  | zero =>
    intro i k v h hk hv
    obtain ⟨k, rfl⟩ : ∃ m, k = m + 1 := ⟨k - 1, by omega⟩
    obtain ⟨k, rfl⟩ : ∃ m, k = m + 1 := ⟨k - 1, by omega⟩
    simp only [drayageref06_At.l0, drayageref06_At.j1]
    rw [if_neg (by omega), if_neg (by simp), hv, show min i (cnt l x) = cnt l x by omega]
    rfl
  | succ d ih =>
    intro i k v h hk hv
    obtain ⟨k, rfl⟩ : ∃ m, k = m + 1 := ⟨k - 1, by omega⟩
    obtain ⟨k, rfl⟩ : ∃ m, k = m + 1 := ⟨k - 1, by omega⟩
    have hbody : drayageref06_At.l0 (k + 1 + 1) l x v 0 (i : Int) = (if (i : Int) < (l.length : Int) then (if ((0 : Int) == 0) = true then (if 0 ≤ (i : Int) then (if (i : Int) < (l.length : Int) then (if ((rd_T37 l (i : Int)).f1) ≤ x then (drayageref06_At.l0 k l x ((rd_T37 l (i : Int)).f0) 0 (wrap64 ((i : Int) + 1))) else (drayageref06_At.l0 k l x v 0 (wrap64 ((i : Int) + 1)))) else (none)) else (none)) else (some v)) else (drayageref06_At.j1 (k + 1) l x v 0 (i : Int) false)) := by simp only [drayageref06_At.l0, drayageref06_At.j1]
    rw [hbody, if_pos (by omega), if_pos (show ((0 : Int) == 0) = true from rfl), if_pos (by omega), if_pos (by omega), w64 i (by omega)]
    by_cases hx : Lf l i ≤ x
    · have hi : i < cnt l x := by
        rcases Nat.lt_or_ge i (cnt l x) with h' | h'
        · exact h'
        · have := cnt_high ht x i h' (by omega)
          omega
      rw [if_pos hx]
      refine ih (i + 1) k _ (by omega) (by omega) ?_
      rw [show min (i + 1) (cnt l x) = i + 1 by omega, if_neg (by omega), Nat.add_sub_cancel]
    · have hi : cnt l x ≤ i := by
        rcases Nat.lt_or_ge i (cnt l x) with h' | h'
        · exact absurd (cnt_low l x i h') hx
        · exact h'
      rw [if_neg hx]
      refine ih (i + 1) k _ (by omega) (by omega) ?_
      rw [hv, show min i (cnt l x) = cnt l x by omega, show min (i + 1) (cnt l x) = cnt l x by omega]
theorem refAt_no (k : Nat) (l : List S37) (x v c : Int) (hc : c ≠ 0) (hk : 2 ≤ k) : drayageref06_At.l0 k l x v c 0 = some v := by
  obtain ⟨k, rfl⟩ : ∃ m, k = m + 1 := ⟨k - 1, by omega⟩
  obtain ⟨k, rfl⟩ : ∃ m, k = m + 1 := ⟨k - 1, by omega⟩
  have hb : (c == 0) = false := beq_eq_false_iff_ne.mpr hc
  simp only [drayageref06_At.l0, drayageref06_At.j1, hb]
  split <;> simp
theorem refAt_eq (k : Nat) (l : List S37) (x : Int) (hw : wfS l) (hk : 2 * l.length + 1 < k) (hl : l.length ≤ 1000) : drayageref06_At.f k l x = some (if tbl l = true then atS l x else 0) := by
  unfold drayageref06_At.f
  rw [refCheck_eq k l hw (by omega) hl, Option.bind_some]
  unfold chkS
  by_cases ht : tbl l = true
  · rw [if_pos ht, if_pos ht]
    exact refAt_l0 ht hl x l.length 0 k 0 (by omega) hk (by simp)
  · rw [if_neg ht, if_neg ht]
    exact refAt_no k l x 0 60 (by omega) (by omega)

/-! ### the end of an epoch -/
/-- The end, so far: of the first i starts. -/
def endI (l : List S37) (last ep : Int) (i : Nat) : Int := endF l last (min i (down l ep (cnt l last)))
theorem below_down {l : List S37} (ht : tbl l = true) (last ep : Int) (i : Nat) (hi : i < l.length) : (Ef l i ≤ ep ∧ Lf l i ≤ last) ↔ i < down l ep (cnt l last) := by
  obtain ⟨h1, h2, h3⟩ := down_spec l ep (cnt l last)
  have hc := cnt_le l last
  constructor
  · rintro ⟨he, hL⟩
    have hic : i < cnt l last := by
      rcases Nat.lt_or_ge i (cnt l last) with h' | h'
      · exact h'
      · have := cnt_high ht last i h' hi
        omega
    rcases Nat.lt_or_ge i (down l ep (cnt l last)) with h' | h'
    · exact h'
    · have := h2 i h' hic
      omega
  · intro h
    have he := h3 (by omega)
    have hm := (tbl_le ht i (down l ep (cnt l last) - 1) (by omega) (by omega)).1
    exact ⟨by unfold Ef at *; omega, cnt_low l last i (by omega)⟩
theorem refEnd_l0 {l : List S37} (ht : tbl l = true) (hw : wfS l) (hl : l.length ≤ 1000) (last ep : Int) : ∀ (d i k : Nat) (v : Int), i + d = l.length → 3 * d + 1 < k → v = endI l last ep i →
    drayageref06_End.l0 k l last ep v 0 (i : Int) = some (endS l last ep) := by
  obtain ⟨hd1, hd2, hd3⟩ := down_spec l ep (cnt l last)
  have hc := cnt_le l last
  intro d
  induction d with
  | zero =>
    intro i k v h hk hv
    obtain ⟨k, rfl⟩ : ∃ m, k = m + 1 := ⟨k - 1, by omega⟩
    obtain ⟨k, rfl⟩ : ∃ m, k = m + 1 := ⟨k - 1, by omega⟩
    simp only [drayageref06_End.l0, drayageref06_End.j1]
    rw [if_neg (by omega), if_neg (by simp), hv]
    unfold endI endS
    rw [show min i (down l ep (cnt l last)) = down l ep (cnt l last) by omega]
  | succ d ih =>
    intro i k v h hk hv
    obtain ⟨k, rfl⟩ : ∃ m, k = m + 1 := ⟨k - 1, by omega⟩
    obtain ⟨k, rfl⟩ : ∃ m, k = m + 1 := ⟨k - 1, by omega⟩
    obtain ⟨k, rfl⟩ : ∃ m, k = m + 1 := ⟨k - 1, by omega⟩
    have hb := below_down ht last ep i (by omega)
    have hj2 : ∀ b : Bool, drayageref06_End.j2 (k + 1) l last ep v 0 (i : Int) b = (if b = true then (if (wrap64 ((i : Int) + 1)) < (l.length : Int) then (if 0 ≤ (wrap64 ((i : Int) + 1)) then (if ((rd_T37 l (wrap64 ((i : Int) + 1))).f1) ≤ last then (drayageref06_End.l0 k l last ep (IntKind.u64.wrap (((rd_T37 l (wrap64 ((i : Int) + 1))).f1) - 1)) 0 (wrap64 ((i : Int) + 1))) else (drayageref06_End.l0 k l last ep last 0 (wrap64 ((i : Int) + 1)))) else (none)) else (drayageref06_End.l0 k l last ep last 0 (wrap64 ((i : Int) + 1)))) else (drayageref06_End.l0 k l last ep v 0 (wrap64 ((i : Int) + 1)))) := fun b => by simp only [drayageref06_End.j2]
    have hbody : drayageref06_End.l0 (k + 1 + 1 + 1) l last ep v 0 (i : Int) = (if (i : Int) < (l.length : Int) then (if ((0 : Int) == 0) = true then (if 0 ≤ (i : Int) then (if (i : Int) < (l.length : Int) then (if ((rd_T37 l (i : Int)).f0) ≤ ep then (drayageref06_End.j2 (k + 1) l last ep v 0 (i : Int) (decide (((rd_T37 l (i : Int)).f1) ≤ last))) else (drayageref06_End.j2 (k + 1) l last ep v 0 (i : Int) false)) else (none)) else (none)) else (some v)) else (drayageref06_End.j1 (k + 1 + 1) l last ep v 0 (i : Int) false)) := by simp only [drayageref06_End.l0, drayageref06_End.j1]
    rw [hbody, if_pos (by omega), if_pos (show ((0 : Int) == 0) = true from rfl), if_pos (by omega), if_pos (by omega), hj2, hj2, w64 i (by omega)]
    have hno : ¬ i < down l ep (cnt l last) → endI l last ep (i + 1) = endI l last ep i := fun hn => by
      unfold endI
      rw [show min i (down l ep (cnt l last)) = down l ep (cnt l last) by omega, show min (i + 1) (down l ep (cnt l last)) = down l ep (cnt l last) by omega]
    by_cases he : Ef l i ≤ ep
    · by_cases hL : Lf l i ≤ last
      · have hi := hb.1 ⟨he, hL⟩
        rw [if_pos he, decide_eq_true hL, if_pos rfl]
        have hm : min (i + 1) (down l ep (cnt l last)) = i + 1 := by omega
        by_cases hn : i + 1 < l.length
        · have hp := (tbl_pos ht (i + 1) hn).2
          have hw1 := (hw (i + 1) hn).2.2.2
          rw [if_pos (by omega), if_pos (by omega), u64m _ (by have := hp; unfold Lf at this ⊢; omega) hw1]
          by_cases hL2 : Lf l (i + 1) ≤ last
          · rw [if_pos hL2]
            refine ih (i + 1) k _ (by omega) (by omega) ?_
            unfold endI endF
            rw [hm, if_neg (by omega), if_pos hn]
            unfold mn
            rw [if_pos (by omega)]
          · rw [if_neg hL2]
            refine ih (i + 1) k _ (by omega) (by omega) ?_
            unfold endI endF
            rw [hm, if_neg (by omega), if_pos hn]
            unfold mn
            rw [if_neg (by omega)]
        · rw [if_neg (by omega)]
          refine ih (i + 1) k _ (by omega) (by omega) ?_
          unfold endI endF
          rw [hm, if_neg (by omega), if_neg hn]
      · rw [if_pos he, decide_eq_false hL, if_neg (by simp)]
        exact ih (i + 1) k _ (by omega) (by omega) (by rw [hv, hno (fun h1 => hL (hb.2 h1).2)])
    · rw [if_neg he, if_neg (by simp)]
      exact ih (i + 1) k _ (by omega) (by omega) (by rw [hv, hno (fun h1 => he (hb.2 h1).1)])
theorem refEnd_no (k : Nat) (l : List S37) (x y v c : Int) (hc : c ≠ 0) (hk : 2 ≤ k) : drayageref06_End.l0 k l x y v c 0 = some v := by
  obtain ⟨k, rfl⟩ : ∃ m, k = m + 1 := ⟨k - 1, by omega⟩
  obtain ⟨k, rfl⟩ : ∃ m, k = m + 1 := ⟨k - 1, by omega⟩
  have hb : (c == 0) = false := beq_eq_false_iff_ne.mpr hc
  simp only [drayageref06_End.l0, drayageref06_End.j1, hb]
  split <;> simp
theorem refEnd_eq (k : Nat) (l : List S37) (last ep : Int) (hw : wfS l) (hk : 3 * l.length + 1 < k) (hl : l.length ≤ 1000) : drayageref06_End.f k l last ep = some (if tbl l = true then endS l last ep else 0) := by
  unfold drayageref06_End.f
  rw [refCheck_eq k l hw (by omega) hl, Option.bind_some]
  unfold chkS
  by_cases ht : tbl l = true
  · rw [if_pos ht, if_pos ht]
    exact refEnd_l0 ht hw hl last ep l.length 0 k 0 (by omega) hk (by unfold endI endF; rw [if_pos (by omega)])
  · rw [if_neg ht, if_neg ht]
    exact refEnd_no k l last ep 0 60 (by omega) (by omega)

/-! ### the same, cut, added -/
theorem Same_l0 (l : List S37) (hl : l.length ≤ 1000) : ∀ (d i k : Nat), i + d = l.length → d < k → drayageref06_Same.l0 k l l (i : Int) = some true := by
  intro d
  induction d with
  | zero =>
    intro i k h hk
    obtain ⟨k, rfl⟩ : ∃ m, k = m + 1 := ⟨k - 1, by omega⟩
    simp only [drayageref06_Same.l0]
    rw [if_neg (by omega)]
  | succ d ih =>
    intro i k h hk
    obtain ⟨k, rfl⟩ : ∃ m, k = m + 1 := ⟨k - 1, by omega⟩
    have := ih (i + 1) k (by omega) (by omega)
    rw [← w64 i (by omega)] at this
    simp only [drayageref06_Same.l0]
    rw [if_pos (by omega), if_pos (by omega), if_pos (by omega), if_neg (by simp), this]
theorem Same_eq (k : Nat) (l : List S37) (hk : l.length < k) (hl : l.length ≤ 1000) : drayageref06_Same.f k l l = some true := by
  unfold drayageref06_Same.f
  rw [if_pos rfl]
  exact Same_l0 l hl l.length 0 k (by omega) hk
theorem refCut_l0 {l : List S37} (ht : tbl l = true) (hl : l.length ≤ 1000) (x : Int) : ∀ (d i k : Nat) (v : List S37), i + d = l.length → 2 * d + 1 < k → v = l.take (min i (cnt l x)) →
    drayageref06_Cut.l0 k l x v 0 (i : Int) = some (l.take (cnt l x)) := by
  have hc := cnt_le l x
  intro d
  induction d with
  | zero =>
    intro i k v h hk hv
    obtain ⟨k, rfl⟩ : ∃ m, k = m + 1 := ⟨k - 1, by omega⟩
    obtain ⟨k, rfl⟩ : ∃ m, k = m + 1 := ⟨k - 1, by omega⟩
    simp only [drayageref06_Cut.l0, drayageref06_Cut.j1]
    rw [if_neg (by omega), if_neg (by simp), hv, show min i (cnt l x) = cnt l x by omega]
  | succ d ih =>
    intro i k v h hk hv
    obtain ⟨k, rfl⟩ : ∃ m, k = m + 1 := ⟨k - 1, by omega⟩
    obtain ⟨k, rfl⟩ : ∃ m, k = m + 1 := ⟨k - 1, by omega⟩
    have hbody : drayageref06_Cut.l0 (k + 1 + 1) l x v 0 (i : Int) = (if (i : Int) < (l.length : Int) then (if ((0 : Int) == 0) = true then (if 0 ≤ (i : Int) then (if (i : Int) < (l.length : Int) then (if ((rd_T37 l (i : Int)).f1) ≤ x then (if v.length < 8796093022208 then (drayageref06_Cut.l0 k l x (v ++ [(⟨(rd_T37 l (i : Int)).f0, (rd_T37 l (i : Int)).f1⟩ : S37)]) 0 (wrap64 ((i : Int) + 1))) else (none)) else (drayageref06_Cut.l0 k l x v 0 (wrap64 ((i : Int) + 1)))) else (none)) else (none)) else (some v)) else (drayageref06_Cut.j1 (k + 1) l x v 0 (i : Int) false)) := by simp only [drayageref06_Cut.l0, drayageref06_Cut.j1]
    rw [hbody, if_pos (by omega), if_pos (show ((0 : Int) == 0) = true from rfl), if_pos (by omega), if_pos (by omega), w64 i (by omega)]
    by_cases hx : Lf l i ≤ x
    · have hi : i < cnt l x := by
        rcases Nat.lt_or_ge i (cnt l x) with h' | h'
        · exact h'
        · have := cnt_high ht x i h' (by omega)
          omega
      have hv2 : v.length < 8796093022208 := by rw [hv, List.length_take]; omega
      rw [if_pos hx, if_pos hv2]
      refine ih (i + 1) k _ (by omega) (by omega) ?_
      rw [hv, show min i (cnt l x) = i by omega, show min (i + 1) (cnt l x) = i + 1 by omega, take_succ_rd l i (by omega)]
    · have hi : cnt l x ≤ i := by
        rcases Nat.lt_or_ge i (cnt l x) with h' | h'
        · exact absurd (cnt_low l x i h') hx
        · exact h'
      rw [if_neg hx]
      refine ih (i + 1) k _ (by omega) (by omega) ?_
      rw [hv, show min i (cnt l x) = cnt l x by omega, show min (i + 1) (cnt l x) = cnt l x by omega]
theorem refCut_no (k : Nat) (l v : List S37) (x c : Int) (hc : c ≠ 0) (hk : 2 ≤ k) : drayageref06_Cut.l0 k l x v c 0 = some v := by
  obtain ⟨k, rfl⟩ : ∃ m, k = m + 1 := ⟨k - 1, by omega⟩
  obtain ⟨k, rfl⟩ : ∃ m, k = m + 1 := ⟨k - 1, by omega⟩
  have hb : (c == 0) = false := beq_eq_false_iff_ne.mpr hc
  simp only [drayageref06_Cut.l0, drayageref06_Cut.j1, hb]
  split <;> simp
theorem refCut_eq (k : Nat) (l : List S37) (x : Int) (hw : wfS l) (hk : 2 * l.length + 1 < k) (hl : l.length ≤ 1000) : drayageref06_Cut.f k l x = some (cutS l x) := by
  unfold drayageref06_Cut.f cutS
  rw [refCheck_eq k l hw (by omega) hl, Option.bind_some]
  unfold chkS
  by_cases ht : tbl l = true
  · rw [if_pos ht, if_pos ht]
    exact refCut_l0 ht hl x l.length 0 k [] (by omega) hk (by simp)
  · rw [if_neg ht, if_neg ht]
    exact refCut_no k l [] x 60 (by omega) (by omega)
theorem wfS_app {l : List S37} (hw : wfS l) (e n : Int) (he : 0 ≤ e) (he' : e < 4294967296) (hn : 0 ≤ n) (hn' : n < 18446744073709551616) : wfS (l ++ [(⟨e, n⟩ : S37)]) := by
  intro i hi
  rcases Nat.lt_or_ge i l.length with h | h
  · have := hw i h
    unfold Ef Lf at this ⊢
    rwa [rd_app1 l _ i h]
  · obtain rfl : i = l.length := by simp at hi; omega
    unfold Ef Lf
    rw [rd_app2]
    exact ⟨he, he', hn, hn'⟩
theorem refAdd_eq (k : Nat) (l : List S37) (e n : Int) (hw : wfS l) (he : 0 ≤ e) (he' : e < 4294967296) (hn : 0 ≤ n) (hn' : n < 18446744073709551616) (hk : l.length + 1 < k) (hl : l.length < 1000) :
    drayageref06_Add.f k l e n = some (if tbl (l ++ [(⟨e, n⟩ : S37)]) = true then (l ++ [(⟨e, n⟩ : S37)], 0) else ([], 60)) := by
  unfold drayageref06_Add.f
  rw [if_pos (by simp; omega)]
  simp only [Option.bind_some, List.nil_append]
  rw [if_pos (by omega), refCheck_eq k (l ++ [(⟨e, n⟩ : S37)]) (wfS_app hw e n he he' hn hn') (by simp; omega) (by simp; omega), Option.bind_some]
  unfold chkS
  by_cases ht : tbl (l ++ [(⟨e, n⟩ : S37)]) = true
  · rw [if_pos ht, if_pos rfl, if_pos ht]
  · rw [if_neg ht, if_neg (by omega), if_neg ht]
end Go.Proofs.Ytdbebophchggfaa.Ep
