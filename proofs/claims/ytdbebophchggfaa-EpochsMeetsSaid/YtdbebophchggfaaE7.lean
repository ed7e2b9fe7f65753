/- Plain lemmas: where two journals part. Conditions: tables, numbers of their kinds, at most a thousand starts. -/
import Derived.Test.YtdbebophchggfaaE6
namespace Go.Proofs.Ytdbebophchggfaa.Ep
open Go.RowKit Go.Proofs.YtdbebophchggfaaW.PrintWords Go.Proofs.YtdbebophchggfaaW.PrintLast Go.Proofs.YtdbebophchggfaaW.PrintMore
set_option linter.unusedVariables false
set_option linter.unusedSimpArgs false

theorem cp_sym : ∀ a b : List S37, cp a b = cp b a
  | [], [] => rfl
  | [], _ :: _ => rfl
  | _ :: _, [] => rfl
  | a :: s, b :: t => by
    have h1 : (a.f0 == b.f0) = (b.f0 == a.f0) := BEq.comm
    have h2 : (a.f1 == b.f1) = (b.f1 == a.f1) := BEq.comm
    simp only [cp]
    rw [h1, h2, cp_sym s t]
theorem cp_self : ∀ a : List S37, cp a a = a.length
  | [] => rfl
  | a :: s => by simp only [cp]; rw [if_pos (by simp), cp_self s, List.length_cons]
theorem cp_same (a b : List S37) (j : Nat) (h : j < cp a b) : Ef a j = Ef b j ∧ Lf a j = Lf b j := by
  have := cp_eq a b j h
  simp only [Bool.and_eq_true, beq_iff_eq] at this
  exact this
theorem cp_part (a b : List S37) (h1 : cp a b < a.length) (h2 : cp a b < b.length) : ¬ (Ef a (cp a b) = Ef b (cp a b) ∧ Lf a (cp a b) = Lf b (cp a b)) := by
  have := cp_ne a b h1 h2
  intro h3
  unfold Ef Lf at h3
  rw [h3.1, h3.2] at this
  simp at this
theorem mn_le (x y : Int) : mn x y ≤ x ∧ mn x y ≤ y ∧ (mn x y = x ∨ mn x y = y) := by
  unfold mn
  split <;> omega
def forkV (a b : List S37) (e : Int) : Int :=
  let e1 := if cp a b < a.length then mn e (Lf a (cp a b) - 1) else e
  if cp a b < b.length then mn e1 (Lf b (cp a b) - 1) else e1
theorem forkV_spec (a b : List S37) (e : Int) : forkV a b e ≤ e ∧ (cp a b < a.length → forkV a b e ≤ Lf a (cp a b) - 1) ∧ (cp a b < b.length → forkV a b e ≤ Lf b (cp a b) - 1) ∧
    (forkV a b e = e ∨ (cp a b < a.length ∧ forkV a b e = Lf a (cp a b) - 1) ∨ (cp a b < b.length ∧ forkV a b e = Lf b (cp a b) - 1)) := by
  have h1 := mn_le e (Lf a (cp a b) - 1)
  have h2 := mn_le e (Lf b (cp a b) - 1)
  have h3 := mn_le (mn e (Lf a (cp a b) - 1)) (Lf b (cp a b) - 1)
  by_cases ha : cp a b < a.length <;> by_cases hb : cp a b < b.length
  · have hV : forkV a b e = mn (mn e (Lf a (cp a b) - 1)) (Lf b (cp a b) - 1) := by unfold forkV; simp only [ha, hb, if_true]
    rw [hV]; omega
  · have hV : forkV a b e = mn e (Lf a (cp a b) - 1) := by unfold forkV; simp only [ha, hb, if_true, if_false]
    rw [hV]; omega
  · have hV : forkV a b e = mn e (Lf b (cp a b) - 1) := by unfold forkV; simp only [ha, hb, if_true, if_false]
    rw [hV]; omega
  · have hV : forkV a b e = e := by unfold forkV; simp only [ha, hb, if_false]
    rw [hV]; omega
theorem forkE_eq {a b : List S37} (ha : tbl a = true) (hb : tbl b = true) (wa : wfS a) (wb : wfS b) (e : Int) : forkE a b e = forkV a b e := by
  have h1 : cp a b < a.length → IntKind.u64.wrap ((rd_T37 a (cp a b : Nat)).f1 - 1) = Lf a (cp a b) - 1 := fun h => u64m (Lf a (cp a b)) (by have := (tbl_pos ha _ h).2; omega) (wa _ h).2.2.2
  have h2 : cp a b < b.length → IntKind.u64.wrap ((rd_T37 b (cp a b : Nat)).f1 - 1) = Lf b (cp a b) - 1 := fun h => u64m (Lf b (cp a b)) (by have := (tbl_pos hb _ h).2; omega) (wb _ h).2.2.2
  unfold forkE forkV
  by_cases ha' : cp a b < a.length <;> by_cases hb' : cp a b < b.length
  · simp only [ha', hb', if_true]; rw [h1 ha', h2 hb']
  · simp only [ha', hb', if_true, if_false]; rw [h1 ha']
  · simp only [ha', hb', if_true, if_false]; rw [h2 hb']
  · simp only [ha', hb', if_false]
theorem mn_comm (x y : Int) : mn x y = mn y x := by unfold mn; split <;> split <;> omega
theorem forkV_sym (a b : List S37) (e : Int) : forkV a b e = forkV b a e := by
  have h1 := forkV_spec a b e
  have h2 := forkV_spec b a e
  rw [cp_sym b a] at h2
  omega
/-- Ahead of the part both are alike. -/
theorem cnt_alike {a b : List S37} (hb : tbl b = true) (x : Int) (h1 : cp a b < a.length → x < Lf a (cp a b)) (h2 : cp a b < b.length → x < Lf b (cp a b)) : cnt a x ≤ cp a b ∧ cnt b x = cnt a x := by
  have hcp := cp_le a b
  have hc := cnt_le a x
  have hp : cnt a x ≤ cp a b := by
    rcases Nat.lt_or_ge (cp a b) (cnt a x) with h | h
    · have := cnt_low a x (cp a b) h
      have := h1 (by omega)
      omega
    · exact h
  refine ⟨hp, cnt_is hb x (cnt a x) (by omega) (fun h0 => ?_) (fun hlt => ?_)⟩
  · have := cnt_low a x (cnt a x - 1) (by omega)
    rw [← (cp_same a b (cnt a x - 1) (by omega)).2]
    exact this
  · rcases Nat.lt_or_ge (cnt a x) (cp a b) with h | h
    · have := (cnt_spec0 x a).2 (by omega)
      rw [← (cp_same a b (cnt a x) h).2]
      exact this
    · have he : cnt a x = cp a b := by omega
      rw [he] at hlt ⊢
      exact h2 hlt
theorem at_alike {a b : List S37} (hb : tbl b = true) (x : Int) (h1 : cp a b < a.length → x < Lf a (cp a b)) (h2 : cp a b < b.length → x < Lf b (cp a b)) : atS a x = atS b x := by
  obtain ⟨hp, hc⟩ := cnt_alike hb x h1 h2
  unfold atS
  rw [hc]
  by_cases h0 : cnt a x = 0
  · rw [if_pos h0, if_pos h0]
  · rw [if_neg h0, if_neg h0, (cp_same a b (cnt a x - 1) (by omega)).1]
theorem cut_alike {a b : List S37} (ha : tbl a = true) (hb : tbl b = true) (x : Int) (h1 : cp a b < a.length → x < Lf a (cp a b)) (h2 : cp a b < b.length → x < Lf b (cp a b)) : cutS a x = cutS b x := by
  obtain ⟨hp, hc⟩ := cnt_alike hb x h1 h2
  have hcp := cp_le a b
  unfold cutS
  rw [if_pos ha, if_pos hb, hc]
  refine ext_rd _ _ (by simp only [List.length_take]; omega) (fun i hi => ?_)
  have hi2 : i < cnt a x := by simp only [List.length_take] at hi; omega
  rw [rd_take a _ i hi2, rd_take b _ i hi2]
  have := cp_same a b i (by omega)
  unfold Ef Lf at this
  rw [← eta37 (rd_T37 a (i : Int)), ← eta37 (rd_T37 b (i : Int)), this.1, this.2]
/-- The epoch of the entry at which a start stands. -/
theorem at_start {l : List S37} (h : tbl l = true) (i : Nat) (hi : i < l.length) : cnt l (Lf l i) = i + 1 ∧ atS l (Lf l i) = Ef l i := by
  have hc : cnt l (Lf l i) = i + 1 := cnt_is h _ (i + 1) hi (fun _ => by rw [Nat.add_sub_cancel]; exact Int.le_refl _) (fun hlt => (tbl_lt h i (i + 1) (by omega) hlt).2)
  unfold atS
  rw [hc, if_neg (by omega), Nat.add_sub_cancel]
  exact ⟨rfl, rfl⟩
/-- Where the first start stands of which the other one has not the like, the epochs are not the same. -/
theorem at_unlike {a b : List S37} (ha : tbl a = true) (hb : tbl b = true) (h1 : cp a b < a.length) (h2 : cp a b < b.length → Lf a (cp a b) ≤ Lf b (cp a b)) : atS b (Lf a (cp a b)) ≠ Ef a (cp a b) := by
  have hcp := cp_le a b
  by_cases hlt : cp a b < b.length
  · by_cases he : Lf b (cp a b) = Lf a (cp a b)
    · have hs := (at_start hb (cp a b) hlt).2
      rw [he] at hs
      have hp := cp_part a b h1 hlt
      intro h3
      exact hp ⟨by rw [← hs, h3], he.symm⟩
    · have h3 := h2 hlt
      have hc : cnt b (Lf a (cp a b)) = cp a b := cnt_is hb _ _ (by omega) (fun h0 => by
        rw [← (cp_same a b (cp a b - 1) (by omega)).2]
        have := (tbl_lt ha (cp a b - 1) (cp a b) (by omega) h1).2
        omega) (fun _ => by omega)
      unfold atS
      rw [hc]
      have hpos := (tbl_pos ha _ h1).1
      by_cases h0 : cp a b = 0
      · rw [if_pos h0]; omega
      · rw [if_neg h0, ← (cp_same a b (cp a b - 1) (by omega)).1]
        have := (tbl_lt ha (cp a b - 1) (cp a b) (by omega) h1).1
        omega
  · have hc : cnt b (Lf a (cp a b)) = cp a b := cnt_is hb _ _ (by omega) (fun h0 => by
        rw [← (cp_same a b (cp a b - 1) (by omega)).2]
        have := (tbl_lt ha (cp a b - 1) (cp a b) (by omega) h1).2
        omega) (fun h => absurd h hlt)
    unfold atS
    rw [hc]
    have hpos := (tbl_pos ha _ h1).1
    by_cases h0 : cp a b = 0
    · rw [if_pos h0]; omega
    · rw [if_neg h0, ← (cp_same a b (cp a b - 1) (by omega)).1]
      have := (tbl_lt ha (cp a b - 1) (cp a b) (by omega) h1).1
      omega
theorem at_other {a b : List S37} (hb : tbl b = true) (i : Nat) (hi : i < cp a b) : atS b (Lf a i) = Ef a i := by
  have hcp := cp_le a b
  rw [(cp_same a b i hi).2, (cp_same a b i hi).1]
  exact (at_start hb i (by omega)).2

/-! ### the reference's fork -/
/-- What holds behind the first of its loops. -/
def forkQ (a b : List S37) (e0 x : Int) : Prop := forkV a b e0 ≤ x ∧ x ≤ e0 ∧ (x = forkV a b e0 ∨ (cp a b < b.length ∧ (cp a b < a.length → Lf b (cp a b) < Lf a (cp a b)) ∧ (Lf b (cp a b) ≤ e0 → Lf b (cp a b) ≤ x)))
theorem fork_l1 {a b : List S37} (ha : tbl a = true) (hb : tbl b = true) (wa : wfS a) (wb : wfS b) (la : a.length ≤ 1000) (lb : b.length ≤ 1000) (e0 : Int) : ∀ (d i k : Nat) (x : Int), i + d = b.length → d + 2 * a.length + 1 < k →
    forkV a b e0 ≤ x → x ≤ e0 → (cp a b < i → x = forkV a b e0) → (i ≤ cp a b → forkQ a b e0 x) → drayageref06_Fork.l1 k a b x (i : Int) = some (forkV a b e0) := by
  obtain ⟨v1, v2, v3, v4⟩ := forkV_spec a b e0
  have hcp := cp_le a b
  intro d
  induction d with
  | zero =>
    intro i k x h hk h1 h2 h3 h4
    obtain ⟨k, rfl⟩ : ∃ m, k = m + 1 := ⟨k - 1, by omega⟩
    simp only [drayageref06_Fork.l1]
    rw [if_neg (by omega)]
    rcases Nat.lt_or_ge (cp a b) i with h' | h'
    · rw [h3 h']
    · rcases (h4 h').2.2 with h5 | ⟨h5, _⟩
      · rw [h5]
      · omega
  | succ d ih =>
    intro i k x h hk h1 h2 h3 h4
    obtain ⟨k, rfl⟩ : ∃ m, k = m + 1 := ⟨k - 1, by omega⟩
    have hib : i < b.length := by omega
    have hbody : drayageref06_Fork.l1 (k + 1) a b x (i : Int) = (if (i : Int) < (b.length : Int) then (if 0 ≤ (i : Int) then (if (Lf b i) ≤ x then ((drayageref06_At.f k a (Lf b i)).bind fun t144 => (if t144 = (Ef b i) then (drayageref06_Fork.l1 k a b x (wrap64 ((i : Int) + 1))) else (drayageref06_Fork.l1 k a b (IntKind.u64.wrap ((Lf b i) - 1)) (wrap64 ((i : Int) + 1))))) else (drayageref06_Fork.l1 k a b x (wrap64 ((i : Int) + 1)))) else (none)) else (some x)) := by first | (simp only [drayageref06_Fork.l1]; done) | (simp only [drayageref06_Fork.l1]; rfl)
    rw [hbody, if_pos (by omega), if_pos (by omega), w64 i (by omega), refAt_eq k a _ wa (by omega) la, if_pos ha, Option.bind_some]
    have hpos := (tbl_pos hb i hib).2
    have hwi := (wb i hib).2.2.2
    rw [u64m _ (by omega) hwi]
    rcases Nat.lt_or_ge i (cp a b) with hlt | hge
    · have hs : atS a (Lf b i) = Ef b i := by
        have := at_other (a := b) (b := a) ha i (by rw [cp_sym]; exact hlt)
        exact this
      have hq := h4 (by omega)
      have hgo := ih (i + 1) k x (by omega) (by omega) h1 h2 (fun h' => by omega) (fun _ => hq)
      rw [if_pos hs]
      split <;> exact hgo
    · by_cases hx : Lf b i ≤ x
      · rw [if_pos hx]
        by_cases hi : i = cp a b
        · rcases (h4 (by omega)).2.2 with h5 | ⟨h5, h6, h7⟩
          · have := v3 (by omega)
            rw [← hi] at this
            omega
          · have hne : atS a (Lf b i) ≠ Ef b i := by
              have hc : cp b a = i := by rw [cp_sym, hi]
              have := at_unlike (a := b) (b := a) hb ha (by omega) (fun h' => by
                rw [hc] at h' ⊢
                have := h6 (by omega)
                rw [← hi] at this
                omega)
              rw [hc] at this
              exact this
            rw [if_neg hne]
            have h8 := v3 h5
            have hV : forkV a b e0 = Lf b i - 1 := by
              rw [← hi] at h8 v2 v4 h6
              rcases v4 with v4 | ⟨v4, v5⟩ | ⟨v4, v5⟩
              · omega
              · have := h6 v4
                omega
              · exact v5
            refine ih (i + 1) k _ (by omega) (by omega) ?_ ?_ ?_ ?_
            · omega
            · omega
            · intro _; exact hV.symm
            · intro h'; omega
        · have hxV := h3 (by omega)
          have h8 := v3 (by omega)
          have h9 := (tbl_lt hb (cp a b) i (by omega) hib).2
          omega
      · rw [if_neg hx]
        refine ih (i + 1) k x (by omega) (by omega) h1 h2 (fun h' => ?_) (fun h' => by omega)
        rcases Nat.lt_or_ge (cp a b) i with h'' | h''
        · exact h3 h''
        · have hi : i = cp a b := by omega
          rcases (h4 h'').2.2 with h5 | ⟨h5, h6, h7⟩
          · exact h5
          · rw [← hi] at h7 h6 v4 v2
            have h10 : e0 < Lf b i := by
              by_cases h' : e0 < Lf b i
              · exact h'
              · have := h7 (by omega)
                omega
            rcases v4 with v4 | ⟨v4, v5⟩ | ⟨v4, v5⟩
            · omega
            · have := h6 v4
              omega
            · omega
theorem fork_l0 {a b : List S37} (ha : tbl a = true) (hb : tbl b = true) (wa : wfS a) (wb : wfS b) (la : a.length ≤ 1000) (lb : b.length ≤ 1000) (e0 : Int) : ∀ (d i k : Nat) (x : Int), i + d = a.length → d + 3 * b.length + 2 * a.length + 3 < k →
    forkV a b e0 ≤ x → x ≤ e0 → (i ≤ cp a b → x = e0) → (cp a b < i → x = forkV a b e0 ∨ (cp a b < b.length ∧ Lf b (cp a b) < Lf a (cp a b) ∧ (Lf b (cp a b) ≤ e0 → Lf b (cp a b) ≤ x))) →
    drayageref06_Fork.l0 k a b x (i : Int) = some (forkV a b e0) := by
  obtain ⟨v1, v2, v3, v4⟩ := forkV_spec a b e0
  have hcp := cp_le a b
  intro d
  induction d with
  | zero =>
    intro i k x h hk h1 h2 h3 h4
    obtain ⟨k, rfl⟩ : ∃ m, k = m + 1 := ⟨k - 1, by omega⟩
    simp only [drayageref06_Fork.l0]
    rw [if_neg (by omega)]
    have hQ : forkQ a b e0 x := by
      refine ⟨h1, h2, ?_⟩
      rcases Nat.lt_or_ge (cp a b) i with h' | h'
      · rcases h4 h' with h5 | ⟨h5, h6, h7⟩
        · exact .inl h5
        · exact .inr ⟨h5, fun _ => h6, h7⟩
      · have hx := h3 h'
        by_cases hlt : cp a b < b.length
        · exact .inr ⟨hlt, fun h'' => by omega, fun h'' => by omega⟩
        · refine .inl ?_
          rcases v4 with v4 | ⟨v4, v5⟩ | ⟨v4, v5⟩ <;> omega
    exact fork_l1 ha hb wa wb la lb e0 b.length 0 k x (by omega) (by omega) h1 h2 (fun h' => by omega) (fun _ => hQ)
  | succ d ih =>
    intro i k x h hk h1 h2 h3 h4
    obtain ⟨k, rfl⟩ : ∃ m, k = m + 1 := ⟨k - 1, by omega⟩
    have hia : i < a.length := by omega
    have hbody : drayageref06_Fork.l0 (k + 1) a b x (i : Int) = (if (i : Int) < (a.length : Int) then (if 0 ≤ (i : Int) then (if (Lf a i) ≤ x then ((drayageref06_At.f k b (Lf a i)).bind fun t141 => (if t141 = (Ef a i) then (drayageref06_Fork.l0 k a b x (wrap64 ((i : Int) + 1))) else (drayageref06_Fork.l0 k a b (IntKind.u64.wrap ((Lf a i) - 1)) (wrap64 ((i : Int) + 1))))) else (drayageref06_Fork.l0 k a b x (wrap64 ((i : Int) + 1)))) else (none)) else (drayageref06_Fork.l1 k a b x 0)) := by first | (simp only [drayageref06_Fork.l0]; done) | (simp only [drayageref06_Fork.l0]; rfl)
    rw [hbody, if_pos (by omega), if_pos (by omega), w64 i (by omega), refAt_eq k b _ wb (by omega) lb, if_pos hb, Option.bind_some]
    have hpos := (tbl_pos ha i hia).2
    have hwi := (wa i hia).2.2.2
    rw [u64m _ (by omega) hwi]
    rcases Nat.lt_or_ge i (cp a b) with hlt | hge
    · have hs : atS b (Lf a i) = Ef a i := at_other hb i hlt
      have hgo := ih (i + 1) k x (by omega) (by omega) h1 h2 (fun _ => h3 (by omega)) (fun h' => by omega)
      rw [if_pos hs]
      split <;> exact hgo
    · by_cases hi : i = cp a b
      · have hxe := h3 (by omega)
        have hv2 := v2 (by omega)
        rw [← hi] at v4 hv2 v3
        by_cases hA : i < b.length → Lf a i ≤ Lf b i
        · by_cases hx : Lf a i ≤ x
          · have hne : atS b (Lf a i) ≠ Ef a i := by
              have := at_unlike ha hb (by omega) (by rw [← hi]; exact hA)
              rw [← hi] at this
              exact this
            rw [if_pos hx, if_neg hne]
            have hV : forkV a b e0 = Lf a i - 1 := by
              rcases v4 with v4 | ⟨v4, v5⟩ | ⟨v4, v5⟩
              · omega
              · exact v5
              · have := hA v4
                omega
            refine ih (i + 1) k _ (by omega) (by omega) ?_ ?_ ?_ ?_
            · omega
            · omega
            · intro h'; omega
            · intro _; exact .inl hV.symm
          · rw [if_neg hx]
            refine ih (i + 1) k x (by omega) (by omega) h1 h2 (fun h' => by omega) (fun _ => .inl ?_)
            rcases v4 with v4 | ⟨v4, v5⟩ | ⟨v4, v5⟩
            · omega
            · omega
            · have := hA v4
              omega
        · have hB : i < b.length ∧ Lf b i < Lf a i := ⟨Classical.byContradiction fun h' => hA fun h'' => absurd h'' h', by
            by_cases h' : Lf b i < Lf a i
            · exact h'
            · exact absurd (fun _ => by omega) hA⟩
          have hv3 := v3 hB.1
          have hgo : drayageref06_Fork.l0 k a b x ((i + 1 : Nat) : Int) = some (forkV a b e0) := ih (i + 1) k x (by omega) (by omega) h1 h2 (fun h' => by omega) (fun _ => .inr (by rw [← hi]; exact ⟨hB.1, hB.2, fun h' => by omega⟩))
          have hgo2 : drayageref06_Fork.l0 k a b (Lf a i - 1) ((i + 1 : Nat) : Int) = some (forkV a b e0) ∨ ¬ Lf a i ≤ x := by
            by_cases hx : Lf a i ≤ x
            · refine .inl (ih (i + 1) k _ (by omega) (by omega) ?_ ?_ (fun h' => by omega) (fun _ => .inr (by rw [← hi]; exact ⟨hB.1, hB.2, fun h' => by have := hB.2; omega⟩)))
              · have := hB.2; omega
              · omega
            · exact .inr hx
          by_cases hx : Lf a i ≤ x
          · rw [if_pos hx]
            split
            · exact hgo
            · exact hgo2.resolve_right (fun h' => h' hx)
          · rw [if_neg hx]; exact hgo
      · have hgt : cp a b < i := by omega
        have h9 := (tbl_lt ha (cp a b) i hgt hia).2
        have hv2 := v2 (by omega)
        rcases h4 hgt with h5 | ⟨h5, h6, h7⟩
        · have hx : ¬ Lf a i ≤ x := by omega
          rw [if_neg hx]
          exact ih (i + 1) k x (by omega) (by omega) h1 h2 (fun h' => by omega) (fun _ => .inl h5)
        · have hgo := ih (i + 1) k x (by omega) (by omega) h1 h2 (fun h' => by omega) (fun _ => .inr ⟨h5, h6, h7⟩)
          by_cases hx : Lf a i ≤ x
          · rw [if_pos hx]
            split
            · exact hgo
            · refine ih (i + 1) k _ (by omega) (by omega) ?_ ?_ (fun h' => by omega) (fun _ => .inr ⟨h5, h6, fun h' => ?_⟩)
              · omega
              · omega
              · omega
          · rw [if_neg hx]; exact hgo
theorem refFork_eq (k : Nat) (a b : List S37) (x y : Int) (wa : wfS a) (wb : wfS b) (la : a.length ≤ 1000) (lb : b.length ≤ 1000) (hk : 4 * b.length + 4 * a.length + 20 < k) :
    drayageref06_Fork.f k a x b y = some (if tbl a = true then (if tbl b = true then forkV a b (mn x y) else 0) else 0) := by
  have key : ∀ e : Int, drayageref06_Fork.j0 k a b e = some (if tbl a = true then (if tbl b = true then forkV a b e else 0) else 0) := fun e => by
    obtain ⟨k, rfl⟩ : ∃ m, k = m + 1 := ⟨k - 1, by omega⟩
    obtain ⟨k, rfl⟩ : ∃ m, k = m + 1 := ⟨k - 1, by omega⟩
    simp only [drayageref06_Fork.j0, drayageref06_Fork.j1]
    rw [refCheck_eq (k + 1) a wa (by omega) la, refCheck_eq (k + 1) b wb (by omega) lb]
    simp only [Option.bind_some, chkS]
    by_cases ha : tbl a = true
    · rw [if_pos ha, if_pos rfl, if_pos ha]
      by_cases hb : tbl b = true
      · rw [if_pos hb, if_pos hb, if_neg (by simp)]
        exact fork_l0 ha hb wa wb la lb e a.length 0 k e (by omega) (by omega) (forkV_spec a b e).1 (Int.le_refl _) (fun _ => rfl) (fun h => by omega)
      · rw [if_neg hb, if_neg hb, if_pos (by rfl)]
    · rw [if_neg ha, if_neg (by omega), if_neg ha]
      simp
  unfold drayageref06_Fork.f
  unfold mn
  split
  · exact key y
  · exact key x
theorem Fork_eq (a b : List S37) (x y : Int) (wa : wfS a) (wb : wfS b) : epochs_Fork.f a x b y = some (if tbl a = true then (if tbl b = true then forkV a b (mn x y) else 0) else 0) := by
  unfold epochs_Fork.f
  by_cases ha : tbl a = true
  · by_cases hb : tbl b = true
    · rw [if_pos ha, if_pos hb, if_pos ha, if_pos hb, forkE_eq ha hb wa wb]
    · rw [if_pos ha, if_neg hb, if_pos ha, if_neg hb]
  · rw [if_neg ha, if_neg ha]
end Go.Proofs.Ytdbebophchggfaa.Ep
