/- The plain law of EpochsMeets: its Lean function answers true. Condition: numbers of their kinds. -/
import Derived.Test.YtdbebophchggfaaFEpochsMeets
import Derived.Test.YtdbebophchggfaaE8
namespace Go.Proofs.Ytdbebophchggfaa.Ep
open Go.RowKit Go.Proofs.YtdbebophchggfaaW.PrintWords Go.Proofs.YtdbebophchggfaaW.PrintLast Go.Proofs.YtdbebophchggfaaW.PrintMore
set_option linter.unusedVariables false
set_option linter.unusedSimpArgs false
theorem cnt_mono (l : List S37) (u v : Int) (h : u ≤ v) : cnt l u ≤ cnt l v := by
  rcases Nat.lt_or_ge (cnt l v) (cnt l u) with h' | h'
  · have h1 := cnt_low l u (cnt l v) h'
    have h2 := (cnt_spec0 v l).2 (by have := cnt_le l u; omega)
    omega
  · exact h'
theorem at_some (l : List S37) (v : Int) (h : 0 < cnt l v) : atS l v = Ef l (cnt l v - 1) := by
  unfold atS; rw [if_neg (by omega)]
theorem at_congr {l : List S37} {u v : Int} (h : cnt l u = cnt l v) : atS l u = atS l v := by
  unfold atS; rw [h]
theorem at_mono {l : List S37} (ht : tbl l = true) (u v : Int) (h : u ≤ v) : atS l u ≤ atS l v := by
  have hm := cnt_mono l u v h
  have hc := cnt_le l v
  unfold atS
  by_cases hu : cnt l u = 0
  · rw [if_pos hu]
    by_cases hv : cnt l v = 0
    · rw [if_pos hv]; exact Int.le_refl _
    · rw [if_neg hv]
      have := (tbl_pos ht (cnt l v - 1) (by omega)).1
      omega
  · rw [if_neg hu, if_neg (by omega)]
    exact (tbl_le ht (cnt l u - 1) (cnt l v - 1) (by omega) (by omega)).1
theorem end_facts {l : List S37} (ht : tbl l = true) (last ep : Int) (h0 : 0 ≤ last) :
    endS l last ep ≤ last ∧ 0 ≤ endS l last ep ∧ (0 < endS l last ep → atS l (endS l last ep) ≠ 0 ∧ atS l (endS l last ep) ≤ ep) := by
  obtain ⟨h1, h2, h3⟩ := down_spec l ep (cnt l last)
  have hc := cnt_le l last
  have hb := below_down ht last ep
  unfold endS endF
  generalize hm : down l ep (cnt l last) = m at *
  by_cases hm0 : m = 0
  · rw [if_pos hm0]
    exact ⟨h0, by omega, fun h => by omega⟩
  · rw [if_neg hm0]
    have hlow := (hb (m - 1) (by omega)).2 (by omega)
    have hpos := tbl_pos ht (m - 1) (by omega)
    by_cases hlt : m < l.length
    · rw [if_pos hlt]
      have hup := (tbl_lt ht (m - 1) m (by omega) hlt).2
      have hmn := mn_le last (Lf l m - 1)
      have hcn : cnt l (mn last (Lf l m - 1)) = m := cnt_is ht _ m (by omega) (fun _ => by omega) (fun _ => by omega)
      have hat : atS l (mn last (Lf l m - 1)) = Ef l (m - 1) := by unfold atS; rw [hcn, if_neg hm0]
      exact ⟨hmn.1, by omega, fun _ => by rw [hat]; omega⟩
    · rw [if_neg hlt]
      have hcn : cnt l last = m := by omega
      have hat : atS l last = Ef l (m - 1) := by unfold atS; rw [hcn, if_neg hm0]
      exact ⟨Int.le_refl _, h0, fun _ => by rw [hat]; omega⟩
theorem end_ge {l : List S37} (ht : tbl l = true) (last ep v : Int) (h0 : 0 ≤ v) (hv : v ≤ last) (hc : 0 < v → 0 < cnt l v) (ha : atS l v ≤ ep) : v ≤ endS l last ep := by
  by_cases hz : v = 0
  · have := (end_facts ht last ep (by omega)).2.1
    omega
  · have hp := hc (by omega)
    have hcl := cnt_le l v
    have hat : atS l v = Ef l (cnt l v - 1) := by unfold atS; rw [if_neg (by omega)]
    have hlow := cnt_low l v (cnt l v - 1) (by omega)
    have hm := (below_down ht last ep (cnt l v - 1) (by omega)).1 ⟨by omega, by omega⟩
    unfold endS endF
    rw [if_neg (by omega)]
    by_cases hlt : down l ep (cnt l last) < l.length
    · rw [if_pos hlt]
      have := cnt_high ht v (down l ep (cnt l last)) (by omega) hlt
      have hmn := mn_le last (Lf l (down l ep (cnt l last)) - 1)
      omega
    · rw [if_neg hlt]; exact hv
/-- A later end is of fewer starts. -/
theorem end_less {l : List S37} (ht : tbl l = true) (last ep : Int) (h0 : 0 ≤ last) (hp : 0 < cnt l last) (h : endS l last ep < last) : cnt l (endS l last ep) < cnt l last := by
  obtain ⟨h1, h2, h3⟩ := down_spec l ep (cnt l last)
  have hc := cnt_le l last
  unfold endS endF at h ⊢
  generalize down l ep (cnt l last) = m at *
  by_cases hm0 : m = 0
  · rw [if_pos hm0]
    have : cnt l 0 = 0 := cnt_is ht 0 0 (by omega) (fun h => by omega) (fun h => by have := (tbl_pos ht 0 h).2; omega)
    omega
  · rw [if_neg hm0] at h ⊢
    by_cases hlt : m < l.length
    · rw [if_pos hlt] at h ⊢
      have hmn := mn_le last (Lf l m - 1)
      have hmc : m < cnt l last := by
        rcases Nat.lt_or_ge m (cnt l last) with h' | h'
        · exact h'
        · have := cnt_high ht last m h' hlt
          omega
      rcases Nat.lt_or_ge (cnt l (mn last (Lf l m - 1))) (cnt l last) with h' | h'
      · exact h'
      · have := cnt_low l (mn last (Lf l m - 1)) m (by omega)
        omega
    · rw [if_neg hlt] at h
      omega
theorem wf_take {l : List S37} (hw : wfS l) (n : Nat) : wfS (l.take n) := by
  intro i hi
  have hi2 : i < n ∧ i < l.length := by simp at hi; omega
  have := hw i hi2.2
  unfold Ef Lf at this ⊢
  rwa [rd_take l n i hi2.1]
theorem len_take (l : List S37) (x : Int) : (l.take (cnt l x)).length = cnt l x := by
  have := cnt_le l x
  rw [List.length_take]
  omega
theorem cnt_take {l : List S37} (ht : tbl l = true) (last x : Int) (h : x ≤ last) : cnt (l.take (cnt l last)) x = cnt l x := by
  have hm := cnt_mono l x last h
  have hl := len_take l last
  have hc := cnt_le l last
  refine cnt_is (tbl_take ht _) x (cnt l x) (by omega) (fun h0 => ?_) (fun hlt => ?_)
  · unfold Lf; rw [rd_take l _ _ (by omega)]; exact cnt_low l x _ (by omega)
  · unfold Lf; rw [rd_take l _ _ (by omega)]; exact cnt_high ht x _ (Nat.le_refl _) (by omega)
theorem at_take {l : List S37} (ht : tbl l = true) (last : Int) : atS (l.take (cnt l last)) last = atS l last := by
  unfold atS
  rw [cnt_take ht last last (Int.le_refl _)]
  by_cases h0 : cnt l last = 0
  · rw [if_pos h0, if_pos h0]
  · rw [if_neg h0, if_neg h0]
    unfold Ef
    rw [rd_take l _ _ (by omega)]
theorem down_congr (l m : List S37) (ep : Int) : ∀ n : Nat, (∀ i, i < n → Ef l i = Ef m i) → down l ep n = down m ep n
  | 0, _ => rfl
  | n + 1, h => by
    simp only [down]
    rw [h n (by omega), down_congr l m ep n (fun i hi => h i (by omega))]
theorem end_take {l : List S37} (ht : tbl l = true) (last ep : Int) : endS (l.take (cnt l last)) last ep = endS l last ep := by
  have hl := len_take l last
  have hc := cnt_le l last
  have hd : down (l.take (cnt l last)) ep (cnt l last) = down l ep (cnt l last) := down_congr _ _ ep _ (fun i hi => by unfold Ef; rw [rd_take l _ _ hi])
  have hdl := (down_spec l ep (cnt l last)).1
  unfold endS endF
  rw [cnt_take ht last last (Int.le_refl _), hd, hl]
  generalize down l ep (cnt l last) = m at *
  by_cases hm0 : m = 0
  · rw [if_pos hm0, if_pos hm0]
  · rw [if_neg hm0, if_neg hm0]
    by_cases hlt : m < cnt l last
    · rw [if_pos hlt, if_pos (by omega)]
      unfold Lf
      rw [rd_take l _ _ hlt]
    · rw [if_neg hlt]
      by_cases hlt2 : m < l.length
      · have := cnt_high ht last m (by omega) hlt2
        rw [if_pos hlt2]
        unfold mn
        rw [if_neg (by omega)]
      · rw [if_neg hlt2]
theorem cut_take {l : List S37} (ht : tbl l = true) (last x : Int) (h : x ≤ last) : cutS (l.take (cnt l last)) x = l.take (cnt l x) := by
  have hm := cnt_mono l x last h
  unfold cutS
  rw [if_pos (tbl_take ht _), cnt_take ht last x h, List.take_take, Nat.min_eq_left hm]
theorem ahead {a b : List S37} (e x : Int) (h : x ≤ forkV a b e) : (cp a b < a.length → x < Lf a (cp a b)) ∧ (cp a b < b.length → x < Lf b (cp a b)) := by
  obtain ⟨v1, v2, v3, v4⟩ := forkV_spec a b e
  exact ⟨fun h' => by have := v2 h'; omega, fun h' => by have := v3 h'; omega⟩
theorem forkV_pos {a b : List S37} (ha : tbl a = true) (hb : tbl b = true) (e : Int) (he : 0 ≤ e) : 0 ≤ forkV a b e := by
  obtain ⟨v1, v2, v3, v4⟩ := forkV_spec a b e
  rcases v4 with v4 | ⟨v4, v5⟩ | ⟨v4, v5⟩
  · omega
  · have := (tbl_pos ha _ v4).2
    omega
  · have := (tbl_pos hb _ v4).2
    omega
/-- Two journals of which, where both have an epoch, all ahead of it is the same. -/
def Shared (a b : List S37) : Prop := ∀ i k : Nat, cp a b ≤ i → i < a.length → cp a b ≤ k → k < b.length → Ef a i ≠ Ef b k
theorem same_epoch {a b : List S37} (ha : tbl a = true) (hb : tbl b = true) (hS : Shared a b) (i k : Nat) (hi : i < a.length) (hk : k < b.length) (h : Ef a i = Ef b k) : i = k ∧ i < cp a b := by
  have hcp := cp_le a b
  rcases Nat.lt_or_ge i (cp a b) with h1 | h1
  · have h2 := (cp_same a b i h1).1
    have h3 : i = k := by
      rcases Nat.lt_trichotomy i k with h' | h' | h'
      · have := (tbl_lt hb i k h' hk).1
        omega
      · exact h'
      · have := (tbl_lt hb k i h' (by omega)).1
        omega
    exact ⟨h3, h1⟩
  · rcases Nat.lt_or_ge k (cp a b) with h2 | h2
    · have h3 := (cp_same a b k h2).1
      have h4 : i = k := by
        rcases Nat.lt_trichotomy i k with h' | h' | h'
        · have := (tbl_lt ha i k h' (by omega)).1
          omega
        · exact h'
        · have := (tbl_lt ha k i h' hi).1
          omega
      omega
    · exact absurd h (hS i k h1 hi h2 hk)
section
variable {a b : List S37} {x y : Int}
structure Two (a b : List S37) (x y : Int) : Prop where
  ha : tbl a = true
  hb : tbl b = true
  hS : Shared a b
  hx : 0 ≤ x
  hy : 0 ≤ y
  fa : 0 < a.length → Lf a 0 ≤ 1
  fb : 0 < b.length → Lf b 0 ≤ 1
  ea : a.length = 0 → x ≤ 0
  eb : b.length = 0 → y ≤ 0
theorem Two.cntA (t : Two a b x y) (v : Int) (h0 : 0 < v) (h : v ≤ x) : 0 < cnt a v := by
  have hl : 0 < a.length := by
    rcases Nat.eq_zero_or_pos a.length with h' | h'
    · have := t.ea h'
      omega
    · exact h'
  have := t.fa hl
  rcases Nat.eq_zero_or_pos (cnt a v) with h' | h'
  · have := cnt_high t.ha v 0 (by omega) hl
    omega
  · exact h'
theorem Two.cntB (t : Two a b x y) (v : Int) (h0 : 0 < v) (h : v ≤ y) : 0 < cnt b v := by
  have hl : 0 < b.length := by
    rcases Nat.eq_zero_or_pos b.length with h' | h'
    · have := t.eb h'
      omega
    · exact h'
  have := t.fb hl
  rcases Nat.eq_zero_or_pos (cnt b v) with h' | h'
  · have := cnt_high t.hb v 0 (by omega) hl
    omega
  · exact h'
/-- What one step comes to. -/
theorem Two.step (t : Two a b x y) (V last : Int) (hV : V = forkV a b (mn x y)) (h0 : 0 ≤ V) (h1 : V ≤ last) (h2 : last ≤ y) :
    V ≤ endS a x (atS b last) ∧ V ≤ endS b last (atS a (endS a x (atS b last))) := by
  have hmn := mn_le x y
  have hVm : V ≤ mn x y := by rw [hV]; exact (forkV_spec a b (mn x y)).1
  obtain ⟨p1, p2⟩ := ahead (a := a) (b := b) (mn x y) V (by omega)
  have hal := at_alike t.hb V p1 p2
  have hE : V ≤ endS a x (atS b last) := end_ge t.ha x _ V h0 (by omega) (fun h => t.cntA V h (by omega)) (by rw [hal]; exact at_mono t.hb V last h1)
  exact ⟨hE, end_ge t.hb last _ V h0 h1 (fun h => t.cntB V h (by omega)) (by rw [← hal]; exact at_mono t.ha V _ hE)⟩
/-- Where its own end is the last entry, and it has one, the epochs at both ends are the same start's. -/
theorem Two.alike (t : Two a b x y) (last : Int) (h0 : 0 < last) (h2 : last ≤ y) (how : last ≤ endS b last (atS a (endS a x (atS b last)))) :
    0 < endS a x (atS b last) ∧ atS a (endS a x (atS b last)) = atS b last ∧ cnt a (endS a x (atS b last)) = cnt b last ∧ 0 < cnt b last ∧ cnt b last ≤ cp a b := by
  obtain ⟨e1, e2, e3⟩ := end_facts t.ha x (atS b last) t.hx
  obtain ⟨o1, o2, o3⟩ := end_facts t.hb last (atS a (endS a x (atS b last))) (by omega)
  have how' : endS b last (atS a (endS a x (atS b last))) = last := by omega
  rw [how'] at o3
  have hle := (o3 h0).2
  have hp := t.cntB last h0 h2
  have hcb := cnt_le b last
  have heb : atS b last = Ef b (cnt b last - 1) := at_some b last (by omega)
  have hbp := (tbl_pos t.hb (cnt b last - 1) (by omega)).1
  have hend : 0 < endS a x (atS b last) := by
    rcases Int.lt_or_le 0 (endS a x (atS b last)) with h' | h'
    · exact h'
    · have hz : endS a x (atS b last) = 0 := by omega
      rw [hz] at hle
      have : cnt a 0 = 0 := cnt_is t.ha 0 0 (by omega) (fun h => by omega) (fun h => by have := (tbl_pos t.ha 0 h).2; omega)
      have h3 : atS a 0 = 0 := by unfold atS; rw [if_pos this]
      omega
  have hth := e3 hend
  have heq : atS a (endS a x (atS b last)) = atS b last := by omega
  have hq := t.cntA _ hend e1
  have hca := cnt_le a (endS a x (atS b last))
  have hea : atS a (endS a x (atS b last)) = Ef a (cnt a (endS a x (atS b last)) - 1) := at_some a _ (by omega)
  have hse := same_epoch t.ha t.hb t.hS (cnt a (endS a x (atS b last)) - 1) (cnt b last - 1) (by omega) (by omega) (by omega)
  exact ⟨hend, heq, by omega, hp, by omega⟩
/-- Where a step changes nothing, it is at the fork. -/
theorem Two.fixed (t : Two a b x y) (V last : Int) (hV : V = forkV a b (mn x y)) (h0 : 0 ≤ V) (h1 : V ≤ last) (h2 : last ≤ y)
    (he : last ≤ endS a x (atS b last)) (ho : last ≤ endS b last (atS a (endS a x (atS b last)))) : last = V := by
  rcases Int.lt_or_le V last with hlt | hge
  · exfalso
    obtain ⟨q1, q2, q3, q4, q5⟩ := t.alike last (by omega) h2 ho
    have e1 := (end_facts t.ha x (atS b last) t.hx).1
    have hmn := mn_le x y
    obtain ⟨v1, v2, v3, v4⟩ := forkV_spec a b (mn x y)
    rcases v4 with v4 | ⟨v4, v5⟩ | ⟨v4, v5⟩
    · omega
    · have hL : Lf a (cp a b) ≤ endS a x (atS b last) := by omega
      rcases Nat.lt_or_ge (cp a b) (cnt a (endS a x (atS b last))) with h' | h'
      · omega
      · have := cnt_high t.ha _ (cp a b) h' v4
        omega
    · have hL : Lf b (cp a b) ≤ last := by omega
      rcases Nat.lt_or_ge (cp a b) (cnt b last) with h' | h'
      · omega
      · have := cnt_high t.hb _ (cp a b) h' v4
        omega
  · omega
end
theorem meets_l0 {a b : List S37} {x y : Int} (t : Two a b x y) (wa : wfS a) (wb : wfS b) (la : a.length ≤ 500) (lb : b.length ≤ 500) (V : Int) (hV : V = forkV a b (mn x y)) (h0 : 0 ≤ V) :
    ∀ (p i k : Nat) (last : Int), V ≤ last → last ≤ y → cnt b last ≤ p → i + p ≤ b.length → b.length + 5000 < k + i →
      drayagelaw06_EpochsMeets.l0 k a x b V last (b.take (cnt b last)) (i : Int) = some true := by
  have hw2 : wrap64 ((b.length : Int) + 2) = ((b.length + 2 : Nat) : Int) := by unfold wrap64; omega
  have hstep : ∀ (k i : Nat) (last : Int), V ≤ last → last ≤ y → i < b.length + 2 → 4000 < k → drayagelaw06_EpochsMeets.l0 (k + 1) a x b V last (b.take (cnt b last)) (i : Int) =
      (if mn last (mn (endS a x (atS b last)) (endS b last (atS a (endS a x (atS b last))))) = last then (if last = V then some true else some false) else drayagelaw06_EpochsMeets.l0 k a x b V (mn last (mn (endS a x (atS b last)) (endS b last (atS a (endS a x (atS b last)))))) (b.take (cnt b (mn last (mn (endS a x (atS b last)) (endS b last (atS a (endS a x (atS b last)))))))) ((i + 1 : Nat) : Int)) := by
    intro k i last h1 h2 hi hk
    have hl := len_take b last
    have hc := cnt_le b last
    have hmn := mn_le last (mn (endS a x (atS b last)) (endS b last (atS a (endS a x (atS b last)))))
    have hbody : drayagelaw06_EpochsMeets.l0 (k + 1) a x b V last (b.take (cnt b last)) (i : Int) = (if (i : Int) < (wrap64 ((b.length : Int) + 2)) then ((epochs_At.f k (b.take (cnt b last)) last).bind fun t160 => ((epochs_End.f k a x t160).bind fun t161 => ((epochs_At.f k a t161).bind fun t162 => ((epochs_End.f k (b.take (cnt b last)) last t162).bind fun t163 => (if (mn last (mn t161 t163)) = last then (if last = V then ((drayagelaw06_known.f k).bind fun t164 => (some t164)) else (some false)) else ((epochs_Cut.f k (b.take (cnt b last)) (mn last (mn t161 t163))).bind fun t165 => (drayagelaw06_EpochsMeets.l0 k a x b V (mn last (mn t161 t163)) t165 (wrap64 ((i : Int) + 1))))))))) else (if last = V then ((drayagelaw06_known.f k).bind fun t159 => (some t159)) else (some false))) := by simp only [drayagelaw06_EpochsMeets.l0]
    rw [hbody, hw2, if_pos (by omega), At_eq k _ last (by omega) (by omega), Option.bind_some, if_pos (tbl_take t.hb _), at_take t.hb, End_eq k a x _ wa (by omega) (by omega), Option.bind_some, if_pos t.ha, At_eq k a _ (by omega) (by omega), Option.bind_some, if_pos t.ha,
      End_eq k (b.take (cnt b last)) last _ (wf_take wb _) (by omega) (by omega), Option.bind_some, if_pos (tbl_take t.hb _), end_take t.hb, known_eq k (by omega), Option.bind_some, Cut_eq k (b.take (cnt b last)) _ (by omega) (by omega), Option.bind_some, cut_take t.hb last _ hmn.1, w64 i (by omega)]
  intro p
  induction p with
  | zero =>
    intro i k last h1 h2 hp hi hk
    obtain ⟨k, rfl⟩ : ∃ m, k = m + 1 := ⟨k - 1, by omega⟩
    rw [hstep k i last h1 h2 (by omega) (by omega)]
    obtain ⟨s1, s2⟩ := t.step V last hV h0 h1 h2
    have hl0 : last = 0 := by
      rcases Int.lt_or_le 0 last with h' | h'
      · have := t.cntB last h' h2
        omega
      · omega
    have hm1 := mn_le last (mn (endS a x (atS b last)) (endS b last (atS a (endS a x (atS b last)))))
    have hm2 := mn_le (endS a x (atS b last)) (endS b last (atS a (endS a x (atS b last))))
    rw [if_pos (by omega), if_pos (by omega)]
  | succ p ih =>
    intro i k last h1 h2 hp hi hk
    obtain ⟨k, rfl⟩ : ∃ m, k = m + 1 := ⟨k - 1, by omega⟩
    rw [hstep k i last h1 h2 (by omega) (by omega)]
    obtain ⟨s1, s2⟩ := t.step V last hV h0 h1 h2
    have hm1 := mn_le last (mn (endS a x (atS b last)) (endS b last (atS a (endS a x (atS b last)))))
    have hm2 := mn_le (endS a x (atS b last)) (endS b last (atS a (endS a x (atS b last))))
    by_cases hfix : mn last (mn (endS a x (atS b last)) (endS b last (atS a (endS a x (atS b last))))) = last
    · rw [if_pos hfix, if_pos (t.fixed V last hV h0 h1 h2 (by omega) (by omega))]
    · rw [if_neg hfix]
      have hlast : 0 < last := by omega
      by_cases hown : endS b last (atS a (endS a x (atS b last))) < last
      · have hpp := t.cntB last hlast h2
        have hless := end_less t.hb last (atS a (endS a x (atS b last))) (by omega) hpp hown
        have hmono := cnt_mono b (mn last (mn (endS a x (atS b last)) (endS b last (atS a (endS a x (atS b last)))))) (endS b last (atS a (endS a x (atS b last)))) (by omega)
        exact ih (i + 1) k _ (by omega) (by omega) (by omega) (by omega) (by omega)
      · obtain ⟨q1, q2, q3, q4, q5⟩ := t.alike last hlast h2 (by omega)
        have hnext : mn last (mn (endS a x (atS b last)) (endS b last (atS a (endS a x (atS b last))))) = endS a x (atS b last) := by omega
        rw [hnext] at hfix ⊢
        have hcp := cp_le a b
        have hcb : cnt b (endS a x (atS b last)) = cnt b last := by
          have hmono := cnt_mono b (endS a x (atS b last)) last (by omega)
          have hlow := cnt_low a (endS a x (atS b last)) (cnt b last - 1) (by omega)
          have hsame := (cp_same a b (cnt b last - 1) (by omega)).2
          rcases Nat.lt_or_ge (cnt b (endS a x (atS b last))) (cnt b last) with h' | h'
          · have := cnt_high t.hb (endS a x (atS b last)) (cnt b last - 1) (by omega) (by omega)
            omega
          · omega
        have hab : atS b (endS a x (atS b last)) = atS b last := at_congr hcb
        obtain ⟨k, rfl⟩ : ∃ m, k = m + 1 := ⟨k - 1, by omega⟩
        rw [hstep k (i + 1) (endS a x (atS b last)) (by omega) (by omega) (by omega) (by omega)]
        rw [hab, q2]
        have hge := end_ge t.hb (endS a x (atS b last)) (atS b last) (endS a x (atS b last)) (by omega) (Int.le_refl _) (fun _ => by omega) (by omega)
        have hle := (end_facts t.hb (endS a x (atS b last)) (atS b last) (by omega)).1
        have hm3 := mn_le (endS a x (atS b last)) (mn (endS a x (atS b last)) (endS b (endS a x (atS b last)) (atS b last)))
        have hm4 := mn_le (endS a x (atS b last)) (endS b (endS a x (atS b last)) (atS b last))
        have hfx := t.fixed V (endS a x (atS b last)) hV h0 s1 (by omega) (by rw [hab]; exact Int.le_refl _) (by rw [hab, q2]; exact hge)
        rw [if_pos (by omega), if_pos hfx]
/-! ### shared -/
theorem shared_l2 (a b : List S37) (la : a.length ≤ 500) (lb : b.length ≤ 500) (n i B : Nat) (hi : i < a.length) (Q : Prop) (hn : ∀ k, B < k → ∃ s, drayagelaw06_shared.l1 k a b (n : Int) ((i + 1 : Nat) : Int) = some s ∧ (s = true → Q)) :
    ∀ (d j k : Nat), j + d = b.length → B + d + 1 < k → ∃ s, drayagelaw06_shared.l2 k a b (n : Int) (i : Int) (j : Int) = some s ∧ (s = true → (∀ j', j ≤ j' → j' < b.length → Ef a i ≠ Ef b j') ∧ Q) := by
  intro d
  induction d with
  | zero =>
    intro j k h hk
    obtain ⟨k, rfl⟩ : ∃ m, k = m + 1 := ⟨k - 1, by omega⟩
    obtain ⟨s, hs, hq⟩ := hn k (by omega)
    refine ⟨s, ?_, fun h' => ⟨fun j' hj hj' => by omega, hq h'⟩⟩
    simp only [drayagelaw06_shared.l2]
    rw [if_neg (by omega), w64 i (by omega), hs]
  | succ d ih =>
    intro j k h hk
    obtain ⟨k, rfl⟩ : ∃ m, k = m + 1 := ⟨k - 1, by omega⟩
    simp only [drayagelaw06_shared.l2]
    rw [if_pos (by omega), if_pos (by omega), if_pos (by omega), if_pos (by omega), w64 j (by omega)]
    by_cases he : (rd_T37 a (i : Int)).f0 = (rd_T37 b (j : Int)).f0
    · rw [if_pos he]
      exact ⟨false, rfl, fun h' => by cases h'⟩
    · rw [if_neg he]
      obtain ⟨s, hs, hq⟩ := ih (j + 1) k (by omega) (by omega)
      refine ⟨s, hs, fun h' => ⟨fun j' hj hj' => ?_, (hq h').2⟩⟩
      rcases Nat.lt_or_ge j j' with h3 | h3
      · exact (hq h').1 j' h3 hj'
      · obtain rfl : j' = j := by omega
        exact he
theorem shared_l1 (a b : List S37) (la : a.length ≤ 500) (lb : b.length ≤ 500) (n : Nat) (hnb : n ≤ b.length) : ∀ (d i k : Nat), i + d = a.length → (d + 1) * 510 < k →
    ∃ s, drayagelaw06_shared.l1 k a b (n : Int) (i : Int) = some s ∧ (s = true → ∀ i' j', i ≤ i' → i' < a.length → n ≤ j' → j' < b.length → Ef a i' ≠ Ef b j') := by
  intro d
  induction d with
  | zero =>
    intro i k h hk
    obtain ⟨k, rfl⟩ : ∃ m, k = m + 1 := ⟨k - 1, by omega⟩
    refine ⟨true, ?_, fun _ i' j' h1 h2 => by omega⟩
    simp only [drayagelaw06_shared.l1]
    rw [if_neg (by omega)]
  | succ d ih =>
    intro i k h hk
    obtain ⟨k, rfl⟩ : ∃ m, k = m + 1 := ⟨k - 1, by omega⟩
    obtain ⟨s, hs, hq⟩ := shared_l2 a b la lb n i ((d + 1) * 510) (by omega) (∀ i' j', i + 1 ≤ i' → i' < a.length → n ≤ j' → j' < b.length → Ef a i' ≠ Ef b j') (fun k hk => ih (i + 1) k (by omega) hk) (b.length - n) n k (by omega) (by omega)
    refine ⟨s, ?_, fun h' i' j' h1 h2 h3 h4 => ?_⟩
    · simp only [drayagelaw06_shared.l1]
      rw [if_pos (by omega), hs]
    · rcases Nat.lt_or_ge i i' with h5 | h5
      · exact (hq h').2 i' j' h5 h2 h3 h4
      · obtain rfl : i' = i := by omega
        exact (hq h').1 j' h3 h4
theorem shared_l0 (a b : List S37) (la : a.length ≤ 500) (lb : b.length ≤ 500) : ∀ (d j k : Nat), j + d = cp a b → 256000 + d < k → ∃ s, drayagelaw06_shared.l0 k a b (j : Int) = some s ∧ (s = true → Shared a b) := by
  have hcp := cp_le a b
  intro d
  induction d with
  | zero =>
    intro j k h hk
    obtain rfl : j = cp a b := by omega
    obtain ⟨k, rfl⟩ : ∃ m, k = m + 1 := ⟨k - 1, by omega⟩
    obtain ⟨k, rfl⟩ : ∃ m, k = m + 1 := ⟨k - 1, by omega⟩
    obtain ⟨s, hs, hq⟩ := shared_l1 a b la lb (cp a b) hcp.2 (a.length - cp a b) (cp a b) k (by omega) (by omega)
    have hj : drayagelaw06_shared.j1 (k + 1) a b (cp a b : Int) = some s := by simp only [drayagelaw06_shared.j1]; exact hs
    refine ⟨s, ?_, fun h' i k hi hi' hk hk' => hq h' i k hi hi' hk hk'⟩
    have hbody : drayagelaw06_shared.l0 (k + 1 + 1) a b (cp a b : Int) = (if (cp a b : Int) < (a.length : Int) then (if (cp a b : Int) < (b.length : Int) then (if 0 ≤ (cp a b : Int) then (if (((rd_T37 a (cp a b : Int)).f0) == ((rd_T37 b (cp a b : Int)).f0) && (((rd_T37 a (cp a b : Int)).f1) == ((rd_T37 b (cp a b : Int)).f1))) = true then (drayagelaw06_shared.l0 (k + 1) a b (wrap64 ((cp a b : Int) + 1))) else (drayagelaw06_shared.j1 (k + 1) a b (cp a b : Int))) else (none)) else (drayagelaw06_shared.j1 (k + 1) a b (cp a b : Int))) else (drayagelaw06_shared.j1 (k + 1) a b (cp a b : Int))) := by simp only [drayagelaw06_shared.l0]
    rw [hbody, hj]
    by_cases h1 : cp a b < a.length
    · by_cases h2 : cp a b < b.length
      · rw [if_pos (by omega), if_pos (by omega), if_pos (by omega), cp_ne a b h1 h2, if_neg (by simp)]
      · rw [if_pos (by omega), if_neg (by omega)]
    · rw [if_neg (by omega)]
  | succ d ih =>
    intro j k h hk
    obtain ⟨k, rfl⟩ : ∃ m, k = m + 1 := ⟨k - 1, by omega⟩
    obtain ⟨s, hs, hq⟩ := ih (j + 1) k (by omega) (by omega)
    refine ⟨s, ?_, hq⟩
    have hbody : drayagelaw06_shared.l0 (k + 1) a b (j : Int) = (if (j : Int) < (a.length : Int) then (if (j : Int) < (b.length : Int) then (if 0 ≤ (j : Int) then (if (((rd_T37 a (j : Int)).f0) == ((rd_T37 b (j : Int)).f0) && (((rd_T37 a (j : Int)).f1) == ((rd_T37 b (j : Int)).f1))) = true then (drayagelaw06_shared.l0 k a b (wrap64 ((j : Int) + 1))) else (drayagelaw06_shared.j1 k a b (j : Int))) else (none)) else (drayagelaw06_shared.j1 k a b (j : Int))) else (drayagelaw06_shared.j1 k a b (j : Int))) := by simp only [drayagelaw06_shared.l0]
    rw [hbody, if_pos (by omega), if_pos (by omega), if_pos (by omega), cp_eq a b j (by omega), if_pos rfl, w64 j (by omega), hs]
theorem meets_j1 {a b : List S37} {x y : Int} (ha : tbl a = true) (hb : tbl b = true) (wa : wfS a) (wb : wfS b) (la : a.length ≤ 500) (lb : b.length ≤ 500) (hx : 0 ≤ x) (hy : 0 ≤ y)
    (fa : 0 < a.length → Lf a 0 ≤ 1) (fb : 0 < b.length → Lf b 0 ≤ 1) (ea : a.length = 0 → x ≤ 0) (eb : b.length = 0 → y ≤ 0) (k : Nat) (hk : 300000 < k) : drayagelaw06_EpochsMeets.j1 k a x b y false = some true := by
  obtain ⟨k, rfl⟩ : ∃ m, k = m + 1 := ⟨k - 1, by omega⟩
  obtain ⟨s, hs, hq⟩ := shared_l0 a b la lb (cp a b) 0 k (by omega) (by have := cp_le a b; omega)
  have hsf : drayagelaw06_shared.f k a b = some s := hs
  have hmn := mn_le x y
  simp only [drayagelaw06_EpochsMeets.j1, Bool.false_eq_true, if_false]
  rw [hsf, Option.bind_some]
  by_cases ht : s = true
  · have t : Two a b x y := ⟨ha, hb, hq ht, hx, hy, fa, fb, ea, eb⟩
    have hcb := cnt_le b y
    rw [if_pos ht, Fork_eq a b x y wa wb, Option.bind_some, if_pos ha, if_pos hb, Cut_eq k b y (by omega) (by omega), Option.bind_some]
    unfold cutS
    rw [if_pos hb]
    have hV1 := (forkV_spec a b (mn x y)).1
    exact meets_l0 t wa wb la lb _ rfl (forkV_pos ha hb _ (by omega)) b.length 0 k y (by omega) (Int.le_refl _) hcb (by omega) (by omega)
  · rw [if_neg ht, known_eq k (by omega), Option.bind_some]
theorem pure_law (a : List S37) (x : Int) (b : List S37) (y : Int) (wa : wfS a) (wb : wfS b) (hx : 0 ≤ x) (hy : 0 ≤ y) : drayagelaw06_EpochsMeets.f 400000 a x b y = some true := by
  have hk : ∀ k, drayagelaw06_EpochsMeets.j0 (k + 1) a x b y true = (drayagelaw06_known.f k).bind fun t => some t := fun k => by simp only [drayagelaw06_EpochsMeets.j0, if_true]
  have hk1 : ∀ k, 11 ≤ k → drayagelaw06_EpochsMeets.j1 k a x b y true = some true := fun k hk' => by
    obtain ⟨k, rfl⟩ : ∃ m, k = m + 1 := ⟨k - 1, by omega⟩
    simp only [drayagelaw06_EpochsMeets.j1, if_true]
    rw [known_eq k (by omega), Option.bind_some]
  unfold drayagelaw06_EpochsMeets.f
  rcases many_cases a b with h | ⟨h, la, lb⟩
  · rw [h, Option.bind_some, if_pos rfl, hk, known_eq _ (by omega), Option.bind_some]
  · rw [h, Option.bind_some, if_neg (by simp), Check_eq _ a (by omega) (by omega), Option.bind_some]
    unfold chkS
    by_cases ha : tbl a = true
    · rw [if_pos ha, if_pos rfl, Check_eq _ b (by omega) (by omega), Option.bind_some]
      unfold chkS
      by_cases hb : tbl b = true
      · rw [if_pos hb, show ((0 : Int) != 0) = false from rfl]
        obtain ⟨k, hkk⟩ : ∃ k, k = 399999 := ⟨_, rfl⟩
        have hk2 := hk1 k (by omega)
        have hmain : ∀ (fa : 0 < a.length → Lf a 0 ≤ 1) (fb : 0 < b.length → Lf b 0 ≤ 1) (ea : a.length = 0 → x ≤ 0) (eb : b.length = 0 → y ≤ 0), drayagelaw06_EpochsMeets.j1 k a x b y false = some true :=
          fun fa fb ea eb => meets_j1 ha hb wa wb la lb hx hy fa fb ea eb k (by omega)
        rw [show (400000 : Nat) = k + 1 by omega]
        simp only [drayagelaw06_EpochsMeets.j0, Bool.false_eq_true, if_false]
        have hLa : (rd_T37 a 0).f1 = Lf a 0 := rfl
        have hLb : (rd_T37 b 0).f1 = Lf b 0 := rfl
        rw [hLa, hLb]
        by_cases h1 : (a.length : Int) > 0
        · rw [if_pos h1, if_pos (by omega)]
          by_cases h2 : Lf a 0 > 1
          · rw [if_pos h2, hk2]
          · rw [if_neg h2]
            by_cases h3 : (b.length : Int) > 0
            · rw [if_pos h3, if_pos (by omega)]
              by_cases h4 : Lf b 0 > 1
              · rw [if_pos h4, hk2]
              · rw [if_neg h4, if_neg (by omega), if_neg (by omega)]
                exact hmain (fun _ => by omega) (fun _ => by omega) (fun h => by omega) (fun h => by omega)
            · rw [if_neg h3, if_neg (by omega), if_pos (by omega)]
              by_cases h4 : y > 0
              · rw [decide_eq_true h4, hk2]
              · rw [decide_eq_false h4]
                exact hmain (fun _ => by omega) (fun h => by omega) (fun h => by omega) (fun h => by omega)
        · rw [if_neg h1]
          by_cases h3 : (b.length : Int) > 0
          · rw [if_pos h3, if_pos (by omega)]
            by_cases h4 : Lf b 0 > 1
            · rw [if_pos h4, hk2]
            · rw [if_neg h4, if_pos (by omega)]
              by_cases h5 : x > 0
              · rw [if_pos h5, hk2]
              · rw [if_neg h5, if_neg (by omega)]
                exact hmain (fun h => by omega) (fun _ => by omega) (fun h => by omega) (fun h => by omega)
          · rw [if_neg h3, if_pos (by omega)]
            by_cases h5 : x > 0
            · rw [if_pos h5, hk2]
            · rw [if_neg h5, if_pos (by omega)]
              by_cases h4 : y > 0
              · rw [decide_eq_true h4, hk2]
              · rw [decide_eq_false h4]
                exact hmain (fun h => by omega) (fun h => by omega) (fun h => by omega) (fun h => by omega)
      · rw [if_neg hb, show ((60 : Int) != 0) = true from rfl, hk, known_eq _ (by omega), Option.bind_some]
    · rw [if_neg ha, if_neg (by omega), hk, known_eq _ (by omega), Option.bind_some]
theorem law_all (A : Option Addr) (c : Nat) (a : List S37) (x : Int) (B : Option Addr) (c2 : Nat) (b : List S37) (y : Int) (w : World) (hc : a.length ≤ c) (hr : Kd.C k37 w A a.length a) (wa : wfS a) (hc2 : b.length ≤ c2) (hr2 : Kd.C k37 w B b.length b) (wb : wfS b)
    (wx : (Lit.int .u64 x).wf = true) (wy : (Lit.int .u64 y).wf = true) :
    Calls Try.prog 7 #[.slice A a.length c, .int .u64 x, .slice B b.length c2, .int .u64 y] w fun e w' => e = .returned (.bool true) ∧ Below w.heap.size w w' := by
  have b1 := bounds_u64 wx
  have b2 := bounds_u64 wy
  exact drayagelaw06_EpochsMeets.calls 400000 A c a x B c2 b y true w hr hc hr2 hc2 (pure_law a x b y wa wb b1.1 b2.1)
end Go.Proofs.Ytdbebophchggfaa.Ep
