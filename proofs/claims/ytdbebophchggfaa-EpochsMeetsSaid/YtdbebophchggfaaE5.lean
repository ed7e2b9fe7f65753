/- Plain lemmas on tables of starts, and what the Lean functions of layer 6 come to. Conditions: as many rounds as the lists are long, numbers of their kinds, at most a thousand starts. -/
import Derived.Test.YtdbebophchggfaaE4
import Derived.OpenShut
namespace Go.Proofs.Ytdbebophchggfaa.Ep
open Go.RowKit Go.Proofs.YtdbebophchggfaaW.PrintWords Go.Proofs.YtdbebophchggfaaW.PrintLast Go.Proofs.YtdbebophchggfaaW.PrintMore
set_option linter.unusedVariables false
set_option linter.unusedSimpArgs false

abbrev Lf (l : List S37) (i : Nat) : Int := (rd_T37 l (i : Int)).f1
abbrev Ef (l : List S37) (i : Nat) : Int := (rd_T37 l (i : Int)).f0
def wfS (l : List S37) : Prop := ∀ i : Nat, i < l.length → 0 ≤ Ef l i ∧ Ef l i < 4294967296 ∧ 0 ≤ Lf l i ∧ Lf l i < 18446744073709551616
theorem w64 (i : Nat) (h : i < 9223372036854775807) : wrap64 ((i : Int) + 1) = ((i + 1 : Nat) : Int) := by unfold wrap64; omega
theorem w64m (i : Nat) (h0 : 0 < i) (h : i < 9223372036854775807) : wrap64 ((i : Int) - 1) = ((i - 1 : Nat) : Int) := by unfold wrap64; omega
theorem u64m (x : Int) (h : 1 ≤ x) (h' : x < 18446744073709551616) : IntKind.u64.wrap (x - 1) = x - 1 := by
  have : IntKind.u64.wrap (x - 1) = (x - 1) % 18446744073709551616 := rfl
  omega
theorem u64p (x : Int) (h : 0 ≤ x) (h' : x < 18446744073709551615) : IntKind.u64.wrap (x + 1) = x + 1 := by
  have : IntKind.u64.wrap (x + 1) = (x + 1) % 18446744073709551616 := rfl
  omega
theorem rd_zero (s : S37) (t : List S37) : rd_T37 (s :: t) ((0 : Nat) : Int) = s := rfl
theorem rd_zero' (s : S37) (t : List S37) : rd_T37 (s :: t) (0 : Int) = s := rfl
theorem rd_succ (s : S37) (t : List S37) (k : Nat) : rd_T37 (s :: t) ((k + 1 : Nat) : Int) = rd_T37 t (k : Int) := by
  unfold rd_T37
  rw [Int.toNat_natCast, Int.toNat_natCast]
  rfl
theorem ext_rd : ∀ (a b : List S37), a.length = b.length → (∀ i : Nat, i < a.length → rd_T37 a (i : Int) = rd_T37 b (i : Int)) → a = b
  | [], [], _, _ => rfl
  | [], _ :: _, h, _ => by simp at h
  | _ :: _, [], h, _ => by simp at h
  | x :: s, y :: t, h, hr => by
    have h0 := hr 0 (by simp)
    rw [rd_zero, rd_zero] at h0
    rw [h0, ext_rd s t (by simpa using h) (fun i hi => by have := hr (i + 1) (by simpa using hi); rwa [rd_succ, rd_succ] at this)]
theorem rd_take (l : List S37) (n i : Nat) (h : i < n) : rd_T37 (l.take n) (i : Int) = rd_T37 l (i : Int) := by
  unfold rd_T37
  rw [Int.toNat_natCast]
  simp [List.getD_eq_getElem?_getD, h]
theorem rd_app1 (l m : List S37) (i : Nat) (h : i < l.length) : rd_T37 (l ++ m) (i : Int) = rd_T37 l (i : Int) := by
  unfold rd_T37
  rw [Int.toNat_natCast]
  simp [List.getD_eq_getElem?_getD, List.getElem?_append_left h]
theorem rd_app2 (l : List S37) (s : S37) : rd_T37 (l ++ [s]) (l.length : Int) = s := by
  unfold rd_T37
  rw [Int.toNat_natCast]
  simp [List.getD_eq_getElem?_getD]
theorem eta37 (s : S37) : (⟨s.f0, s.f1⟩ : S37) = s := by cases s; rfl
theorem take_succ_rd (l : List S37) (i : Nat) (h : i < l.length) : l.take (i + 1) = l.take i ++ [(⟨Ef l i, Lf l i⟩ : S37)] := by
  rw [List.take_succ_eq_append_getElem h]
  congr 2
  unfold Ef Lf
  rw [eta37, rd_at l i h]

/-! ### tables -/
theorem tblFrom_iff : ∀ (l : List S37) (e n : Int), tblFrom e n l = true ↔ (∀ i : Nat, i < l.length → (if i = 0 then e else Ef l (i - 1)) < Ef l i ∧ (if i = 0 then n else Lf l (i - 1)) < Lf l i)
  | [], _, _ => by simp [tblFrom]
  | s :: t, e, n => by
    simp only [tblFrom, Bool.and_eq_true, decide_eq_true_eq]
    rw [tblFrom_iff t s.f0 s.f1]
    constructor
    · rintro ⟨h1, h2, h3⟩ i hi
      cases i with
      | zero => simp only [if_true]; unfold Ef Lf; rw [rd_zero]; exact ⟨h1, h2⟩
      | succ i =>
        have h := h3 i (by simpa using hi)
        unfold Ef Lf at h ⊢
        rw [if_neg (by omega), if_neg (by omega), rd_succ]
        cases i with
        | zero => simpa [rd_zero'] using h
        | succ i =>
          rw [if_neg (by omega), if_neg (by omega)] at h
          rw [show i + 1 + 1 - 1 = i + 1 by omega, rd_succ]
          simpa using h
    · intro h
      have h0 := h 0 (by simp)
      simp only [if_true] at h0
      unfold Ef Lf at h0
      rw [rd_zero] at h0
      refine ⟨h0.1, h0.2, fun i hi => ?_⟩
      have h1 := h (i + 1) (by simpa using hi)
      unfold Ef Lf at h1 ⊢
      rw [if_neg (by omega), if_neg (by omega), rd_succ] at h1
      cases i with
      | zero => simpa [rd_zero'] using h1
      | succ i =>
        rw [show i + 1 + 1 - 1 = i + 1 by omega, rd_succ] at h1
        rw [if_neg (by omega), if_neg (by omega)]
        simpa using h1
theorem tbl_iff (l : List S37) : tbl l = true ↔ (∀ i : Nat, i < l.length → (if i = 0 then 0 else Ef l (i - 1)) < Ef l i ∧ (if i = 0 then 0 else Lf l (i - 1)) < Lf l i) := tblFrom_iff l 0 0
theorem tbl_pos {l : List S37} (h : tbl l = true) (i : Nat) (hi : i < l.length) : 0 < Ef l i ∧ 0 < Lf l i := (tblFrom_rd l 0 0 h).1 i hi
theorem tbl_lt {l : List S37} (h : tbl l = true) (i j : Nat) (hij : i < j) (hj : j < l.length) : Ef l i < Ef l j ∧ Lf l i < Lf l j := (tblFrom_rd l 0 0 h).2 i j hij hj
theorem tbl_le {l : List S37} (h : tbl l = true) (i j : Nat) (hij : i ≤ j) (hj : j < l.length) : Ef l i ≤ Ef l j ∧ Lf l i ≤ Lf l j := by
  rcases Nat.lt_or_ge i j with h' | h'
  · have := tbl_lt h i j h' hj
    omega
  · obtain rfl : i = j := by omega
    omega
theorem tbl_take {l : List S37} (h : tbl l = true) (n : Nat) : tbl (l.take n) = true := by
  rw [tbl_iff] at h ⊢
  intro i hi
  have hi2 : i < n ∧ i < l.length := by simp at hi; omega
  have := h i hi2.2
  unfold Ef Lf at this ⊢
  rw [rd_take l n i hi2.1]
  by_cases h0 : i = 0
  · simpa [h0] using this
  · rw [if_neg h0, if_neg h0, rd_take l n (i - 1) (by omega)]
    simpa [h0] using this

theorem cnt_le (l : List S37) (x : Int) : cnt l x ≤ l.length := by
  unfold cnt
  exact (List.takeWhile_sublist _).length_le
theorem cnt_spec0 (x : Int) : ∀ l : List S37, (∀ k : Nat, k < cnt l x → Lf l k ≤ x) ∧ (cnt l x < l.length → x < Lf l (cnt l x))
  | [] => ⟨fun k h => by simp [cnt] at h, fun h => by simp [cnt] at h⟩
  | s :: t => by
    obtain ⟨h1, h2⟩ := cnt_spec0 x t
    by_cases hs : s.f1 ≤ x
    · have hc : cnt (s :: t) x = cnt t x + 1 := by unfold cnt; rw [List.takeWhile_cons_of_pos (by simpa using hs), List.length_cons]
      rw [hc]
      refine ⟨fun k hk => ?_, fun h => ?_⟩
      · cases k with
        | zero => unfold Lf; rw [rd_zero]; exact hs
        | succ k => unfold Lf; rw [rd_succ]; exact h1 k (by omega)
      · unfold Lf; rw [rd_succ]; exact h2 (by simpa using h)
    · have hc : cnt (s :: t) x = 0 := by unfold cnt; rw [List.takeWhile_cons_of_neg (by simpa using hs), List.length_nil]
      rw [hc]
      exact ⟨fun k hk => by omega, fun _ => by unfold Lf; rw [rd_zero]; omega⟩
theorem cnt_low (l : List S37) (x : Int) (k : Nat) (h : k < cnt l x) : Lf l k ≤ x := (cnt_spec0 x l).1 k h
theorem cnt_high {l : List S37} (ht : tbl l = true) (x : Int) (k : Nat) (h : cnt l x ≤ k) (hk : k < l.length) : x < Lf l k := by
  have h1 := (cnt_spec0 x l).2 (by omega)
  have h2 := (tbl_le ht _ k h hk).2
  omega
theorem cnt_is {l : List S37} (ht : tbl l = true) (x : Int) (p : Nat) (hp : p ≤ l.length) (h1 : 0 < p → Lf l (p - 1) ≤ x) (h2 : p < l.length → x < Lf l p) : cnt l x = p := by
  refine cnt_eq x l p hp (fun k hk => ?_) (fun k hk hk' => ?_)
  · have := h1 (by omega)
    have := (tbl_le ht k (p - 1) (by omega) (by omega)).2
    unfold Lf at *
    omega
  · have := h2 (by omega)
    have := (tbl_le ht p k hk hk').2
    unfold Lf at *
    omega
/-- The epoch of an entry, of a table. -/
def atS (l : List S37) (x : Int) : Int := if cnt l x = 0 then 0 else Ef l (cnt l x - 1)
/-- From so many starts on down, while the last one is of a greater epoch. -/
def down (l : List S37) (ep : Int) : Nat → Nat
  | 0 => 0
  | n + 1 => if Ef l n > ep then down l ep n else n + 1
def endF (l : List S37) (last : Int) (m : Nat) : Int := if m = 0 then 0 else if m < l.length then mn last (Lf l m - 1) else last
def endS (l : List S37) (last ep : Int) : Int := endF l last (down l ep (cnt l last))
theorem down_spec (l : List S37) (ep : Int) : ∀ n : Nat, down l ep n ≤ n ∧ (∀ k, down l ep n ≤ k → k < n → ep < Ef l k) ∧ (0 < down l ep n → Ef l (down l ep n - 1) ≤ ep)
  | 0 => ⟨by simp [down], fun k h h' => by omega, fun h => by simp [down] at h⟩
  | n + 1 => by
    obtain ⟨h1, h2, h3⟩ := down_spec l ep n
    simp only [down]
    split
    · rename_i hgt
      refine ⟨by omega, fun k hk hk' => ?_, h3⟩
      rcases Nat.lt_or_ge k n with h | h
      · exact h2 k hk h
      · obtain rfl : k = n := by omega
        exact hgt
    · rename_i hgt
      exact ⟨Nat.le_refl _, fun k hk hk' => by omega, fun _ => by rw [Nat.add_sub_cancel]; omega⟩
def cutS (l : List S37) (x : Int) : List S37 := if tbl l = true then l.take (cnt l x) else []
def chkS (l : List S37) : Int := if tbl l = true then 0 else 60

/-! ### what the printed functions come to -/
theorem Check_eq (k : Nat) (l : List S37) (hk : l.length < k) (hl : l.length ≤ 1000) : epochs_Check.f k l = some (chkS l) := at_rounds (epochs_Check.mono l) (show l.length + 1 ≤ k by omega) (check_eq l (by omega))
theorem find_eq {l : List S37} (x : Int) (ht : tbl l = true) : epochs_find.f l x = some (cnt l x : Int) := by unfold epochs_find.f; rw [if_pos ht]
theorem at_eq {l : List S37} (x : Int) (ht : tbl l = true) (hl : l.length ≤ 1000) : epochs_at.f l x = some (atS l x) := by
  have hc := cnt_le l x
  unfold epochs_at.f atS
  rw [find_eq x ht]
  simp only [Option.bind_some]
  by_cases h0 : cnt l x = 0
  · rw [if_pos (by omega), if_pos h0]
  · rw [if_neg (by omega), if_neg h0, w64m _ (by omega) (by omega), if_pos (by omega), if_pos (by omega)]
theorem At_eq (k : Nat) (l : List S37) (x : Int) (hk : l.length < k) (hl : l.length ≤ 1000) : epochs_At.f k l x = some (if tbl l = true then atS l x else 0) := by
  unfold epochs_At.f
  rw [Check_eq k l hk hl]
  simp only [Option.bind_some, chkS]
  by_cases ht : tbl l = true
  · rw [if_pos ht, if_pos rfl, if_pos ht, at_eq x ht hl, Option.bind_some]
  · rw [if_neg ht, if_neg (by omega), if_neg ht]
theorem End_l0 {l : List S37} (ht : tbl l = true) (hw : wfS l) (hl : l.length ≤ 1000) (last ep : Int) : ∀ (n k : Nat), n ≤ l.length → n + 1 < k → epochs_End.l0 k l last ep (n : Int) = some (endF l last (down l ep n)) := by
  intro n
  induction n with
  | zero =>
    intro k hn hk
    obtain ⟨k, rfl⟩ : ∃ m, k = m + 1 := ⟨k - 1, by omega⟩
    obtain ⟨k, rfl⟩ : ∃ m, k = m + 1 := ⟨k - 1, by omega⟩
    simp only [epochs_End.l0, epochs_End.j1]
    rw [if_neg (by omega), if_pos (by omega)]
    rfl
  | succ n ih =>
    intro k hn hk
    obtain ⟨k, rfl⟩ : ∃ m, k = m + 1 := ⟨k - 1, by omega⟩
    rw [show epochs_End.l0 (k + 1) l last ep ((n + 1 : Nat) : Int) = (if ((n + 1 : Nat) : Int) > 0 then (if 0 ≤ (wrap64 (((n + 1 : Nat) : Int) - 1)) then (if (wrap64 (((n + 1 : Nat) : Int) - 1)) < (l.length : Int) then (if ((rd_T37 l (wrap64 (((n + 1 : Nat) : Int) - 1))).f0) > ep then (epochs_End.l0 k l last ep (wrap64 (((n + 1 : Nat) : Int) - 1))) else (epochs_End.j1 k l last ((n + 1 : Nat) : Int))) else (none)) else (none)) else (epochs_End.j1 k l last ((n + 1 : Nat) : Int))) by simp only [epochs_End.l0]]
    rw [w64m (n + 1) (by omega) (by omega), if_pos (by omega), if_pos (by omega), if_pos (by omega)]
    rw [show n + 1 - 1 = n by omega]
    by_cases hgt : Ef l n > ep
    · have hd : down l ep (n + 1) = down l ep n := by simp only [down]; rw [if_pos hgt]
      rw [if_pos hgt, hd, ih k (by omega) (by omega)]
    · have hd : down l ep (n + 1) = n + 1 := by simp only [down]; rw [if_neg hgt]
      rw [if_neg hgt, hd]
      obtain ⟨k, rfl⟩ : ∃ m, k = m + 1 := ⟨k - 1, by omega⟩
      simp only [epochs_End.j1, endF]
      rw [if_neg (by omega), if_neg (show ¬ n + 1 = 0 by omega)]
      by_cases hlt : n + 1 < l.length
      · have hp := (tbl_pos ht (n + 1) hlt).2
        have hw1 := (hw (n + 1) hlt).2.2.2
        rw [if_pos (by omega), if_pos (by omega), if_pos hlt, u64m _ (by have := hp; unfold Lf at this ⊢; omega) hw1]
      · rw [if_neg (by omega), if_neg hlt]
theorem End_eq (k : Nat) (l : List S37) (last ep : Int) (hw : wfS l) (hk : l.length + 2 < k) (hl : l.length ≤ 1000) : epochs_End.f k l last ep = some (if tbl l = true then endS l last ep else 0) := by
  unfold epochs_End.f endS
  rw [Check_eq k l (by omega) hl]
  simp only [Option.bind_some, chkS]
  by_cases ht : tbl l = true
  · have hc := cnt_le l last
    rw [if_pos ht, if_pos rfl, if_pos ht, find_eq last ht, Option.bind_some, End_l0 ht hw hl last ep (cnt l last) k hc (by omega)]
  · rw [if_neg ht, if_neg (by omega), if_neg ht]
theorem Clone_eq (l : List S37) (hl : l.length ≤ 2000) : api_Start.f l = some l := by
  unfold api_Start.f
  rw [if_pos (by simp; omega), List.nil_append]
theorem copied_eq (l : List S37) (hl : l.length ≤ 2000) : drayagelaw06_copied.f l = some l := by
  unfold drayagelaw06_copied.f
  rw [if_pos (by simp; omega), List.nil_append]
theorem Cut_eq (k : Nat) (l : List S37) (x : Int) (hk : l.length < k) (hl : l.length ≤ 1000) : epochs_Cut.f k l x = some (cutS l x) := by
  have hc := cnt_le l x
  unfold epochs_Cut.f cutS
  rw [Check_eq k l hk hl]
  simp only [Option.bind_some, chkS]
  by_cases ht : tbl l = true
  · rw [if_pos ht, if_pos rfl, if_pos ht, find_eq x ht, Option.bind_some, if_pos (by omega), if_pos (by omega), Int.toNat_natCast, Clone_eq _ (by simp; omega), Option.bind_some]
  · rw [if_neg ht, if_neg (by omega), if_neg ht]
theorem Add_eq (k : Nat) (l : List S37) (e n : Int) (hk : l.length + 1 < k) (hl : l.length < 1000) : epochs_Add.f k l e n = some (if tbl (l ++ [(⟨e, n⟩ : S37)]) = true then (l ++ [(⟨e, n⟩ : S37)], 0) else ([], 60)) := by
  unfold epochs_Add.f
  rw [Clone_eq l (by omega)]
  simp only [Option.bind_some]
  rw [if_pos (by simp; omega), Check_eq k (l ++ [(⟨e, n⟩ : S37)]) (by simp; omega) (by simp; omega), Option.bind_some]
  unfold chkS
  by_cases ht : tbl (l ++ [(⟨e, n⟩ : S37)]) = true
  · rw [if_pos ht, if_pos rfl, if_pos ht]
  · rw [if_neg ht, if_neg (by omega), if_neg ht]
theorem many_no (a b : List S37) (ha : a.length ≤ 500) (hb : b.length ≤ 500) : drayagelaw06_many.f a b = some false := by
  unfold drayagelaw06_many.f
  rw [if_neg (by omega), decide_eq_false (by omega)]
theorem many_cases (a b : List S37) : drayagelaw06_many.f a b = some true ∨ (drayagelaw06_many.f a b = some false ∧ a.length ≤ 500 ∧ b.length ≤ 500) := by
  unfold drayagelaw06_many.f
  by_cases h1 : (a.length : Int) > 500
  · rw [if_pos h1]; exact .inl rfl
  · rw [if_neg h1]
    by_cases h2 : (b.length : Int) > 500
    · rw [decide_eq_true h2]; exact .inl rfl
    · rw [decide_eq_false h2]; exact .inr ⟨rfl, by omega, by omega⟩
theorem known_eq (k : Nat) (hk : 10 ≤ k) : drayagelaw06_known.f k = some true := by
  have h : drayagelaw06_known.f 10 = some true := by decide +kernel
  exact at_rounds drayagelaw06_known.mono hk h
end Go.Proofs.Ytdbebophchggfaa.Ep
