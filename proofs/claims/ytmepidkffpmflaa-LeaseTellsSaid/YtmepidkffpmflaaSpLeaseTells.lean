/- Plain lemmas: what the Lean functions of the leases come to. Conditions: the numbers are of their kinds. -/
import Derived.Test.YtmepidkffpmflaaFnLeaseTells
import Derived.OpenShut
namespace Go.Proofs.Ytmepidkffpmflaa.PLeaseTells
set_option linter.unusedSimpArgs false
open Go.RowKit Go.Proofs.YtmepidkffpmflaaW.PrintWords Go.Proofs.YtmepidkffpmflaaW.PrintLast Go.Proofs.YtmepidkffpmflaaW.PrintMore

def valid (e h u m : Int) : Prop := (m = 1 ∨ m = 2) ∧ ((h = 0 ∧ e = 0 ∧ u = 0) ∨ ((h = 1 ∨ h = 2) ∧ e > 0 ∧ u ≤ 4611686018427397904))
instance (e h u m : Int) : Decidable (valid e h u m) := by unfold valid; infer_instance
theorem wrap_in (x : Int) (h0 : 0 ≤ x) (h1 : x < 18446744073709551616) : IntKind.u64.wrap x = x := by
  have h : IntKind.u64.wrap x = x % 18446744073709551616 := rfl
  omega
theorem wf_u64 {x : Int} (h : (Lit.int .u64 x).wf = true) : 0 ≤ x ∧ x < 18446744073709551616 := by
  have := Go.bounds_u64 h
  omega
theorem wf_u32 {x : Int} (h : (Lit.int .u32 x).wf = true) : 0 ≤ x ∧ x < 4294967296 := by
  have := Go.bounds_u32 h
  omega
theorem is_eq (a : Int) : lease_is.f a = some (decide (a = 1 ∨ a = 2)) := by
  unfold lease_is.f
  split
  · simp [*]
  · rename_i h
    simp [h]
    rfl
theorem chk_eq (e h u m : Int) : lease_Check.f e h u m = some (if valid e h u m then 0 else 2) := by
  unfold lease_Check.f
  simp only [is_eq, Option.bind_some, decide_eq_true_eq]
  by_cases hv : valid e h u m
  · rw [if_pos hv]
    unfold valid at hv
    repeat' split
    all_goals first | rfl | omega
  · rw [if_neg hv]
    unfold valid at hv
    repeat' split
    all_goals first | rfl | omega
theorem rchk_eq (k : Nat) (e h u m : Int) (he : 0 ≤ e) (hu : 0 ≤ u) : drayageref07_Check.f (k + 2) e h u m = some (if valid e h u m then 0 else 2) := by
  unfold drayageref07_Check.f
  simp only [drayageref07_Check.j0, drayageref07_Check.j1, if_true, decide_eq_true_eq, bne_iff_ne, ne_eq, Bool.false_eq_true, if_false]
  by_cases hv : valid e h u m
  · rw [if_pos hv]
    unfold valid at hv
    repeat' split
    all_goals first | rfl | omega
  · rw [if_neg hv]
    unfold valid at hv
    repeat' split
    all_goals first | rfl | omega
theorem free_eq (e h u m now g : Int) (hu : 0 ≤ u) (hg0 : 0 ≤ g) (hn : 0 ≤ now) (hn' : now < 18446744073709551616) : lease_Free.f e h u m now g = some (decide (valid e h u m ∧ g ≤ 10000 ∧ (h = 0 ∨ now > u + g))) := by
  unfold lease_Free.f
  rw [chk_eq]
  simp only [Option.bind_some]
  by_cases hv : valid e h u m
  · rw [if_pos hv]
    by_cases hg : g ≤ 10000
    · by_cases hh : h = 0
      · rw [if_pos rfl, if_neg (show ¬ g > 10000 by omega), if_pos hh, decide_eq_true (⟨hv, hg, .inl hh⟩ : valid e h u m ∧ g ≤ 10000 ∧ (h = 0 ∨ now > u + g))]
      · by_cases hw : now > u
        · rw [wrap_in _ (by omega) (by omega)]
          simp [hv, hg, hh, hw, show ¬ g > 10000 by omega]
          omega
        · simp [hv, hg, hh, hw, show ¬ g > 10000 by omega]
          omega
    · simp [hv, hg, show g > 10000 by omega]
  · simp [hv]
theorem rfree_eq (k : Nat) (e h u m now g : Int) (he : 0 ≤ e) (hu : 0 ≤ u) (hg0 : 0 ≤ g) : drayageref07_Free.f (k + 2) e h u m now g = some (decide (valid e h u m ∧ g ≤ 10000 ∧ (h = 0 ∨ now > u + g))) := by
  unfold drayageref07_Free.f
  rw [rchk_eq _ _ _ _ _ he hu]
  simp only [Option.bind_some, drayageref07_Free.j0]
  by_cases hv : valid e h u m
  · rw [if_pos hv]
    by_cases hg : g ≤ 10000
    · by_cases hh : h = 0
      · rw [if_pos rfl, if_neg (by simp; omega), if_pos hh, decide_eq_true (⟨hv, hg, .inl hh⟩ : valid e h u m ∧ g ≤ 10000 ∧ (h = 0 ∨ now > u + g))]
      · have hu' : u ≤ 4611686018427397904 := by
          unfold valid at hv
          omega
        rw [wrap_in _ (by omega) (by omega)]
        simp [hv, hg, hh, show ¬ g > 10000 by omega]
    · simp [hv, hg, show g > 10000 by omega]
  · simp [hv]
theorem holds_eq (e h u m who now : Int) : lease_Holds.f e h u m who now = some (decide (valid e h u m ∧ h = who ∧ h ≠ 0 ∧ now ≤ u)) := by
  unfold lease_Holds.f
  rw [chk_eq]
  simp only [Option.bind_some, is_eq]
  by_cases hv : valid e h u m
  · by_cases hw : who = 1 ∨ who = 2
    · by_cases hh : h = who
      · have h0 : h ≠ 0 := by omega
        have hw' : h = 1 ∨ h = 2 := by omega
        simp [hv, hw', ← hh, h0]
      · simp [hv, hw, hh]
    · have h2 : ¬ (h = who ∧ h ≠ 0 ∧ now ≤ u) := by
        unfold valid at hv
        omega
      simp [hv, hw]
      omega
  · simp [hv]
theorem rholds_eq (k : Nat) (e h u m who now : Int) (he : 0 ≤ e) (hu : 0 ≤ u) : drayageref07_Holds.f (k + 2) e h u m who now = some (decide (valid e h u m ∧ h = who ∧ h ≠ 0 ∧ now ≤ u)) := by
  unfold drayageref07_Holds.f
  rw [rchk_eq _ _ _ _ _ he hu]
  simp only [Option.bind_some]
  by_cases hv : valid e h u m
  · by_cases hw : who ≥ 1
    · by_cases hh : h = who
      · have h0 : h ≠ 0 := by omega
        have hw' : h ≥ 1 := by omega
        simp [hv, ← hh, h0]
        omega
      · simp [hv, hw, hh]
    · simp [hv, hw]
      unfold valid at hv
      omega
  · simp [hv]
theorem pure_LeaseTells (e h u m now g who : Int) (we : (Lit.int .u32 e).wf = true) (wu : (Lit.int .u64 u).wf = true) (wn : (Lit.int .u64 now).wf = true) (wg : (Lit.int .u64 g).wf = true) :
    drayagelaw07_LeaseTells.f 5 e h u m now g who = some true := by
  have e1 := wf_u32 we
  have e2 := wf_u64 wu
  have e3 := wf_u64 wn
  have e4 := wf_u64 wg
  unfold drayagelaw07_LeaseTells.f drayagelaw07_known.f
  simp only [chk_eq, rchk_eq 3 e h u m e1.1 e2.1, free_eq e h u m now g e2.1 e4.1 e3.1 e3.2, rfree_eq 3 e h u m now g e1.1 e2.1 e4.1, holds_eq, rholds_eq 3 e h u m who now e1.1 e2.1, Option.bind_some, if_true, BEq.rfl]
theorem law_all (e h u m now g who : Int) (w : World) (we : (Lit.int .u32 e).wf = true) (wu : (Lit.int .u64 u).wf = true) (wn : (Lit.int .u64 now).wf = true) (wg : (Lit.int .u64 g).wf = true) :
    Calls Try.prog 3 #[.agg #[.int .u32 e, .int .i64 h, .int .u64 u, .int .i64 m], .int .u64 now, .int .u64 g, .int .i64 who] w fun e w' => e = .returned (.bool true) ∧ Below w.heap.size w w' :=
  drayagelaw07_LeaseTells.calls 5 e h u m now g who true w (pure_LeaseTells e h u m now g who we wu wn wg)
end Go.Proofs.Ytmepidkffpmflaa.PLeaseTells
