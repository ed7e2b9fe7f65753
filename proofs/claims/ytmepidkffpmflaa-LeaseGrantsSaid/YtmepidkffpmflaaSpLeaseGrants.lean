/- Plain lemmas: what the Lean functions of the leases come to. Conditions: the numbers are of their kinds. -/
import Derived.Test.YtmepidkffpmflaaFnLeaseGrants
import Derived.OpenShut
namespace Go.Proofs.Ytmepidkffpmflaa.PLeaseGrants
set_option linter.unusedSimpArgs false
open Go.RowKit Go.Proofs.YtmepidkffpmflaaW.PrintWords Go.Proofs.YtmepidkffpmflaaW.PrintLast Go.Proofs.YtmepidkffpmflaaW.PrintMore

def valid (e h u m : Int) : Prop := (m = 1 ∨ m = 2) ∧ ((h = 0 ∧ e = 0 ∧ u = 0) ∨ ((h = 1 ∨ h = 2) ∧ e > 0 ∧ u ≤ 4611686018427397904))
instance (e h u m : Int) : Decidable (valid e h u m) := by unfold valid; infer_instance
theorem wrap_in (x : Int) (h0 : 0 ≤ x) (h1 : x < 18446744073709551616) : IntKind.u64.wrap x = x := by
  have h : IntKind.u64.wrap x = x % 18446744073709551616 := rfl
  omega
theorem wf_u64 {x : Int} (h : (Lit.int .u64 x).wf = true) : 0 ≤ x ∧ x < 18446744073709551616 := by
  have := Go.bounds_u64 h
  omega
theorem wf_u32 {x : Int} (h : (Lit.int .u32 x).wf = true) : 0 ≤ x ∧ x < 4294967296 := by
  have := Go.bounds_u32 h
  omega
theorem is_eq (a : Int) : lease_is.f a = some (decide (a = 1 ∨ a = 2)) := by
  unfold lease_is.f
  split
  · simp [*]
  · rename_i h
    simp [h]
    rfl
theorem chk_eq (e h u m : Int) : lease_Check.f e h u m = some (if valid e h u m then 0 else 2) := by
  unfold lease_Check.f
  simp only [is_eq, Option.bind_some, decide_eq_true_eq]
  by_cases hv : valid e h u m
  · rw [if_pos hv]
    unfold valid at hv
    repeat' split
    all_goals first | rfl | omega
  · rw [if_neg hv]
    unfold valid at hv
    repeat' split
    all_goals first | rfl | omega
theorem rchk_eq (k : Nat) (e h u m : Int) (he : 0 ≤ e) (hu : 0 ≤ u) : drayageref07_Check.f (k + 2) e h u m = some (if valid e h u m then 0 else 2) := by
  unfold drayageref07_Check.f
  simp only [drayageref07_Check.j0, drayageref07_Check.j1, if_true, decide_eq_true_eq, bne_iff_ne, ne_eq, Bool.false_eq_true, if_false]
  by_cases hv : valid e h u m
  · rw [if_pos hv]
    unfold valid at hv
    repeat' split
    all_goals first | rfl | omega
  · rw [if_neg hv]
    unfold valid at hv
    repeat' split
    all_goals first | rfl | omega
theorem free_eq (e h u m now g : Int) (hu : 0 ≤ u) (hg0 : 0 ≤ g) (hn : 0 ≤ now) (hn' : now < 18446744073709551616) : lease_Free.f e h u m now g = some (decide (valid e h u m ∧ g ≤ 10000 ∧ (h = 0 ∨ now > u + g))) := by
  unfold lease_Free.f
  rw [chk_eq]
  simp only [Option.bind_some]
  by_cases hv : valid e h u m
  · rw [if_pos hv]
    by_cases hg : g ≤ 10000
    · by_cases hh : h = 0
      · rw [if_pos rfl, if_neg (show ¬ g > 10000 by omega), if_pos hh, decide_eq_true (⟨hv, hg, .inl hh⟩ : valid e h u m ∧ g ≤ 10000 ∧ (h = 0 ∨ now > u + g))]
      · by_cases hw : now > u
        · rw [wrap_in _ (by omega) (by omega)]
          simp [hv, hg, hh, hw, show ¬ g > 10000 by omega]
          omega
        · simp [hv, hg, hh, hw, show ¬ g > 10000 by omega]
          omega
    · simp [hv, hg, show g > 10000 by omega]
  · simp [hv]
theorem rfree_eq (k : Nat) (e h u m now g : Int) (he : 0 ≤ e) (hu : 0 ≤ u) (hg0 : 0 ≤ g) : drayageref07_Free.f (k + 2) e h u m now g = some (decide (valid e h u m ∧ g ≤ 10000 ∧ (h = 0 ∨ now > u + g))) := by
  unfold drayageref07_Free.f
  rw [rchk_eq _ _ _ _ _ he hu]
  simp only [Option.bind_some, drayageref07_Free.j0]
  by_cases hv : valid e h u m
  · rw [if_pos hv]
    by_cases hg : g ≤ 10000
    · by_cases hh : h = 0
      · rw [if_pos rfl, if_neg (by simp; omega), if_pos hh, decide_eq_true (⟨hv, hg, .inl hh⟩ : valid e h u m ∧ g ≤ 10000 ∧ (h = 0 ∨ now > u + g))]
      · have hu' : u ≤ 4611686018427397904 := by
          unfold valid at hv
          omega
        rw [wrap_in _ (by omega) (by omega)]
        simp [hv, hg, hh, show ¬ g > 10000 by omega]
    · simp [hv, hg, show g > 10000 by omega]
  · simp [hv]
theorem span_eq (n : Int) : lease_span.f n = some (decide (1 ≤ n ∧ n ≤ 10000)) := by
  unfold lease_span.f
  split
  · simp; omega
  · simp; omega
def grantS (e h u m now who len g : Int) : Int × Int × Int × Int × Int :=
  if ¬ valid e h u m ∨ ¬ (who = 1 ∨ who = 2) ∨ ¬ (1 ≤ len ∧ len ≤ 10000) ∨ g > 10000 then (0, 0, 0, 0, 2)
  else if now > 4611686018427387904 ∨ e = 4294967295 then (0, 0, 0, 0, 71)
  else if h = 0 ∨ now > u + g then (e + 1, who, now + len, m, 0) else (0, 0, 0, 0, 70)
theorem grant_eq (k : Nat) (e h u m now who len g : Int) (he : 0 ≤ e) (he' : e < 4294967296) (hu : 0 ≤ u) (hg0 : 0 ≤ g) (hn : 0 ≤ now) (hn' : now < 18446744073709551616) :
    lease_Grant.f (k + 2) e h u m now who len g = some (grantS e h u m now who len g) := by
  unfold lease_Grant.f grantS
  rw [chk_eq, is_eq, span_eq]
  simp only [Option.bind_some, lease_Grant.j0, lease_Grant.j1, free_eq e h u m now g hu hg0 hn hn']
  by_cases hv : valid e h u m
  · by_cases hw : who = 1 ∨ who = 2
    · by_cases hl : 1 ≤ len ∧ len ≤ 10000
      · by_cases hg : g > 10000
        · simp [hv, hw, hl, hg]
        · have hg' : g ≤ 10000 := by omega
          by_cases ht : now > 4611686018427387904
          · simp [hv, hw, hl, hg, ht]
          · by_cases hm : e = 4294967295
            · subst hm
              simp [hv, hw, hl, hg]
            · have e1 : (e + 1) % 4294967296 = e + 1 := by omega
              have e2 := wrap_in (now + len) (by omega) (by omega)
              have hm' : (e == 4294967295) = false := beq_eq_false_iff_ne.mpr hm
              by_cases hf : h = 0 ∨ now > u + g
              · simp [hv, hw, hl, hg, hg', ht, hm, hm', hf, e1, e2]
              · simp [hv, hw, hl, hg, hg', ht, hm, hm', hf]
      · simp [hv, hw, hl]
    · simp [hv, hw]
  · simp [hv]
theorem rwrong_eq (k : Nat) (e h u m who len : Int) (he : 0 ≤ e) (hu : 0 ≤ u) : drayageref07_wrong.f (k + 2) e h u m who len = some (decide (¬ valid e h u m ∨ ¬ (who = 1 ∨ who = 2) ∨ ¬ (1 ≤ len ∧ len ≤ 10000))) := by
  unfold drayageref07_wrong.f
  rw [rchk_eq _ _ _ _ _ he hu]
  simp only [Option.bind_some]
  by_cases hv : valid e h u m
  · simp only [hv, if_true]
    repeat' split
    all_goals first | (simp; done) | (simp; omega) | (rw [Option.some.injEq, Bool.eq_iff_iff]; simp; omega)
  · simp [hv]
theorem rgrant_eq (k : Nat) (e h u m now who len g : Int) (he : 0 ≤ e) (he' : e < 4294967296) (hu : 0 ≤ u) (hg0 : 0 ≤ g) (hn : 0 ≤ now) (hn' : now < 18446744073709551616) :
    drayageref07_Grant.f (k + 4) e h u m now who len g = some (grantS e h u m now who len g) := by
  unfold drayageref07_Grant.f grantS
  rw [rwrong_eq (k + 2) _ _ _ _ _ _ he hu]
  simp only [Option.bind_some, drayageref07_Grant.j0, drayageref07_Grant.j1, rfree_eq (k + 1) e h u m now g he hu hg0]
  by_cases hv : valid e h u m
  · by_cases hw : who = 1 ∨ who = 2
    · by_cases hl : 1 ≤ len ∧ len ≤ 10000
      · by_cases hg : g > 10000
        · simp [hv, hw, hl, hg]
        · have hg' : g ≤ 10000 := by omega
          by_cases ht : now > 4611686018427387904
          · simp [hv, hw, hl, hg, ht]
          · by_cases hm : e = 4294967295
            · subst hm
              simp [hv, hw, hl, hg]
            · have e1 : (e + 1) % 4294967296 = e + 1 := by omega
              have e2 := wrap_in (now + len) (by omega) (by omega)
              have hm' : (e == 4294967295) = false := beq_eq_false_iff_ne.mpr hm
              by_cases hf : h = 0 ∨ now > u + g
              · simp [hv, hw, hl, hg, hg', ht, hm, hm', hf, e1, e2]
              · simp [hv, hw, hl, hg, hg', ht, hm, hm', hf]
      · simp [hv, hw, hl]
    · simp [hv, hw]
  · simp [hv]
theorem law_all (e h u m now who len g : Int) (w : World) (we : (Lit.int .u32 e).wf = true) (wu : (Lit.int .u64 u).wf = true) (wn : (Lit.int .u64 now).wf = true) (wg : (Lit.int .u64 g).wf = true) :
    Calls Try.prog 4 #[.agg #[.int .u32 e, .int .i64 h, .int .u64 u, .int .i64 m], .int .u64 now, .int .i64 who, .int .u64 len, .int .u64 g] w fun e w' => e = .returned (.bool true) ∧ Below w.heap.size w w' := by
  have e1 := wf_u32 we
  have e2 := wf_u64 wu
  have e3 := wf_u64 wn
  have e4 := wf_u64 wg
  exact law_calls 5 e h u m now who len g _ _ _ _ _ w ⟨grant_eq 3 e h u m now who len g e1.1 e1.2 e2.1 e4.1 e3.1 e3.2⟩ ⟨rgrant_eq 1 e h u m now who len g e1.1 e1.2 e2.1 e4.1 e3.1 e3.2⟩
end Go.Proofs.Ytmepidkffpmflaa.PLeaseGrants
