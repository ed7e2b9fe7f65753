/- Plain lemmas: what the Lean functions of the leases come to. Conditions: the numbers are of their kinds. -/
import Derived.Test.YtmepidkffpmflaaFnLeaseGuard
import Derived.OpenShut
namespace Go.Proofs.Ytmepidkffpmflaa.PLeaseGuard
set_option linter.unusedSimpArgs false
open Go.RowKit Go.Proofs.YtmepidkffpmflaaW.PrintWords Go.Proofs.YtmepidkffpmflaaW.PrintLast Go.Proofs.YtmepidkffpmflaaW.PrintMore

def valid (e h u m : Int) : Prop := (m = 1 ∨ m = 2) ∧ ((h = 0 ∧ e = 0 ∧ u = 0) ∨ ((h = 1 ∨ h = 2) ∧ e > 0 ∧ u ≤ 4611686018427397904))
instance (e h u m : Int) : Decidable (valid e h u m) := by unfold valid; infer_instance
theorem wrap_in (x : Int) (h0 : 0 ≤ x) (h1 : x < 18446744073709551616) : IntKind.u64.wrap x = x := by
  have h : IntKind.u64.wrap x = x % 18446744073709551616 := rfl
  omega
theorem wf_u64 {x : Int} (h : (Lit.int .u64 x).wf = true) : 0 ≤ x ∧ x < 18446744073709551616 := by
  have := Go.bounds_u64 h
  omega
theorem wf_u32 {x : Int} (h : (Lit.int .u32 x).wf = true) : 0 ≤ x ∧ x < 4294967296 := by
  have := Go.bounds_u32 h
  omega
theorem is_eq (a : Int) : lease_is.f a = some (decide (a = 1 ∨ a = 2)) := by
  unfold lease_is.f
  split
  · simp [*]
  · rename_i h
    simp [h]
    rfl
theorem chk_eq (e h u m : Int) : lease_Check.f e h u m = some (if valid e h u m then 0 else 2) := by
  unfold lease_Check.f
  simp only [is_eq, Option.bind_some, decide_eq_true_eq]
  by_cases hv : valid e h u m
  · rw [if_pos hv]
    unfold valid at hv
    repeat' split
    all_goals first | rfl | omega
  · rw [if_neg hv]
    unfold valid at hv
    repeat' split
    all_goals first | rfl | omega
theorem free_eq (e h u m now g : Int) (hu : 0 ≤ u) (hg0 : 0 ≤ g) (hn : 0 ≤ now) (hn' : now < 18446744073709551616) : lease_Free.f e h u m now g = some (decide (valid e h u m ∧ g ≤ 10000 ∧ (h = 0 ∨ now > u + g))) := by
  unfold lease_Free.f
  rw [chk_eq]
  simp only [Option.bind_some]
  by_cases hv : valid e h u m
  · rw [if_pos hv]
    by_cases hg : g ≤ 10000
    · by_cases hh : h = 0
      · rw [if_pos rfl, if_neg (show ¬ g > 10000 by omega), if_pos hh, decide_eq_true (⟨hv, hg, .inl hh⟩ : valid e h u m ∧ g ≤ 10000 ∧ (h = 0 ∨ now > u + g))]
      · by_cases hw : now > u
        · rw [wrap_in _ (by omega) (by omega)]
          simp [hv, hg, hh, hw, show ¬ g > 10000 by omega]
          omega
        · simp [hv, hg, hh, hw, show ¬ g > 10000 by omega]
          omega
    · simp [hv, hg, show g > 10000 by omega]
  · simp [hv]
theorem span_eq (n : Int) : lease_span.f n = some (decide (1 ≤ n ∧ n ≤ 10000)) := by
  unfold lease_span.f
  split
  · simp; omega
  · simp; omega
def grantS (e h u m now who len g : Int) : Int × Int × Int × Int × Int :=
  if ¬ valid e h u m ∨ ¬ (who = 1 ∨ who = 2) ∨ ¬ (1 ≤ len ∧ len ≤ 10000) ∨ g > 10000 then (0, 0, 0, 0, 2)
  else if now > 4611686018427387904 ∨ e = 4294967295 then (0, 0, 0, 0, 71)
  else if h = 0 ∨ now > u + g then (e + 1, who, now + len, m, 0) else (0, 0, 0, 0, 70)
theorem grant_eq (k : Nat) (e h u m now who len g : Int) (he : 0 ≤ e) (he' : e < 4294967296) (hu : 0 ≤ u) (hg0 : 0 ≤ g) (hn : 0 ≤ now) (hn' : now < 18446744073709551616) :
    lease_Grant.f (k + 2) e h u m now who len g = some (grantS e h u m now who len g) := by
  unfold lease_Grant.f grantS
  rw [chk_eq, is_eq, span_eq]
  simp only [Option.bind_some, lease_Grant.j0, lease_Grant.j1, free_eq e h u m now g hu hg0 hn hn']
  by_cases hv : valid e h u m
  · by_cases hw : who = 1 ∨ who = 2
    · by_cases hl : 1 ≤ len ∧ len ≤ 10000
      · by_cases hg : g > 10000
        · simp [hv, hw, hl, hg]
        · have hg' : g ≤ 10000 := by omega
          by_cases ht : now > 4611686018427387904
          · simp [hv, hw, hl, hg, ht]
          · by_cases hm : e = 4294967295
            · subst hm
              simp [hv, hw, hl, hg]
            · have e1 : (e + 1) % 4294967296 = e + 1 := by omega
              have e2 := wrap_in (now + len) (by omega) (by omega)
              have hm' : (e == 4294967295) = false := beq_eq_false_iff_ne.mpr hm
              by_cases hf : h = 0 ∨ now > u + g
              · simp [hv, hw, hl, hg, hg', ht, hm, hm', hf, e1, e2]
              · simp [hv, hw, hl, hg, hg', ht, hm, hm', hf]
      · simp [hv, hw, hl]
    · simp [hv, hw]
  · simp [hv]
theorem tm (x b : Int) (h : 0 ≤ x) (hb : 0 < b) : 0 ≤ Int.tmod x b ∧ Int.tmod x b < b := by
  rw [Int.tmod_eq_emod_of_nonneg h]
  exact ⟨Int.emod_nonneg _ (by omega), Int.emod_lt_of_pos _ hb⟩
theorem who_in (x : Int) : 1 ≤ wrap64 (1 + wrap64 (Int.tmod (IntKind.u64.wrap x) 2)) ∧ wrap64 (1 + wrap64 (Int.tmod (IntKind.u64.wrap x) 2)) ≤ 2 := by
  have h : IntKind.u64.wrap x = x % 18446744073709551616 := rfl
  have h0 : 0 ≤ IntKind.u64.wrap x := by omega
  have h2 := tm (IntKind.u64.wrap x) 2 h0 (by omega)
  generalize Int.tmod (IntKind.u64.wrap x) 2 = y at *
  have h3 : wrap64 y = y := by unfold wrap64; omega
  rw [h3]
  unfold wrap64
  omega
theorem law_all (now len g wait who : Int) (w : World) (wn : (Lit.int .u64 now).wf = true) (wl : (Lit.int .u64 len).wf = true) (wg : (Lit.int .u64 g).wf = true) (ww : (Lit.int .u64 wait).wf = true) (_ : (Lit.int .i64 who).wf = true) :
    Calls Try.prog 5 #[.int .u64 now, .int .u64 len, .int .u64 g, .int .u64 wait, .int .i64 who] w fun e w' => e = .returned (.bool true) ∧ Below w.heap.size w w' := by
  have e1 := wf_u64 wn
  have e2 := wf_u64 wl
  have e3 := wf_u64 wg
  have e4 := wf_u64 ww
  obtain ⟨n, hn⟩ : ∃ n, Int.tmod now 1000000 = n := ⟨_, rfl⟩
  obtain ⟨l, hl⟩ : ∃ l, IntKind.u64.wrap (1 + Int.tmod len 10000) = l := ⟨_, rfl⟩
  obtain ⟨g', hg⟩ : ∃ g', Int.tmod g 10001 = g' := ⟨_, rfl⟩
  obtain ⟨wt, hwt⟩ : ∃ wt, Int.tmod wait 40000 = wt := ⟨_, rfl⟩
  obtain ⟨v, hv⟩ : ∃ v, wrap64 (1 + wrap64 (Int.tmod (IntKind.u64.wrap who) 2)) = v := ⟨_, rfl⟩
  have n0 := tm now 1000000 e1.1 (by omega)
  have l0' := tm len 10000 e2.1 (by omega)
  have g0 := tm g 10001 e3.1 (by omega)
  have t0 := tm wait 40000 e4.1 (by omega)
  have v0 := who_in who
  have l0 : 1 ≤ l ∧ l ≤ 10000 := by
    rw [wrap_in _ (by omega) (by omega)] at hl
    omega
  rw [hn] at n0
  rw [hg] at g0
  rw [hwt] at t0
  rw [hv] at v0
  refine law_calls now len g wait who n l g' wt v w hn hl hg hwt hv n0.1 n0.2 l0.1 l0.2 g0.1 (by omega) t0.1 t0.2 v0.1 v0.2 ?_ ?_ ?_
  · rw [grant_eq 3 0 0 0 1 n v l g' (by omega) (by omega) (by omega) (by omega) (by omega) (by omega)]
    have hv1 : valid 0 0 0 1 := by unfold valid; omega
    have hw : v = 1 ∨ v = 2 := by omega
    simp [grantS, hv1, hw, l0, show ¬ g' > 10000 by omega, show ¬ n > 4611686018427387904 by omega]
  · rw [grant_eq 3 1 v (n + l) 1 (n + wt) (3 - v) l g' (by omega) (by omega) (by omega) (by omega) (by omega) (by omega)]
    have hv1 : valid 1 v (n + l) 1 := by unfold valid; omega
    have hw : 3 - v = 1 ∨ 3 - v = 2 := by omega
    have h0 : ¬ v = 0 := by omega
    by_cases hf : l + g' < wt
    · have hf' : n + wt > n + l + g' := by omega
      simp [grantS, hv1, hw, l0, h0, hf, hf', show ¬ g' > 10000 by omega, show ¬ n + wt > 4611686018427387904 by omega]
    · have hf' : ¬ n + wt > n + l + g' := by omega
      simp [grantS, hv1, hw, l0, h0, hf, hf', show ¬ g' > 10000 by omega, show ¬ n + wt > 4611686018427387904 by omega]
  · rw [free_eq 1 v (n + l) 1 (n + wt) g' (by omega) (by omega) (by omega) (by omega)]
    have hv1 : valid 1 v (n + l) 1 := by unfold valid; omega
    have h0 : ¬ v = 0 := by omega
    by_cases hf : l + g' < wt
    · have hf' : n + wt > n + l + g' := by omega
      simp [hv1, h0, hf, hf', show g' ≤ 10000 by omega]
    · have hf' : ¬ n + wt > n + l + g' := by omega
      simp [hv1, h0, hf, hf', show g' ≤ 10000 by omega]
end Go.Proofs.Ytmepidkffpmflaa.PLeaseGuard
