/- Plain lemmas: what the Lean functions of the leases come to. Conditions: the numbers are of their kinds. -/
import Derived.Test.YtmepidkffpmflaaFnLeaseMode
import Derived.OpenShut
namespace Go.Proofs.Ytmepidkffpmflaa.PLeaseMode
set_option linter.unusedSimpArgs false
open Go.RowKit Go.Proofs.YtmepidkffpmflaaW.PrintWords Go.Proofs.YtmepidkffpmflaaW.PrintLast Go.Proofs.YtmepidkffpmflaaW.PrintMore

def valid (e h u m : Int) : Prop := (m = 1 ∨ m = 2) ∧ ((h = 0 ∧ e = 0 ∧ u = 0) ∨ ((h = 1 ∨ h = 2) ∧ e > 0 ∧ u ≤ 4611686018427397904))
instance (e h u m : Int) : Decidable (valid e h u m) := by unfold valid; infer_instance
theorem wrap_in (x : Int) (h0 : 0 ≤ x) (h1 : x < 18446744073709551616) : IntKind.u64.wrap x = x := by
  have h : IntKind.u64.wrap x = x % 18446744073709551616 := rfl
  omega
theorem wf_u64 {x : Int} (h : (Lit.int .u64 x).wf = true) : 0 ≤ x ∧ x < 18446744073709551616 := by
  have := Go.bounds_u64 h
  omega
theorem wf_u32 {x : Int} (h : (Lit.int .u32 x).wf = true) : 0 ≤ x ∧ x < 4294967296 := by
  have := Go.bounds_u32 h
  omega
theorem is_eq (a : Int) : lease_is.f a = some (decide (a = 1 ∨ a = 2)) := by
  unfold lease_is.f
  split
  · simp [*]
  · rename_i h
    simp [h]
    rfl
theorem chk_eq (e h u m : Int) : lease_Check.f e h u m = some (if valid e h u m then 0 else 2) := by
  unfold lease_Check.f
  simp only [is_eq, Option.bind_some, decide_eq_true_eq]
  by_cases hv : valid e h u m
  · rw [if_pos hv]
    unfold valid at hv
    repeat' split
    all_goals first | rfl | omega
  · rw [if_neg hv]
    unfold valid at hv
    repeat' split
    all_goals first | rfl | omega
theorem free_eq (e h u m now g : Int) (hu : 0 ≤ u) (hg0 : 0 ≤ g) (hn : 0 ≤ now) (hn' : now < 18446744073709551616) : lease_Free.f e h u m now g = some (decide (valid e h u m ∧ g ≤ 10000 ∧ (h = 0 ∨ now > u + g))) := by
  unfold lease_Free.f
  rw [chk_eq]
  simp only [Option.bind_some]
  by_cases hv : valid e h u m
  · rw [if_pos hv]
    by_cases hg : g ≤ 10000
    · by_cases hh : h = 0
      · rw [if_pos rfl, if_neg (show ¬ g > 10000 by omega), if_pos hh, decide_eq_true (⟨hv, hg, .inl hh⟩ : valid e h u m ∧ g ≤ 10000 ∧ (h = 0 ∨ now > u + g))]
      · by_cases hw : now > u
        · rw [wrap_in _ (by omega) (by omega)]
          simp [hv, hg, hh, hw, show ¬ g > 10000 by omega]
          omega
        · simp [hv, hg, hh, hw, show ¬ g > 10000 by omega]
          omega
    · simp [hv, hg, show g > 10000 by omega]
  · simp [hv]
theorem span_eq (n : Int) : lease_span.f n = some (decide (1 ≤ n ∧ n ≤ 10000)) := by
  unfold lease_span.f
  split
  · simp; omega
  · simp; omega
theorem own_eq (k : Nat) (e h u m now who ep : Int) : lease_own.f (k + 1) e h u m now who ep = some (if ¬ (h = who ∧ e = ep) then 72 else if now > u then 73 else 0) := by
  unfold lease_own.f
  simp only [lease_own.j0]
  by_cases hh : h = who
  · subst hh
    by_cases he : e = ep
    · subst he
      simp
      split <;> rfl
    · simp [he]
  · simp [hh]
def grantS (e h u m now who len g : Int) : Int × Int × Int × Int × Int :=
  if ¬ valid e h u m ∨ ¬ (who = 1 ∨ who = 2) ∨ ¬ (1 ≤ len ∧ len ≤ 10000) ∨ g > 10000 then (0, 0, 0, 0, 2)
  else if now > 4611686018427387904 ∨ e = 4294967295 then (0, 0, 0, 0, 71)
  else if h = 0 ∨ now > u + g then (e + 1, who, now + len, m, 0) else (0, 0, 0, 0, 70)
theorem grant_eq (k : Nat) (e h u m now who len g : Int) (he : 0 ≤ e) (he' : e < 4294967296) (hu : 0 ≤ u) (hg0 : 0 ≤ g) (hn : 0 ≤ now) (hn' : now < 18446744073709551616) :
    lease_Grant.f (k + 2) e h u m now who len g = some (grantS e h u m now who len g) := by
  unfold lease_Grant.f grantS
  rw [chk_eq, is_eq, span_eq]
  simp only [Option.bind_some, lease_Grant.j0, lease_Grant.j1, free_eq e h u m now g hu hg0 hn hn']
  by_cases hv : valid e h u m
  · by_cases hw : who = 1 ∨ who = 2
    · by_cases hl : 1 ≤ len ∧ len ≤ 10000
      · by_cases hg : g > 10000
        · simp [hv, hw, hl, hg]
        · have hg' : g ≤ 10000 := by omega
          by_cases ht : now > 4611686018427387904
          · simp [hv, hw, hl, hg, ht]
          · by_cases hm : e = 4294967295
            · subst hm
              simp [hv, hw, hl, hg]
            · have e1 : (e + 1) % 4294967296 = e + 1 := by omega
              have e2 := wrap_in (now + len) (by omega) (by omega)
              have hm' : (e == 4294967295) = false := beq_eq_false_iff_ne.mpr hm
              by_cases hf : h = 0 ∨ now > u + g
              · simp [hv, hw, hl, hg, hg', ht, hm, hm', hf, e1, e2]
              · simp [hv, hw, hl, hg, hg', ht, hm, hm', hf]
      · simp [hv, hw, hl]
    · simp [hv, hw]
  · simp [hv]
def turnS (e h u m now who ep mode : Int) : Int × Int × Int × Int × Int :=
  if ¬ valid e h u m ∨ ¬ (who = 1 ∨ who = 2) ∨ ¬ (mode = 1 ∨ mode = 2) then (0, 0, 0, 0, 2)
  else if ¬ (h = who ∧ e = ep) then (0, 0, 0, 0, 72)
  else if now > u then (0, 0, 0, 0, 73) else (e, h, u, mode, 0)
theorem turn_eq (k : Nat) (e h u m now who ep mode : Int) :
    lease_Turn.f (k + 2) e h u m now who ep mode = some (turnS e h u m now who ep mode) := by
  unfold lease_Turn.f turnS
  rw [chk_eq, is_eq]
  simp only [Option.bind_some, lease_Turn.j0, own_eq k]
  by_cases hv : valid e h u m
  · by_cases hw : who = 1 ∨ who = 2
    · by_cases hm : mode = 1 ∨ mode = 2
      · by_cases hh : h = who ∧ e = ep
        · obtain ⟨rfl, rfl⟩ := hh
          by_cases hx : now > u
          · rcases hm with rfl | rfl <;> simp [hv, hw, hx]
          · rcases hm with rfl | rfl <;> simp [hv, hw, hx]
        · rcases hm with rfl | rfl <;> simp [hv, hw, hh]
      · have h1 : ¬ mode = 1 := by omega
        have h2 : ¬ mode = 2 := by omega
        simp [hv, hw, h1, h2]
    · simp [hv, hw]
  · simp [hv]
theorem tm (x b : Int) (h : 0 ≤ x) (hb : 0 < b) : 0 ≤ Int.tmod x b ∧ Int.tmod x b < b := by
  rw [Int.tmod_eq_emod_of_nonneg h]
  exact ⟨Int.emod_nonneg _ (by omega), Int.emod_lt_of_pos _ hb⟩
theorem who_in (x : Int) : 1 ≤ wrap64 (1 + wrap64 (Int.tmod (IntKind.u64.wrap x) 2)) ∧ wrap64 (1 + wrap64 (Int.tmod (IntKind.u64.wrap x) 2)) ≤ 2 := by
  have h : IntKind.u64.wrap x = x % 18446744073709551616 := rfl
  have h0 : 0 ≤ IntKind.u64.wrap x := by omega
  have h2 := tm (IntKind.u64.wrap x) 2 h0 (by omega)
  generalize Int.tmod (IntKind.u64.wrap x) 2 = y at *
  have h3 : wrap64 y = y := by unfold wrap64; omega
  rw [h3]
  unfold wrap64
  omega
theorem pure_LeaseMode (mode now who len : Int) (wn : (Lit.int .u64 now).wf = true) (wl : (Lit.int .u64 len).wf = true) : drayagelaw07_LeaseMode.f 5 mode now who len = some true := by
  have e1 := wf_u64 wn
  have e2 := wf_u64 wl
  unfold drayagelaw07_LeaseMode.f drayagelaw07_empty.f drayagelaw07_known.f
  have v0 := who_in who
  have m0 := who_in mode
  have n0 := tm now 100000 e1.1 (by omega)
  have l0' := tm len 100 e2.1 (by omega)
  have hl : IntKind.u64.wrap (1 + Int.tmod len 100) = 1 + Int.tmod len 100 := wrap_in _ (by omega) (by omega)
  rw [hl]
  generalize Int.tmod now 100000 = n at *
  generalize Int.tmod len 100 = l1 at *
  generalize wrap64 (1 + wrap64 (Int.tmod (IntKind.u64.wrap who) 2)) = v at *
  generalize wrap64 (1 + wrap64 (Int.tmod (IntKind.u64.wrap mode) 2)) = m at *
  have h3 : wrap64 (3 - v) = 3 - v := by unfold wrap64; omega
  have h4 : IntKind.u64.wrap (n + (1 + l1)) = n + (1 + l1) := wrap_in _ (by omega) (by omega)
  have h5 : IntKind.u64.wrap (n + (1 + l1) + 4) = n + (1 + l1) + 4 := wrap_in _ (by omega) (by omega)
  have hm : m = 1 ∨ m = 2 := by omega
  have hv : v = 1 ∨ v = 2 := by omega
  have hv' : 3 - v = 1 ∨ 3 - v = 2 := by omega
  have g1 : grantS 0 0 0 1 n v (1 + l1) 3 = (1, v, n + (1 + l1), 1, 0) := by
    have hv1 : valid 0 0 0 1 := by unfold valid; omega
    simp [grantS, hv1, hv, show ¬ n > 4611686018427387904 by omega]
    omega
  have g2 : turnS 1 v (n + (1 + l1)) 1 n v 1 m = (1, v, n + (1 + l1), m, 0) := by
    have hv1 : valid 1 v (n + (1 + l1)) 1 := by unfold valid; omega
    simp [turnS, hv1, hv, hm, show ¬ n > n + (1 + l1) by omega]
  have g3 : grantS 1 v (n + (1 + l1)) m (n + (1 + l1) + 4) (3 - v) (1 + l1) 3 = (2, 3 - v, n + (1 + l1) + 4 + (1 + l1), m, 0) := by
    have hv1 : valid 1 v (n + (1 + l1)) m := by unfold valid; omega
    simp [grantS, hv1, hv', show ¬ n + (1 + l1) + 4 > 4611686018427387904 by omega, show n + (1 + l1) + 4 > n + (1 + l1) + 3 by omega]
    omega
  rw [h3, h4, h5]
  simp only [Option.bind_some]
  rw [grant_eq 3 0 0 0 1 n v (1 + l1) 3 (by omega) (by omega) (by omega) (by omega) (by omega) (by omega), g1]
  simp only [Option.bind_some]
  rw [turn_eq 3, g2]
  simp only [Option.bind_some]
  rw [grant_eq 3 1 v (n + (1 + l1)) m (n + (1 + l1) + 4) (3 - v) (1 + l1) 3 (by omega) (by omega) (by omega) (by omega) (by omega) (by omega), g3]
  simp
theorem law_all (mode now who len : Int) (w : World) (_ : (Lit.int .i64 mode).wf = true) (wn : (Lit.int .u64 now).wf = true) (_ : (Lit.int .i64 who).wf = true) (wl : (Lit.int .u64 len).wf = true) :
    Calls Try.prog 9 #[.int .i64 mode, .int .u64 now, .int .i64 who, .int .u64 len] w fun e w' => e = .returned (.bool true) ∧ Below w.heap.size w w' :=
  drayagelaw07_LeaseMode.calls 5 mode now who len true w (pure_LeaseMode mode now who len wn wl)
end Go.Proofs.Ytmepidkffpmflaa.PLeaseMode
