/- Plain lemmas: what the Lean functions of the leases come to. Conditions: the numbers are of their kinds. -/
import Derived.Test.YtmepidkffpmflaaFnLeaseKeeps
import Derived.OpenShut
namespace Go.Proofs.Ytmepidkffpmflaa.PLeaseKeeps
set_option linter.unusedSimpArgs false
open Go.RowKit Go.Proofs.YtmepidkffpmflaaW.PrintWords Go.Proofs.YtmepidkffpmflaaW.PrintLast Go.Proofs.YtmepidkffpmflaaW.PrintMore

def valid (e h u m : Int) : Prop := (m = 1 ∨ m = 2) ∧ ((h = 0 ∧ e = 0 ∧ u = 0) ∨ ((h = 1 ∨ h = 2) ∧ e > 0 ∧ u ≤ 4611686018427397904))
instance (e h u m : Int) : Decidable (valid e h u m) := by unfold valid; infer_instance
theorem wrap_in (x : Int) (h0 : 0 ≤ x) (h1 : x < 18446744073709551616) : IntKind.u64.wrap x = x := by
  have h : IntKind.u64.wrap x = x % 18446744073709551616 := rfl
  omega
theorem wf_u64 {x : Int} (h : (Lit.int .u64 x).wf = true) : 0 ≤ x ∧ x < 18446744073709551616 := by
  have := Go.bounds_u64 h
  omega
theorem wf_u32 {x : Int} (h : (Lit.int .u32 x).wf = true) : 0 ≤ x ∧ x < 4294967296 := by
  have := Go.bounds_u32 h
  omega
theorem is_eq (a : Int) : lease_is.f a = some (decide (a = 1 ∨ a = 2)) := by
  unfold lease_is.f
  split
  · simp [*]
  · rename_i h
    simp [h]
    rfl
theorem chk_eq (e h u m : Int) : lease_Check.f e h u m = some (if valid e h u m then 0 else 2) := by
  unfold lease_Check.f
  simp only [is_eq, Option.bind_some, decide_eq_true_eq]
  by_cases hv : valid e h u m
  · rw [if_pos hv]
    unfold valid at hv
    repeat' split
    all_goals first | rfl | omega
  · rw [if_neg hv]
    unfold valid at hv
    repeat' split
    all_goals first | rfl | omega
theorem span_eq (n : Int) : lease_span.f n = some (decide (1 ≤ n ∧ n ≤ 10000)) := by
  unfold lease_span.f
  split
  · simp; omega
  · simp; omega
theorem own_eq (k : Nat) (e h u m now who ep : Int) : lease_own.f (k + 1) e h u m now who ep = some (if ¬ (h = who ∧ e = ep) then 72 else if now > u then 73 else 0) := by
  unfold lease_own.f
  simp only [lease_own.j0]
  by_cases hh : h = who
  · subst hh
    by_cases he : e = ep
    · subst he
      simp
      split <;> rfl
    · simp [he]
  · simp [hh]
theorem holds_eq (e h u m who now : Int) : lease_Holds.f e h u m who now = some (decide (valid e h u m ∧ h = who ∧ h ≠ 0 ∧ now ≤ u)) := by
  unfold lease_Holds.f
  rw [chk_eq]
  simp only [Option.bind_some, is_eq]
  by_cases hv : valid e h u m
  · by_cases hw : who = 1 ∨ who = 2
    · by_cases hh : h = who
      · have h0 : h ≠ 0 := by omega
        have hw' : h = 1 ∨ h = 2 := by omega
        simp [hv, hw', ← hh, h0]
      · simp [hv, hw, hh]
    · have h2 : ¬ (h = who ∧ h ≠ 0 ∧ now ≤ u) := by
        unfold valid at hv
        omega
      simp [hv, hw]
      omega
  · simp [hv]
def renewS (e h u m now who ep len : Int) : Int × Int × Int × Int × Int :=
  if ¬ valid e h u m ∨ ¬ (who = 1 ∨ who = 2) ∨ ¬ (1 ≤ len ∧ len ≤ 10000) then (0, 0, 0, 0, 2)
  else if now > 4611686018427387904 then (0, 0, 0, 0, 71)
  else if ¬ (h = who ∧ e = ep) then (0, 0, 0, 0, 72)
  else if now > u then (0, 0, 0, 0, 73)
  else if now + len > u then (e, h, now + len, m, 0) else (e, h, u, m, 0)
theorem renew_eq (k : Nat) (e h u m now who ep len : Int) (hn : 0 ≤ now) (hn' : now < 18446744073709551616) :
    lease_Renew.f (k + 2) e h u m now who ep len = some (renewS e h u m now who ep len) := by
  unfold lease_Renew.f renewS
  rw [chk_eq, is_eq, span_eq]
  simp only [Option.bind_some, lease_Renew.j0, own_eq k]
  by_cases hv : valid e h u m
  · by_cases hw : who = 1 ∨ who = 2
    · by_cases hl : 1 ≤ len ∧ len ≤ 10000
      · by_cases ht : now > 4611686018427387904
        · simp [hv, hw, hl, ht]
        · have e2 := wrap_in (now + len) (by omega) (by omega)
          by_cases hh : h = who ∧ e = ep
          · obtain ⟨rfl, rfl⟩ := hh
            by_cases hx : now > u
            · simp [hv, hw, hl, ht, hx]
            · rw [e2]
              have e3 : mx u (now + len) = if now + len > u then now + len else u := by unfold mx; (repeat' split) <;> omega
              simp [hv, hw, hl, ht, hx, e3]
              split <;> rfl
          · simp [hv, hw, hl, ht, hh]
      · simp [hv, hw, hl]
    · simp [hv, hw]
  · simp [hv]
def turnS (e h u m now who ep mode : Int) : Int × Int × Int × Int × Int :=
  if ¬ valid e h u m ∨ ¬ (who = 1 ∨ who = 2) ∨ ¬ (mode = 1 ∨ mode = 2) then (0, 0, 0, 0, 2)
  else if ¬ (h = who ∧ e = ep) then (0, 0, 0, 0, 72)
  else if now > u then (0, 0, 0, 0, 73) else (e, h, u, mode, 0)
theorem turn_eq (k : Nat) (e h u m now who ep mode : Int) :
    lease_Turn.f (k + 2) e h u m now who ep mode = some (turnS e h u m now who ep mode) := by
  unfold lease_Turn.f turnS
  rw [chk_eq, is_eq]
  simp only [Option.bind_some, lease_Turn.j0, own_eq k]
  by_cases hv : valid e h u m
  · by_cases hw : who = 1 ∨ who = 2
    · by_cases hm : mode = 1 ∨ mode = 2
      · by_cases hh : h = who ∧ e = ep
        · obtain ⟨rfl, rfl⟩ := hh
          by_cases hx : now > u
          · rcases hm with rfl | rfl <;> simp [hv, hw, hx]
          · rcases hm with rfl | rfl <;> simp [hv, hw, hx]
        · rcases hm with rfl | rfl <;> simp [hv, hw, hh]
      · have h1 : ¬ mode = 1 := by omega
        have h2 : ¬ mode = 2 := by omega
        simp [hv, hw, h1, h2]
    · simp [hv, hw]
  · simp [hv]
theorem renewS_cases (e h u m now who ep len : Int) :
    (∃ u1, renewS e h u m now who ep len = (e, h, u1, m, 0) ∧ u ≤ u1 ∧ valid e h u1 m ∧ valid e h u m ∧ h = who ∧ e = ep ∧ h ≠ 0 ∧ now ≤ u) ∨ (∃ x, x ≠ 0 ∧ renewS e h u m now who ep len = (0, 0, 0, 0, x)) := by
  unfold renewS
  split
  · exact .inr ⟨2, by omega, rfl⟩
  · split
    · exact .inr ⟨71, by omega, rfl⟩
    · split
      · exact .inr ⟨72, by omega, rfl⟩
      · split
        · exact .inr ⟨73, by omega, rfl⟩
        · rename_i h1 h2 h3 h4
          have hv : valid e h u m := Classical.byContradiction fun hc => h1 (.inl hc)
          have hh : h = who ∧ e = ep := Classical.byContradiction fun hc => h3 hc
          have hw : h ≠ 0 := by omega
          refine .inl ?_
          split
          · refine ⟨now + len, rfl, by omega, ?_, hv, hh.1, hh.2, hw, by omega⟩
            unfold valid at hv ⊢
            omega
          · exact ⟨u, rfl, by omega, hv, hv, hh.1, hh.2, hw, by omega⟩
theorem turnS_cases (e h u m now who ep mode : Int) :
    (turnS e h u m now who ep mode = (e, h, u, mode, 0) ∧ valid e h u m ∧ h = who ∧ e = ep ∧ h ≠ 0 ∧ now ≤ u) ∨ (∃ x, x ≠ 0 ∧ turnS e h u m now who ep mode = (0, 0, 0, 0, x)) := by
  unfold turnS
  split
  · exact .inr ⟨2, by omega, rfl⟩
  · split
    · exact .inr ⟨72, by omega, rfl⟩
    · split
      · exact .inr ⟨73, by omega, rfl⟩
      · rename_i h1 h2 h3
        have hv : valid e h u m := Classical.byContradiction fun hc => h1 (.inl hc)
        have hh : h = who ∧ e = ep := Classical.byContradiction fun hc => h2 hc
        exact .inl ⟨rfl, hv, hh.1, hh.2, by omega, by omega⟩
theorem law_all (e h u m now who ep len mode : Int) (w : World) (we : (Lit.int .u32 e).wf = true) (wu : (Lit.int .u64 u).wf = true) (wn : (Lit.int .u64 now).wf = true) :
    Calls Try.prog 8 #[.agg #[.int .u32 e, .int .i64 h, .int .u64 u, .int .i64 m], .int .u64 now, .int .i64 who, .int .u32 ep, .int .u64 len, .int .i64 mode] w fun e w' => e = .returned (.bool true) ∧ Below w.heap.size w w' := by
  have e1 := wf_u32 we
  have e2 := wf_u64 wu
  have e3 := wf_u64 wn
  have A1 := renew_eq 3 e h u m now who ep len e3.1 e3.2
  have A2 := turn_eq 3 e h u m now who ep mode
  have A3 : valid e h u m → h = who → h ≠ 0 → now ≤ u → lease_Holds.f e h u m who now = some true := by
    intro a b c d
    rw [holds_eq, decide_eq_true (⟨a, b, c, d⟩ : valid e h u m ∧ h = who ∧ h ≠ 0 ∧ now ≤ u)]
  rcases renewS_cases e h u m now who ep len with ⟨u1, hr, hu, hv1, hv, hh, rfl, h0, hn⟩ | ⟨x1, hx1, hr⟩
  · rw [hr] at A1
    have A4 : lease_Check.f e h u1 m = some 0 := by rw [chk_eq, if_pos hv1]
    rcases turnS_cases e h u m now who e mode with ⟨ht, _⟩ | ⟨x2, hx2, ht⟩
    · rw [ht] at A2
      exact way11 e h u m now who e len mode u1 0 0 w ⟨A1⟩ ⟨A2⟩ hu ⟨A4⟩ ⟨A3 hv hh h0 hn⟩
    · rw [ht] at A2
      exact way10 e h u m now who e len mode u1 0 x2 w ⟨A1⟩ ⟨A2⟩ hu ⟨A4⟩ ⟨A3 hv hh h0 hn⟩ (beq_eq_false_iff_ne.mpr hx2)
  · rw [hr] at A1
    rcases turnS_cases e h u m now who ep mode with ⟨ht, hv, hh, rfl, h0, hn⟩ | ⟨x2, hx2, ht⟩
    · rw [ht] at A2
      exact way01 e h u m now who e len mode 0 x1 0 w ⟨A1⟩ ⟨A2⟩ (beq_eq_false_iff_ne.mpr hx1) ⟨A3 hv hh h0 hn⟩
    · rw [ht] at A2
      exact way00 e h u m now who ep len mode 0 x1 x2 w ⟨A1⟩ ⟨A2⟩ (beq_eq_false_iff_ne.mpr hx1) (beq_eq_false_iff_ne.mpr hx2)
end Go.Proofs.Ytmepidkffpmflaa.PLeaseKeeps
