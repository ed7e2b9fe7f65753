/- The plain law of LeaseAlone: whatever is asked, the leases that were seen have rising epochs, all but the last one have ended. Conditions: fewer than 100 asks. -/
import Derived.Test.YtmepidkffpmflaaA0
namespace Go.Proofs.Ytmepidkffpmflaa.PLeaseAlone
set_option linter.unusedSimpArgs false
set_option linter.unusedVariables false
open Go.RowKit Go.Proofs.YtmepidkffpmflaaW.PrintWords Go.Proofs.YtmepidkffpmflaaW.PrintLast Go.Proofs.YtmepidkffpmflaaW.PrintMore

def valid (e h u m : Int) : Prop := (m = 1 ∨ m = 2) ∧ ((h = 0 ∧ e = 0 ∧ u = 0) ∨ ((h = 1 ∨ h = 2) ∧ e > 0 ∧ u ≤ 4611686018427397904))
instance (e h u m : Int) : Decidable (valid e h u m) := by unfold valid; infer_instance
theorem wrap_in (x : Int) (h0 : 0 ≤ x) (h1 : x < 18446744073709551616) : IntKind.u64.wrap x = x := by
  have h : IntKind.u64.wrap x = x % 18446744073709551616 := rfl
  omega
theorem wf_u64 {x : Int} (h : (Lit.int .u64 x).wf = true) : 0 ≤ x ∧ x < 18446744073709551616 := by
  have := Go.bounds_u64 h
  omega
theorem wf_u32 {x : Int} (h : (Lit.int .u32 x).wf = true) : 0 ≤ x ∧ x < 4294967296 := by
  have := Go.bounds_u32 h
  omega
theorem is_eq (a : Int) : lease_is.f a = some (decide (a = 1 ∨ a = 2)) := by
  unfold lease_is.f
  split
  · simp [*]
  · rename_i h
    simp [h]
    rfl
theorem chk_eq (e h u m : Int) : lease_Check.f e h u m = some (if valid e h u m then 0 else 2) := by
  unfold lease_Check.f
  simp only [is_eq, Option.bind_some, decide_eq_true_eq]
  by_cases hv : valid e h u m
  · rw [if_pos hv]
    unfold valid at hv
    repeat' split
    all_goals first | rfl | omega
  · rw [if_neg hv]
    unfold valid at hv
    repeat' split
    all_goals first | rfl | omega
theorem span_eq (n : Int) : lease_span.f n = some (decide (1 ≤ n ∧ n ≤ 10000)) := by
  unfold lease_span.f
  split
  · simp; omega
  · simp; omega
theorem own_eq (k : Nat) (e h u m now who ep : Int) : lease_own.f (k + 1) e h u m now who ep = some (if ¬ (h = who ∧ e = ep) then 72 else if now > u then 73 else 0) := by
  unfold lease_own.f
  simp only [lease_own.j0]
  by_cases hh : h = who
  · subst hh
    by_cases he : e = ep
    · subst he
      simp
      split <;> rfl
    · simp [he]
  · simp [hh]
theorem holds_eq (e h u m who now : Int) : lease_Holds.f e h u m who now = some (decide (valid e h u m ∧ h = who ∧ h ≠ 0 ∧ now ≤ u)) := by
  unfold lease_Holds.f
  rw [chk_eq]
  simp only [Option.bind_some, is_eq]
  by_cases hv : valid e h u m
  · by_cases hw : who = 1 ∨ who = 2
    · by_cases hh : h = who
      · have h0 : h ≠ 0 := by omega
        have hw' : h = 1 ∨ h = 2 := by omega
        simp [hv, hw', ← hh, h0]
      · simp [hv, hw, hh]
    · have h2 : ¬ (h = who ∧ h ≠ 0 ∧ now ≤ u) := by
        unfold valid at hv
        omega
      simp [hv, hw]
      omega
  · simp [hv]
def renewS (e h u m now who ep len : Int) : Int × Int × Int × Int × Int :=
  if ¬ valid e h u m ∨ ¬ (who = 1 ∨ who = 2) ∨ ¬ (1 ≤ len ∧ len ≤ 10000) then (0, 0, 0, 0, 2)
  else if now > 4611686018427387904 then (0, 0, 0, 0, 71)
  else if ¬ (h = who ∧ e = ep) then (0, 0, 0, 0, 72)
  else if now > u then (0, 0, 0, 0, 73)
  else if now + len > u then (e, h, now + len, m, 0) else (e, h, u, m, 0)
theorem renew_eq (k : Nat) (e h u m now who ep len : Int) (hn : 0 ≤ now) (hn' : now < 18446744073709551616) :
    lease_Renew.f (k + 2) e h u m now who ep len = some (renewS e h u m now who ep len) := by
  unfold lease_Renew.f renewS
  rw [chk_eq, is_eq, span_eq]
  simp only [Option.bind_some, lease_Renew.j0, own_eq k]
  by_cases hv : valid e h u m
  · by_cases hw : who = 1 ∨ who = 2
    · by_cases hl : 1 ≤ len ∧ len ≤ 10000
      · by_cases ht : now > 4611686018427387904
        · simp [hv, hw, hl, ht]
        · have e2 := wrap_in (now + len) (by omega) (by omega)
          by_cases hh : h = who ∧ e = ep
          · obtain ⟨rfl, rfl⟩ := hh
            by_cases hx : now > u
            · simp [hv, hw, hl, ht, hx]
            · rw [e2]
              have e3 : mx u (now + len) = if now + len > u then now + len else u := by unfold mx; (repeat' split) <;> omega
              simp [hv, hw, hl, ht, hx, e3]
              split <;> rfl
          · simp [hv, hw, hl, ht, hh]
      · simp [hv, hw, hl]
    · simp [hv, hw]
  · simp [hv]
def turnS (e h u m now who ep mode : Int) : Int × Int × Int × Int × Int :=
  if ¬ valid e h u m ∨ ¬ (who = 1 ∨ who = 2) ∨ ¬ (mode = 1 ∨ mode = 2) then (0, 0, 0, 0, 2)
  else if ¬ (h = who ∧ e = ep) then (0, 0, 0, 0, 72)
  else if now > u then (0, 0, 0, 0, 73) else (e, h, u, mode, 0)
theorem turn_eq (k : Nat) (e h u m now who ep mode : Int) :
    lease_Turn.f (k + 2) e h u m now who ep mode = some (turnS e h u m now who ep mode) := by
  unfold lease_Turn.f turnS
  rw [chk_eq, is_eq]
  simp only [Option.bind_some, lease_Turn.j0, own_eq k]
  by_cases hv : valid e h u m
  · by_cases hw : who = 1 ∨ who = 2
    · by_cases hm : mode = 1 ∨ mode = 2
      · by_cases hh : h = who ∧ e = ep
        · obtain ⟨rfl, rfl⟩ := hh
          by_cases hx : now > u
          · rcases hm with rfl | rfl <;> simp [hv, hw, hx]
          · rcases hm with rfl | rfl <;> simp [hv, hw, hx]
        · rcases hm with rfl | rfl <;> simp [hv, hw, hh]
      · have h1 : ¬ mode = 1 := by omega
        have h2 : ¬ mode = 2 := by omega
        simp [hv, hw, h1, h2]
    · simp [hv, hw]
  · simp [hv]
theorem renewS_cases (e h u m now who ep len : Int) :
    (∃ u1, renewS e h u m now who ep len = (e, h, u1, m, 0) ∧ u ≤ u1 ∧ valid e h u1 m ∧ valid e h u m ∧ h = who ∧ e = ep ∧ h ≠ 0 ∧ now ≤ u) ∨ (∃ x, x ≠ 0 ∧ renewS e h u m now who ep len = (0, 0, 0, 0, x)) := by
  unfold renewS
  split
  · exact .inr ⟨2, by omega, rfl⟩
  · split
    · exact .inr ⟨71, by omega, rfl⟩
    · split
      · exact .inr ⟨72, by omega, rfl⟩
      · split
        · exact .inr ⟨73, by omega, rfl⟩
        · rename_i h1 h2 h3 h4
          have hv : valid e h u m := Classical.byContradiction fun hc => h1 (.inl hc)
          have hh : h = who ∧ e = ep := Classical.byContradiction fun hc => h3 hc
          have hw : h ≠ 0 := by omega
          refine .inl ?_
          split
          · refine ⟨now + len, rfl, by omega, ?_, hv, hh.1, hh.2, hw, by omega⟩
            unfold valid at hv ⊢
            omega
          · exact ⟨u, rfl, by omega, hv, hv, hh.1, hh.2, hw, by omega⟩
theorem turnS_cases (e h u m now who ep mode : Int) :
    (turnS e h u m now who ep mode = (e, h, u, mode, 0) ∧ valid e h u m ∧ h = who ∧ e = ep ∧ h ≠ 0 ∧ now ≤ u) ∨ (∃ x, x ≠ 0 ∧ turnS e h u m now who ep mode = (0, 0, 0, 0, x)) := by
  unfold turnS
  split
  · exact .inr ⟨2, by omega, rfl⟩
  · split
    · exact .inr ⟨72, by omega, rfl⟩
    · split
      · exact .inr ⟨73, by omega, rfl⟩
      · rename_i h1 h2 h3
        have hv : valid e h u m := Classical.byContradiction fun hc => h1 (.inl hc)
        have hh : h = who ∧ e = ep := Classical.byContradiction fun hc => h2 hc
        exact .inl ⟨rfl, hv, hh.1, hh.2, by omega, by omega⟩
theorem free_eq (e h u m now g : Int) (hu : 0 ≤ u) (hg0 : 0 ≤ g) (hn : 0 ≤ now) (hn' : now < 18446744073709551616) : lease_Free.f e h u m now g = some (decide (valid e h u m ∧ g ≤ 10000 ∧ (h = 0 ∨ now > u + g))) := by
  unfold lease_Free.f
  rw [chk_eq]
  simp only [Option.bind_some]
  by_cases hv : valid e h u m
  · rw [if_pos hv]
    by_cases hg : g ≤ 10000
    · by_cases hh : h = 0
      · rw [if_pos rfl, if_neg (show ¬ g > 10000 by omega), if_pos hh, decide_eq_true (⟨hv, hg, .inl hh⟩ : valid e h u m ∧ g ≤ 10000 ∧ (h = 0 ∨ now > u + g))]
      · by_cases hw : now > u
        · rw [wrap_in _ (by omega) (by omega)]
          simp [hv, hg, hh, hw, show ¬ g > 10000 by omega]
          omega
        · simp [hv, hg, hh, hw, show ¬ g > 10000 by omega]
          omega
    · simp [hv, hg, show g > 10000 by omega]
  · simp [hv]
def grantS (e h u m now who len g : Int) : Int × Int × Int × Int × Int :=
  if ¬ valid e h u m ∨ ¬ (who = 1 ∨ who = 2) ∨ ¬ (1 ≤ len ∧ len ≤ 10000) ∨ g > 10000 then (0, 0, 0, 0, 2)
  else if now > 4611686018427387904 ∨ e = 4294967295 then (0, 0, 0, 0, 71)
  else if h = 0 ∨ now > u + g then (e + 1, who, now + len, m, 0) else (0, 0, 0, 0, 70)
theorem grant_eq (k : Nat) (e h u m now who len g : Int) (he : 0 ≤ e) (he' : e < 4294967296) (hu : 0 ≤ u) (hg0 : 0 ≤ g) (hn : 0 ≤ now) (hn' : now < 18446744073709551616) :
    lease_Grant.f (k + 2) e h u m now who len g = some (grantS e h u m now who len g) := by
  unfold lease_Grant.f grantS
  rw [chk_eq, is_eq, span_eq]
  simp only [Option.bind_some, lease_Grant.j0, lease_Grant.j1, free_eq e h u m now g hu hg0 hn hn']
  by_cases hv : valid e h u m
  · by_cases hw : who = 1 ∨ who = 2
    · by_cases hl : 1 ≤ len ∧ len ≤ 10000
      · by_cases hg : g > 10000
        · simp [hv, hw, hl, hg]
        · have hg' : g ≤ 10000 := by omega
          by_cases ht : now > 4611686018427387904
          · simp [hv, hw, hl, hg, ht]
          · by_cases hm : e = 4294967295
            · subst hm
              simp [hv, hw, hl, hg]
            · have e1 : (e + 1) % 4294967296 = e + 1 := by omega
              have e2 := wrap_in (now + len) (by omega) (by omega)
              have hm' : (e == 4294967295) = false := beq_eq_false_iff_ne.mpr hm
              by_cases hf : h = 0 ∨ now > u + g
              · simp [hv, hw, hl, hg, hg', ht, hm, hm', hf, e1, e2]
              · simp [hv, hw, hl, hg, hg', ht, hm, hm', hf]
      · simp [hv, hw, hl]
    · simp [hv, hw]
  · simp [hv]
theorem tm (x b : Int) (h : 0 ≤ x) (hb : 0 < b) : 0 ≤ Int.tmod x b ∧ Int.tmod x b < b := by
  rw [Int.tmod_eq_emod_of_nonneg h]
  exact ⟨Int.emod_nonneg _ (by omega), Int.emod_lt_of_pos _ hb⟩
theorem who_in (x : Int) : 1 ≤ wrap64 (1 + wrap64 (Int.tmod (IntKind.u64.wrap x) 2)) ∧ wrap64 (1 + wrap64 (Int.tmod (IntKind.u64.wrap x) 2)) ≤ 2 := by
  have h : IntKind.u64.wrap x = x % 18446744073709551616 := rfl
  have h0 : 0 ≤ IntKind.u64.wrap x := by omega
  have h2 := tm (IntKind.u64.wrap x) 2 h0 (by omega)
  generalize Int.tmod (IntKind.u64.wrap x) 2 = y at *
  have h3 : wrap64 y = y := by unfold wrap64; omega
  rw [h3]
  unfold wrap64
  omega
theorem ones_in (x b : Int) (hx : 0 ≤ x) (hb : 0 < b) (hb' : b ≤ 1000) : 1 ≤ IntKind.u64.wrap (1 + IntKind.u64.wrap (x.tmod b)) ∧ IntKind.u64.wrap (1 + IntKind.u64.wrap (x.tmod b)) ≤ b := by
  have h := tm x b hx hb
  rw [wrap_in (x.tmod b) (by omega) (by omega), wrap_in _ (by omega) (by omega)]
  omega
theorem nowF_in (now wait : Int) (h0 : 0 ≤ now) (h1 : now ≤ 100000) (hw : 0 ≤ wait) : now ≤ nowF now wait ∧ nowF now wait ≤ now + 39 := by
  have h := tm wait 40 hw (by omega)
  unfold nowF
  rw [wrap_in (wait.tmod 40) (by omega) (by omega), wrap_in _ (by omega) (by omega)]
  omega
/-- What holds of the grantor's lease, its clock and the leases that were seen, behind n asks. -/
def Inv (l : L4) (now : Int) (seen : List L4) (n : Nat) : Prop :=
  0 ≤ now ∧ now ≤ 39 * n ∧ seen.length ≤ n ∧ ((seen = [] ∧ l = ⟨0, 0, 0, 1⟩) ∨ (∃ init, seen = init ++ [l] ∧ l.e = init.length + 1 ∧ (l.h = 1 ∨ l.h = 2) ∧ (l.m = 1 ∨ l.m = 2) ∧ 0 ≤ l.u ∧ l.u ≤ now + 60 ∧ ∀ x ∈ init, x.e < l.e ∧ x.u < now))
theorem inv_start : Inv ⟨0, 0, 0, 1⟩ 0 [] 0 := ⟨by omega, by omega, by simp, .inl ⟨rfl, rfl⟩⟩
theorem grantS_cases (e h u m now who len g : Int) :
    (grantS e h u m now who len g = (e + 1, who, now + len, m, 0) ∧ (m = 1 ∨ m = 2) ∧ (h = 0 ∨ now > u + g)) ∨ (∃ x, x ≠ 0 ∧ grantS e h u m now who len g = (0, 0, 0, 0, x)) := by
  unfold grantS
  split
  · exact .inr ⟨2, by omega, rfl⟩
  · split
    · exact .inr ⟨71, by omega, rfl⟩
    · split
      · rename_i h1 h2 h3
        have hv : valid e h u m := Classical.byContradiction fun hc => h1 (.inl hc)
        exact .inl ⟨rfl, hv.1, h3⟩
      · exact .inr ⟨70, by omega, rfl⟩
theorem upd_init (r : L4) (init : List L4) (h : ∀ x ∈ init, x.e < r.e) : updF r init = init := by
  unfold updF
  have : init.map (fun x => if x.e = r.e then r else x) = init.map id := List.map_congr_left fun x hx => by
    have := h x hx
    rw [if_neg (by omega)]; rfl
  rw [this, List.map_id]
theorem upd_last (r : L4) (init : List L4) (l : L4) (h : ∀ x ∈ init, x.e < r.e) (hl : l.e = r.e) : updF r (init ++ [l]) = init ++ [r] := by
  have h1 := upd_init r init h
  unfold updF at h1 ⊢
  rw [List.map_append, h1]
  simp [hl]
/-- One ask. -/
theorem step (l : L4) (now now' : Int) (seen : List L4) (n : Nat) (kind who len own mode g : Int) (hI : Inv l now seen n) (hn : n < 100) (h1 : now ≤ now') (h2 : now' ≤ now + 39)
    (hw : who = 1 ∨ who = 2) (hl : 1 ≤ len ∧ len ≤ 60) (hm : mode = 1 ∨ mode = 2) (hg : 0 ≤ g) :
    ∃ r er, askF 5 l now' kind who len own mode g = some (r.e, r.h, r.u, r.m, er) ∧ (er ≠ 0 → r = ⟨0, 0, 0, 0⟩) ∧ (er = 0 → kind = 0 ∨ kind = 1 → r.e = IntKind.u32.wrap (l.e + 1) ∧ r.h = who) ∧
      (er = 0 → ¬ (kind = 0 ∨ kind = 1) → r.e = l.e ∧ r.h = l.h) ∧ Inv (leaseF l r er) now' (seenF kind seen r er) (n + 1) := by
  obtain ⟨i1, i2, i3, i4⟩ := hI
  have he : l.e = seen.length := by
    rcases i4 with ⟨rfl, rfl⟩ | ⟨init, rfl, e, _⟩
    · rfl
    · rw [e, List.length_append]; rfl
  have hu : 0 ≤ l.u := by
    rcases i4 with ⟨rfl, rfl⟩ | ⟨init, rfl, _, _, _, e, _⟩
    · exact Int.le_refl _
    · exact e
  have keep : Inv l now' seen (n + 1) := by
    refine ⟨by omega, by omega, by omega, ?_⟩
    rcases i4 with h | ⟨init, a, b, c, d, e, f, g⟩
    · exact .inl h
    · exact .inr ⟨init, a, b, c, d, e, by omega, fun x hx => ⟨(g x hx).1, by have := (g x hx).2; omega⟩⟩
  have fail : ∀ x : Int, x ≠ 0 → ∀ K, K = some ((0 : Int), (0 : Int), (0 : Int), (0 : Int), x) → ∃ r er, K = some (r.e, r.h, r.u, r.m, er) ∧ (er ≠ 0 → r = ⟨0, 0, 0, 0⟩) ∧ (er = 0 → kind = 0 ∨ kind = 1 → r.e = IntKind.u32.wrap (l.e + 1) ∧ r.h = who) ∧
      (er = 0 → ¬ (kind = 0 ∨ kind = 1) → r.e = l.e ∧ r.h = l.h) ∧ Inv (leaseF l r er) now' (seenF kind seen r er) (n + 1) := fun x hx K hK => by
    refine ⟨⟨0, 0, 0, 0⟩, x, hK, fun _ => rfl, fun h => absurd h hx, fun h => absurd h hx, ?_⟩
    rw [leaseF, if_neg hx, seenF, if_neg hx]
    exact keep
  have same : ∀ (r : L4) K, K = some (r.e, r.h, r.u, r.m, (0 : Int)) → ¬ (kind = 0 ∨ kind = 1) → r.e = l.e → r.h = l.h → (r = l ∨ ((l.h = 1 ∨ l.h = 2) ∧ (r.m = 1 ∨ r.m = 2) ∧ 0 ≤ r.u ∧ r.u ≤ now' + 60)) → ∃ r er, K = some (r.e, r.h, r.u, r.m, er) ∧ (er ≠ 0 → r = ⟨0, 0, 0, 0⟩) ∧ (er = 0 → kind = 0 ∨ kind = 1 → r.e = IntKind.u32.wrap (l.e + 1) ∧ r.h = who) ∧
      (er = 0 → ¬ (kind = 0 ∨ kind = 1) → r.e = l.e ∧ r.h = l.h) ∧ Inv (leaseF l r er) now' (seenF kind seen r er) (n + 1) := fun r K hK hk e1 e2 e3 => by
    refine ⟨r, 0, hK, fun h => absurd rfl h, fun _ h => absurd h hk, fun _ _ => ⟨e1, e2⟩, ?_⟩
    rw [leaseF, if_pos rfl, seenF, if_pos rfl, if_neg hk]
    rcases i4 with ⟨rfl, hl0⟩ | ⟨init, rfl, b, c, d, e, f, g⟩
    · rcases e3 with rfl | ⟨hh, _⟩
      · exact keep
      · rw [hl0] at hh; exact absurd hh (by decide)
    · rw [upd_last r init l (fun x hx => by have := (g x hx).1; omega) e1.symm]
      refine ⟨by omega, by omega, by simp at i3 ⊢; omega, .inr ⟨init, rfl, by omega, by omega, ?_, ?_, ?_, fun x hx => ⟨by have := (g x hx).1; omega, by have := (g x hx).2; omega⟩⟩⟩
      · rcases e3 with rfl | h
        · exact d
        · exact h.2.1
      · rcases e3 with rfl | h
        · exact e
        · exact h.2.2.1
      · rcases e3 with rfl | h
        · omega
        · exact h.2.2.2
  unfold askF
  by_cases hk : kind = 0 ∨ kind = 1
  · rw [if_pos hk, grant_eq 3 _ _ _ _ _ _ _ _ (by omega) (by omega) hu hg (by omega) (by omega)]
    rcases grantS_cases l.e l.h l.u l.m now' who len g with ⟨hS, hmm, hf⟩ | ⟨x, hx, hS⟩
    · rw [hS]
      refine ⟨⟨l.e + 1, who, now' + len, l.m⟩, 0, rfl, fun h => absurd rfl h, fun _ _ => ⟨?_, rfl⟩, fun _ h => absurd hk h, ?_⟩
      · have h : IntKind.u32.wrap (l.e + 1) = (l.e + 1) % 4294967296 := rfl
        show l.e + 1 = _
        omega
      · rw [leaseF, if_pos rfl, seenF, if_pos rfl, if_pos hk]
        have hlt : ∀ x ∈ seen, x.e < l.e + 1 ∧ x.u < now' := by
          rcases i4 with ⟨rfl, _⟩ | ⟨init, rfl, b, c, d, e, f, q⟩
          · intro x hx; cases hx
          · intro x hx
            rcases List.mem_append.1 hx with hx | hx
            · have := q x hx
              exact ⟨by omega, by omega⟩
            · obtain rfl : x = l := by simpa using hx
              exact ⟨by omega, by omega⟩
        rw [upd_last _ seen _ (fun x hx => (hlt x hx).1) rfl]
        refine ⟨by omega, by omega, by simp; omega, .inr ⟨seen, rfl, by show l.e + 1 = _; omega, hw, hmm, by show 0 ≤ now' + len; omega, by show now' + len ≤ _; omega, hlt⟩⟩
    · exact fail x hx _ (by rw [hS])
  · rw [if_neg hk]
    by_cases hk2 : kind = 2 ∨ kind = 3
    · rw [if_pos hk2, renew_eq 3 _ _ _ _ _ _ _ _ (by omega) (by omega)]
      rcases renewS_cases l.e l.h l.u l.m now' who own len with ⟨u1, hS, a1, a2, a3, a4, a5, a6, a7⟩ | ⟨x, hx, hS⟩
      · have hu1 : u1 ≤ now' + 60 := by
          unfold renewS at hS
          have q := hS
          split at q
          · exact absurd (congrArg (fun z : Int × Int × Int × Int × Int => z.2.2.2.2) q) (by simp)
          · split at q
            · exact absurd (congrArg (fun z : Int × Int × Int × Int × Int => z.2.2.2.2) q) (by simp)
            · split at q
              · exact absurd (congrArg (fun z : Int × Int × Int × Int × Int => z.2.2.2.2) q) (by simp)
              · split at q
                · exact absurd (congrArg (fun z : Int × Int × Int × Int × Int => z.2.2.2.2) q) (by simp)
                · split at q
                  · injection q with _ q; injection q with _ q; injection q with q _; omega
                  · injection q with _ q; injection q with _ q; injection q with q _
                    rcases i4 with ⟨rfl, hl0⟩ | ⟨init, rfl, b, c, d, e, f, q⟩
                    · rw [hl0] at q; subst q; show (0 : Int) ≤ _; omega
                    · omega
        exact same ⟨l.e, l.h, u1, l.m⟩ _ (by rw [hS]) hk rfl rfl (.inr ⟨by omega, a3.1, by show 0 ≤ u1; omega, hu1⟩)
      · exact fail x hx _ (by rw [hS])
    · rw [if_neg hk2]
      by_cases hk4 : kind = 4
      · rw [if_pos hk4, turn_eq 3]
        rcases turnS_cases l.e l.h l.u l.m now' who own mode with ⟨hS, a3, a4, a5, a6, a7⟩ | ⟨x, hx, hS⟩
        · refine same ⟨l.e, l.h, l.u, mode⟩ _ (by rw [hS]) hk rfl rfl (.inr ⟨by omega, hm, hu, ?_⟩)
          rcases i4 with ⟨rfl, hl0⟩ | ⟨init, rfl, b, c, d, e, f, q⟩
          · rw [hl0]; show (0 : Int) ≤ _; omega
          · show l.u ≤ _; omega
        · exact fail x hx _ (by rw [hS])
      · rw [if_neg hk4]
        exact same l _ rfl hk rfl rfl (.inl rfl)
/-- Does a lease hold, at a tick? -/
def holdB (t : Int) (x : L4) : Bool := decide (valid x.e x.h x.u x.m ∧ x.h = x.h ∧ x.h ≠ 0 ∧ t ≤ x.u)
def cnt (t : Int) (l : List L4) : Nat := (l.filter (holdB t)).length
theorem cnt_next (t : Int) (l : List L4) (i : Nat) (h : i < l.length) : cnt t (l.take (i + 1)) = cnt t (l.take i) + if holdB t l[i] = true then 1 else 0 := by
  have : l.take (i + 1) = l.take i ++ [l[i]] := by rw [List.take_add_one, List.getElem?_eq_getElem h]; rfl
  unfold cnt
  rw [this, List.filter_append, List.length_append]
  congr 1
  by_cases hb : holdB t l[i] = true <;> simp [List.filter_cons, hb]
theorem cnt_le (t : Int) (l : List L4) : cnt t l ≤ l.length := List.length_filter_le _ _
theorem cnt_one (l : L4) (now t : Int) (seen : List L4) (n : Nat) (hI : Inv l now seen n) (ht : now ≤ t) : cnt t seen ≤ 1 := by
  obtain ⟨_, _, _, i4⟩ := hI
  rcases i4 with ⟨rfl, _⟩ | ⟨init, rfl, b, c, d, e, f, q⟩
  · exact Nat.zero_le _
  · have h0 : init.filter (holdB t) = [] := List.filter_eq_nil_iff.2 fun x hx => by
      have := (q x hx).2
      unfold holdB
      rw [decide_eq_true_eq]
      omega
    unfold cnt
    rw [List.filter_append, h0]
    exact List.length_filter_le _ _
end Go.Proofs.Ytmepidkffpmflaa.PLeaseAlone
