/- The function drayagelaw07.LeaseGuard: where the wait is longer than length and guard, and where it is not. Conditions: the callees' answers. -/
import Derived.Test.YtmepidkffpmflaaKnLeaseGuard
import Derived.Test.YtmepidkffpmflaaPLeaseGuardx
import Derived.OpenShut
import Derived.Lib.Hide
namespace Go.Proofs.Ytmepidkffpmflaa.PLeaseGuard
open Go.RowKit Go.Proofs.YtmepidkffpmflaaW.PrintWords Go.Proofs.YtmepidkffpmflaaW.PrintLast Go.Proofs.YtmepidkffpmflaaW.PrintMore
set_option linter.unusedVariables false
set_option linter.unusedSimpArgs false
theorem bcell {W w1 : World} (hb : Below W.heap.size W w1) : (∀ b o, b < W.heap.size → w1.cell? ⟨b, o, none⟩ = W.cell? ⟨b, o, none⟩) ∧ (∀ b o, b < W.heap.size → w1.frozen? ⟨b, o, none⟩ = W.frozen? ⟨b, o, none⟩) :=
  ⟨fun b o h => hb.cell (p := ⟨b, o, none⟩) h, fun b o h => hb.frozen (p := ⟨b, o, none⟩) h⟩
set_option maxHeartbeats 8000000 in
set_option maxRecDepth 100000 in
theorem guard_free (a0 a1 a2 a3 a4 n l g wt v : Int) (w : World) (hn : Hid (Int.tmod a0 1000000 = n)) (hl : Hid (IntKind.u64.wrap (1 + Int.tmod a1 10000) = l)) (hg : Hid (Int.tmod a2 10001 = g)) (hwt : Hid (Int.tmod a3 40000 = wt))
    (hv : Hid (wrap64 (1 + wrap64 ((IntKind.u64.wrap a4).tmod 2)) = v))
    (n0 : 0 ≤ n) (n1 : n < 1000000) (l0 : 1 ≤ l) (l1 : l ≤ 10000) (g0 : 0 ≤ g) (g1 : g ≤ 10000) (t0 : 0 ≤ wt) (t1 : wt < 40000) (v0 : 1 ≤ v) (v1 : v ≤ 2) (hf : l + g < wt)
    (A2 : Aside0 (lease_Grant.f 5 0 0 0 1 n v l g = some (1, v, n + l, 1, 0)))
    (A3 : Aside0 (lease_Grant.f 5 1 v (n + l) 1 (n + wt) (3 - v) l g = some (2, 3 - v, n + wt + l, 1, 0)))
    (A4 : Aside0 (lease_Free.f 1 v (n + l) 1 (n + wt) g = some true))
    : Calls Try.prog 5 #[.int .u64 a0, .int .u64 a1, .int .u64 a2, .int .u64 a3, .int .i64 a4] w fun e w' => e = .returned (.bool true) ∧ Below w.heap.size w w' := by
  have A6 : Aside0 (drayagelaw07_empty.f = some (0, 0, 0, 1)) := ⟨rfl⟩
  go_enter Try.func5, Try.ntmps5
  go_wp2_with fail
  refine (drayagelaw07_empty.calls 0 0 0 1 _ A6.out).mono ?_
  rintro e w1 ⟨rfl, hb1⟩
  rw [hn.out, hl.out, hg.out, hwt.out, hv.out]
  go_wp2_with fail
  refine (lease_Grant.calls 5 0 0 0 1 n v l g 1 v (n + l) 1 0 _ A2.out).mono ?_
  rintro e w2 ⟨rfl, hb2⟩
  go_wp2_with fail
  refine (lease_Grant.calls 5 1 v (n + l) 1 (n + wt) (3 - v) l g 2 (3 - v) (n + wt + l) 1 0 _ A3.out).mono ?_
  rintro e w3 ⟨rfl, hb3⟩
  obtain ⟨hc3, hf3⟩ := bcell hb3
  have hz3 : w2.heap.size < w3.heap.size := by have := hb3.size; simp at this; omega
  go_wp2_with fail
  refine (lease_Free.calls 1 v (n + l) 1 (n + wt) g true _ A4.out).mono ?_
  rintro e w4 ⟨rfl, hb4⟩
  go_wp2_with fail
  refine (known_calls _).mono ?_
  rintro e w5 ⟨rfl, hb5⟩
  go_wp2_with fail
  go_ret
  refine ⟨rfl, ?_⟩
  have h1 := below_step (Below.refl w.heap.size w) hb1
  have h2 := below_step h1 hb2
  have h3 := below_step (below_alloc h2 _) hb3
  have h4 := below_step (below_alloc h3 _) hb4
  exact below_step h4 hb5
set_option maxHeartbeats 8000000 in
set_option maxRecDepth 100000 in
theorem guard_held (a0 a1 a2 a3 a4 n l g wt v : Int) (w : World) (hn : Hid (Int.tmod a0 1000000 = n)) (hl : Hid (IntKind.u64.wrap (1 + Int.tmod a1 10000) = l)) (hg : Hid (Int.tmod a2 10001 = g)) (hwt : Hid (Int.tmod a3 40000 = wt))
    (hv : Hid (wrap64 (1 + wrap64 ((IntKind.u64.wrap a4).tmod 2)) = v))
    (n0 : 0 ≤ n) (n1 : n < 1000000) (l0 : 1 ≤ l) (l1 : l ≤ 10000) (g0 : 0 ≤ g) (g1 : g ≤ 10000) (t0 : 0 ≤ wt) (t1 : wt < 40000) (v0 : 1 ≤ v) (v1 : v ≤ 2) (hf : wt ≤ l + g)
    (A2 : Aside0 (lease_Grant.f 5 0 0 0 1 n v l g = some (1, v, n + l, 1, 0)))
    (A3 : Aside0 (lease_Grant.f 5 1 v (n + l) 1 (n + wt) (3 - v) l g = some (0, 0, 0, 0, 70)))
    (A4 : Aside0 (lease_Free.f 1 v (n + l) 1 (n + wt) g = some false))
    : Calls Try.prog 5 #[.int .u64 a0, .int .u64 a1, .int .u64 a2, .int .u64 a3, .int .i64 a4] w fun e w' => e = .returned (.bool true) ∧ Below w.heap.size w w' := by
  have A6 : Aside0 (drayagelaw07_empty.f = some (0, 0, 0, 1)) := ⟨rfl⟩
  have hd : decide (l + g < wt) = false := decide_eq_false (by omega)
  go_enter Try.func5, Try.ntmps5
  go_wp2_with fail
  refine (drayagelaw07_empty.calls 0 0 0 1 _ A6.out).mono ?_
  rintro e w1 ⟨rfl, hb1⟩
  rw [hn.out, hl.out, hg.out, hwt.out, hv.out]
  go_wp2_with fail
  refine (lease_Grant.calls 5 0 0 0 1 n v l g 1 v (n + l) 1 0 _ A2.out).mono ?_
  rintro e w2 ⟨rfl, hb2⟩
  go_wp2_with fail
  refine (lease_Grant.calls 5 1 v (n + l) 1 (n + wt) (3 - v) l g 0 0 0 0 70 _ A3.out).mono ?_
  rintro e w3 ⟨rfl, hb3⟩
  obtain ⟨hc3, hf3⟩ := bcell hb3
  have hz3 : w2.heap.size < w3.heap.size := by have := hb3.size; simp at this; omega
  go_wp2_with fail
  refine (lease_Free.calls 1 v (n + l) 1 (n + wt) g false _ A4.out).mono ?_
  rintro e w4 ⟨rfl, hb4⟩
  go_wp2_with fail
  refine (known_calls _).mono ?_
  rintro e w5 ⟨rfl, hb5⟩
  go_wp2_with fail
  go_ret
  refine ⟨rfl, ?_⟩
  have h1 := below_step (Below.refl w.heap.size w) hb1
  have h2 := below_step h1 hb2
  have h3 := below_step (below_alloc h2 _) hb3
  have h4 := below_step (below_alloc h3 _) hb4
  exact below_step h4 hb5
theorem law_calls (a0 a1 a2 a3 a4 n l g wt v : Int) (w : World) (hn : Hid (Int.tmod a0 1000000 = n)) (hl : Hid (IntKind.u64.wrap (1 + Int.tmod a1 10000) = l)) (hg : Hid (Int.tmod a2 10001 = g)) (hwt : Hid (Int.tmod a3 40000 = wt))
    (hv : Hid (wrap64 (1 + wrap64 ((IntKind.u64.wrap a4).tmod 2)) = v))
    (n0 : 0 ≤ n) (n1 : n < 1000000) (l0 : 1 ≤ l) (l1 : l ≤ 10000) (g0 : 0 ≤ g) (g1 : g ≤ 10000) (t0 : 0 ≤ wt) (t1 : wt < 40000) (v0 : 1 ≤ v) (v1 : v ≤ 2)
    (A2 : lease_Grant.f 5 0 0 0 1 n v l g = some (1, v, n + l, 1, 0))
    (A3 : lease_Grant.f 5 1 v (n + l) 1 (n + wt) (3 - v) l g = some (if l + g < wt then (2, 3 - v, n + wt + l, 1, 0) else (0, 0, 0, 0, 70)))
    (A4 : lease_Free.f 1 v (n + l) 1 (n + wt) g = some (decide (l + g < wt))) :
    Calls Try.prog 5 #[.int .u64 a0, .int .u64 a1, .int .u64 a2, .int .u64 a3, .int .i64 a4] w fun e w' => e = .returned (.bool true) ∧ Below w.heap.size w w' := by
  by_cases hf : l + g < wt
  · rw [if_pos hf] at A3
    rw [decide_eq_true hf] at A4
    exact guard_free a0 a1 a2 a3 a4 n l g wt v w hn hl hg hwt hv n0 n1 l0 l1 g0 g1 t0 t1 v0 v1 hf ⟨A2⟩ ⟨A3⟩ ⟨A4⟩
  · rw [if_neg hf] at A3
    rw [decide_eq_false hf] at A4
    exact guard_held a0 a1 a2 a3 a4 n l g wt v w hn hl hg hwt hv n0 n1 l0 l1 g0 g1 t0 t1 v0 v1 (by omega) ⟨A2⟩ ⟨A3⟩ ⟨A4⟩
end Go.Proofs.Ytmepidkffpmflaa.PLeaseGuard
