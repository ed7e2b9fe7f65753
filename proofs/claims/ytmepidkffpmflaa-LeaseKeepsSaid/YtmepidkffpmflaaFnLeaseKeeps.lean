/- The function drayagelaw07.LeaseKeeps, its four ways: the renewal goes well or not, the turn goes well or not. Conditions: the callees' answers. -/
import Derived.Test.YtmepidkffpmflaaKnLeaseKeeps
import Derived.Test.YtmepidkffpmflaaPLeaseKeepsx
import Derived.OpenShut
namespace Go.Proofs.Ytmepidkffpmflaa.PLeaseKeeps
open Go.RowKit Go.Proofs.YtmepidkffpmflaaW.PrintWords Go.Proofs.YtmepidkffpmflaaW.PrintLast Go.Proofs.YtmepidkffpmflaaW.PrintMore
set_option linter.unusedVariables false
set_option linter.unusedSimpArgs false
set_option maxHeartbeats 8000000 in
set_option maxRecDepth 100000 in
theorem way11 (e h u m now who ep len mode u1 x1 x2 : Int) (w : World)
    (A1 : Aside0 (lease_Renew.f 5 e h u m now who e len = some (e, h, u1, m, 0)))
    (A2 : Aside0 (lease_Turn.f 5 e h u m now who e mode = some (e, h, u, mode, 0)))
    (hu : u ≤ u1) (A4 : Aside0 (lease_Check.f e h u1 m = some 0))
    (A3 : Aside0 (lease_Holds.f e h u m who now = some true))
    : Calls Try.prog 8 #[.agg #[.int .u32 e, .int .i64 h, .int .u64 u, .int .i64 m], .int .u64 now, .int .i64 who, .int .u32 e, .int .u64 len, .int .i64 mode] w fun e w' => e = .returned (.bool true) ∧ Below w.heap.size w w' := by
  have HB := Below.refl w.heap.size w
  go_enter Try.func8, Try.ntmps8
  go_wp2_with fail
  refine (lease_Renew.calls 5 e h u m now who e len e h u1 m 0 _ A1.out).mono ?_
  rintro e0 w1 ⟨rfl, hb1⟩
  have hz1 := hb1.size
  (try simp at hz1)
  have hz1_0 : w.heap.size < w1.heap.size := by omega
  have hc1_0_0 : w1.cell? ⟨w.heap.size, 0, none⟩ = some (.int .u32 e) := by rw [hb1.cell (by first | (simp; done) | (simp; omega) | omega)]; go_simp
  have hc1_0_1 : w1.cell? ⟨w.heap.size, 1, none⟩ = some (.int .i64 h) := by rw [hb1.cell (by first | (simp; done) | (simp; omega) | omega)]; go_simp
  have hc1_0_2 : w1.cell? ⟨w.heap.size, 2, none⟩ = some (.int .u64 u) := by rw [hb1.cell (by first | (simp; done) | (simp; omega) | omega)]; go_simp
  have hc1_0_3 : w1.cell? ⟨w.heap.size, 3, none⟩ = some (.int .i64 m) := by rw [hb1.cell (by first | (simp; done) | (simp; omega) | omega)]; go_simp
  replace HB := below_step (below_alloc HB _) hb1
  clear hb1 hz1
  go_wp2_with fail
  refine (lease_Holds.calls e h u m who now true _ A3.out).mono ?_
  rintro e0 w2 ⟨rfl, hb2⟩
  have hz2 := hb2.size
  (try simp at hz2)
  have hz2_0 : w.heap.size < w2.heap.size := by omega
  have hz2_1 : w1.heap.size < w2.heap.size := by omega
  have hc2_0_0 : w2.cell? ⟨w.heap.size, 0, none⟩ = some (.int .u32 e) := by rw [hb2.cell (by first | (simp; done) | (simp; omega) | omega)]; go_simp
  have hc2_0_1 : w2.cell? ⟨w.heap.size, 1, none⟩ = some (.int .i64 h) := by rw [hb2.cell (by first | (simp; done) | (simp; omega) | omega)]; go_simp
  have hc2_0_2 : w2.cell? ⟨w.heap.size, 2, none⟩ = some (.int .u64 u) := by rw [hb2.cell (by first | (simp; done) | (simp; omega) | omega)]; go_simp
  have hc2_0_3 : w2.cell? ⟨w.heap.size, 3, none⟩ = some (.int .i64 m) := by rw [hb2.cell (by first | (simp; done) | (simp; omega) | omega)]; go_simp
  have hc2_1_0 : w2.cell? ⟨w1.heap.size, 0, none⟩ = some (.int .u32 e) := by rw [hb2.cell (by first | (simp; done) | (simp; omega) | omega)]; go_simp
  have hc2_1_1 : w2.cell? ⟨w1.heap.size, 1, none⟩ = some (.int .i64 h) := by rw [hb2.cell (by first | (simp; done) | (simp; omega) | omega)]; go_simp
  have hc2_1_2 : w2.cell? ⟨w1.heap.size, 2, none⟩ = some (.int .u64 u1) := by rw [hb2.cell (by first | (simp; done) | (simp; omega) | omega)]; go_simp
  have hc2_1_3 : w2.cell? ⟨w1.heap.size, 3, none⟩ = some (.int .i64 m) := by rw [hb2.cell (by first | (simp; done) | (simp; omega) | omega)]; go_simp
  replace HB := below_step (below_alloc (below_alloc HB _) _) hb2
  clear hb2 hz2
  clear hc1_0_0 hc1_0_1 hc1_0_2 hc1_0_3
  go_wp2_with fail
  refine (lease_Check.calls e h u1 m 0 _ A4.out).mono ?_
  rintro e0 w3 ⟨rfl, hb3⟩
  have hz3 := hb3.size
  (try simp at hz3)
  have hz3_0 : w.heap.size < w3.heap.size := by omega
  have hz3_1 : w1.heap.size < w3.heap.size := by omega
  have hc3_0_0 : w3.cell? ⟨w.heap.size, 0, none⟩ = some (.int .u32 e) := by rw [hb3.cell (by first | (simp; done) | (simp; omega) | omega)]; go_simp
  have hc3_0_1 : w3.cell? ⟨w.heap.size, 1, none⟩ = some (.int .i64 h) := by rw [hb3.cell (by first | (simp; done) | (simp; omega) | omega)]; go_simp
  have hc3_0_2 : w3.cell? ⟨w.heap.size, 2, none⟩ = some (.int .u64 u) := by rw [hb3.cell (by first | (simp; done) | (simp; omega) | omega)]; go_simp
  have hc3_0_3 : w3.cell? ⟨w.heap.size, 3, none⟩ = some (.int .i64 m) := by rw [hb3.cell (by first | (simp; done) | (simp; omega) | omega)]; go_simp
  have hc3_1_0 : w3.cell? ⟨w1.heap.size, 0, none⟩ = some (.int .u32 e) := by rw [hb3.cell (by first | (simp; done) | (simp; omega) | omega)]; go_simp
  have hc3_1_1 : w3.cell? ⟨w1.heap.size, 1, none⟩ = some (.int .i64 h) := by rw [hb3.cell (by first | (simp; done) | (simp; omega) | omega)]; go_simp
  have hc3_1_2 : w3.cell? ⟨w1.heap.size, 2, none⟩ = some (.int .u64 u1) := by rw [hb3.cell (by first | (simp; done) | (simp; omega) | omega)]; go_simp
  have hc3_1_3 : w3.cell? ⟨w1.heap.size, 3, none⟩ = some (.int .i64 m) := by rw [hb3.cell (by first | (simp; done) | (simp; omega) | omega)]; go_simp
  replace HB := below_step HB hb3
  clear hb3 hz3
  clear hc2_0_0 hc2_0_1 hc2_0_2 hc2_0_3 hc2_1_0 hc2_1_1 hc2_1_2 hc2_1_3
  go_wp2_with fail
  refine (lease_Turn.calls 5 e h u m now who e mode e h u mode 0 _ A2.out).mono ?_
  rintro e0 w4 ⟨rfl, hb4⟩
  have hz4 := hb4.size
  (try simp at hz4)
  have hz4_0 : w.heap.size < w4.heap.size := by omega
  have hz4_1 : w1.heap.size < w4.heap.size := by omega
  have hc4_0_0 : w4.cell? ⟨w.heap.size, 0, none⟩ = some (.int .u32 e) := by rw [hb4.cell (by first | (simp; done) | (simp; omega) | omega)]; go_simp
  have hc4_0_1 : w4.cell? ⟨w.heap.size, 1, none⟩ = some (.int .i64 h) := by rw [hb4.cell (by first | (simp; done) | (simp; omega) | omega)]; go_simp
  have hc4_0_2 : w4.cell? ⟨w.heap.size, 2, none⟩ = some (.int .u64 u) := by rw [hb4.cell (by first | (simp; done) | (simp; omega) | omega)]; go_simp
  have hc4_0_3 : w4.cell? ⟨w.heap.size, 3, none⟩ = some (.int .i64 m) := by rw [hb4.cell (by first | (simp; done) | (simp; omega) | omega)]; go_simp
  have hc4_1_0 : w4.cell? ⟨w1.heap.size, 0, none⟩ = some (.int .u32 e) := by rw [hb4.cell (by first | (simp; done) | (simp; omega) | omega)]; go_simp
  have hc4_1_1 : w4.cell? ⟨w1.heap.size, 1, none⟩ = some (.int .i64 h) := by rw [hb4.cell (by first | (simp; done) | (simp; omega) | omega)]; go_simp
  have hc4_1_2 : w4.cell? ⟨w1.heap.size, 2, none⟩ = some (.int .u64 u1) := by rw [hb4.cell (by first | (simp; done) | (simp; omega) | omega)]; go_simp
  have hc4_1_3 : w4.cell? ⟨w1.heap.size, 3, none⟩ = some (.int .i64 m) := by rw [hb4.cell (by first | (simp; done) | (simp; omega) | omega)]; go_simp
  replace HB := below_step HB hb4
  clear hb4 hz4
  clear hc3_0_0 hc3_0_1 hc3_0_2 hc3_0_3 hc3_1_0 hc3_1_1 hc3_1_2 hc3_1_3
  go_wp2_with fail
  refine (lease_Holds.calls e h u m who now true _ A3.out).mono ?_
  rintro e0 w5 ⟨rfl, hb5⟩
  have hz5 := hb5.size
  (try simp at hz5)
  have hz5_0 : w.heap.size < w5.heap.size := by omega
  have hz5_1 : w1.heap.size < w5.heap.size := by omega
  have hz5_2 : w4.heap.size < w5.heap.size := by omega
  have hc5_0_0 : w5.cell? ⟨w.heap.size, 0, none⟩ = some (.int .u32 e) := by rw [hb5.cell (by first | (simp; done) | (simp; omega) | omega)]; go_simp
  have hc5_0_1 : w5.cell? ⟨w.heap.size, 1, none⟩ = some (.int .i64 h) := by rw [hb5.cell (by first | (simp; done) | (simp; omega) | omega)]; go_simp
  have hc5_0_2 : w5.cell? ⟨w.heap.size, 2, none⟩ = some (.int .u64 u) := by rw [hb5.cell (by first | (simp; done) | (simp; omega) | omega)]; go_simp
  have hc5_0_3 : w5.cell? ⟨w.heap.size, 3, none⟩ = some (.int .i64 m) := by rw [hb5.cell (by first | (simp; done) | (simp; omega) | omega)]; go_simp
  have hc5_1_0 : w5.cell? ⟨w1.heap.size, 0, none⟩ = some (.int .u32 e) := by rw [hb5.cell (by first | (simp; done) | (simp; omega) | omega)]; go_simp
  have hc5_1_1 : w5.cell? ⟨w1.heap.size, 1, none⟩ = some (.int .i64 h) := by rw [hb5.cell (by first | (simp; done) | (simp; omega) | omega)]; go_simp
  have hc5_1_2 : w5.cell? ⟨w1.heap.size, 2, none⟩ = some (.int .u64 u1) := by rw [hb5.cell (by first | (simp; done) | (simp; omega) | omega)]; go_simp
  have hc5_1_3 : w5.cell? ⟨w1.heap.size, 3, none⟩ = some (.int .i64 m) := by rw [hb5.cell (by first | (simp; done) | (simp; omega) | omega)]; go_simp
  have hc5_2_0 : w5.cell? ⟨w4.heap.size, 0, none⟩ = some (.int .u32 e) := by rw [hb5.cell (by first | (simp; done) | (simp; omega) | omega)]; go_simp
  have hc5_2_1 : w5.cell? ⟨w4.heap.size, 1, none⟩ = some (.int .i64 h) := by rw [hb5.cell (by first | (simp; done) | (simp; omega) | omega)]; go_simp
  have hc5_2_2 : w5.cell? ⟨w4.heap.size, 2, none⟩ = some (.int .u64 u) := by rw [hb5.cell (by first | (simp; done) | (simp; omega) | omega)]; go_simp
  have hc5_2_3 : w5.cell? ⟨w4.heap.size, 3, none⟩ = some (.int .i64 mode) := by rw [hb5.cell (by first | (simp; done) | (simp; omega) | omega)]; go_simp
  replace HB := below_step (below_alloc (below_alloc HB _) _) hb5
  clear hb5 hz5
  clear hc4_0_0 hc4_0_1 hc4_0_2 hc4_0_3 hc4_1_0 hc4_1_1 hc4_1_2 hc4_1_3
  go_wp2_with fail
  refine (known_calls _).mono ?_
  rintro e0 w6 ⟨rfl, hb6⟩
  replace HB := below_step HB hb6
  go_wp2_with fail
  go_ret
  exact ⟨rfl, HB⟩
set_option maxHeartbeats 8000000 in
set_option maxRecDepth 100000 in
theorem way10 (e h u m now who ep len mode u1 x1 x2 : Int) (w : World)
    (A1 : Aside0 (lease_Renew.f 5 e h u m now who e len = some (e, h, u1, m, 0)))
    (A2 : Aside0 (lease_Turn.f 5 e h u m now who e mode = some (0, 0, 0, 0, x2)))
    (hu : u ≤ u1) (A4 : Aside0 (lease_Check.f e h u1 m = some 0))
    (A3 : Aside0 (lease_Holds.f e h u m who now = some true))
    (b2 : (x2 == 0) = false)
    : Calls Try.prog 8 #[.agg #[.int .u32 e, .int .i64 h, .int .u64 u, .int .i64 m], .int .u64 now, .int .i64 who, .int .u32 e, .int .u64 len, .int .i64 mode] w fun e w' => e = .returned (.bool true) ∧ Below w.heap.size w w' := by
  have HB := Below.refl w.heap.size w
  go_enter Try.func8, Try.ntmps8
  go_wp2_with fail
  refine (lease_Renew.calls 5 e h u m now who e len e h u1 m 0 _ A1.out).mono ?_
  rintro e0 w1 ⟨rfl, hb1⟩
  have hz1 := hb1.size
  (try simp at hz1)
  have hz1_0 : w.heap.size < w1.heap.size := by omega
  have hc1_0_0 : w1.cell? ⟨w.heap.size, 0, none⟩ = some (.int .u32 e) := by rw [hb1.cell (by first | (simp; done) | (simp; omega) | omega)]; go_simp
  have hc1_0_1 : w1.cell? ⟨w.heap.size, 1, none⟩ = some (.int .i64 h) := by rw [hb1.cell (by first | (simp; done) | (simp; omega) | omega)]; go_simp
  have hc1_0_2 : w1.cell? ⟨w.heap.size, 2, none⟩ = some (.int .u64 u) := by rw [hb1.cell (by first | (simp; done) | (simp; omega) | omega)]; go_simp
  have hc1_0_3 : w1.cell? ⟨w.heap.size, 3, none⟩ = some (.int .i64 m) := by rw [hb1.cell (by first | (simp; done) | (simp; omega) | omega)]; go_simp
  replace HB := below_step (below_alloc HB _) hb1
  clear hb1 hz1
  go_wp2_with fail
  refine (lease_Holds.calls e h u m who now true _ A3.out).mono ?_
  rintro e0 w2 ⟨rfl, hb2⟩
  have hz2 := hb2.size
  (try simp at hz2)
  have hz2_0 : w.heap.size < w2.heap.size := by omega
  have hz2_1 : w1.heap.size < w2.heap.size := by omega
  have hc2_0_0 : w2.cell? ⟨w.heap.size, 0, none⟩ = some (.int .u32 e) := by rw [hb2.cell (by first | (simp; done) | (simp; omega) | omega)]; go_simp
  have hc2_0_1 : w2.cell? ⟨w.heap.size, 1, none⟩ = some (.int .i64 h) := by rw [hb2.cell (by first | (simp; done) | (simp; omega) | omega)]; go_simp
  have hc2_0_2 : w2.cell? ⟨w.heap.size, 2, none⟩ = some (.int .u64 u) := by rw [hb2.cell (by first | (simp; done) | (simp; omega) | omega)]; go_simp
  have hc2_0_3 : w2.cell? ⟨w.heap.size, 3, none⟩ = some (.int .i64 m) := by rw [hb2.cell (by first | (simp; done) | (simp; omega) | omega)]; go_simp
  have hc2_1_0 : w2.cell? ⟨w1.heap.size, 0, none⟩ = some (.int .u32 e) := by rw [hb2.cell (by first | (simp; done) | (simp; omega) | omega)]; go_simp
  have hc2_1_1 : w2.cell? ⟨w1.heap.size, 1, none⟩ = some (.int .i64 h) := by rw [hb2.cell (by first | (simp; done) | (simp; omega) | omega)]; go_simp
  have hc2_1_2 : w2.cell? ⟨w1.heap.size, 2, none⟩ = some (.int .u64 u1) := by rw [hb2.cell (by first | (simp; done) | (simp; omega) | omega)]; go_simp
  have hc2_1_3 : w2.cell? ⟨w1.heap.size, 3, none⟩ = some (.int .i64 m) := by rw [hb2.cell (by first | (simp; done) | (simp; omega) | omega)]; go_simp
  replace HB := below_step (below_alloc (below_alloc HB _) _) hb2
  clear hb2 hz2
  clear hc1_0_0 hc1_0_1 hc1_0_2 hc1_0_3
  go_wp2_with fail
  refine (lease_Check.calls e h u1 m 0 _ A4.out).mono ?_
  rintro e0 w3 ⟨rfl, hb3⟩
  have hz3 := hb3.size
  (try simp at hz3)
  have hz3_0 : w.heap.size < w3.heap.size := by omega
  have hz3_1 : w1.heap.size < w3.heap.size := by omega
  have hc3_0_0 : w3.cell? ⟨w.heap.size, 0, none⟩ = some (.int .u32 e) := by rw [hb3.cell (by first | (simp; done) | (simp; omega) | omega)]; go_simp
  have hc3_0_1 : w3.cell? ⟨w.heap.size, 1, none⟩ = some (.int .i64 h) := by rw [hb3.cell (by first | (simp; done) | (simp; omega) | omega)]; go_simp
  have hc3_0_2 : w3.cell? ⟨w.heap.size, 2, none⟩ = some (.int .u64 u) := by rw [hb3.cell (by first | (simp; done) | (simp; omega) | omega)]; go_simp
  have hc3_0_3 : w3.cell? ⟨w.heap.size, 3, none⟩ = some (.int .i64 m) := by rw [hb3.cell (by first | (simp; done) | (simp; omega) | omega)]; go_simp
  have hc3_1_0 : w3.cell? ⟨w1.heap.size, 0, none⟩ = some (.int .u32 e) := by rw [hb3.cell (by first | (simp; done) | (simp; omega) | omega)]; go_simp
  have hc3_1_1 : w3.cell? ⟨w1.heap.size, 1, none⟩ = some (.int .i64 h) := by rw [hb3.cell (by first | (simp; done) | (simp; omega) | omega)]; go_simp
  have hc3_1_2 : w3.cell? ⟨w1.heap.size, 2, none⟩ = some (.int .u64 u1) := by rw [hb3.cell (by first | (simp; done) | (simp; omega) | omega)]; go_simp
  have hc3_1_3 : w3.cell? ⟨w1.heap.size, 3, none⟩ = some (.int .i64 m) := by rw [hb3.cell (by first | (simp; done) | (simp; omega) | omega)]; go_simp
  replace HB := below_step HB hb3
  clear hb3 hz3
  clear hc2_0_0 hc2_0_1 hc2_0_2 hc2_0_3 hc2_1_0 hc2_1_1 hc2_1_2 hc2_1_3
  go_wp2_with fail
  refine (lease_Turn.calls 5 e h u m now who e mode 0 0 0 0 x2 _ A2.out).mono ?_
  rintro e0 w4 ⟨rfl, hb4⟩
  have hz4 := hb4.size
  (try simp at hz4)
  have hz4_0 : w.heap.size < w4.heap.size := by omega
  have hz4_1 : w1.heap.size < w4.heap.size := by omega
  have hc4_0_0 : w4.cell? ⟨w.heap.size, 0, none⟩ = some (.int .u32 e) := by rw [hb4.cell (by first | (simp; done) | (simp; omega) | omega)]; go_simp
  have hc4_0_1 : w4.cell? ⟨w.heap.size, 1, none⟩ = some (.int .i64 h) := by rw [hb4.cell (by first | (simp; done) | (simp; omega) | omega)]; go_simp
  have hc4_0_2 : w4.cell? ⟨w.heap.size, 2, none⟩ = some (.int .u64 u) := by rw [hb4.cell (by first | (simp; done) | (simp; omega) | omega)]; go_simp
  have hc4_0_3 : w4.cell? ⟨w.heap.size, 3, none⟩ = some (.int .i64 m) := by rw [hb4.cell (by first | (simp; done) | (simp; omega) | omega)]; go_simp
  have hc4_1_0 : w4.cell? ⟨w1.heap.size, 0, none⟩ = some (.int .u32 e) := by rw [hb4.cell (by first | (simp; done) | (simp; omega) | omega)]; go_simp
  have hc4_1_1 : w4.cell? ⟨w1.heap.size, 1, none⟩ = some (.int .i64 h) := by rw [hb4.cell (by first | (simp; done) | (simp; omega) | omega)]; go_simp
  have hc4_1_2 : w4.cell? ⟨w1.heap.size, 2, none⟩ = some (.int .u64 u1) := by rw [hb4.cell (by first | (simp; done) | (simp; omega) | omega)]; go_simp
  have hc4_1_3 : w4.cell? ⟨w1.heap.size, 3, none⟩ = some (.int .i64 m) := by rw [hb4.cell (by first | (simp; done) | (simp; omega) | omega)]; go_simp
  replace HB := below_step HB hb4
  clear hb4 hz4
  clear hc3_0_0 hc3_0_1 hc3_0_2 hc3_0_3 hc3_1_0 hc3_1_1 hc3_1_2 hc3_1_3
  go_wp2_with fail
  refine (known_calls _).mono ?_
  rintro e0 w6 ⟨rfl, hb6⟩
  replace HB := below_step (below_alloc HB _) hb6
  go_wp2_with fail
  go_ret
  exact ⟨rfl, HB⟩
set_option maxHeartbeats 8000000 in
set_option maxRecDepth 100000 in
theorem way01 (e h u m now who ep len mode u1 x1 x2 : Int) (w : World)
    (A1 : Aside0 (lease_Renew.f 5 e h u m now who e len = some (0, 0, 0, 0, x1)))
    (A2 : Aside0 (lease_Turn.f 5 e h u m now who e mode = some (e, h, u, mode, 0)))
    (b1 : (x1 == 0) = false)
    (A3 : Aside0 (lease_Holds.f e h u m who now = some true))
    : Calls Try.prog 8 #[.agg #[.int .u32 e, .int .i64 h, .int .u64 u, .int .i64 m], .int .u64 now, .int .i64 who, .int .u32 e, .int .u64 len, .int .i64 mode] w fun e w' => e = .returned (.bool true) ∧ Below w.heap.size w w' := by
  have HB := Below.refl w.heap.size w
  go_enter Try.func8, Try.ntmps8
  go_wp2_with fail
  refine (lease_Renew.calls 5 e h u m now who e len 0 0 0 0 x1 _ A1.out).mono ?_
  rintro e0 w1 ⟨rfl, hb1⟩
  have hz1 := hb1.size
  (try simp at hz1)
  have hz1_0 : w.heap.size < w1.heap.size := by omega
  have hc1_0_0 : w1.cell? ⟨w.heap.size, 0, none⟩ = some (.int .u32 e) := by rw [hb1.cell (by first | (simp; done) | (simp; omega) | omega)]; go_simp
  have hc1_0_1 : w1.cell? ⟨w.heap.size, 1, none⟩ = some (.int .i64 h) := by rw [hb1.cell (by first | (simp; done) | (simp; omega) | omega)]; go_simp
  have hc1_0_2 : w1.cell? ⟨w.heap.size, 2, none⟩ = some (.int .u64 u) := by rw [hb1.cell (by first | (simp; done) | (simp; omega) | omega)]; go_simp
  have hc1_0_3 : w1.cell? ⟨w.heap.size, 3, none⟩ = some (.int .i64 m) := by rw [hb1.cell (by first | (simp; done) | (simp; omega) | omega)]; go_simp
  replace HB := below_step (below_alloc HB _) hb1
  clear hb1 hz1
  go_wp2_with fail
  refine (lease_Turn.calls 5 e h u m now who e mode e h u mode 0 _ A2.out).mono ?_
  rintro e0 w4 ⟨rfl, hb4⟩
  have hz4 := hb4.size
  (try simp at hz4)
  have hz4_0 : w.heap.size < w4.heap.size := by omega
  have hc4_0_0 : w4.cell? ⟨w.heap.size, 0, none⟩ = some (.int .u32 e) := by rw [hb4.cell (by first | (simp; done) | (simp; omega) | omega)]; go_simp
  have hc4_0_1 : w4.cell? ⟨w.heap.size, 1, none⟩ = some (.int .i64 h) := by rw [hb4.cell (by first | (simp; done) | (simp; omega) | omega)]; go_simp
  have hc4_0_2 : w4.cell? ⟨w.heap.size, 2, none⟩ = some (.int .u64 u) := by rw [hb4.cell (by first | (simp; done) | (simp; omega) | omega)]; go_simp
  have hc4_0_3 : w4.cell? ⟨w.heap.size, 3, none⟩ = some (.int .i64 m) := by rw [hb4.cell (by first | (simp; done) | (simp; omega) | omega)]; go_simp
  replace HB := below_step (below_alloc HB _) hb4
  clear hb4 hz4
  clear hc1_0_0 hc1_0_1 hc1_0_2 hc1_0_3
  go_wp2_with fail
  refine (lease_Holds.calls e h u m who now true _ A3.out).mono ?_
  rintro e0 w5 ⟨rfl, hb5⟩
  have hz5 := hb5.size
  (try simp at hz5)
  have hz5_0 : w.heap.size < w5.heap.size := by omega
  have hz5_1 : w4.heap.size < w5.heap.size := by omega
  have hc5_0_0 : w5.cell? ⟨w.heap.size, 0, none⟩ = some (.int .u32 e) := by rw [hb5.cell (by first | (simp; done) | (simp; omega) | omega)]; go_simp
  have hc5_0_1 : w5.cell? ⟨w.heap.size, 1, none⟩ = some (.int .i64 h) := by rw [hb5.cell (by first | (simp; done) | (simp; omega) | omega)]; go_simp
  have hc5_0_2 : w5.cell? ⟨w.heap.size, 2, none⟩ = some (.int .u64 u) := by rw [hb5.cell (by first | (simp; done) | (simp; omega) | omega)]; go_simp
  have hc5_0_3 : w5.cell? ⟨w.heap.size, 3, none⟩ = some (.int .i64 m) := by rw [hb5.cell (by first | (simp; done) | (simp; omega) | omega)]; go_simp
  have hc5_1_0 : w5.cell? ⟨w4.heap.size, 0, none⟩ = some (.int .u32 e) := by rw [hb5.cell (by first | (simp; done) | (simp; omega) | omega)]; go_simp
  have hc5_1_1 : w5.cell? ⟨w4.heap.size, 1, none⟩ = some (.int .i64 h) := by rw [hb5.cell (by first | (simp; done) | (simp; omega) | omega)]; go_simp
  have hc5_1_2 : w5.cell? ⟨w4.heap.size, 2, none⟩ = some (.int .u64 u) := by rw [hb5.cell (by first | (simp; done) | (simp; omega) | omega)]; go_simp
  have hc5_1_3 : w5.cell? ⟨w4.heap.size, 3, none⟩ = some (.int .i64 mode) := by rw [hb5.cell (by first | (simp; done) | (simp; omega) | omega)]; go_simp
  replace HB := below_step (below_alloc (below_alloc HB _) _) hb5
  clear hb5 hz5
  clear hc4_0_0 hc4_0_1 hc4_0_2 hc4_0_3
  go_wp2_with fail
  refine (known_calls _).mono ?_
  rintro e0 w6 ⟨rfl, hb6⟩
  replace HB := below_step HB hb6
  go_wp2_with fail
  go_ret
  exact ⟨rfl, HB⟩
set_option maxHeartbeats 8000000 in
set_option maxRecDepth 100000 in
theorem way00 (e h u m now who ep len mode u1 x1 x2 : Int) (w : World)
    (A1 : Aside0 (lease_Renew.f 5 e h u m now who ep len = some (0, 0, 0, 0, x1)))
    (A2 : Aside0 (lease_Turn.f 5 e h u m now who ep mode = some (0, 0, 0, 0, x2)))
    (b1 : (x1 == 0) = false)
    (b2 : (x2 == 0) = false)
    : Calls Try.prog 8 #[.agg #[.int .u32 e, .int .i64 h, .int .u64 u, .int .i64 m], .int .u64 now, .int .i64 who, .int .u32 ep, .int .u64 len, .int .i64 mode] w fun e w' => e = .returned (.bool true) ∧ Below w.heap.size w w' := by
  have HB := Below.refl w.heap.size w
  go_enter Try.func8, Try.ntmps8
  go_wp2_with fail
  refine (lease_Renew.calls 5 e h u m now who ep len 0 0 0 0 x1 _ A1.out).mono ?_
  rintro e0 w1 ⟨rfl, hb1⟩
  have hz1 := hb1.size
  (try simp at hz1)
  have hz1_0 : w.heap.size < w1.heap.size := by omega
  have hc1_0_0 : w1.cell? ⟨w.heap.size, 0, none⟩ = some (.int .u32 e) := by rw [hb1.cell (by first | (simp; done) | (simp; omega) | omega)]; go_simp
  have hc1_0_1 : w1.cell? ⟨w.heap.size, 1, none⟩ = some (.int .i64 h) := by rw [hb1.cell (by first | (simp; done) | (simp; omega) | omega)]; go_simp
  have hc1_0_2 : w1.cell? ⟨w.heap.size, 2, none⟩ = some (.int .u64 u) := by rw [hb1.cell (by first | (simp; done) | (simp; omega) | omega)]; go_simp
  have hc1_0_3 : w1.cell? ⟨w.heap.size, 3, none⟩ = some (.int .i64 m) := by rw [hb1.cell (by first | (simp; done) | (simp; omega) | omega)]; go_simp
  replace HB := below_step (below_alloc HB _) hb1
  clear hb1 hz1
  go_wp2_with fail
  refine (lease_Turn.calls 5 e h u m now who ep mode 0 0 0 0 x2 _ A2.out).mono ?_
  rintro e0 w4 ⟨rfl, hb4⟩
  have hz4 := hb4.size
  (try simp at hz4)
  have hz4_0 : w.heap.size < w4.heap.size := by omega
  have hc4_0_0 : w4.cell? ⟨w.heap.size, 0, none⟩ = some (.int .u32 e) := by rw [hb4.cell (by first | (simp; done) | (simp; omega) | omega)]; go_simp
  have hc4_0_1 : w4.cell? ⟨w.heap.size, 1, none⟩ = some (.int .i64 h) := by rw [hb4.cell (by first | (simp; done) | (simp; omega) | omega)]; go_simp
  have hc4_0_2 : w4.cell? ⟨w.heap.size, 2, none⟩ = some (.int .u64 u) := by rw [hb4.cell (by first | (simp; done) | (simp; omega) | omega)]; go_simp
  have hc4_0_3 : w4.cell? ⟨w.heap.size, 3, none⟩ = some (.int .i64 m) := by rw [hb4.cell (by first | (simp; done) | (simp; omega) | omega)]; go_simp
  replace HB := below_step (below_alloc HB _) hb4
  clear hb4 hz4
  clear hc1_0_0 hc1_0_1 hc1_0_2 hc1_0_3
  go_wp2_with fail
  refine (known_calls _).mono ?_
  rintro e0 w6 ⟨rfl, hb6⟩
  replace HB := below_step (below_alloc HB _) hb6
  go_wp2_with fail
  go_ret
  exact ⟨rfl, HB⟩
end Go.Proofs.Ytmepidkffpmflaa.PLeaseKeeps
