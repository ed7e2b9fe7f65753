-- PRINTED BY print.sh 35421559b90ae4d0a3588c463048766b98c2df88dd9212a6774a882060cdf62d: not written by this session
import Derived.Test.YtmepidkffpmflaaPLeaseAlonex0
import Derived.Test.YtmepidkffpmflaaPLeaseAlonex1
namespace Go.Proofs.Ytmepidkffpmflaa.PLeaseAlone
open Go.RowKit Go.Proofs.YtmepidkffpmflaaW.PrintWords Go.Proofs.YtmepidkffpmflaaW.PrintLast Go.Proofs.YtmepidkffpmflaaW.PrintMore
attribute [local go_sem] max2_int min2_int max_two min_two max_three min_three max_four min_four   -- for this text's walks alone
set_option linter.unusedVariables false
set_option linter.unusedSimpArgs false

/-! ### lease_Grant: function 17 -/
mutual
def lease_Grant.j0 : Nat → Int → Int → Int → Int → Bool → Int → Int → Int → Int → Option (Int × Int × Int × Int × Int)
  | 0, _, _, _, _, _, _, _, _, _ => none
  | k + 1, x1, x2, x3, x4, x12, x114000, x114001, x114002, x114003 => if x12 = true then (some (0, 0, 0, 0, 2)) else (if x1 > 4611686018427387904 then (lease_Grant.j1 k x1 x2 x3 x4 true x114000 x114001 x114002 x114003) else (lease_Grant.j1 k x1 x2 x3 x4 (x114000 == 4294967295) x114000 x114001 x114002 x114003))
def lease_Grant.j1 : Nat → Int → Int → Int → Int → Bool → Int → Int → Int → Int → Option (Int × Int × Int × Int × Int)
  | 0, _, _, _, _, _, _, _, _, _ => none
  | k + 1, x1, x2, x3, x4, x31, x114000, x114001, x114002, x114003 => if x31 = true then (some (0, 0, 0, 0, 71)) else ((lease_Free.f x114000 x114001 x114002 x114003 x1 x4).bind fun t118 => (if t118 = true then (some ((x114000 + 1) % 4294967296, x2, IntKind.u64.wrap (x1 + x3), x114003, 0)) else (some (0, 0, 0, 0, 70))))
end
def lease_Grant.f (k : Nat) (a0_0 : Int) (a0_1 : Int) (a0_2 : Int) (a0_3 : Int) (a1 : Int) (a2 : Int) (a3 : Int) (a4 : Int) : Option (Int × Int × Int × Int × Int) := (lease_Check.f a0_0 a0_1 a0_2 a0_3).bind fun t115 => (if t115 = 0 then ((lease_is.f a2).bind fun t116 => (if t116 = true then ((lease_span.f a3).bind fun t117 => (if t117 = true then (lease_Grant.j0 k a1 a2 a3 a4 (decide (a4 > 10000)) a0_0 a0_1 a0_2 a0_3) else (lease_Grant.j0 k a1 a2 a3 a4 true a0_0 a0_1 a0_2 a0_3))) else (lease_Grant.j0 k a1 a2 a3 a4 true a0_0 a0_1 a0_2 a0_3))) else (lease_Grant.j0 k a1 a2 a3 a4 true a0_0 a0_1 a0_2 a0_3))
theorem lease_Grant.mono_l : ∀ k, (∀ y0 y1 y2 y3 y4 y5 y6 y7 y8, LeO (lease_Grant.j0 k y0 y1 y2 y3 y4 y5 y6 y7 y8) (lease_Grant.j0 (k + 1) y0 y1 y2 y3 y4 y5 y6 y7 y8)) ∧ (∀ y0 y1 y2 y3 y4 y5 y6 y7 y8, LeO (lease_Grant.j1 k y0 y1 y2 y3 y4 y5 y6 y7 y8) (lease_Grant.j1 (k + 1) y0 y1 y2 y3 y4 y5 y6 y7 y8))
  | 0 => ⟨fun _ _ _ _ _ _ _ _ _ r h => by simp [lease_Grant.j0] at h, fun _ _ _ _ _ _ _ _ _ r h => by simp [lease_Grant.j1] at h⟩
  | k + 1 => by
    obtain ⟨ih0, ih1⟩ := lease_Grant.mono_l k
    refine ⟨?_, ?_⟩
    · intro y0 y1 y2 y3 y4 y5 y6 y7 y8
      unfold lease_Grant.j0
      repeat' first
      | (with_reducible exact ih0 _ _ _ _ _ _ _ _ _)
      | (with_reducible exact ih1 _ _ _ _ _ _ _ _ _)
      | (with_reducible exact LeO.refl _)
      | (with_reducible exact LeO.none _)
      | (with_reducible refine LeO.ite ?_ ?_)
      | (with_reducible refine LeO.bind ?_ (fun _ => ?_))
      | exact ih0 _ _ _ _ _ _ _ _ _
      | exact ih1 _ _ _ _ _ _ _ _ _
      | exact LeO.none _
      | refine LeO.ite ?_ ?_
      | refine LeO.bind ?_ (fun _ => ?_)
    · intro y0 y1 y2 y3 y4 y5 y6 y7 y8
      unfold lease_Grant.j1
      repeat' first
      | (with_reducible exact ih0 _ _ _ _ _ _ _ _ _)
      | (with_reducible exact ih1 _ _ _ _ _ _ _ _ _)
      | (with_reducible exact LeO.refl _)
      | (with_reducible exact LeO.none _)
      | (with_reducible refine LeO.ite ?_ ?_)
      | (with_reducible refine LeO.bind ?_ (fun _ => ?_))
      | exact ih0 _ _ _ _ _ _ _ _ _
      | exact ih1 _ _ _ _ _ _ _ _ _
      | exact LeO.none _
      | refine LeO.ite ?_ ?_
      | refine LeO.bind ?_ (fun _ => ?_)
theorem lease_Grant.mono : ∀ a0 a1 a2 a3 a4 a5 a6 a7 k, LeO (lease_Grant.f k a0 a1 a2 a3 a4 a5 a6 a7) (lease_Grant.f (k + 1) a0 a1 a2 a3 a4 a5 a6 a7) := by
  intro a0 a1 a2 a3 a4 a5 a6 a7 k
  obtain ⟨ih0, ih1⟩ := lease_Grant.mono_l k
  unfold lease_Grant.f
  repeat' first
      | (with_reducible exact ih0 _ _ _ _ _ _ _ _ _)
      | (with_reducible exact ih1 _ _ _ _ _ _ _ _ _)
      | (with_reducible exact LeO.refl _)
      | (with_reducible exact LeO.none _)
      | (with_reducible refine LeO.ite ?_ ?_)
      | (with_reducible refine LeO.bind ?_ (fun _ => ?_))
      | exact ih0 _ _ _ _ _ _ _ _ _
      | exact ih1 _ _ _ _ _ _ _ _ _
      | exact LeO.none _
      | refine LeO.ite ?_ ?_
      | refine LeO.bind ?_ (fun _ => ?_)
set_option maxHeartbeats 8000000 in
set_option maxRecDepth 100000 in
theorem lease_Grant.calls (k : Nat) (a0_0 : Int) (a0_1 : Int) (a0_2 : Int) (a0_3 : Int) (a1 : Int) (a2 : Int) (a3 : Int) (a4 : Int) (r1 : Int) (r2 : Int) (r3 : Int) (r4 : Int) (r5 : Int) (w : World) (h : lease_Grant.f k a0_0 a0_1 a0_2 a0_3 a1 a2 a3 a4 = some (r1, r2, r3, r4, r5)) :
    Calls Try.prog 17 #[.agg #[.int .u32 a0_0, .int .i64 a0_1, .int .u64 a0_2, .int .i64 a0_3], .int .u64 a1, .int .i64 a2, .int .u64 a3, .int .u64 a4] w fun e w' => e = .returned (.tuple #[.agg #[.int .u32 r1, .int .i64 r2, .int .u64 r3, .int .i64 r4], .int .i64 r5]) ∧ Below w.heap.size w w' := by
  have hu25 := Try.underlying25
  have HB := Aside0.mk (Below.refl w.heap.size w)
  have H : ((lease_Check.f a0_0 a0_1 a0_2 a0_3).bind fun t115 => (if t115 = 0 then ((lease_is.f a2).bind fun t116 => (if t116 = true then ((lease_span.f a3).bind fun t117 => (if t117 = true then (lease_Grant.j0 k a1 a2 a3 a4 (decide (a4 > 10000)) a0_0 a0_1 a0_2 a0_3) else (lease_Grant.j0 k a1 a2 a3 a4 true a0_0 a0_1 a0_2 a0_3))) else (lease_Grant.j0 k a1 a2 a3 a4 true a0_0 a0_1 a0_2 a0_3))) else (lease_Grant.j0 k a1 a2 a3 a4 true a0_0 a0_1 a0_2 a0_3))) = some (r1, r2, r3, r4, r5) := h
  clear h
  have HC6 := Aside0.mk H
  clear H
  go_enter Try.func17, Try.ntmps17
  go_upto_region 1 with (first | ((with_reducible refine gate_dst (N := 5) rfl ?_); refine box_event ?hg (N := 5) ?hd (cs := #[.int .u32 a0_0, .int .i64 a0_1, .int .u64 a0_2, .int .i64 a0_3]) (t := 25) ?hr ?_; (case hd => rfl); (case hg => rfl); (case hr => first | (go_simp; done) | (go_simp; rfl)); intro gb113 hg w7 hbox hb; have n0_ := Aside0.mk (below_step (by repeat (first | (with_reducible first | exact HB.out | apply below_alloc | apply pw_below_drewN | apply below_drew1) | exact HB.out)) hb); have n1_ := Aside0.mk (hbox); have n2_ := Aside0.mk ((by rw [hg]; exact (below_size (by repeat (first | (with_reducible first | exact HB.out | apply below_alloc | apply pw_below_drewN | apply below_drew1) | exact HB.out))) : w.heap.size ≤ gb113)); have n3_ := Aside0.mk ((by rw [hg]; exact (below_size (by repeat (first | (with_reducible first | exact HB.out | apply below_alloc | apply pw_below_drewN | apply below_drew1) | exact HB.out))) : w.heap.size ≤ gb113)); clear HB; have HB := n0_; have BK113 := n1_; have GW113 := n2_; have GE113 := n3_; clear n0_ n1_ n2_ n3_; clear hb hbox hg) | ((with_reducible refine gate_dst (N := 10) rfl ?_); refine box_event ?hg (N := 10) ?hd (cs := #[.int .u32 0, .int .i64 0, .int .u64 0, .int .i64 0]) (t := 25) ?hr ?_; (case hd => rfl); (case hg => rfl); (case hr => first | (go_simp; done) | (go_simp; rfl)); intro gb114 hg w8 hbox hb; have n0_ := Aside0.mk (blk_below (g := gb113) (o := .cells #[.int .u32 a0_0, .int .i64 a0_1, .int .u64 a0_2, .int .i64 a0_3] 25 (0, 0)) (by (with_reducible repeat (first | refine blk_drewN ?_ _ | refine blk_drew ?_ | refine blk_alloc ?_ _)); exact BK113.out) hb); have n1_ := Aside0.mk (below_step (by repeat (first | (with_reducible first | exact HB.out | apply below_alloc | apply pw_below_drewN | apply below_drew1 | refine below_set ?_ GE113.out) | exact HB.out)) hb); have n2_ := Aside0.mk (hbox); have n3_ := Aside0.mk ((by rw [hg]; exact (below_size (by repeat (first | (with_reducible first | exact HB.out | apply below_alloc | apply pw_below_drewN | apply below_drew1 | refine below_set ?_ GE113.out) | exact HB.out))) : w.heap.size ≤ gb114)); have n4_ := Aside0.mk ((by rw [hg]; exact (below_size (by repeat (first | (with_reducible first | exact HB.out | apply below_alloc | apply pw_below_drewN | apply below_drew1 | refine below_set ?_ GE113.out) | exact HB.out))) : w.heap.size ≤ gb114)); have n5_ := Aside0.mk ((by rw [hg]; exact Nat.ne_of_lt (blk_lt (g := gb113) (o := .cells #[.int .u32 a0_0, .int .i64 a0_1, .int .u64 a0_2, .int .i64 a0_3] 25 (0, 0)) (by (with_reducible repeat (first | refine blk_drewN ?_ _ | refine blk_drew ?_ | refine blk_alloc ?_ _)); exact BK113.out)) : gb113 ≠ gb114)); have n6_ := Aside0.mk ((by rw [hg]; exact Nat.ne_of_gt (blk_lt (g := gb113) (o := .cells #[.int .u32 a0_0, .int .i64 a0_1, .int .u64 a0_2, .int .i64 a0_3] 25 (0, 0)) (by (with_reducible repeat (first | refine blk_drewN ?_ _ | refine blk_drew ?_ | refine blk_alloc ?_ _)); exact BK113.out)) : gb114 ≠ gb113)); clear BK113; clear HB; have BK113 := n0_; have HB := n1_; have BK114 := n2_; have GW114 := n3_; have GE114 := n4_; have NB113_114 := n5_; have NB114_113 := n6_; clear n0_ n1_ n2_ n3_ n4_ n5_ n6_; clear hb hbox hg))
  (try simp only [Act.put, List.setIfInBounds_toArray, List.set_cons_zero, List.set_cons_succ])
  go_cut [12] (fun v12 wc => ∃ (kq : Nat) (x12_5 : Bool), v12 = .bool x12_5 ∧ Aside0 (lease_Grant.j0 kq a1 a2 a3 a4 x12_5 a0_0 a0_1 a0_2 a0_3 = some (r1, r2, r3, r4, r5)) ∧ Aside0 (kq ≤ k) ∧ Aside0 (wc.heap[gb113]? = some (.cells #[.int .u32 a0_0, .int .i64 a0_1, .int .u64 a0_2, .int .i64 a0_3] 25 (0, 0))) ∧ Aside0 (wc.heap[gb114]? = some (.cells #[.int .u32 0, .int .i64 0, .int .u64 0, .int .i64 0] 25 (0, 0))) ∧ Aside0 (Below w.heap.size w wc))
  case first =>
    have H := HC6.out
    clear HC6
    replace H := Option.bind_eq_some_iff.mp H
    obtain ⟨t115, A90, H⟩ := H
    replace H : (if t115 = 0 then ((lease_is.f a2).bind fun t116 => (if t116 = true then ((lease_span.f a3).bind fun t117 => (if t117 = true then (lease_Grant.j0 k a1 a2 a3 a4 (decide (a4 > 10000)) a0_0 a0_1 a0_2 a0_3) else (lease_Grant.j0 k a1 a2 a3 a4 true a0_0 a0_1 a0_2 a0_3))) else (lease_Grant.j0 k a1 a2 a3 a4 true a0_0 a0_1 a0_2 a0_3))) else (lease_Grant.j0 k a1 a2 a3 a4 true a0_0 a0_1 a0_2 a0_3)) = some (r1, r2, r3, r4, r5) := H
    have A9 := Aside0.mk A90
    clear A90
    by_cases c10 : t115 = 0
    · rw [if_pos c10] at H
      have c10b0 : (t115 == 0) = true := beq_iff_eq.mpr c10
      have c10b1 : (t115 != 0) = false := bne_eq_false_iff_eq.mpr c10
      clear c10
      (first | rw [c10b0] | (simp only [i64_w, i32_w]; rw [c10b0]) | skip)
      replace H := Option.bind_eq_some_iff.mp H
      obtain ⟨t116, A110, H⟩ := H
      replace H : (if t116 = true then ((lease_span.f a3).bind fun t117 => (if t117 = true then (lease_Grant.j0 k a1 a2 a3 a4 (decide (a4 > 10000)) a0_0 a0_1 a0_2 a0_3) else (lease_Grant.j0 k a1 a2 a3 a4 true a0_0 a0_1 a0_2 a0_3))) else (lease_Grant.j0 k a1 a2 a3 a4 true a0_0 a0_1 a0_2 a0_3)) = some (r1, r2, r3, r4, r5) := H
      have A11 := Aside0.mk A110
      clear A110
      by_cases c12 : t116 = true
      · subst c12
        have H1 : ((lease_span.f a3).bind fun t117 => (if t117 = true then (lease_Grant.j0 k a1 a2 a3 a4 (decide (a4 > 10000)) a0_0 a0_1 a0_2 a0_3) else (lease_Grant.j0 k a1 a2 a3 a4 true a0_0 a0_1 a0_2 a0_3))) = some (r1, r2, r3, r4, r5) := by rw [if_pos rfl] at H; exact H
        clear H
        have H := H1
        clear H1
        replace H := Option.bind_eq_some_iff.mp H
        obtain ⟨t117, A130, H⟩ := H
        replace H : (if t117 = true then (lease_Grant.j0 k a1 a2 a3 a4 (decide (a4 > 10000)) a0_0 a0_1 a0_2 a0_3) else (lease_Grant.j0 k a1 a2 a3 a4 true a0_0 a0_1 a0_2 a0_3)) = some (r1, r2, r3, r4, r5) := H
        have A13 := Aside0.mk A130
        clear A130
        by_cases c14 : t117 = true
        · subst c14
          have H1 : (lease_Grant.j0 k a1 a2 a3 a4 (decide (a4 > 10000)) a0_0 a0_1 a0_2 a0_3) = some (r1, r2, r3, r4, r5) := by rw [if_pos rfl] at H; exact H
          clear H
          have H := H1
          clear H1
          have H' := Aside0.mk H
          clear H
          have hnb15 := NB113_114.out
          have hnc15 := NB114_113.out
          have hcz16_0 : w8.cell? ⟨gb113, 0, none⟩ = some (.int .u32 a0_0) := (blk_cell BK113.out 0).trans rfl
          have hcz16_1 : w8.cell? ⟨gb113, 1, none⟩ = some (.int .i64 a0_1) := (blk_cell BK113.out 1).trans rfl
          have hcz16_2 : w8.cell? ⟨gb113, 2, none⟩ = some (.int .u64 a0_2) := (blk_cell BK113.out 2).trans rfl
          have hcz16_3 : w8.cell? ⟨gb113, 3, none⟩ = some (.int .i64 a0_3) := (blk_cell BK113.out 3).trans rfl
          have hfz16_0 := blk_frozen BK113.out 0
          have hfz16_1 := blk_frozen BK113.out 1
          have hfz16_2 := blk_frozen BK113.out 2
          have hfz16_3 := blk_frozen BK113.out 3
          go_wp2_with (first | ((with_reducible refine gate_callee (f := 10) rfl ?_); refine goesL_ (some 14) rfl rfl Try.func10 (by kernel_rfl) rfl #[.agg #[.int .u32 a0_0, .int .i64 a0_1, .int .u64 a0_2, .int .i64 a0_3]] rfl (by (try simp only [List.map_toArray, List.map_cons, List.map_nil]); first | done | rfl | (simp only [List.length_drop, List.length_take]; rfl)) ?_; (with_reducible refine (lease_Check.calls a0_0 a0_1 a0_2 a0_3 t115 _ A9.out).mono ?_); rintro e w17 ⟨rfl, hb⟩; refine ⟨_, rfl, ?_⟩; have n0_ := Aside0.mk (blk_below (g := gb113) (o := .cells #[.int .u32 a0_0, .int .i64 a0_1, .int .u64 a0_2, .int .i64 a0_3] 25 (0, 0)) (by (with_reducible repeat (first | refine blk_drewN ?_ _ | refine blk_drew ?_ | refine blk_alloc ?_ _)); exact BK113.out) hb); have n1_ := Aside0.mk (blk_below (g := gb114) (o := .cells #[.int .u32 0, .int .i64 0, .int .u64 0, .int .i64 0] 25 (0, 0)) (by (with_reducible repeat (first | refine blk_drewN ?_ _ | refine blk_drew ?_ | refine blk_alloc ?_ _)); exact BK114.out) hb); have n2_ := Aside0.mk (below_step (by repeat (first | (with_reducible first | exact HB.out | apply below_alloc | apply pw_below_drewN | apply below_drew1 | refine below_set ?_ GE113.out | refine below_set ?_ GE114.out) | exact HB.out)) hb); clear BK113; clear BK114; clear HB; have BK113 := n0_; have BK114 := n1_; have HB := n2_; clear n0_ n1_ n2_; (try clear hb); (try clear hb2); (try clear hk); (try clear hi)) | (go_at_call 25; (with_reducible refine (lease_is.calls a2 true _ A11.out).mono ?_); rintro e w' ⟨rfl, ⟨nd, rfl⟩⟩) | (go_at_call 26; (with_reducible refine (lease_span.calls a3 true _ A13.out).mono ?_); rintro e w' ⟨rfl, ⟨nd, rfl⟩⟩))
          go_meet
          case rel => exact ⟨_, (decide (a4 > 10000)), (by first | rfl | (simp; done) | (simp [*]; done)), H', ⟨by first | omega | exact Nat.le_refl _⟩, ⟨by (with_reducible repeat (first | refine blk_drewN ?_ _ | refine blk_drew ?_ | refine blk_alloc ?_ _)); exact BK113.out⟩, ⟨by (with_reducible repeat (first | refine blk_drewN ?_ _ | refine blk_drew ?_ | refine blk_alloc ?_ _)); exact BK114.out⟩, ⟨by repeat (first | (with_reducible first | exact HB.out | apply below_alloc | apply pw_below_drewN | apply below_drew1 | refine below_set ?_ GE113.out | refine below_set ?_ GE114.out) | exact HB.out)⟩⟩
        · replace c14 := Bool.eq_false_iff.mpr c14
          subst c14
          have H1 : (lease_Grant.j0 k a1 a2 a3 a4 true a0_0 a0_1 a0_2 a0_3) = some (r1, r2, r3, r4, r5) := by rw [if_neg (show ¬ (false = true) by decide)] at H; exact H
          clear H
          have H := H1
          clear H1
          have H' := Aside0.mk H
          clear H
          have hnb18 := NB113_114.out
          have hnc18 := NB114_113.out
          have hcz19_0 : w8.cell? ⟨gb113, 0, none⟩ = some (.int .u32 a0_0) := (blk_cell BK113.out 0).trans rfl
          have hcz19_1 : w8.cell? ⟨gb113, 1, none⟩ = some (.int .i64 a0_1) := (blk_cell BK113.out 1).trans rfl
          have hcz19_2 : w8.cell? ⟨gb113, 2, none⟩ = some (.int .u64 a0_2) := (blk_cell BK113.out 2).trans rfl
          have hcz19_3 : w8.cell? ⟨gb113, 3, none⟩ = some (.int .i64 a0_3) := (blk_cell BK113.out 3).trans rfl
          have hfz19_0 := blk_frozen BK113.out 0
          have hfz19_1 := blk_frozen BK113.out 1
          have hfz19_2 := blk_frozen BK113.out 2
          have hfz19_3 := blk_frozen BK113.out 3
          go_wp2_with (first | ((with_reducible refine gate_callee (f := 10) rfl ?_); refine goesL_ (some 14) rfl rfl Try.func10 (by kernel_rfl) rfl #[.agg #[.int .u32 a0_0, .int .i64 a0_1, .int .u64 a0_2, .int .i64 a0_3]] rfl (by (try simp only [List.map_toArray, List.map_cons, List.map_nil]); first | done | rfl | (simp only [List.length_drop, List.length_take]; rfl)) ?_; (with_reducible refine (lease_Check.calls a0_0 a0_1 a0_2 a0_3 t115 _ A9.out).mono ?_); rintro e w20 ⟨rfl, hb⟩; refine ⟨_, rfl, ?_⟩; have n0_ := Aside0.mk (blk_below (g := gb113) (o := .cells #[.int .u32 a0_0, .int .i64 a0_1, .int .u64 a0_2, .int .i64 a0_3] 25 (0, 0)) (by (with_reducible repeat (first | refine blk_drewN ?_ _ | refine blk_drew ?_ | refine blk_alloc ?_ _)); exact BK113.out) hb); have n1_ := Aside0.mk (blk_below (g := gb114) (o := .cells #[.int .u32 0, .int .i64 0, .int .u64 0, .int .i64 0] 25 (0, 0)) (by (with_reducible repeat (first | refine blk_drewN ?_ _ | refine blk_drew ?_ | refine blk_alloc ?_ _)); exact BK114.out) hb); have n2_ := Aside0.mk (below_step (by repeat (first | (with_reducible first | exact HB.out | apply below_alloc | apply pw_below_drewN | apply below_drew1 | refine below_set ?_ GE113.out | refine below_set ?_ GE114.out) | exact HB.out)) hb); clear BK113; clear BK114; clear HB; have BK113 := n0_; have BK114 := n1_; have HB := n2_; clear n0_ n1_ n2_; (try clear hb); (try clear hb2); (try clear hk); (try clear hi)) | (go_at_call 25; (with_reducible refine (lease_is.calls a2 true _ A11.out).mono ?_); rintro e w' ⟨rfl, ⟨nd, rfl⟩⟩) | (go_at_call 26; (with_reducible refine (lease_span.calls a3 false _ A13.out).mono ?_); rintro e w' ⟨rfl, ⟨nd, rfl⟩⟩))
          go_meet
          case rel => exact ⟨_, (true), (by first | rfl | (simp; done) | (simp [*]; done)), H', ⟨by first | omega | exact Nat.le_refl _⟩, ⟨by (with_reducible repeat (first | refine blk_drewN ?_ _ | refine blk_drew ?_ | refine blk_alloc ?_ _)); exact BK113.out⟩, ⟨by (with_reducible repeat (first | refine blk_drewN ?_ _ | refine blk_drew ?_ | refine blk_alloc ?_ _)); exact BK114.out⟩, ⟨by repeat (first | (with_reducible first | exact HB.out | apply below_alloc | apply pw_below_drewN | apply below_drew1 | refine below_set ?_ GE113.out | refine below_set ?_ GE114.out) | exact HB.out)⟩⟩
      · replace c12 := Bool.eq_false_iff.mpr c12
        subst c12
        have H1 : (lease_Grant.j0 k a1 a2 a3 a4 true a0_0 a0_1 a0_2 a0_3) = some (r1, r2, r3, r4, r5) := by rw [if_neg (show ¬ (false = true) by decide)] at H; exact H
        clear H
        have H := H1
        clear H1
        have H' := Aside0.mk H
        clear H
        have hnb21 := NB113_114.out
        have hnc21 := NB114_113.out
        have hcz22_0 : w8.cell? ⟨gb113, 0, none⟩ = some (.int .u32 a0_0) := (blk_cell BK113.out 0).trans rfl
        have hcz22_1 : w8.cell? ⟨gb113, 1, none⟩ = some (.int .i64 a0_1) := (blk_cell BK113.out 1).trans rfl
        have hcz22_2 : w8.cell? ⟨gb113, 2, none⟩ = some (.int .u64 a0_2) := (blk_cell BK113.out 2).trans rfl
        have hcz22_3 : w8.cell? ⟨gb113, 3, none⟩ = some (.int .i64 a0_3) := (blk_cell BK113.out 3).trans rfl
        have hfz22_0 := blk_frozen BK113.out 0
        have hfz22_1 := blk_frozen BK113.out 1
        have hfz22_2 := blk_frozen BK113.out 2
        have hfz22_3 := blk_frozen BK113.out 3
        go_wp2_with (first | ((with_reducible refine gate_callee (f := 10) rfl ?_); refine goesL_ (some 14) rfl rfl Try.func10 (by kernel_rfl) rfl #[.agg #[.int .u32 a0_0, .int .i64 a0_1, .int .u64 a0_2, .int .i64 a0_3]] rfl (by (try simp only [List.map_toArray, List.map_cons, List.map_nil]); first | done | rfl | (simp only [List.length_drop, List.length_take]; rfl)) ?_; (with_reducible refine (lease_Check.calls a0_0 a0_1 a0_2 a0_3 t115 _ A9.out).mono ?_); rintro e w23 ⟨rfl, hb⟩; refine ⟨_, rfl, ?_⟩; have n0_ := Aside0.mk (blk_below (g := gb113) (o := .cells #[.int .u32 a0_0, .int .i64 a0_1, .int .u64 a0_2, .int .i64 a0_3] 25 (0, 0)) (by (with_reducible repeat (first | refine blk_drewN ?_ _ | refine blk_drew ?_ | refine blk_alloc ?_ _)); exact BK113.out) hb); have n1_ := Aside0.mk (blk_below (g := gb114) (o := .cells #[.int .u32 0, .int .i64 0, .int .u64 0, .int .i64 0] 25 (0, 0)) (by (with_reducible repeat (first | refine blk_drewN ?_ _ | refine blk_drew ?_ | refine blk_alloc ?_ _)); exact BK114.out) hb); have n2_ := Aside0.mk (below_step (by repeat (first | (with_reducible first | exact HB.out | apply below_alloc | apply pw_below_drewN | apply below_drew1 | refine below_set ?_ GE113.out | refine below_set ?_ GE114.out) | exact HB.out)) hb); clear BK113; clear BK114; clear HB; have BK113 := n0_; have BK114 := n1_; have HB := n2_; clear n0_ n1_ n2_; (try clear hb); (try clear hb2); (try clear hk); (try clear hi)) | (go_at_call 25; (with_reducible refine (lease_is.calls a2 false _ A11.out).mono ?_); rintro e w' ⟨rfl, ⟨nd, rfl⟩⟩))
        go_meet
        case rel => exact ⟨_, (true), (by first | rfl | (simp; done) | (simp [*]; done)), H', ⟨by first | omega | exact Nat.le_refl _⟩, ⟨by (with_reducible repeat (first | refine blk_drewN ?_ _ | refine blk_drew ?_ | refine blk_alloc ?_ _)); exact BK113.out⟩, ⟨by (with_reducible repeat (first | refine blk_drewN ?_ _ | refine blk_drew ?_ | refine blk_alloc ?_ _)); exact BK114.out⟩, ⟨by repeat (first | (with_reducible first | exact HB.out | apply below_alloc | apply pw_below_drewN | apply below_drew1 | refine below_set ?_ GE113.out | refine below_set ?_ GE114.out) | exact HB.out)⟩⟩
    · rw [if_neg c10] at H
      have c10b0 : (t115 == 0) = false := beq_eq_false_iff_ne.mpr c10
      have c10b1 : (t115 != 0) = true := bne_iff_ne.mpr c10
      (first | rw [c10b0] | (simp only [i64_w, i32_w]; rw [c10b0]) | skip)
      have H' := Aside0.mk H
      clear H
      have hnb24 := NB113_114.out
      have hnc24 := NB114_113.out
      have hcz25_0 : w8.cell? ⟨gb113, 0, none⟩ = some (.int .u32 a0_0) := (blk_cell BK113.out 0).trans rfl
      have hcz25_1 : w8.cell? ⟨gb113, 1, none⟩ = some (.int .i64 a0_1) := (blk_cell BK113.out 1).trans rfl
      have hcz25_2 : w8.cell? ⟨gb113, 2, none⟩ = some (.int .u64 a0_2) := (blk_cell BK113.out 2).trans rfl
      have hcz25_3 : w8.cell? ⟨gb113, 3, none⟩ = some (.int .i64 a0_3) := (blk_cell BK113.out 3).trans rfl
      have hfz25_0 := blk_frozen BK113.out 0
      have hfz25_1 := blk_frozen BK113.out 1
      have hfz25_2 := blk_frozen BK113.out 2
      have hfz25_3 := blk_frozen BK113.out 3
      go_wp2_with (first | ((with_reducible refine gate_callee (f := 10) rfl ?_); refine goesL_ (some 14) rfl rfl Try.func10 (by kernel_rfl) rfl #[.agg #[.int .u32 a0_0, .int .i64 a0_1, .int .u64 a0_2, .int .i64 a0_3]] rfl (by (try simp only [List.map_toArray, List.map_cons, List.map_nil]); first | done | rfl | (simp only [List.length_drop, List.length_take]; rfl)) ?_; (with_reducible refine (lease_Check.calls a0_0 a0_1 a0_2 a0_3 t115 _ A9.out).mono ?_); rintro e w26 ⟨rfl, hb⟩; refine ⟨_, rfl, ?_⟩; have n0_ := Aside0.mk (blk_below (g := gb113) (o := .cells #[.int .u32 a0_0, .int .i64 a0_1, .int .u64 a0_2, .int .i64 a0_3] 25 (0, 0)) (by (with_reducible repeat (first | refine blk_drewN ?_ _ | refine blk_drew ?_ | refine blk_alloc ?_ _)); exact BK113.out) hb); have n1_ := Aside0.mk (blk_below (g := gb114) (o := .cells #[.int .u32 0, .int .i64 0, .int .u64 0, .int .i64 0] 25 (0, 0)) (by (with_reducible repeat (first | refine blk_drewN ?_ _ | refine blk_drew ?_ | refine blk_alloc ?_ _)); exact BK114.out) hb); have n2_ := Aside0.mk (below_step (by repeat (first | (with_reducible first | exact HB.out | apply below_alloc | apply pw_below_drewN | apply below_drew1 | refine below_set ?_ GE113.out | refine below_set ?_ GE114.out) | exact HB.out)) hb); clear BK113; clear BK114; clear HB; have BK113 := n0_; have BK114 := n1_; have HB := n2_; clear n0_ n1_ n2_; (try clear hb); (try clear hb2); (try clear hk); (try clear hi)))
      go_meet
      case rel => exact ⟨_, (true), (by first | rfl | (simp; done) | (simp [*]; done)), H', ⟨by first | omega | exact Nat.le_refl _⟩, ⟨by (with_reducible repeat (first | refine blk_drewN ?_ _ | refine blk_drew ?_ | refine blk_alloc ?_ _)); exact BK113.out⟩, ⟨by (with_reducible repeat (first | refine blk_drewN ?_ _ | refine blk_drew ?_ | refine blk_alloc ?_ _)); exact BK114.out⟩, ⟨by repeat (first | (with_reducible first | exact HB.out | apply below_alloc | apply pw_below_drewN | apply below_drew1 | refine below_set ?_ GE113.out | refine below_set ?_ GE114.out) | exact HB.out)⟩⟩
  case rest =>
    clear HC6
    try clear c1
    try clear c2
    try clear p2
    try clear c10
    try clear c10b0
    try clear c10b1
    try clear c12
    try clear c14
    try clear c15
    try clear c17
    try clear c18
    try clear c21
    try clear c24
    try clear hcz16_0
    try clear hcz16_1
    try clear hcz16_2
    try clear hcz16_3
    try clear hcz19_0
    try clear hcz19_1
    try clear hcz19_2
    try clear hcz19_3
    try clear hcz22_0
    try clear hcz22_1
    try clear hcz22_2
    try clear hcz22_3
    try clear hcz25_0
    try clear hcz25_1
    try clear hcz25_2
    try clear hcz25_3
    try clear hfz16_0
    try clear hfz16_1
    try clear hfz16_2
    try clear hfz16_3
    try clear hfz19_0
    try clear hfz19_1
    try clear hfz19_2
    try clear hfz19_3
    try clear hfz22_0
    try clear hfz22_1
    try clear hfz22_2
    try clear hfz22_3
    try clear hfz25_0
    try clear hfz25_1
    try clear hfz25_2
    try clear hfz25_3
    obtain ⟨kq, x12_5, rfl, HA, HJ5, BK113, BK114, HB⟩ := hcut
    cases kq with
    | zero => exact absurd HA.out (by simp [lease_Grant.j0])
    | succ kj5 =>
      have H := HA.out
      clear HA
      simp only [lease_Grant.j0] at H
      by_cases c27 : x12_5 = true
      · subst c27
        have H1 : (some (0, 0, 0, 0, 2)) = some (r1, r2, r3, r4, r5) := by rw [if_pos rfl] at H; exact H
        clear H
        have H := H1
        clear H1
        simp only [Option.some.injEq, Prod.mk.injEq] at H
        obtain ⟨rfl, rfl, rfl, rfl, rfl⟩ := H
        have hnb28 := NB114_113.out
        have hnc28 := NB113_114.out
        have hcz29_0 : wc.cell? ⟨gb114, 0, none⟩ = some (.int .u32 0) := (blk_cell BK114.out 0).trans rfl
        have hcz29_1 : wc.cell? ⟨gb114, 1, none⟩ = some (.int .i64 0) := (blk_cell BK114.out 1).trans rfl
        have hcz29_2 : wc.cell? ⟨gb114, 2, none⟩ = some (.int .u64 0) := (blk_cell BK114.out 2).trans rfl
        have hcz29_3 : wc.cell? ⟨gb114, 3, none⟩ = some (.int .i64 0) := (blk_cell BK114.out 3).trans rfl
        have hfz29_0 := blk_frozen BK114.out 0
        have hfz29_1 := blk_frozen BK114.out 1
        have hfz29_2 := blk_frozen BK114.out 2
        have hfz29_3 := blk_frozen BK114.out 3
        go_wp2
        refine bodyPost_ret (results_ct rfl _ _ gb114 25 #[.int .u32 0, .int .i64 0, .int .u64 0, .int .i64 0] (0, 0) _ rfl (by (with_reducible repeat (first | refine blk_drewN ?_ _ | refine blk_drew ?_ | refine blk_alloc ?_ _)); refine blk_put (cs := #[.int .u32 0, .int .i64 0, .int .u64 0, .int .i64 0]) ?_ 3 _ rfl; (with_reducible repeat (first | refine blk_drewN ?_ _ | refine blk_drew ?_ | refine blk_alloc ?_ _)); refine blk_put (cs := #[.int .u32 0, .int .i64 0, .int .u64 0, .int .i64 0]) ?_ 2 _ rfl; (with_reducible repeat (first | refine blk_drewN ?_ _ | refine blk_drew ?_ | refine blk_alloc ?_ _)); refine blk_put (cs := #[.int .u32 0, .int .i64 0, .int .u64 0, .int .i64 0]) ?_ 1 _ rfl; (with_reducible repeat (first | refine blk_drewN ?_ _ | refine blk_drew ?_ | refine blk_alloc ?_ _)); refine blk_put (cs := #[.int .u32 0, .int .i64 0, .int .u64 0, .int .i64 0]) ?_ 0 _ rfl; (with_reducible repeat (first | refine blk_drewN ?_ _ | refine blk_drew ?_ | refine blk_alloc ?_ _)); exact BK114.out) Try.underlying25 rfl (by kernel_rfl)) rfl ?_
        exact ⟨by first | rfl | (simp [errW_none, errW_some] <;> rfl) | (simp [*, errW_none, errW_some] <;> rfl), by repeat (first | (with_reducible first | exact HB.out | apply below_alloc | apply pw_below_drewN | apply below_drew1 | refine below_set ?_ GE113.out | refine below_set ?_ GE114.out) | exact HB.out)⟩
      · replace c27 := Bool.eq_false_iff.mpr c27
        subst c27
        have H1 : (if a1 > 4611686018427387904 then (lease_Grant.j1 kj5 a1 a2 a3 a4 true a0_0 a0_1 a0_2 a0_3) else (lease_Grant.j1 kj5 a1 a2 a3 a4 (a0_0 == 4294967295) a0_0 a0_1 a0_2 a0_3)) = some (r1, r2, r3, r4, r5) := by rw [if_neg (show ¬ (false = true) by decide)] at H; exact H
        clear H
        have H := H1
        clear H1
        have HC30 := Aside0.mk H
        clear H
        go_upto_region 3 with (fail)
        go_cut [31] (fun v31 wc => ∃ (kq : Nat) (x31_29 : Bool), v31 = .bool x31_29 ∧ Aside0 (lease_Grant.j1 kq a1 a2 a3 a4 x31_29 a0_0 a0_1 a0_2 a0_3 = some (r1, r2, r3, r4, r5)) ∧ Aside0 (kq ≤ kj5) ∧ Aside0 (wc.heap[gb113]? = some (.cells #[.int .u32 a0_0, .int .i64 a0_1, .int .u64 a0_2, .int .i64 a0_3] 25 (0, 0))) ∧ Aside0 (wc.heap[gb114]? = some (.cells #[.int .u32 0, .int .i64 0, .int .u64 0, .int .i64 0] 25 (0, 0))) ∧ Aside0 (Below w.heap.size w wc))
        case first =>
          have H := HC30.out
          clear HC30
          by_cases c31 : a1 > 4611686018427387904
          · rw [if_pos c31] at H
            have c31b0 : decide (4611686018427387904 < a1) = true := decide_eq_true c31
            clear c31
            (first | rw [c31b0] | (simp only [i64_w, i32_w]; rw [c31b0]) | skip)
            have H' := Aside0.mk H
            clear H
            go_wp2
            go_meet
            case rel => exact ⟨_, (true), (by first | rfl | (simp; done) | (simp [*]; done)), H', ⟨by have := HJ5.out; first | omega | exact Nat.le_refl _⟩, ⟨by (with_reducible repeat (first | refine blk_drewN ?_ _ | refine blk_drew ?_ | refine blk_alloc ?_ _)); exact BK113.out⟩, ⟨by (with_reducible repeat (first | refine blk_drewN ?_ _ | refine blk_drew ?_ | refine blk_alloc ?_ _)); exact BK114.out⟩, ⟨by repeat (first | (with_reducible first | exact HB.out | apply below_alloc | apply pw_below_drewN | apply below_drew1 | refine below_set ?_ GE113.out | refine below_set ?_ GE114.out) | exact HB.out)⟩⟩
          · rw [if_neg c31] at H
            have c31b0 : decide (4611686018427387904 < a1) = false := decide_eq_false c31
            clear c31
            (first | rw [c31b0] | (simp only [i64_w, i32_w]; rw [c31b0]) | skip)
            have H' := Aside0.mk H
            clear H
            have hnb32 := NB113_114.out
            have hnc32 := NB114_113.out
            have hcz33_0 : wc.cell? ⟨gb113, 0, none⟩ = some (.int .u32 a0_0) := (blk_cell BK113.out 0).trans rfl
            have hcz33_1 : wc.cell? ⟨gb113, 1, none⟩ = some (.int .i64 a0_1) := (blk_cell BK113.out 1).trans rfl
            have hcz33_2 : wc.cell? ⟨gb113, 2, none⟩ = some (.int .u64 a0_2) := (blk_cell BK113.out 2).trans rfl
            have hcz33_3 : wc.cell? ⟨gb113, 3, none⟩ = some (.int .i64 a0_3) := (blk_cell BK113.out 3).trans rfl
            have hfz33_0 := blk_frozen BK113.out 0
            have hfz33_1 := blk_frozen BK113.out 1
            have hfz33_2 := blk_frozen BK113.out 2
            have hfz33_3 := blk_frozen BK113.out 3
            go_wp2
            go_meet
            case rel => exact ⟨_, ((a0_0 == 4294967295)), (by first | rfl | (simp; done) | (simp [*]; done)), H', ⟨by have := HJ5.out; first | omega | exact Nat.le_refl _⟩, ⟨by (with_reducible repeat (first | refine blk_drewN ?_ _ | refine blk_drew ?_ | refine blk_alloc ?_ _)); exact BK113.out⟩, ⟨by (with_reducible repeat (first | refine blk_drewN ?_ _ | refine blk_drew ?_ | refine blk_alloc ?_ _)); exact BK114.out⟩, ⟨by repeat (first | (with_reducible first | exact HB.out | apply below_alloc | apply pw_below_drewN | apply below_drew1 | refine below_set ?_ GE113.out | refine below_set ?_ GE114.out) | exact HB.out)⟩⟩
        case rest =>
          clear HC30
          try clear c1
          try clear c2
          try clear p2
          try clear c3
          try clear c10
          try clear c10b0
          try clear c10b1
          try clear c12
          try clear c14
          try clear c15
          try clear c17
          try clear c18
          try clear c21
          try clear c24
          try clear c27
          try clear c28
          try clear c31
          try clear c31b0
          try clear c32
          try clear hcz16_0
          try clear hcz16_1
          try clear hcz16_2
          try clear hcz16_3
          try clear hcz19_0
          try clear hcz19_1
          try clear hcz19_2
          try clear hcz19_3
          try clear hcz22_0
          try clear hcz22_1
          try clear hcz22_2
          try clear hcz22_3
          try clear hcz25_0
          try clear hcz25_1
          try clear hcz25_2
          try clear hcz25_3
          try clear hcz29_0
          try clear hcz29_1
          try clear hcz29_2
          try clear hcz29_3
          try clear hcz33_0
          try clear hcz33_1
          try clear hcz33_2
          try clear hcz33_3
          try clear hfz16_0
          try clear hfz16_1
          try clear hfz16_2
          try clear hfz16_3
          try clear hfz19_0
          try clear hfz19_1
          try clear hfz19_2
          try clear hfz19_3
          try clear hfz22_0
          try clear hfz22_1
          try clear hfz22_2
          try clear hfz22_3
          try clear hfz25_0
          try clear hfz25_1
          try clear hfz25_2
          try clear hfz25_3
          try clear hfz29_0
          try clear hfz29_1
          try clear hfz29_2
          try clear hfz29_3
          try clear hfz33_0
          try clear hfz33_1
          try clear hfz33_2
          try clear hfz33_3
          try clear p2
          obtain ⟨kq, x31_29, rfl, HA, HJ29, BK113, BK114, HB⟩ := hcut
          cases kq with
          | zero => exact absurd HA.out (by simp [lease_Grant.j1])
          | succ kj29 =>
            have H := HA.out
            clear HA
            simp only [lease_Grant.j1] at H
            by_cases c34 : x31_29 = true
            · subst c34
              have H1 : (some (0, 0, 0, 0, 71)) = some (r1, r2, r3, r4, r5) := by rw [if_pos rfl] at H; exact H
              clear H
              have H := H1
              clear H1
              simp only [Option.some.injEq, Prod.mk.injEq] at H
              obtain ⟨rfl, rfl, rfl, rfl, rfl⟩ := H
              have hnb35 := NB114_113.out
              have hnc35 := NB113_114.out
              have hcz36_0 : wc.cell? ⟨gb114, 0, none⟩ = some (.int .u32 0) := (blk_cell BK114.out 0).trans rfl
              have hcz36_1 : wc.cell? ⟨gb114, 1, none⟩ = some (.int .i64 0) := (blk_cell BK114.out 1).trans rfl
              have hcz36_2 : wc.cell? ⟨gb114, 2, none⟩ = some (.int .u64 0) := (blk_cell BK114.out 2).trans rfl
              have hcz36_3 : wc.cell? ⟨gb114, 3, none⟩ = some (.int .i64 0) := (blk_cell BK114.out 3).trans rfl
              have hfz36_0 := blk_frozen BK114.out 0
              have hfz36_1 := blk_frozen BK114.out 1
              have hfz36_2 := blk_frozen BK114.out 2
              have hfz36_3 := blk_frozen BK114.out 3
              go_wp2
              refine bodyPost_ret (results_ct rfl _ _ gb114 25 #[.int .u32 0, .int .i64 0, .int .u64 0, .int .i64 0] (0, 0) _ rfl (by (with_reducible repeat (first | refine blk_drewN ?_ _ | refine blk_drew ?_ | refine blk_alloc ?_ _)); refine blk_put (cs := #[.int .u32 0, .int .i64 0, .int .u64 0, .int .i64 0]) ?_ 3 _ rfl; (with_reducible repeat (first | refine blk_drewN ?_ _ | refine blk_drew ?_ | refine blk_alloc ?_ _)); refine blk_put (cs := #[.int .u32 0, .int .i64 0, .int .u64 0, .int .i64 0]) ?_ 2 _ rfl; (with_reducible repeat (first | refine blk_drewN ?_ _ | refine blk_drew ?_ | refine blk_alloc ?_ _)); refine blk_put (cs := #[.int .u32 0, .int .i64 0, .int .u64 0, .int .i64 0]) ?_ 1 _ rfl; (with_reducible repeat (first | refine blk_drewN ?_ _ | refine blk_drew ?_ | refine blk_alloc ?_ _)); refine blk_put (cs := #[.int .u32 0, .int .i64 0, .int .u64 0, .int .i64 0]) ?_ 0 _ rfl; (with_reducible repeat (first | refine blk_drewN ?_ _ | refine blk_drew ?_ | refine blk_alloc ?_ _)); exact BK114.out) Try.underlying25 rfl (by kernel_rfl)) rfl ?_
              exact ⟨by first | rfl | (simp [errW_none, errW_some] <;> rfl) | (simp [*, errW_none, errW_some] <;> rfl), by repeat (first | (with_reducible first | exact HB.out | apply below_alloc | apply pw_below_drewN | apply below_drew1 | refine below_set ?_ GE113.out | refine below_set ?_ GE114.out) | exact HB.out)⟩
            · replace c34 := Bool.eq_false_iff.mpr c34
              subst c34
              have H1 : ((lease_Free.f a0_0 a0_1 a0_2 a0_3 a1 a4).bind fun t118 => (if t118 = true then (some ((a0_0 + 1) % 4294967296, a2, IntKind.u64.wrap (a1 + a3), a0_3, 0)) else (some (0, 0, 0, 0, 70)))) = some (r1, r2, r3, r4, r5) := by rw [if_neg (show ¬ (false = true) by decide)] at H; exact H
              clear H
              have H := H1
              clear H1
              replace H := Option.bind_eq_some_iff.mp H
              obtain ⟨t118, A370, H⟩ := H
              replace H : (if t118 = true then (some ((a0_0 + 1) % 4294967296, a2, IntKind.u64.wrap (a1 + a3), a0_3, 0)) else (some (0, 0, 0, 0, 70))) = some (r1, r2, r3, r4, r5) := H
              have A37 := Aside0.mk A370
              clear A370
              by_cases c38 : t118 = true
              · subst c38
                have H1 : (some ((a0_0 + 1) % 4294967296, a2, IntKind.u64.wrap (a1 + a3), a0_3, 0)) = some (r1, r2, r3, r4, r5) := by rw [if_pos rfl] at H; exact H
                clear H
                have H := H1
                clear H1
                simp only [Option.some.injEq, Prod.mk.injEq] at H
                obtain ⟨rfl, rfl, rfl, rfl, rfl⟩ := H
                have hnb39 := NB113_114.out
                have hnc39 := NB114_113.out
                have hcz40_0 : wc.cell? ⟨gb113, 0, none⟩ = some (.int .u32 a0_0) := (blk_cell BK113.out 0).trans rfl
                have hcz40_1 : wc.cell? ⟨gb113, 1, none⟩ = some (.int .i64 a0_1) := (blk_cell BK113.out 1).trans rfl
                have hcz40_2 : wc.cell? ⟨gb113, 2, none⟩ = some (.int .u64 a0_2) := (blk_cell BK113.out 2).trans rfl
                have hcz40_3 : wc.cell? ⟨gb113, 3, none⟩ = some (.int .i64 a0_3) := (blk_cell BK113.out 3).trans rfl
                have hfz40_0 := blk_frozen BK113.out 0
                have hfz40_1 := blk_frozen BK113.out 1
                have hfz40_2 := blk_frozen BK113.out 2
                have hfz40_3 := blk_frozen BK113.out 3
                go_wp2_with (first | ((with_reducible refine gate_callee (f := 12) rfl ?_); refine goesL_ (some 44) rfl rfl Try.func12 (by kernel_rfl) rfl #[.agg #[.int .u32 a0_0, .int .i64 a0_1, .int .u64 a0_2, .int .i64 a0_3], .int .u64 a1, .int .u64 a4] rfl (by (try simp only [List.map_toArray, List.map_cons, List.map_nil]); first | done | rfl | (simp only [List.length_drop, List.length_take]; rfl)) ?_; (with_reducible refine (lease_Free.calls a0_0 a0_1 a0_2 a0_3 a1 a4 true _ A37.out).mono ?_); rintro e w41 ⟨rfl, hb⟩; refine ⟨_, rfl, ?_⟩; have n0_ := Aside0.mk (blk_below (g := gb113) (o := .cells #[.int .u32 a0_0, .int .i64 a0_1, .int .u64 a0_2, .int .i64 a0_3] 25 (0, 0)) (by (with_reducible repeat (first | refine blk_drewN ?_ _ | refine blk_drew ?_ | refine blk_alloc ?_ _)); exact BK113.out) hb); have n1_ := Aside0.mk (blk_below (g := gb114) (o := .cells #[.int .u32 0, .int .i64 0, .int .u64 0, .int .i64 0] 25 (0, 0)) (by (with_reducible repeat (first | refine blk_drewN ?_ _ | refine blk_drew ?_ | refine blk_alloc ?_ _)); exact BK114.out) hb); have n2_ := Aside0.mk (below_step (by repeat (first | (with_reducible first | exact HB.out | apply below_alloc | apply pw_below_drewN | apply below_drew1 | refine below_set ?_ GE113.out | refine below_set ?_ GE114.out) | exact HB.out)) hb); clear BK113; clear BK114; clear HB; have BK113 := n0_; have BK114 := n1_; have HB := n2_; clear n0_ n1_ n2_; (try clear hb); (try clear hb2); (try clear hk); (try clear hi); have hcz42_0 : w41.cell? ⟨gb113, 0, none⟩ = some (.int .u32 a0_0) := (blk_cell BK113.out 0).trans rfl; have hcz42_1 : w41.cell? ⟨gb113, 1, none⟩ = some (.int .i64 a0_1) := (blk_cell BK113.out 1).trans rfl; have hcz42_2 : w41.cell? ⟨gb113, 2, none⟩ = some (.int .u64 a0_2) := (blk_cell BK113.out 2).trans rfl; have hcz42_3 : w41.cell? ⟨gb113, 3, none⟩ = some (.int .i64 a0_3) := (blk_cell BK113.out 3).trans rfl; have hfz42_0 := blk_frozen BK113.out 0; have hfz42_1 := blk_frozen BK113.out 1; have hfz42_2 := blk_frozen BK113.out 2; have hfz42_3 := blk_frozen BK113.out 3; have hcz43_0 : w41.cell? ⟨gb114, 0, none⟩ = some (.int .u32 0) := (blk_cell BK114.out 0).trans rfl; have hcz43_1 : w41.cell? ⟨gb114, 1, none⟩ = some (.int .i64 0) := (blk_cell BK114.out 1).trans rfl; have hcz43_2 : w41.cell? ⟨gb114, 2, none⟩ = some (.int .u64 0) := (blk_cell BK114.out 2).trans rfl; have hcz43_3 : w41.cell? ⟨gb114, 3, none⟩ = some (.int .i64 0) := (blk_cell BK114.out 3).trans rfl; have hfz43_0 := blk_frozen BK114.out 0; have hfz43_1 := blk_frozen BK114.out 1; have hfz43_2 := blk_frozen BK114.out 2; have hfz43_3 := blk_frozen BK114.out 3))
                refine bodyPost_ret (results_ct rfl _ _ gb114 25 #[.int .u32 ((a0_0 + 1) % 4294967296), .int .i64 a2, .int .u64 (IntKind.u64.wrap (a1 + a3)), .int .i64 a0_3] (0, 0) _ rfl (by (with_reducible repeat (first | refine blk_drewN ?_ _ | refine blk_drew ?_ | refine blk_alloc ?_ _)); refine blk_put (cs := #[.int .u32 ((a0_0 + 1) % 4294967296), .int .i64 a2, .int .u64 (IntKind.u64.wrap (a1 + a3)), .int .i64 0]) ?_ 3 _ rfl; (with_reducible repeat (first | refine blk_drewN ?_ _ | refine blk_drew ?_ | refine blk_alloc ?_ _)); refine blk_put (cs := #[.int .u32 ((a0_0 + 1) % 4294967296), .int .i64 a2, .int .u64 0, .int .i64 0]) ?_ 2 _ rfl; (with_reducible repeat (first | refine blk_drewN ?_ _ | refine blk_drew ?_ | refine blk_alloc ?_ _)); refine blk_put (cs := #[.int .u32 ((a0_0 + 1) % 4294967296), .int .i64 0, .int .u64 0, .int .i64 0]) ?_ 1 _ rfl; (with_reducible repeat (first | refine blk_drewN ?_ _ | refine blk_drew ?_ | refine blk_alloc ?_ _)); refine blk_put (cs := #[.int .u32 0, .int .i64 0, .int .u64 0, .int .i64 0]) ?_ 0 _ rfl; (with_reducible repeat (first | refine blk_drewN ?_ _ | refine blk_drew ?_ | refine blk_alloc ?_ _)); exact BK114.out) Try.underlying25 rfl (by kernel_rfl)) rfl ?_
                exact ⟨by first | rfl | (simp [errW_none, errW_some] <;> rfl) | (simp [*, errW_none, errW_some] <;> rfl), by repeat (first | (with_reducible first | exact HB.out | apply below_alloc | apply pw_below_drewN | apply below_drew1 | refine below_set ?_ GE113.out | refine below_set ?_ GE114.out) | exact HB.out)⟩
              · replace c38 := Bool.eq_false_iff.mpr c38
                subst c38
                have H1 : (some (0, 0, 0, 0, 70)) = some (r1, r2, r3, r4, r5) := by rw [if_neg (show ¬ (false = true) by decide)] at H; exact H
                clear H
                have H := H1
                clear H1
                simp only [Option.some.injEq, Prod.mk.injEq] at H
                obtain ⟨rfl, rfl, rfl, rfl, rfl⟩ := H
                have hnb44 := NB113_114.out
                have hnc44 := NB114_113.out
                have hcz45_0 : wc.cell? ⟨gb113, 0, none⟩ = some (.int .u32 a0_0) := (blk_cell BK113.out 0).trans rfl
                have hcz45_1 : wc.cell? ⟨gb113, 1, none⟩ = some (.int .i64 a0_1) := (blk_cell BK113.out 1).trans rfl
                have hcz45_2 : wc.cell? ⟨gb113, 2, none⟩ = some (.int .u64 a0_2) := (blk_cell BK113.out 2).trans rfl
                have hcz45_3 : wc.cell? ⟨gb113, 3, none⟩ = some (.int .i64 a0_3) := (blk_cell BK113.out 3).trans rfl
                have hfz45_0 := blk_frozen BK113.out 0
                have hfz45_1 := blk_frozen BK113.out 1
                have hfz45_2 := blk_frozen BK113.out 2
                have hfz45_3 := blk_frozen BK113.out 3
                go_wp2_with (first | ((with_reducible refine gate_callee (f := 12) rfl ?_); refine goesL_ (some 44) rfl rfl Try.func12 (by kernel_rfl) rfl #[.agg #[.int .u32 a0_0, .int .i64 a0_1, .int .u64 a0_2, .int .i64 a0_3], .int .u64 a1, .int .u64 a4] rfl (by (try simp only [List.map_toArray, List.map_cons, List.map_nil]); first | done | rfl | (simp only [List.length_drop, List.length_take]; rfl)) ?_; (with_reducible refine (lease_Free.calls a0_0 a0_1 a0_2 a0_3 a1 a4 false _ A37.out).mono ?_); rintro e w46 ⟨rfl, hb⟩; refine ⟨_, rfl, ?_⟩; have n0_ := Aside0.mk (blk_below (g := gb113) (o := .cells #[.int .u32 a0_0, .int .i64 a0_1, .int .u64 a0_2, .int .i64 a0_3] 25 (0, 0)) (by (with_reducible repeat (first | refine blk_drewN ?_ _ | refine blk_drew ?_ | refine blk_alloc ?_ _)); exact BK113.out) hb); have n1_ := Aside0.mk (blk_below (g := gb114) (o := .cells #[.int .u32 0, .int .i64 0, .int .u64 0, .int .i64 0] 25 (0, 0)) (by (with_reducible repeat (first | refine blk_drewN ?_ _ | refine blk_drew ?_ | refine blk_alloc ?_ _)); exact BK114.out) hb); have n2_ := Aside0.mk (below_step (by repeat (first | (with_reducible first | exact HB.out | apply below_alloc | apply pw_below_drewN | apply below_drew1 | refine below_set ?_ GE113.out | refine below_set ?_ GE114.out) | exact HB.out)) hb); clear BK113; clear BK114; clear HB; have BK113 := n0_; have BK114 := n1_; have HB := n2_; clear n0_ n1_ n2_; (try clear hb); (try clear hb2); (try clear hk); (try clear hi); have hcz47_0 : w46.cell? ⟨gb114, 0, none⟩ = some (.int .u32 0) := (blk_cell BK114.out 0).trans rfl; have hcz47_1 : w46.cell? ⟨gb114, 1, none⟩ = some (.int .i64 0) := (blk_cell BK114.out 1).trans rfl; have hcz47_2 : w46.cell? ⟨gb114, 2, none⟩ = some (.int .u64 0) := (blk_cell BK114.out 2).trans rfl; have hcz47_3 : w46.cell? ⟨gb114, 3, none⟩ = some (.int .i64 0) := (blk_cell BK114.out 3).trans rfl; have hfz47_0 := blk_frozen BK114.out 0; have hfz47_1 := blk_frozen BK114.out 1; have hfz47_2 := blk_frozen BK114.out 2; have hfz47_3 := blk_frozen BK114.out 3))
                refine bodyPost_ret (results_ct rfl _ _ gb114 25 #[.int .u32 0, .int .i64 0, .int .u64 0, .int .i64 0] (0, 0) _ rfl (by (with_reducible repeat (first | refine blk_drewN ?_ _ | refine blk_drew ?_ | refine blk_alloc ?_ _)); refine blk_put (cs := #[.int .u32 0, .int .i64 0, .int .u64 0, .int .i64 0]) ?_ 3 _ rfl; (with_reducible repeat (first | refine blk_drewN ?_ _ | refine blk_drew ?_ | refine blk_alloc ?_ _)); refine blk_put (cs := #[.int .u32 0, .int .i64 0, .int .u64 0, .int .i64 0]) ?_ 2 _ rfl; (with_reducible repeat (first | refine blk_drewN ?_ _ | refine blk_drew ?_ | refine blk_alloc ?_ _)); refine blk_put (cs := #[.int .u32 0, .int .i64 0, .int .u64 0, .int .i64 0]) ?_ 1 _ rfl; (with_reducible repeat (first | refine blk_drewN ?_ _ | refine blk_drew ?_ | refine blk_alloc ?_ _)); refine blk_put (cs := #[.int .u32 0, .int .i64 0, .int .u64 0, .int .i64 0]) ?_ 0 _ rfl; (with_reducible repeat (first | refine blk_drewN ?_ _ | refine blk_drew ?_ | refine blk_alloc ?_ _)); exact BK114.out) Try.underlying25 rfl (by kernel_rfl)) rfl ?_
                exact ⟨by first | rfl | (simp [errW_none, errW_some] <;> rfl) | (simp [*, errW_none, errW_some] <;> rfl), by repeat (first | (with_reducible first | exact HB.out | apply below_alloc | apply pw_below_drewN | apply below_drew1 | refine below_set ?_ GE113.out | refine below_set ?_ GE114.out) | exact HB.out)⟩

/-! ### drayagelaw07_empty: function 19 -/
def drayagelaw07_empty.f  : Option (Int × Int × Int × Int) := some (0, 0, 0, 1)
set_option maxHeartbeats 8000000 in
set_option maxRecDepth 100000 in
theorem drayagelaw07_empty.calls  (r1 : Int) (r2 : Int) (r3 : Int) (r4 : Int) (w : World) (h : drayagelaw07_empty.f  = some (r1, r2, r3, r4)) :
    Calls Try.prog 19 #[] w fun e w' => e = .returned (.agg #[.int .u32 r1, .int .i64 r2, .int .u64 r3, .int .i64 r4]) ∧ Below w.heap.size w w' := by
  have hu25 := Try.underlying25
  have HB := Aside0.mk (Below.refl w.heap.size w)
  have H : (some (0, 0, 0, 1)) = some (r1, r2, r3, r4) := h
  clear h
  simp only [Option.some.injEq, Prod.mk.injEq] at H
  obtain ⟨rfl, rfl, rfl, rfl⟩ := H
  go_enter Try.func19, Try.ntmps19
  go_wp2_with (first | ((with_reducible refine gate_dst (N := 0) rfl ?_); refine box_event ?hg (N := 0) ?hd (cs := #[.int .u32 0, .int .i64 0, .int .u64 0, .int .i64 0]) (t := 25) ?hr ?_; (case hd => rfl); (case hg => rfl); (case hr => first | (go_simp; done) | (go_simp; rfl)); intro gb119 hg w1 hbox hb; have n0_ := Aside0.mk (below_step (by repeat (first | (with_reducible first | exact HB.out | apply below_alloc | apply pw_below_drewN | apply below_drew1) | exact HB.out)) hb); have n1_ := Aside0.mk (hbox); have n2_ := Aside0.mk ((by rw [hg]; exact (below_size (by repeat (first | (with_reducible first | exact HB.out | apply below_alloc | apply pw_below_drewN | apply below_drew1) | exact HB.out))) : w.heap.size ≤ gb119)); have n3_ := Aside0.mk ((by rw [hg]; exact (below_size (by repeat (first | (with_reducible first | exact HB.out | apply below_alloc | apply pw_below_drewN | apply below_drew1) | exact HB.out))) : w.heap.size ≤ gb119)); clear HB; have HB := n0_; have BK119 := n1_; have GW119 := n2_; have GE119 := n3_; clear n0_ n1_ n2_ n3_; clear hb hbox hg; have hcz2_0 : w1.cell? ⟨gb119, 0, none⟩ = some (.int .u32 0) := (blk_cell BK119.out 0).trans rfl; have hcz2_1 : w1.cell? ⟨gb119, 1, none⟩ = some (.int .i64 0) := (blk_cell BK119.out 1).trans rfl; have hcz2_2 : w1.cell? ⟨gb119, 2, none⟩ = some (.int .u64 0) := (blk_cell BK119.out 2).trans rfl; have hcz2_3 : w1.cell? ⟨gb119, 3, none⟩ = some (.int .i64 0) := (blk_cell BK119.out 3).trans rfl; have hfz2_0 := blk_frozen BK119.out 0; have hfz2_1 := blk_frozen BK119.out 1; have hfz2_2 := blk_frozen BK119.out 2; have hfz2_3 := blk_frozen BK119.out 3))
  refine bodyPost_ret (results_cell_row rfl _ _ gb119 25 #[.int .u32 0, .int .i64 0, .int .u64 0, .int .i64 1] (0, 0) _ rfl (by (with_reducible repeat (first | refine blk_drewN ?_ _ | refine blk_drew ?_ | refine blk_alloc ?_ _)); refine blk_put (cs := #[.int .u32 0, .int .i64 0, .int .u64 0, .int .i64 0]) ?_ 3 _ rfl; (with_reducible repeat (first | refine blk_drewN ?_ _ | refine blk_drew ?_ | refine blk_alloc ?_ _)); refine blk_put (cs := #[.int .u32 0, .int .i64 0, .int .u64 0, .int .i64 0]) ?_ 2 _ rfl; (with_reducible repeat (first | refine blk_drewN ?_ _ | refine blk_drew ?_ | refine blk_alloc ?_ _)); refine blk_put (cs := #[.int .u32 0, .int .i64 0, .int .u64 0, .int .i64 0]) ?_ 1 _ rfl; (with_reducible repeat (first | refine blk_drewN ?_ _ | refine blk_drew ?_ | refine blk_alloc ?_ _)); refine blk_put (cs := #[.int .u32 0, .int .i64 0, .int .u64 0, .int .i64 0]) ?_ 0 _ rfl; (with_reducible repeat (first | refine blk_drewN ?_ _ | refine blk_drew ?_ | refine blk_alloc ?_ _)); exact BK119.out) Try.underlying25 rfl (by kernel_rfl)) rfl ?_
  exact ⟨by first | rfl | (simp [errW_none, errW_some] <;> rfl) | (simp [*, errW_none, errW_some] <;> rfl), by repeat (first | (with_reducible first | exact HB.out | apply below_alloc | apply pw_below_drewN | apply below_drew1 | refine below_set ?_ GE119.out) | exact HB.out)⟩

/-! ### lease_own: function 28 -/
def lease_own.j0 : Nat → Int → Bool → Int → Int → Int → Int → Option (Int)
  | 0, _, _, _, _, _, _ => none
  | k + 1, x1, x9, x121000, x121001, x121002, x121003 => if x9 = true then (some 72) else (if x1 > x121002 then (some 73) else (some 0))
def lease_own.f (k : Nat) (a0_0 : Int) (a0_1 : Int) (a0_2 : Int) (a0_3 : Int) (a1 : Int) (a2 : Int) (a3 : Int) : Option (Int) := if a0_1 = a2 then (lease_own.j0 k a1 (a0_0 != a3) a0_0 a0_1 a0_2 a0_3) else (lease_own.j0 k a1 true a0_0 a0_1 a0_2 a0_3)
theorem lease_own.mono_l : ∀ k, (∀ y0 y1 y2 y3 y4 y5, LeO (lease_own.j0 k y0 y1 y2 y3 y4 y5) (lease_own.j0 (k + 1) y0 y1 y2 y3 y4 y5))
  | 0 => fun _ _ _ _ _ _ r h => by simp [lease_own.j0] at h
  | k + 1 => by
    have ih0 := lease_own.mono_l k
    · intro y0 y1 y2 y3 y4 y5
      unfold lease_own.j0
      repeat' first
      | (with_reducible exact ih0 _ _ _ _ _ _)
      | (with_reducible exact LeO.refl _)
      | (with_reducible exact LeO.none _)
      | (with_reducible refine LeO.ite ?_ ?_)
      | (with_reducible refine LeO.bind ?_ (fun _ => ?_))
      | exact ih0 _ _ _ _ _ _
      | exact LeO.none _
      | refine LeO.ite ?_ ?_
      | refine LeO.bind ?_ (fun _ => ?_)
theorem lease_own.mono : ∀ a0 a1 a2 a3 a4 a5 a6 k, LeO (lease_own.f k a0 a1 a2 a3 a4 a5 a6) (lease_own.f (k + 1) a0 a1 a2 a3 a4 a5 a6) := by
  intro a0 a1 a2 a3 a4 a5 a6 k
  have ih0 := lease_own.mono_l k
  unfold lease_own.f
  repeat' first
      | (with_reducible exact ih0 _ _ _ _ _ _)
      | (with_reducible exact LeO.refl _)
      | (with_reducible exact LeO.none _)
      | (with_reducible refine LeO.ite ?_ ?_)
      | (with_reducible refine LeO.bind ?_ (fun _ => ?_))
      | exact ih0 _ _ _ _ _ _
      | exact LeO.none _
      | refine LeO.ite ?_ ?_
      | refine LeO.bind ?_ (fun _ => ?_)
set_option maxHeartbeats 8000000 in
set_option maxRecDepth 100000 in
theorem lease_own.calls (k : Nat) (a0_0 : Int) (a0_1 : Int) (a0_2 : Int) (a0_3 : Int) (a1 : Int) (a2 : Int) (a3 : Int) (r : Int) (w : World) (h : lease_own.f k a0_0 a0_1 a0_2 a0_3 a1 a2 a3 = some r) :
    Calls Try.prog 28 #[.agg #[.int .u32 a0_0, .int .i64 a0_1, .int .u64 a0_2, .int .i64 a0_3], .int .u64 a1, .int .i64 a2, .int .u32 a3] w fun e w' => e = .returned (.int .i64 r) ∧ Below w.heap.size w w' := by
  have hu25 := Try.underlying25
  have HB := Aside0.mk (Below.refl w.heap.size w)
  have H : (if a0_1 = a2 then (lease_own.j0 k a1 (a0_0 != a3) a0_0 a0_1 a0_2 a0_3) else (lease_own.j0 k a1 true a0_0 a0_1 a0_2 a0_3)) = some r := h
  clear h
  have HC5 := Aside0.mk H
  clear H
  go_enter Try.func28, Try.ntmps28
  go_upto_region 1 with (first | ((with_reducible refine gate_dst (N := 4) rfl ?_); refine box_event ?hg (N := 4) ?hd (cs := #[.int .u32 a0_0, .int .i64 a0_1, .int .u64 a0_2, .int .i64 a0_3]) (t := 25) ?hr ?_; (case hd => rfl); (case hg => rfl); (case hr => first | (go_simp; done) | (go_simp; rfl)); intro gb120 hg w6 hbox hb; have n0_ := Aside0.mk (below_step (by repeat (first | (with_reducible first | exact HB.out | apply below_alloc | apply pw_below_drewN | apply below_drew1) | exact HB.out)) hb); have n1_ := Aside0.mk (hbox); have n2_ := Aside0.mk ((by rw [hg]; exact (below_size (by repeat (first | (with_reducible first | exact HB.out | apply below_alloc | apply pw_below_drewN | apply below_drew1) | exact HB.out))) : w.heap.size ≤ gb120)); have n3_ := Aside0.mk ((by rw [hg]; exact (below_size (by repeat (first | (with_reducible first | exact HB.out | apply below_alloc | apply pw_below_drewN | apply below_drew1) | exact HB.out))) : w.heap.size ≤ gb120)); clear HB; have HB := n0_; have BK120 := n1_; have GW120 := n2_; have GE120 := n3_; clear n0_ n1_ n2_ n3_; clear hb hbox hg))
  (try simp only [Act.put, List.setIfInBounds_toArray, List.set_cons_zero, List.set_cons_succ])
  go_cut [9] (fun v9 wc => ∃ (kq : Nat) (x9_4 : Bool), v9 = .bool x9_4 ∧ Aside0 (lease_own.j0 kq a1 x9_4 a0_0 a0_1 a0_2 a0_3 = some r) ∧ Aside0 (kq ≤ k) ∧ Aside0 (wc.heap[gb120]? = some (.cells #[.int .u32 a0_0, .int .i64 a0_1, .int .u64 a0_2, .int .i64 a0_3] 25 (0, 0))) ∧ Aside0 (Below w.heap.size w wc))
  case first =>
    have H := HC5.out
    clear HC5
    by_cases c7 : a0_1 = a2
    · rw [if_pos c7] at H
      have c7b0 : (a0_1 == a2) = true := beq_iff_eq.mpr c7
      have c7b1 : (a0_1 != a2) = false := bne_eq_false_iff_eq.mpr c7
      clear c7
      (first | rw [c7b0] | (simp only [i64_w, i32_w]; rw [c7b0]) | skip)
      have H' := Aside0.mk H
      clear H
      have hcz8_0 : w6.cell? ⟨gb120, 0, none⟩ = some (.int .u32 a0_0) := (blk_cell BK120.out 0).trans rfl
      have hcz8_1 : w6.cell? ⟨gb120, 1, none⟩ = some (.int .i64 a0_1) := (blk_cell BK120.out 1).trans rfl
      have hcz8_2 : w6.cell? ⟨gb120, 2, none⟩ = some (.int .u64 a0_2) := (blk_cell BK120.out 2).trans rfl
      have hcz8_3 : w6.cell? ⟨gb120, 3, none⟩ = some (.int .i64 a0_3) := (blk_cell BK120.out 3).trans rfl
      have hfz8_0 := blk_frozen BK120.out 0
      have hfz8_1 := blk_frozen BK120.out 1
      have hfz8_2 := blk_frozen BK120.out 2
      have hfz8_3 := blk_frozen BK120.out 3
      go_wp2
      go_meet
      case rel => exact ⟨_, ((a0_0 != a3)), (by first | rfl | (simp; done) | (simp [*]; done)), H', ⟨by first | omega | exact Nat.le_refl _⟩, ⟨by (with_reducible repeat (first | refine blk_drewN ?_ _ | refine blk_drew ?_ | refine blk_alloc ?_ _)); exact BK120.out⟩, ⟨by repeat (first | (with_reducible first | exact HB.out | apply below_alloc | apply pw_below_drewN | apply below_drew1 | refine below_set ?_ GE120.out) | exact HB.out)⟩⟩
    · rw [if_neg c7] at H
      have c7b0 : (a0_1 == a2) = false := beq_eq_false_iff_ne.mpr c7
      have c7b1 : (a0_1 != a2) = true := bne_iff_ne.mpr c7
      (first | rw [c7b0] | (simp only [i64_w, i32_w]; rw [c7b0]) | skip)
      have H' := Aside0.mk H
      clear H
      have hcz9_0 : w6.cell? ⟨gb120, 0, none⟩ = some (.int .u32 a0_0) := (blk_cell BK120.out 0).trans rfl
      have hcz9_1 : w6.cell? ⟨gb120, 1, none⟩ = some (.int .i64 a0_1) := (blk_cell BK120.out 1).trans rfl
      have hcz9_2 : w6.cell? ⟨gb120, 2, none⟩ = some (.int .u64 a0_2) := (blk_cell BK120.out 2).trans rfl
      have hcz9_3 : w6.cell? ⟨gb120, 3, none⟩ = some (.int .i64 a0_3) := (blk_cell BK120.out 3).trans rfl
      have hfz9_0 := blk_frozen BK120.out 0
      have hfz9_1 := blk_frozen BK120.out 1
      have hfz9_2 := blk_frozen BK120.out 2
      have hfz9_3 := blk_frozen BK120.out 3
      go_wp2
      go_meet
      case rel => exact ⟨_, (true), (by first | rfl | (simp; done) | (simp [*]; done)), H', ⟨by first | omega | exact Nat.le_refl _⟩, ⟨by (with_reducible repeat (first | refine blk_drewN ?_ _ | refine blk_drew ?_ | refine blk_alloc ?_ _)); exact BK120.out⟩, ⟨by repeat (first | (with_reducible first | exact HB.out | apply below_alloc | apply pw_below_drewN | apply below_drew1 | refine below_set ?_ GE120.out) | exact HB.out)⟩⟩
  case rest =>
    clear HC5
    try clear c2
    try clear p2
    try clear c7
    try clear c7b0
    try clear c7b1
    try clear hcz8_0
    try clear hcz8_1
    try clear hcz8_2
    try clear hcz8_3
    try clear hcz9_0
    try clear hcz9_1
    try clear hcz9_2
    try clear hcz9_3
    try clear hfz8_0
    try clear hfz8_1
    try clear hfz8_2
    try clear hfz8_3
    try clear hfz9_0
    try clear hfz9_1
    try clear hfz9_2
    try clear hfz9_3
    obtain ⟨kq, x9_4, rfl, HA, HJ4, BK120, HB⟩ := hcut
    cases kq with
    | zero => exact absurd HA.out (by simp [lease_own.j0])
    | succ kj4 =>
      have H := HA.out
      clear HA
      simp only [lease_own.j0] at H
      by_cases c10 : x9_4 = true
      · subst c10
        have H1 : (some 72) = some r := by rw [if_pos rfl] at H; exact H
        clear H
        have H := H1
        clear H1
        obtain rfl := Option.some.inj H
        go_wp2
        go_ret
        exact ⟨by first | rfl | (simp [errW_none, errW_some] <;> rfl) | (simp [*, errW_none, errW_some] <;> rfl), by repeat (first | (with_reducible first | exact HB.out | apply below_alloc | apply pw_below_drewN | apply below_drew1 | refine below_set ?_ GE120.out) | exact HB.out)⟩
      · replace c10 := Bool.eq_false_iff.mpr c10
        subst c10
        have H1 : (if a1 > a0_2 then (some 73) else (some 0)) = some r := by rw [if_neg (show ¬ (false = true) by decide)] at H; exact H
        clear H
        have H := H1
        clear H1
        by_cases c11 : a1 > a0_2
        · rw [if_pos c11] at H
          have c11b0 : decide (a0_2 < a1) = true := decide_eq_true c11
          clear c11
          obtain rfl := Option.some.inj H
          have hcz12_0 : wc.cell? ⟨gb120, 0, none⟩ = some (.int .u32 a0_0) := (blk_cell BK120.out 0).trans rfl
          have hcz12_1 : wc.cell? ⟨gb120, 1, none⟩ = some (.int .i64 a0_1) := (blk_cell BK120.out 1).trans rfl
          have hcz12_2 : wc.cell? ⟨gb120, 2, none⟩ = some (.int .u64 a0_2) := (blk_cell BK120.out 2).trans rfl
          have hcz12_3 : wc.cell? ⟨gb120, 3, none⟩ = some (.int .i64 a0_3) := (blk_cell BK120.out 3).trans rfl
          have hfz12_0 := blk_frozen BK120.out 0
          have hfz12_1 := blk_frozen BK120.out 1
          have hfz12_2 := blk_frozen BK120.out 2
          have hfz12_3 := blk_frozen BK120.out 3
          go_wp2
          go_ret
          exact ⟨by first | rfl | (simp [errW_none, errW_some] <;> rfl) | (simp [*, errW_none, errW_some] <;> rfl), by repeat (first | (with_reducible first | exact HB.out | apply below_alloc | apply pw_below_drewN | apply below_drew1 | refine below_set ?_ GE120.out) | exact HB.out)⟩
        · rw [if_neg c11] at H
          have c11b0 : decide (a0_2 < a1) = false := decide_eq_false c11
          clear c11
          obtain rfl := Option.some.inj H
          have hcz13_0 : wc.cell? ⟨gb120, 0, none⟩ = some (.int .u32 a0_0) := (blk_cell BK120.out 0).trans rfl
          have hcz13_1 : wc.cell? ⟨gb120, 1, none⟩ = some (.int .i64 a0_1) := (blk_cell BK120.out 1).trans rfl
          have hcz13_2 : wc.cell? ⟨gb120, 2, none⟩ = some (.int .u64 a0_2) := (blk_cell BK120.out 2).trans rfl
          have hcz13_3 : wc.cell? ⟨gb120, 3, none⟩ = some (.int .i64 a0_3) := (blk_cell BK120.out 3).trans rfl
          have hfz13_0 := blk_frozen BK120.out 0
          have hfz13_1 := blk_frozen BK120.out 1
          have hfz13_2 := blk_frozen BK120.out 2
          have hfz13_3 := blk_frozen BK120.out 3
          go_wp2
          go_ret
          exact ⟨by first | rfl | (simp [errW_none, errW_some] <;> rfl) | (simp [*, errW_none, errW_some] <;> rfl), by repeat (first | (with_reducible first | exact HB.out | apply below_alloc | apply pw_below_drewN | apply below_drew1 | refine below_set ?_ GE120.out) | exact HB.out)⟩

end Go.Proofs.Ytmepidkffpmflaa.PLeaseAlone
