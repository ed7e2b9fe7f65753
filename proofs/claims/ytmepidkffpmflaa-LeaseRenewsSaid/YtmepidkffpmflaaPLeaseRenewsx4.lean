-- PRINTED BY print.sh 35421559b90ae4d0a3588c463048766b98c2df88dd9212a6774a882060cdf62d: not written by this session
import Derived.Test.YtmepidkffpmflaaPLeaseRenewsx0
import Derived.Test.YtmepidkffpmflaaPLeaseRenewsx1
import Derived.Test.YtmepidkffpmflaaPLeaseRenewsx2
import Derived.Test.YtmepidkffpmflaaPLeaseRenewsx3
namespace Go.Proofs.Ytmepidkffpmflaa.PLeaseRenews
open Go.RowKit Go.Proofs.YtmepidkffpmflaaW.PrintWords Go.Proofs.YtmepidkffpmflaaW.PrintLast Go.Proofs.YtmepidkffpmflaaW.PrintMore
attribute [local go_sem] max2_int min2_int max_two min_two max_three min_three max_four min_four   -- for this text's walks alone
set_option linter.unusedVariables false
set_option linter.unusedSimpArgs false

/-! ### drayageref07_Renew: function 21 -/
def drayageref07_Renew.j0 : Nat → Int → Int → Bool → Int → Int → Int → Int → Option (Int × Int × Int × Int × Int)
  | 0, _, _, _, _, _, _, _ => none
  | k + 1, x1, x4, x21, x167000, x167001, x167002, x167003 => if x21 = true then (some (0, 0, 0, 0, 72)) else (if x1 > x167002 then (some (0, 0, 0, 0, 73)) else (if (IntKind.u64.wrap (x1 + x4)) > x167002 then (some (x167000, x167001, IntKind.u64.wrap (x1 + x4), x167003, 0)) else (some (x167000, x167001, x167002, x167003, 0))))
def drayageref07_Renew.f (k : Nat) (a0_0 : Int) (a0_1 : Int) (a0_2 : Int) (a0_3 : Int) (a1 : Int) (a2 : Int) (a3 : Int) (a4 : Int) : Option (Int × Int × Int × Int × Int) := (drayageref07_wrong.f k a0_0 a0_1 a0_2 a0_3 a2 a4).bind fun t168 => (if t168 = true then (some (0, 0, 0, 0, 2)) else (if a1 > 4611686018427387904 then (some (0, 0, 0, 0, 71)) else (if a0_1 = a2 then (drayageref07_Renew.j0 k a1 a4 (a0_0 != a3) a0_0 a0_1 a0_2 a0_3) else (drayageref07_Renew.j0 k a1 a4 true a0_0 a0_1 a0_2 a0_3))))
theorem drayageref07_Renew.mono_l : ∀ k, (∀ y0 y1 y2 y3 y4 y5 y6, LeO (drayageref07_Renew.j0 k y0 y1 y2 y3 y4 y5 y6) (drayageref07_Renew.j0 (k + 1) y0 y1 y2 y3 y4 y5 y6))
  | 0 => fun _ _ _ _ _ _ _ r h => by simp [drayageref07_Renew.j0] at h
  | k + 1 => by
    have ih0 := drayageref07_Renew.mono_l k
    · intro y0 y1 y2 y3 y4 y5 y6
      unfold drayageref07_Renew.j0
      repeat' first
      | (with_reducible exact ih0 _ _ _ _ _ _ _)
      | (with_reducible exact drayageref07_wrong.mono _ _ _ _ _ _ _)
      | (with_reducible exact LeO.refl _)
      | (with_reducible exact LeO.none _)
      | (with_reducible refine LeO.ite ?_ ?_)
      | (with_reducible refine LeO.bind ?_ (fun _ => ?_))
      | exact ih0 _ _ _ _ _ _ _
      | exact drayageref07_wrong.mono _ _ _ _ _ _ _
      | exact LeO.none _
      | refine LeO.ite ?_ ?_
      | refine LeO.bind ?_ (fun _ => ?_)
theorem drayageref07_Renew.mono : ∀ a0 a1 a2 a3 a4 a5 a6 a7 k, LeO (drayageref07_Renew.f k a0 a1 a2 a3 a4 a5 a6 a7) (drayageref07_Renew.f (k + 1) a0 a1 a2 a3 a4 a5 a6 a7) := by
  intro a0 a1 a2 a3 a4 a5 a6 a7 k
  have ih0 := drayageref07_Renew.mono_l k
  unfold drayageref07_Renew.f
  repeat' first
      | (with_reducible exact ih0 _ _ _ _ _ _ _)
      | (with_reducible exact drayageref07_wrong.mono _ _ _ _ _ _ _)
      | (with_reducible exact LeO.refl _)
      | (with_reducible exact LeO.none _)
      | (with_reducible refine LeO.ite ?_ ?_)
      | (with_reducible refine LeO.bind ?_ (fun _ => ?_))
      | exact ih0 _ _ _ _ _ _ _
      | exact drayageref07_wrong.mono _ _ _ _ _ _ _
      | exact LeO.none _
      | refine LeO.ite ?_ ?_
      | refine LeO.bind ?_ (fun _ => ?_)
set_option maxHeartbeats 8000000 in
set_option maxRecDepth 100000 in
theorem drayageref07_Renew.calls (k : Nat) (a0_0 : Int) (a0_1 : Int) (a0_2 : Int) (a0_3 : Int) (a1 : Int) (a2 : Int) (a3 : Int) (a4 : Int) (r1 : Int) (r2 : Int) (r3 : Int) (r4 : Int) (r5 : Int) (w : World) (h : drayageref07_Renew.f k a0_0 a0_1 a0_2 a0_3 a1 a2 a3 a4 = some (r1, r2, r3, r4, r5)) :
    Calls Try.prog 21 #[.agg #[.int .u32 a0_0, .int .i64 a0_1, .int .u64 a0_2, .int .i64 a0_3], .int .u64 a1, .int .i64 a2, .int .u32 a3, .int .u64 a4] w fun e w' => e = .returned (.tuple #[.agg #[.int .u32 r1, .int .i64 r2, .int .u64 r3, .int .i64 r4], .int .i64 r5]) ∧ Below w.heap.size w w' := by
  have hu25 := Try.underlying25
  have HB := Aside0.mk (Below.refl w.heap.size w)
  have H : ((drayageref07_wrong.f k a0_0 a0_1 a0_2 a0_3 a2 a4).bind fun t168 => (if t168 = true then (some (0, 0, 0, 0, 2)) else (if a1 > 4611686018427387904 then (some (0, 0, 0, 0, 71)) else (if a0_1 = a2 then (drayageref07_Renew.j0 k a1 a4 (a0_0 != a3) a0_0 a0_1 a0_2 a0_3) else (drayageref07_Renew.j0 k a1 a4 true a0_0 a0_1 a0_2 a0_3))))) = some (r1, r2, r3, r4, r5) := h
  clear h
  replace H := Option.bind_eq_some_iff.mp H
  obtain ⟨t168, A60, H⟩ := H
  replace H : (if t168 = true then (some (0, 0, 0, 0, 2)) else (if a1 > 4611686018427387904 then (some (0, 0, 0, 0, 71)) else (if a0_1 = a2 then (drayageref07_Renew.j0 k a1 a4 (a0_0 != a3) a0_0 a0_1 a0_2 a0_3) else (drayageref07_Renew.j0 k a1 a4 true a0_0 a0_1 a0_2 a0_3)))) = some (r1, r2, r3, r4, r5) := H
  have A6 := Aside0.mk A60
  clear A60
  by_cases c7 : t168 = true
  · subst c7
    have H1 : (some (0, 0, 0, 0, 2)) = some (r1, r2, r3, r4, r5) := by rw [if_pos rfl] at H; exact H
    clear H
    have H := H1
    clear H1
    simp only [Option.some.injEq, Prod.mk.injEq] at H
    obtain ⟨rfl, rfl, rfl, rfl, rfl⟩ := H
    go_enter Try.func21, Try.ntmps21
    go_wp2_with (first | ((with_reducible refine gate_dst (N := 5) rfl ?_); refine box_event ?hg (N := 5) ?hd (cs := #[.int .u32 a0_0, .int .i64 a0_1, .int .u64 a0_2, .int .i64 a0_3]) (t := 25) ?hr ?_; (case hd => rfl); (case hg => rfl); (case hr => first | (go_simp; done) | (go_simp; rfl)); intro gb166 hg w8 hbox hb; have n0_ := Aside0.mk (below_step (by repeat (first | (with_reducible first | exact HB.out | apply below_alloc | apply pw_below_drewN | apply below_drew1) | exact HB.out)) hb); have n1_ := Aside0.mk (hbox); have n2_ := Aside0.mk ((by rw [hg]; exact (below_size (by repeat (first | (with_reducible first | exact HB.out | apply below_alloc | apply pw_below_drewN | apply below_drew1) | exact HB.out))) : w.heap.size ≤ gb166)); have n3_ := Aside0.mk ((by rw [hg]; exact (below_size (by repeat (first | (with_reducible first | exact HB.out | apply below_alloc | apply pw_below_drewN | apply below_drew1) | exact HB.out))) : w.heap.size ≤ gb166)); clear HB; have HB := n0_; have BK166 := n1_; have GW166 := n2_; have GE166 := n3_; clear n0_ n1_ n2_ n3_; clear hb hbox hg) | ((with_reducible refine gate_dst (N := 10) rfl ?_); refine box_event ?hg (N := 10) ?hd (cs := #[.int .u32 0, .int .i64 0, .int .u64 0, .int .i64 0]) (t := 25) ?hr ?_; (case hd => rfl); (case hg => rfl); (case hr => first | (go_simp; done) | (go_simp; rfl)); intro gb167 hg w9 hbox hb; have n0_ := Aside0.mk (blk_below (g := gb166) (o := .cells #[.int .u32 a0_0, .int .i64 a0_1, .int .u64 a0_2, .int .i64 a0_3] 25 (0, 0)) (by (with_reducible repeat (first | refine blk_drewN ?_ _ | refine blk_drew ?_ | refine blk_alloc ?_ _)); exact BK166.out) hb); have n1_ := Aside0.mk (below_step (by repeat (first | (with_reducible first | exact HB.out | apply below_alloc | apply pw_below_drewN | apply below_drew1 | refine below_set ?_ GE166.out) | exact HB.out)) hb); have n2_ := Aside0.mk (hbox); have n3_ := Aside0.mk ((by rw [hg]; exact (below_size (by repeat (first | (with_reducible first | exact HB.out | apply below_alloc | apply pw_below_drewN | apply below_drew1 | refine below_set ?_ GE166.out) | exact HB.out))) : w.heap.size ≤ gb167)); have n4_ := Aside0.mk ((by rw [hg]; exact (below_size (by repeat (first | (with_reducible first | exact HB.out | apply below_alloc | apply pw_below_drewN | apply below_drew1 | refine below_set ?_ GE166.out) | exact HB.out))) : w.heap.size ≤ gb167)); have n5_ := Aside0.mk ((by rw [hg]; exact Nat.ne_of_lt (blk_lt (g := gb166) (o := .cells #[.int .u32 a0_0, .int .i64 a0_1, .int .u64 a0_2, .int .i64 a0_3] 25 (0, 0)) (by (with_reducible repeat (first | refine blk_drewN ?_ _ | refine blk_drew ?_ | refine blk_alloc ?_ _)); exact BK166.out)) : gb166 ≠ gb167)); have n6_ := Aside0.mk ((by rw [hg]; exact Nat.ne_of_gt (blk_lt (g := gb166) (o := .cells #[.int .u32 a0_0, .int .i64 a0_1, .int .u64 a0_2, .int .i64 a0_3] 25 (0, 0)) (by (with_reducible repeat (first | refine blk_drewN ?_ _ | refine blk_drew ?_ | refine blk_alloc ?_ _)); exact BK166.out)) : gb167 ≠ gb166)); clear BK166; clear HB; have BK166 := n0_; have HB := n1_; have BK167 := n2_; have GW167 := n3_; have GE167 := n4_; have NB166_167 := n5_; have NB167_166 := n6_; clear n0_ n1_ n2_ n3_ n4_ n5_ n6_; clear hb hbox hg; have hnb10 := NB166_167.out; have hnc10 := NB167_166.out; have hcz11_0 : w9.cell? ⟨gb166, 0, none⟩ = some (.int .u32 a0_0) := (blk_cell BK166.out 0).trans rfl; have hcz11_1 : w9.cell? ⟨gb166, 1, none⟩ = some (.int .i64 a0_1) := (blk_cell BK166.out 1).trans rfl; have hcz11_2 : w9.cell? ⟨gb166, 2, none⟩ = some (.int .u64 a0_2) := (blk_cell BK166.out 2).trans rfl; have hcz11_3 : w9.cell? ⟨gb166, 3, none⟩ = some (.int .i64 a0_3) := (blk_cell BK166.out 3).trans rfl; have hfz11_0 := blk_frozen BK166.out 0; have hfz11_1 := blk_frozen BK166.out 1; have hfz11_2 := blk_frozen BK166.out 2; have hfz11_3 := blk_frozen BK166.out 3) | ((with_reducible refine gate_callee (f := 27) rfl ?_); refine goesL_ (some 15) rfl rfl Try.func27 (by kernel_rfl) rfl #[.agg #[.int .u32 a0_0, .int .i64 a0_1, .int .u64 a0_2, .int .i64 a0_3], .int .i64 a2, .int .u64 a4] rfl (by (try simp only [List.map_toArray, List.map_cons, List.map_nil]); first | done | rfl | (simp only [List.length_drop, List.length_take]; rfl)) ?_; (with_reducible refine (drayageref07_wrong.calls k a0_0 a0_1 a0_2 a0_3 a2 a4 true _ A6.out).mono ?_); rintro e w12 ⟨rfl, hb⟩; refine ⟨_, rfl, ?_⟩; have n0_ := Aside0.mk (blk_below (g := gb166) (o := .cells #[.int .u32 a0_0, .int .i64 a0_1, .int .u64 a0_2, .int .i64 a0_3] 25 (0, 0)) (by (with_reducible repeat (first | refine blk_drewN ?_ _ | refine blk_drew ?_ | refine blk_alloc ?_ _)); exact BK166.out) hb); have n1_ := Aside0.mk (blk_below (g := gb167) (o := .cells #[.int .u32 0, .int .i64 0, .int .u64 0, .int .i64 0] 25 (0, 0)) (by (with_reducible repeat (first | refine blk_drewN ?_ _ | refine blk_drew ?_ | refine blk_alloc ?_ _)); exact BK167.out) hb); have n2_ := Aside0.mk (below_step (by repeat (first | (with_reducible first | exact HB.out | apply below_alloc | apply pw_below_drewN | apply below_drew1 | refine below_set ?_ GE166.out | refine below_set ?_ GE167.out) | exact HB.out)) hb); clear BK166; clear BK167; clear HB; have BK166 := n0_; have BK167 := n1_; have HB := n2_; clear n0_ n1_ n2_; (try clear hb); (try clear hb2); (try clear hk); (try clear hi); have hcz13_0 : w12.cell? ⟨gb167, 0, none⟩ = some (.int .u32 0) := (blk_cell BK167.out 0).trans rfl; have hcz13_1 : w12.cell? ⟨gb167, 1, none⟩ = some (.int .i64 0) := (blk_cell BK167.out 1).trans rfl; have hcz13_2 : w12.cell? ⟨gb167, 2, none⟩ = some (.int .u64 0) := (blk_cell BK167.out 2).trans rfl; have hcz13_3 : w12.cell? ⟨gb167, 3, none⟩ = some (.int .i64 0) := (blk_cell BK167.out 3).trans rfl; have hfz13_0 := blk_frozen BK167.out 0; have hfz13_1 := blk_frozen BK167.out 1; have hfz13_2 := blk_frozen BK167.out 2; have hfz13_3 := blk_frozen BK167.out 3))
    refine bodyPost_ret (results_ct rfl _ _ gb167 25 #[.int .u32 0, .int .i64 0, .int .u64 0, .int .i64 0] (0, 0) _ rfl (by (with_reducible repeat (first | refine blk_drewN ?_ _ | refine blk_drew ?_ | refine blk_alloc ?_ _)); refine blk_put (cs := #[.int .u32 0, .int .i64 0, .int .u64 0, .int .i64 0]) ?_ 3 _ rfl; (with_reducible repeat (first | refine blk_drewN ?_ _ | refine blk_drew ?_ | refine blk_alloc ?_ _)); refine blk_put (cs := #[.int .u32 0, .int .i64 0, .int .u64 0, .int .i64 0]) ?_ 2 _ rfl; (with_reducible repeat (first | refine blk_drewN ?_ _ | refine blk_drew ?_ | refine blk_alloc ?_ _)); refine blk_put (cs := #[.int .u32 0, .int .i64 0, .int .u64 0, .int .i64 0]) ?_ 1 _ rfl; (with_reducible repeat (first | refine blk_drewN ?_ _ | refine blk_drew ?_ | refine blk_alloc ?_ _)); refine blk_put (cs := #[.int .u32 0, .int .i64 0, .int .u64 0, .int .i64 0]) ?_ 0 _ rfl; (with_reducible repeat (first | refine blk_drewN ?_ _ | refine blk_drew ?_ | refine blk_alloc ?_ _)); exact BK167.out) Try.underlying25 rfl (by kernel_rfl)) rfl ?_
    exact ⟨by first | rfl | (simp [errW_none, errW_some] <;> rfl) | (simp [*, errW_none, errW_some] <;> rfl), by repeat (first | (with_reducible first | exact HB.out | apply below_alloc | apply pw_below_drewN | apply below_drew1 | refine below_set ?_ GE166.out | refine below_set ?_ GE167.out) | exact HB.out)⟩
  · replace c7 := Bool.eq_false_iff.mpr c7
    subst c7
    have H1 : (if a1 > 4611686018427387904 then (some (0, 0, 0, 0, 71)) else (if a0_1 = a2 then (drayageref07_Renew.j0 k a1 a4 (a0_0 != a3) a0_0 a0_1 a0_2 a0_3) else (drayageref07_Renew.j0 k a1 a4 true a0_0 a0_1 a0_2 a0_3))) = some (r1, r2, r3, r4, r5) := by rw [if_neg (show ¬ (false = true) by decide)] at H; exact H
    clear H
    have H := H1
    clear H1
    by_cases c14 : a1 > 4611686018427387904
    · rw [if_pos c14] at H
      have c14b0 : decide (4611686018427387904 < a1) = true := decide_eq_true c14
      clear c14
      simp only [Option.some.injEq, Prod.mk.injEq] at H
      obtain ⟨rfl, rfl, rfl, rfl, rfl⟩ := H
      go_enter Try.func21, Try.ntmps21
      go_wp2_with (first | ((with_reducible refine gate_dst (N := 5) rfl ?_); refine box_event ?hg (N := 5) ?hd (cs := #[.int .u32 a0_0, .int .i64 a0_1, .int .u64 a0_2, .int .i64 a0_3]) (t := 25) ?hr ?_; (case hd => rfl); (case hg => rfl); (case hr => first | (go_simp; done) | (go_simp; rfl)); intro gb166 hg w15 hbox hb; have n0_ := Aside0.mk (below_step (by repeat (first | (with_reducible first | exact HB.out | apply below_alloc | apply pw_below_drewN | apply below_drew1) | exact HB.out)) hb); have n1_ := Aside0.mk (hbox); have n2_ := Aside0.mk ((by rw [hg]; exact (below_size (by repeat (first | (with_reducible first | exact HB.out | apply below_alloc | apply pw_below_drewN | apply below_drew1) | exact HB.out))) : w.heap.size ≤ gb166)); have n3_ := Aside0.mk ((by rw [hg]; exact (below_size (by repeat (first | (with_reducible first | exact HB.out | apply below_alloc | apply pw_below_drewN | apply below_drew1) | exact HB.out))) : w.heap.size ≤ gb166)); clear HB; have HB := n0_; have BK166 := n1_; have GW166 := n2_; have GE166 := n3_; clear n0_ n1_ n2_ n3_; clear hb hbox hg) | ((with_reducible refine gate_dst (N := 10) rfl ?_); refine box_event ?hg (N := 10) ?hd (cs := #[.int .u32 0, .int .i64 0, .int .u64 0, .int .i64 0]) (t := 25) ?hr ?_; (case hd => rfl); (case hg => rfl); (case hr => first | (go_simp; done) | (go_simp; rfl)); intro gb167 hg w16 hbox hb; have n0_ := Aside0.mk (blk_below (g := gb166) (o := .cells #[.int .u32 a0_0, .int .i64 a0_1, .int .u64 a0_2, .int .i64 a0_3] 25 (0, 0)) (by (with_reducible repeat (first | refine blk_drewN ?_ _ | refine blk_drew ?_ | refine blk_alloc ?_ _)); exact BK166.out) hb); have n1_ := Aside0.mk (below_step (by repeat (first | (with_reducible first | exact HB.out | apply below_alloc | apply pw_below_drewN | apply below_drew1 | refine below_set ?_ GE166.out) | exact HB.out)) hb); have n2_ := Aside0.mk (hbox); have n3_ := Aside0.mk ((by rw [hg]; exact (below_size (by repeat (first | (with_reducible first | exact HB.out | apply below_alloc | apply pw_below_drewN | apply below_drew1 | refine below_set ?_ GE166.out) | exact HB.out))) : w.heap.size ≤ gb167)); have n4_ := Aside0.mk ((by rw [hg]; exact (below_size (by repeat (first | (with_reducible first | exact HB.out | apply below_alloc | apply pw_below_drewN | apply below_drew1 | refine below_set ?_ GE166.out) | exact HB.out))) : w.heap.size ≤ gb167)); have n5_ := Aside0.mk ((by rw [hg]; exact Nat.ne_of_lt (blk_lt (g := gb166) (o := .cells #[.int .u32 a0_0, .int .i64 a0_1, .int .u64 a0_2, .int .i64 a0_3] 25 (0, 0)) (by (with_reducible repeat (first | refine blk_drewN ?_ _ | refine blk_drew ?_ | refine blk_alloc ?_ _)); exact BK166.out)) : gb166 ≠ gb167)); have n6_ := Aside0.mk ((by rw [hg]; exact Nat.ne_of_gt (blk_lt (g := gb166) (o := .cells #[.int .u32 a0_0, .int .i64 a0_1, .int .u64 a0_2, .int .i64 a0_3] 25 (0, 0)) (by (with_reducible repeat (first | refine blk_drewN ?_ _ | refine blk_drew ?_ | refine blk_alloc ?_ _)); exact BK166.out)) : gb167 ≠ gb166)); clear BK166; clear HB; have BK166 := n0_; have HB := n1_; have BK167 := n2_; have GW167 := n3_; have GE167 := n4_; have NB166_167 := n5_; have NB167_166 := n6_; clear n0_ n1_ n2_ n3_ n4_ n5_ n6_; clear hb hbox hg; have hnb17 := NB166_167.out; have hnc17 := NB167_166.out; have hcz18_0 : w16.cell? ⟨gb166, 0, none⟩ = some (.int .u32 a0_0) := (blk_cell BK166.out 0).trans rfl; have hcz18_1 : w16.cell? ⟨gb166, 1, none⟩ = some (.int .i64 a0_1) := (blk_cell BK166.out 1).trans rfl; have hcz18_2 : w16.cell? ⟨gb166, 2, none⟩ = some (.int .u64 a0_2) := (blk_cell BK166.out 2).trans rfl; have hcz18_3 : w16.cell? ⟨gb166, 3, none⟩ = some (.int .i64 a0_3) := (blk_cell BK166.out 3).trans rfl; have hfz18_0 := blk_frozen BK166.out 0; have hfz18_1 := blk_frozen BK166.out 1; have hfz18_2 := blk_frozen BK166.out 2; have hfz18_3 := blk_frozen BK166.out 3) | ((with_reducible refine gate_callee (f := 27) rfl ?_); refine goesL_ (some 15) rfl rfl Try.func27 (by kernel_rfl) rfl #[.agg #[.int .u32 a0_0, .int .i64 a0_1, .int .u64 a0_2, .int .i64 a0_3], .int .i64 a2, .int .u64 a4] rfl (by (try simp only [List.map_toArray, List.map_cons, List.map_nil]); first | done | rfl | (simp only [List.length_drop, List.length_take]; rfl)) ?_; (with_reducible refine (drayageref07_wrong.calls k a0_0 a0_1 a0_2 a0_3 a2 a4 false _ A6.out).mono ?_); rintro e w19 ⟨rfl, hb⟩; refine ⟨_, rfl, ?_⟩; have n0_ := Aside0.mk (blk_below (g := gb166) (o := .cells #[.int .u32 a0_0, .int .i64 a0_1, .int .u64 a0_2, .int .i64 a0_3] 25 (0, 0)) (by (with_reducible repeat (first | refine blk_drewN ?_ _ | refine blk_drew ?_ | refine blk_alloc ?_ _)); exact BK166.out) hb); have n1_ := Aside0.mk (blk_below (g := gb167) (o := .cells #[.int .u32 0, .int .i64 0, .int .u64 0, .int .i64 0] 25 (0, 0)) (by (with_reducible repeat (first | refine blk_drewN ?_ _ | refine blk_drew ?_ | refine blk_alloc ?_ _)); exact BK167.out) hb); have n2_ := Aside0.mk (below_step (by repeat (first | (with_reducible first | exact HB.out | apply below_alloc | apply pw_below_drewN | apply below_drew1 | refine below_set ?_ GE166.out | refine below_set ?_ GE167.out) | exact HB.out)) hb); clear BK166; clear BK167; clear HB; have BK166 := n0_; have BK167 := n1_; have HB := n2_; clear n0_ n1_ n2_; (try clear hb); (try clear hb2); (try clear hk); (try clear hi); have hcz20_0 : w19.cell? ⟨gb167, 0, none⟩ = some (.int .u32 0) := (blk_cell BK167.out 0).trans rfl; have hcz20_1 : w19.cell? ⟨gb167, 1, none⟩ = some (.int .i64 0) := (blk_cell BK167.out 1).trans rfl; have hcz20_2 : w19.cell? ⟨gb167, 2, none⟩ = some (.int .u64 0) := (blk_cell BK167.out 2).trans rfl; have hcz20_3 : w19.cell? ⟨gb167, 3, none⟩ = some (.int .i64 0) := (blk_cell BK167.out 3).trans rfl; have hfz20_0 := blk_frozen BK167.out 0; have hfz20_1 := blk_frozen BK167.out 1; have hfz20_2 := blk_frozen BK167.out 2; have hfz20_3 := blk_frozen BK167.out 3))
      refine bodyPost_ret (results_ct rfl _ _ gb167 25 #[.int .u32 0, .int .i64 0, .int .u64 0, .int .i64 0] (0, 0) _ rfl (by (with_reducible repeat (first | refine blk_drewN ?_ _ | refine blk_drew ?_ | refine blk_alloc ?_ _)); refine blk_put (cs := #[.int .u32 0, .int .i64 0, .int .u64 0, .int .i64 0]) ?_ 3 _ rfl; (with_reducible repeat (first | refine blk_drewN ?_ _ | refine blk_drew ?_ | refine blk_alloc ?_ _)); refine blk_put (cs := #[.int .u32 0, .int .i64 0, .int .u64 0, .int .i64 0]) ?_ 2 _ rfl; (with_reducible repeat (first | refine blk_drewN ?_ _ | refine blk_drew ?_ | refine blk_alloc ?_ _)); refine blk_put (cs := #[.int .u32 0, .int .i64 0, .int .u64 0, .int .i64 0]) ?_ 1 _ rfl; (with_reducible repeat (first | refine blk_drewN ?_ _ | refine blk_drew ?_ | refine blk_alloc ?_ _)); refine blk_put (cs := #[.int .u32 0, .int .i64 0, .int .u64 0, .int .i64 0]) ?_ 0 _ rfl; (with_reducible repeat (first | refine blk_drewN ?_ _ | refine blk_drew ?_ | refine blk_alloc ?_ _)); exact BK167.out) Try.underlying25 rfl (by kernel_rfl)) rfl ?_
      exact ⟨by first | rfl | (simp [errW_none, errW_some] <;> rfl) | (simp [*, errW_none, errW_some] <;> rfl), by repeat (first | (with_reducible first | exact HB.out | apply below_alloc | apply pw_below_drewN | apply below_drew1 | refine below_set ?_ GE166.out | refine below_set ?_ GE167.out) | exact HB.out)⟩
    · rw [if_neg c14] at H
      have c14b0 : decide (4611686018427387904 < a1) = false := decide_eq_false c14
      clear c14
      have HC21 := Aside0.mk H
      clear H
      go_enter Try.func21, Try.ntmps21
      go_upto_region 5 with (first | ((with_reducible refine gate_dst (N := 5) rfl ?_); refine box_event ?hg (N := 5) ?hd (cs := #[.int .u32 a0_0, .int .i64 a0_1, .int .u64 a0_2, .int .i64 a0_3]) (t := 25) ?hr ?_; (case hd => rfl); (case hg => rfl); (case hr => first | (go_simp; done) | (go_simp; rfl)); intro gb166 hg w22 hbox hb; have n0_ := Aside0.mk (below_step (by repeat (first | (with_reducible first | exact HB.out | apply below_alloc | apply pw_below_drewN | apply below_drew1) | exact HB.out)) hb); have n1_ := Aside0.mk (hbox); have n2_ := Aside0.mk ((by rw [hg]; exact (below_size (by repeat (first | (with_reducible first | exact HB.out | apply below_alloc | apply pw_below_drewN | apply below_drew1) | exact HB.out))) : w.heap.size ≤ gb166)); have n3_ := Aside0.mk ((by rw [hg]; exact (below_size (by repeat (first | (with_reducible first | exact HB.out | apply below_alloc | apply pw_below_drewN | apply below_drew1) | exact HB.out))) : w.heap.size ≤ gb166)); clear HB; have HB := n0_; have BK166 := n1_; have GW166 := n2_; have GE166 := n3_; clear n0_ n1_ n2_ n3_; clear hb hbox hg) | ((with_reducible refine gate_dst (N := 10) rfl ?_); refine box_event ?hg (N := 10) ?hd (cs := #[.int .u32 0, .int .i64 0, .int .u64 0, .int .i64 0]) (t := 25) ?hr ?_; (case hd => rfl); (case hg => rfl); (case hr => first | (go_simp; done) | (go_simp; rfl)); intro gb167 hg w23 hbox hb; have n0_ := Aside0.mk (blk_below (g := gb166) (o := .cells #[.int .u32 a0_0, .int .i64 a0_1, .int .u64 a0_2, .int .i64 a0_3] 25 (0, 0)) (by (with_reducible repeat (first | refine blk_drewN ?_ _ | refine blk_drew ?_ | refine blk_alloc ?_ _)); exact BK166.out) hb); have n1_ := Aside0.mk (below_step (by repeat (first | (with_reducible first | exact HB.out | apply below_alloc | apply pw_below_drewN | apply below_drew1 | refine below_set ?_ GE166.out) | exact HB.out)) hb); have n2_ := Aside0.mk (hbox); have n3_ := Aside0.mk ((by rw [hg]; exact (below_size (by repeat (first | (with_reducible first | exact HB.out | apply below_alloc | apply pw_below_drewN | apply below_drew1 | refine below_set ?_ GE166.out) | exact HB.out))) : w.heap.size ≤ gb167)); have n4_ := Aside0.mk ((by rw [hg]; exact (below_size (by repeat (first | (with_reducible first | exact HB.out | apply below_alloc | apply pw_below_drewN | apply below_drew1 | refine below_set ?_ GE166.out) | exact HB.out))) : w.heap.size ≤ gb167)); have n5_ := Aside0.mk ((by rw [hg]; exact Nat.ne_of_lt (blk_lt (g := gb166) (o := .cells #[.int .u32 a0_0, .int .i64 a0_1, .int .u64 a0_2, .int .i64 a0_3] 25 (0, 0)) (by (with_reducible repeat (first | refine blk_drewN ?_ _ | refine blk_drew ?_ | refine blk_alloc ?_ _)); exact BK166.out)) : gb166 ≠ gb167)); have n6_ := Aside0.mk ((by rw [hg]; exact Nat.ne_of_gt (blk_lt (g := gb166) (o := .cells #[.int .u32 a0_0, .int .i64 a0_1, .int .u64 a0_2, .int .i64 a0_3] 25 (0, 0)) (by (with_reducible repeat (first | refine blk_drewN ?_ _ | refine blk_drew ?_ | refine blk_alloc ?_ _)); exact BK166.out)) : gb167 ≠ gb166)); clear BK166; clear HB; have BK166 := n0_; have HB := n1_; have BK167 := n2_; have GW167 := n3_; have GE167 := n4_; have NB166_167 := n5_; have NB167_166 := n6_; clear n0_ n1_ n2_ n3_ n4_ n5_ n6_; clear hb hbox hg; have hnb24 := NB166_167.out; have hnc24 := NB167_166.out; have hcz25_0 : w23.cell? ⟨gb166, 0, none⟩ = some (.int .u32 a0_0) := (blk_cell BK166.out 0).trans rfl; have hcz25_1 : w23.cell? ⟨gb166, 1, none⟩ = some (.int .i64 a0_1) := (blk_cell BK166.out 1).trans rfl; have hcz25_2 : w23.cell? ⟨gb166, 2, none⟩ = some (.int .u64 a0_2) := (blk_cell BK166.out 2).trans rfl; have hcz25_3 : w23.cell? ⟨gb166, 3, none⟩ = some (.int .i64 a0_3) := (blk_cell BK166.out 3).trans rfl; have hfz25_0 := blk_frozen BK166.out 0; have hfz25_1 := blk_frozen BK166.out 1; have hfz25_2 := blk_frozen BK166.out 2; have hfz25_3 := blk_frozen BK166.out 3) | ((with_reducible refine gate_callee (f := 27) rfl ?_); refine goesL_ (some 15) rfl rfl Try.func27 (by kernel_rfl) rfl #[.agg #[.int .u32 a0_0, .int .i64 a0_1, .int .u64 a0_2, .int .i64 a0_3], .int .i64 a2, .int .u64 a4] rfl (by (try simp only [List.map_toArray, List.map_cons, List.map_nil]); first | done | rfl | (simp only [List.length_drop, List.length_take]; rfl)) ?_; (with_reducible refine (drayageref07_wrong.calls k a0_0 a0_1 a0_2 a0_3 a2 a4 false _ A6.out).mono ?_); rintro e w26 ⟨rfl, hb⟩; refine ⟨_, rfl, ?_⟩; have n0_ := Aside0.mk (blk_below (g := gb166) (o := .cells #[.int .u32 a0_0, .int .i64 a0_1, .int .u64 a0_2, .int .i64 a0_3] 25 (0, 0)) (by (with_reducible repeat (first | refine blk_drewN ?_ _ | refine blk_drew ?_ | refine blk_alloc ?_ _)); exact BK166.out) hb); have n1_ := Aside0.mk (blk_below (g := gb167) (o := .cells #[.int .u32 0, .int .i64 0, .int .u64 0, .int .i64 0] 25 (0, 0)) (by (with_reducible repeat (first | refine blk_drewN ?_ _ | refine blk_drew ?_ | refine blk_alloc ?_ _)); exact BK167.out) hb); have n2_ := Aside0.mk (below_step (by repeat (first | (with_reducible first | exact HB.out | apply below_alloc | apply pw_below_drewN | apply below_drew1 | refine below_set ?_ GE166.out | refine below_set ?_ GE167.out) | exact HB.out)) hb); clear BK166; clear BK167; clear HB; have BK166 := n0_; have BK167 := n1_; have HB := n2_; clear n0_ n1_ n2_; (try clear hb); (try clear hb2); (try clear hk); (try clear hi)))
      (try simp only [Act.put, List.setIfInBounds_toArray, List.set_cons_zero, List.set_cons_succ])
      go_cut [21] (fun v21 wc => ∃ (kq : Nat) (x21_20 : Bool), v21 = .bool x21_20 ∧ Aside0 (drayageref07_Renew.j0 kq a1 a4 x21_20 a0_0 a0_1 a0_2 a0_3 = some (r1, r2, r3, r4, r5)) ∧ Aside0 (kq ≤ k) ∧ Aside0 (wc.heap[gb166]? = some (.cells #[.int .u32 a0_0, .int .i64 a0_1, .int .u64 a0_2, .int .i64 a0_3] 25 (0, 0))) ∧ Aside0 (wc.heap[gb167]? = some (.cells #[.int .u32 0, .int .i64 0, .int .u64 0, .int .i64 0] 25 (0, 0))) ∧ Aside0 (Below w.heap.size w wc))
      case first =>
        have H := HC21.out
        clear HC21
        by_cases c27 : a0_1 = a2
        · rw [if_pos c27] at H
          have c27b0 : (a0_1 == a2) = true := beq_iff_eq.mpr c27
          have c27b1 : (a0_1 != a2) = false := bne_eq_false_iff_eq.mpr c27
          clear c27
          (first | rw [c27b0] | (simp only [i64_w, i32_w]; rw [c27b0]) | skip)
          have H' := Aside0.mk H
          clear H
          have hnb28 := NB166_167.out
          have hnc28 := NB167_166.out
          have hcz29_0 : w26.cell? ⟨gb166, 0, none⟩ = some (.int .u32 a0_0) := (blk_cell BK166.out 0).trans rfl
          have hcz29_1 : w26.cell? ⟨gb166, 1, none⟩ = some (.int .i64 a0_1) := (blk_cell BK166.out 1).trans rfl
          have hcz29_2 : w26.cell? ⟨gb166, 2, none⟩ = some (.int .u64 a0_2) := (blk_cell BK166.out 2).trans rfl
          have hcz29_3 : w26.cell? ⟨gb166, 3, none⟩ = some (.int .i64 a0_3) := (blk_cell BK166.out 3).trans rfl
          have hfz29_0 := blk_frozen BK166.out 0
          have hfz29_1 := blk_frozen BK166.out 1
          have hfz29_2 := blk_frozen BK166.out 2
          have hfz29_3 := blk_frozen BK166.out 3
          go_wp2
          go_meet
          case rel => exact ⟨_, ((a0_0 != a3)), (by first | rfl | (simp; done) | (simp [*]; done)), H', ⟨by first | omega | exact Nat.le_refl _⟩, ⟨by (with_reducible repeat (first | refine blk_drewN ?_ _ | refine blk_drew ?_ | refine blk_alloc ?_ _)); exact BK166.out⟩, ⟨by (with_reducible repeat (first | refine blk_drewN ?_ _ | refine blk_drew ?_ | refine blk_alloc ?_ _)); exact BK167.out⟩, ⟨by repeat (first | (with_reducible first | exact HB.out | apply below_alloc | apply pw_below_drewN | apply below_drew1 | refine below_set ?_ GE166.out | refine below_set ?_ GE167.out) | exact HB.out)⟩⟩
        · rw [if_neg c27] at H
          have c27b0 : (a0_1 == a2) = false := beq_eq_false_iff_ne.mpr c27
          have c27b1 : (a0_1 != a2) = true := bne_iff_ne.mpr c27
          (first | rw [c27b0] | (simp only [i64_w, i32_w]; rw [c27b0]) | skip)
          have H' := Aside0.mk H
          clear H
          have hnb30 := NB166_167.out
          have hnc30 := NB167_166.out
          have hcz31_0 : w26.cell? ⟨gb166, 0, none⟩ = some (.int .u32 a0_0) := (blk_cell BK166.out 0).trans rfl
          have hcz31_1 : w26.cell? ⟨gb166, 1, none⟩ = some (.int .i64 a0_1) := (blk_cell BK166.out 1).trans rfl
          have hcz31_2 : w26.cell? ⟨gb166, 2, none⟩ = some (.int .u64 a0_2) := (blk_cell BK166.out 2).trans rfl
          have hcz31_3 : w26.cell? ⟨gb166, 3, none⟩ = some (.int .i64 a0_3) := (blk_cell BK166.out 3).trans rfl
          have hfz31_0 := blk_frozen BK166.out 0
          have hfz31_1 := blk_frozen BK166.out 1
          have hfz31_2 := blk_frozen BK166.out 2
          have hfz31_3 := blk_frozen BK166.out 3
          go_wp2
          go_meet
          case rel => exact ⟨_, (true), (by first | rfl | (simp; done) | (simp [*]; done)), H', ⟨by first | omega | exact Nat.le_refl _⟩, ⟨by (with_reducible repeat (first | refine blk_drewN ?_ _ | refine blk_drew ?_ | refine blk_alloc ?_ _)); exact BK166.out⟩, ⟨by (with_reducible repeat (first | refine blk_drewN ?_ _ | refine blk_drew ?_ | refine blk_alloc ?_ _)); exact BK167.out⟩, ⟨by repeat (first | (with_reducible first | exact HB.out | apply below_alloc | apply pw_below_drewN | apply below_drew1 | refine below_set ?_ GE166.out | refine below_set ?_ GE167.out) | exact HB.out)⟩⟩
      case rest =>
        clear HC21
        try clear c1
        try clear c2
        try clear p2
        try clear c3
        try clear c7
        try clear c10
        try clear c14
        try clear c14b0
        try clear c17
        try clear c21
        try clear c24
        try clear c27
        try clear c27b0
        try clear c27b1
        try clear c28
        try clear c30
        try clear hcz11_0
        try clear hcz11_1
        try clear hcz11_2
        try clear hcz11_3
        try clear hcz13_0
        try clear hcz13_1
        try clear hcz13_2
        try clear hcz13_3
        try clear hcz18_0
        try clear hcz18_1
        try clear hcz18_2
        try clear hcz18_3
        try clear hcz20_0
        try clear hcz20_1
        try clear hcz20_2
        try clear hcz20_3
        try clear hcz25_0
        try clear hcz25_1
        try clear hcz25_2
        try clear hcz25_3
        try clear hcz29_0
        try clear hcz29_1
        try clear hcz29_2
        try clear hcz29_3
        try clear hcz31_0
        try clear hcz31_1
        try clear hcz31_2
        try clear hcz31_3
        try clear hfz11_0
        try clear hfz11_1
        try clear hfz11_2
        try clear hfz11_3
        try clear hfz13_0
        try clear hfz13_1
        try clear hfz13_2
        try clear hfz13_3
        try clear hfz18_0
        try clear hfz18_1
        try clear hfz18_2
        try clear hfz18_3
        try clear hfz20_0
        try clear hfz20_1
        try clear hfz20_2
        try clear hfz20_3
        try clear hfz25_0
        try clear hfz25_1
        try clear hfz25_2
        try clear hfz25_3
        try clear hfz29_0
        try clear hfz29_1
        try clear hfz29_2
        try clear hfz29_3
        try clear hfz31_0
        try clear hfz31_1
        try clear hfz31_2
        try clear hfz31_3
        obtain ⟨kq, x21_20, rfl, HA, HJ20, BK166, BK167, HB⟩ := hcut
        cases kq with
        | zero => exact absurd HA.out (by simp [drayageref07_Renew.j0])
        | succ kj20 =>
          have H := HA.out
          clear HA
          simp only [drayageref07_Renew.j0] at H
          by_cases c32 : x21_20 = true
          · subst c32
            have H1 : (some (0, 0, 0, 0, 72)) = some (r1, r2, r3, r4, r5) := by rw [if_pos rfl] at H; exact H
            clear H
            have H := H1
            clear H1
            simp only [Option.some.injEq, Prod.mk.injEq] at H
            obtain ⟨rfl, rfl, rfl, rfl, rfl⟩ := H
            have hnb33 := NB167_166.out
            have hnc33 := NB166_167.out
            have hcz34_0 : wc.cell? ⟨gb167, 0, none⟩ = some (.int .u32 0) := (blk_cell BK167.out 0).trans rfl
            have hcz34_1 : wc.cell? ⟨gb167, 1, none⟩ = some (.int .i64 0) := (blk_cell BK167.out 1).trans rfl
            have hcz34_2 : wc.cell? ⟨gb167, 2, none⟩ = some (.int .u64 0) := (blk_cell BK167.out 2).trans rfl
            have hcz34_3 : wc.cell? ⟨gb167, 3, none⟩ = some (.int .i64 0) := (blk_cell BK167.out 3).trans rfl
            have hfz34_0 := blk_frozen BK167.out 0
            have hfz34_1 := blk_frozen BK167.out 1
            have hfz34_2 := blk_frozen BK167.out 2
            have hfz34_3 := blk_frozen BK167.out 3
            go_wp2
            refine bodyPost_ret (results_ct rfl _ _ gb167 25 #[.int .u32 0, .int .i64 0, .int .u64 0, .int .i64 0] (0, 0) _ rfl (by (with_reducible repeat (first | refine blk_drewN ?_ _ | refine blk_drew ?_ | refine blk_alloc ?_ _)); refine blk_put (cs := #[.int .u32 0, .int .i64 0, .int .u64 0, .int .i64 0]) ?_ 3 _ rfl; (with_reducible repeat (first | refine blk_drewN ?_ _ | refine blk_drew ?_ | refine blk_alloc ?_ _)); refine blk_put (cs := #[.int .u32 0, .int .i64 0, .int .u64 0, .int .i64 0]) ?_ 2 _ rfl; (with_reducible repeat (first | refine blk_drewN ?_ _ | refine blk_drew ?_ | refine blk_alloc ?_ _)); refine blk_put (cs := #[.int .u32 0, .int .i64 0, .int .u64 0, .int .i64 0]) ?_ 1 _ rfl; (with_reducible repeat (first | refine blk_drewN ?_ _ | refine blk_drew ?_ | refine blk_alloc ?_ _)); refine blk_put (cs := #[.int .u32 0, .int .i64 0, .int .u64 0, .int .i64 0]) ?_ 0 _ rfl; (with_reducible repeat (first | refine blk_drewN ?_ _ | refine blk_drew ?_ | refine blk_alloc ?_ _)); exact BK167.out) Try.underlying25 rfl (by kernel_rfl)) rfl ?_
            exact ⟨by first | rfl | (simp [errW_none, errW_some] <;> rfl) | (simp [*, errW_none, errW_some] <;> rfl), by repeat (first | (with_reducible first | exact HB.out | apply below_alloc | apply pw_below_drewN | apply below_drew1 | refine below_set ?_ GE166.out | refine below_set ?_ GE167.out) | exact HB.out)⟩
          · replace c32 := Bool.eq_false_iff.mpr c32
            subst c32
            have H1 : (if a1 > a0_2 then (some (0, 0, 0, 0, 73)) else (if (IntKind.u64.wrap (a1 + a4)) > a0_2 then (some (a0_0, a0_1, IntKind.u64.wrap (a1 + a4), a0_3, 0)) else (some (a0_0, a0_1, a0_2, a0_3, 0)))) = some (r1, r2, r3, r4, r5) := by rw [if_neg (show ¬ (false = true) by decide)] at H; exact H
            clear H
            have H := H1
            clear H1
            by_cases c35 : a1 > a0_2
            · rw [if_pos c35] at H
              have c35b0 : decide (a0_2 < a1) = true := decide_eq_true c35
              clear c35
              simp only [Option.some.injEq, Prod.mk.injEq] at H
              obtain ⟨rfl, rfl, rfl, rfl, rfl⟩ := H
              have hnb36 := NB166_167.out
              have hnc36 := NB167_166.out
              have hcz37_0 : wc.cell? ⟨gb166, 0, none⟩ = some (.int .u32 a0_0) := (blk_cell BK166.out 0).trans rfl
              have hcz37_1 : wc.cell? ⟨gb166, 1, none⟩ = some (.int .i64 a0_1) := (blk_cell BK166.out 1).trans rfl
              have hcz37_2 : wc.cell? ⟨gb166, 2, none⟩ = some (.int .u64 a0_2) := (blk_cell BK166.out 2).trans rfl
              have hcz37_3 : wc.cell? ⟨gb166, 3, none⟩ = some (.int .i64 a0_3) := (blk_cell BK166.out 3).trans rfl
              have hfz37_0 := blk_frozen BK166.out 0
              have hfz37_1 := blk_frozen BK166.out 1
              have hfz37_2 := blk_frozen BK166.out 2
              have hfz37_3 := blk_frozen BK166.out 3
              have hcz38_0 : wc.cell? ⟨gb167, 0, none⟩ = some (.int .u32 0) := (blk_cell BK167.out 0).trans rfl
              have hcz38_1 : wc.cell? ⟨gb167, 1, none⟩ = some (.int .i64 0) := (blk_cell BK167.out 1).trans rfl
              have hcz38_2 : wc.cell? ⟨gb167, 2, none⟩ = some (.int .u64 0) := (blk_cell BK167.out 2).trans rfl
              have hcz38_3 : wc.cell? ⟨gb167, 3, none⟩ = some (.int .i64 0) := (blk_cell BK167.out 3).trans rfl
              have hfz38_0 := blk_frozen BK167.out 0
              have hfz38_1 := blk_frozen BK167.out 1
              have hfz38_2 := blk_frozen BK167.out 2
              have hfz38_3 := blk_frozen BK167.out 3
              go_wp2
              refine bodyPost_ret (results_ct rfl _ _ gb167 25 #[.int .u32 0, .int .i64 0, .int .u64 0, .int .i64 0] (0, 0) _ rfl (by (with_reducible repeat (first | refine blk_drewN ?_ _ | refine blk_drew ?_ | refine blk_alloc ?_ _)); refine blk_put (cs := #[.int .u32 0, .int .i64 0, .int .u64 0, .int .i64 0]) ?_ 3 _ rfl; (with_reducible repeat (first | refine blk_drewN ?_ _ | refine blk_drew ?_ | refine blk_alloc ?_ _)); refine blk_put (cs := #[.int .u32 0, .int .i64 0, .int .u64 0, .int .i64 0]) ?_ 2 _ rfl; (with_reducible repeat (first | refine blk_drewN ?_ _ | refine blk_drew ?_ | refine blk_alloc ?_ _)); refine blk_put (cs := #[.int .u32 0, .int .i64 0, .int .u64 0, .int .i64 0]) ?_ 1 _ rfl; (with_reducible repeat (first | refine blk_drewN ?_ _ | refine blk_drew ?_ | refine blk_alloc ?_ _)); refine blk_put (cs := #[.int .u32 0, .int .i64 0, .int .u64 0, .int .i64 0]) ?_ 0 _ rfl; (with_reducible repeat (first | refine blk_drewN ?_ _ | refine blk_drew ?_ | refine blk_alloc ?_ _)); exact BK167.out) Try.underlying25 rfl (by kernel_rfl)) rfl ?_
              exact ⟨by first | rfl | (simp [errW_none, errW_some] <;> rfl) | (simp [*, errW_none, errW_some] <;> rfl), by repeat (first | (with_reducible first | exact HB.out | apply below_alloc | apply pw_below_drewN | apply below_drew1 | refine below_set ?_ GE166.out | refine below_set ?_ GE167.out) | exact HB.out)⟩
            · rw [if_neg c35] at H
              have c35b0 : decide (a0_2 < a1) = false := decide_eq_false c35
              clear c35
              by_cases c39 : (IntKind.u64.wrap (a1 + a4)) > a0_2
              · rw [if_pos c39] at H
                have c39b0 : decide (a0_2 < (IntKind.u64.wrap (a1 + a4))) = true := decide_eq_true c39
                clear c39
                simp only [Option.some.injEq, Prod.mk.injEq] at H
                obtain ⟨rfl, rfl, rfl, rfl, rfl⟩ := H
                have hnb40 := NB166_167.out
                have hnc40 := NB167_166.out
                have hcz41_0 : wc.cell? ⟨gb166, 0, none⟩ = some (.int .u32 a0_0) := (blk_cell BK166.out 0).trans rfl
                have hcz41_1 : wc.cell? ⟨gb166, 1, none⟩ = some (.int .i64 a0_1) := (blk_cell BK166.out 1).trans rfl
                have hcz41_2 : wc.cell? ⟨gb166, 2, none⟩ = some (.int .u64 a0_2) := (blk_cell BK166.out 2).trans rfl
                have hcz41_3 : wc.cell? ⟨gb166, 3, none⟩ = some (.int .i64 a0_3) := (blk_cell BK166.out 3).trans rfl
                have hfz41_0 := blk_frozen BK166.out 0
                have hfz41_1 := blk_frozen BK166.out 1
                have hfz41_2 := blk_frozen BK166.out 2
                have hfz41_3 := blk_frozen BK166.out 3
                have hcz42_0 : wc.cell? ⟨gb167, 0, none⟩ = some (.int .u32 0) := (blk_cell BK167.out 0).trans rfl
                have hcz42_1 : wc.cell? ⟨gb167, 1, none⟩ = some (.int .i64 0) := (blk_cell BK167.out 1).trans rfl
                have hcz42_2 : wc.cell? ⟨gb167, 2, none⟩ = some (.int .u64 0) := (blk_cell BK167.out 2).trans rfl
                have hcz42_3 : wc.cell? ⟨gb167, 3, none⟩ = some (.int .i64 0) := (blk_cell BK167.out 3).trans rfl
                have hfz42_0 := blk_frozen BK167.out 0
                have hfz42_1 := blk_frozen BK167.out 1
                have hfz42_2 := blk_frozen BK167.out 2
                have hfz42_3 := blk_frozen BK167.out 3
                go_wp2
                refine bodyPost_ret (results_ct rfl _ _ gb167 25 #[.int .u32 a0_0, .int .i64 a0_1, .int .u64 (IntKind.u64.wrap (a1 + a4)), .int .i64 a0_3] (0, 0) _ rfl (by (with_reducible repeat (first | refine blk_drewN ?_ _ | refine blk_drew ?_ | refine blk_alloc ?_ _)); refine blk_put (cs := #[.int .u32 a0_0, .int .i64 a0_1, .int .u64 (IntKind.u64.wrap (a1 + a4)), .int .i64 0]) ?_ 3 _ rfl; (with_reducible repeat (first | refine blk_drewN ?_ _ | refine blk_drew ?_ | refine blk_alloc ?_ _)); refine blk_put (cs := #[.int .u32 a0_0, .int .i64 a0_1, .int .u64 0, .int .i64 0]) ?_ 2 _ rfl; (with_reducible repeat (first | refine blk_drewN ?_ _ | refine blk_drew ?_ | refine blk_alloc ?_ _)); refine blk_put (cs := #[.int .u32 a0_0, .int .i64 0, .int .u64 0, .int .i64 0]) ?_ 1 _ rfl; (with_reducible repeat (first | refine blk_drewN ?_ _ | refine blk_drew ?_ | refine blk_alloc ?_ _)); refine blk_put (cs := #[.int .u32 0, .int .i64 0, .int .u64 0, .int .i64 0]) ?_ 0 _ rfl; (with_reducible repeat (first | refine blk_drewN ?_ _ | refine blk_drew ?_ | refine blk_alloc ?_ _)); refine blk_far ?_ NB167_166.out _; (with_reducible repeat (first | refine blk_drewN ?_ _ | refine blk_drew ?_ | refine blk_alloc ?_ _)); exact BK167.out) Try.underlying25 rfl (by kernel_rfl)) rfl ?_
                exact ⟨by first | rfl | (simp [errW_none, errW_some] <;> rfl) | (simp [*, errW_none, errW_some] <;> rfl), by repeat (first | (with_reducible first | exact HB.out | apply below_alloc | apply pw_below_drewN | apply below_drew1 | refine below_set ?_ GE166.out | refine below_set ?_ GE167.out) | exact HB.out)⟩
              · rw [if_neg c39] at H
                have c39b0 : decide (a0_2 < (IntKind.u64.wrap (a1 + a4))) = false := decide_eq_false c39
                clear c39
                simp only [Option.some.injEq, Prod.mk.injEq] at H
                obtain ⟨rfl, rfl, rfl, rfl, rfl⟩ := H
                have hnb43 := NB166_167.out
                have hnc43 := NB167_166.out
                have hcz44_0 : wc.cell? ⟨gb166, 0, none⟩ = some (.int .u32 a0_0) := (blk_cell BK166.out 0).trans rfl
                have hcz44_1 : wc.cell? ⟨gb166, 1, none⟩ = some (.int .i64 a0_1) := (blk_cell BK166.out 1).trans rfl
                have hcz44_2 : wc.cell? ⟨gb166, 2, none⟩ = some (.int .u64 a0_2) := (blk_cell BK166.out 2).trans rfl
                have hcz44_3 : wc.cell? ⟨gb166, 3, none⟩ = some (.int .i64 a0_3) := (blk_cell BK166.out 3).trans rfl
                have hfz44_0 := blk_frozen BK166.out 0
                have hfz44_1 := blk_frozen BK166.out 1
                have hfz44_2 := blk_frozen BK166.out 2
                have hfz44_3 := blk_frozen BK166.out 3
                have hcz45_0 : wc.cell? ⟨gb167, 0, none⟩ = some (.int .u32 0) := (blk_cell BK167.out 0).trans rfl
                have hcz45_1 : wc.cell? ⟨gb167, 1, none⟩ = some (.int .i64 0) := (blk_cell BK167.out 1).trans rfl
                have hcz45_2 : wc.cell? ⟨gb167, 2, none⟩ = some (.int .u64 0) := (blk_cell BK167.out 2).trans rfl
                have hcz45_3 : wc.cell? ⟨gb167, 3, none⟩ = some (.int .i64 0) := (blk_cell BK167.out 3).trans rfl
                have hfz45_0 := blk_frozen BK167.out 0
                have hfz45_1 := blk_frozen BK167.out 1
                have hfz45_2 := blk_frozen BK167.out 2
                have hfz45_3 := blk_frozen BK167.out 3
                go_wp2
                refine bodyPost_ret (results_ct rfl _ _ gb167 25 #[.int .u32 a0_0, .int .i64 a0_1, .int .u64 a0_2, .int .i64 a0_3] (0, 0) _ rfl (by (with_reducible repeat (first | refine blk_drewN ?_ _ | refine blk_drew ?_ | refine blk_alloc ?_ _)); refine blk_put (cs := #[.int .u32 a0_0, .int .i64 a0_1, .int .u64 a0_2, .int .i64 0]) ?_ 3 _ rfl; (with_reducible repeat (first | refine blk_drewN ?_ _ | refine blk_drew ?_ | refine blk_alloc ?_ _)); refine blk_put (cs := #[.int .u32 a0_0, .int .i64 a0_1, .int .u64 0, .int .i64 0]) ?_ 2 _ rfl; (with_reducible repeat (first | refine blk_drewN ?_ _ | refine blk_drew ?_ | refine blk_alloc ?_ _)); refine blk_put (cs := #[.int .u32 a0_0, .int .i64 0, .int .u64 0, .int .i64 0]) ?_ 1 _ rfl; (with_reducible repeat (first | refine blk_drewN ?_ _ | refine blk_drew ?_ | refine blk_alloc ?_ _)); refine blk_put (cs := #[.int .u32 0, .int .i64 0, .int .u64 0, .int .i64 0]) ?_ 0 _ rfl; (with_reducible repeat (first | refine blk_drewN ?_ _ | refine blk_drew ?_ | refine blk_alloc ?_ _)); exact BK167.out) Try.underlying25 rfl (by kernel_rfl)) rfl ?_
                exact ⟨by first | rfl | (simp [errW_none, errW_some] <;> rfl) | (simp [*, errW_none, errW_some] <;> rfl), by repeat (first | (with_reducible first | exact HB.out | apply below_alloc | apply pw_below_drewN | apply below_drew1 | refine below_set ?_ GE166.out | refine below_set ?_ GE167.out) | exact HB.out)⟩

/-! ### lease_Turn: function 22 -/
def lease_Turn.j0 : Nat → Int → Int → Int → Int → Bool → Int → Int → Int → Int → Option (Int × Int × Int × Int × Int)
  | 0, _, _, _, _, _, _, _, _, _ => none
  | k + 1, x1, x2, x3, x4, x28, x170000, x170001, x170002, x170003 => if x28 = true then (some (0, 0, 0, 0, 2)) else ((lease_own.f k x170000 x170001 x170002 x170003 x1 x2 x3).bind fun t173 => (if t173 = 0 then (some (x170000, x170001, x170002, x4, 0)) else (some (0, 0, 0, 0, t173))))
def lease_Turn.f (k : Nat) (a0_0 : Int) (a0_1 : Int) (a0_2 : Int) (a0_3 : Int) (a1 : Int) (a2 : Int) (a3 : Int) (a4 : Int) : Option (Int × Int × Int × Int × Int) := (lease_Check.f a0_0 a0_1 a0_2 a0_3).bind fun t171 => (if t171 = 0 then ((lease_is.f a2).bind fun t172 => (if t172 = true then (if a4 = 1 then (lease_Turn.j0 k a1 a2 a3 a4 false a0_0 a0_1 a0_2 a0_3) else (lease_Turn.j0 k a1 a2 a3 a4 (a4 != 2) a0_0 a0_1 a0_2 a0_3)) else (lease_Turn.j0 k a1 a2 a3 a4 true a0_0 a0_1 a0_2 a0_3))) else (lease_Turn.j0 k a1 a2 a3 a4 true a0_0 a0_1 a0_2 a0_3))
theorem lease_Turn.mono_l : ∀ k, (∀ y0 y1 y2 y3 y4 y5 y6 y7 y8, LeO (lease_Turn.j0 k y0 y1 y2 y3 y4 y5 y6 y7 y8) (lease_Turn.j0 (k + 1) y0 y1 y2 y3 y4 y5 y6 y7 y8))
  | 0 => fun _ _ _ _ _ _ _ _ _ r h => by simp [lease_Turn.j0] at h
  | k + 1 => by
    have ih0 := lease_Turn.mono_l k
    · intro y0 y1 y2 y3 y4 y5 y6 y7 y8
      unfold lease_Turn.j0
      repeat' first
      | (with_reducible exact ih0 _ _ _ _ _ _ _ _ _)
      | (with_reducible exact lease_own.mono _ _ _ _ _ _ _ _)
      | (with_reducible exact LeO.refl _)
      | (with_reducible exact LeO.none _)
      | (with_reducible refine LeO.ite ?_ ?_)
      | (with_reducible refine LeO.bind ?_ (fun _ => ?_))
      | exact ih0 _ _ _ _ _ _ _ _ _
      | exact lease_own.mono _ _ _ _ _ _ _ _
      | exact LeO.none _
      | refine LeO.ite ?_ ?_
      | refine LeO.bind ?_ (fun _ => ?_)
theorem lease_Turn.mono : ∀ a0 a1 a2 a3 a4 a5 a6 a7 k, LeO (lease_Turn.f k a0 a1 a2 a3 a4 a5 a6 a7) (lease_Turn.f (k + 1) a0 a1 a2 a3 a4 a5 a6 a7) := by
  intro a0 a1 a2 a3 a4 a5 a6 a7 k
  have ih0 := lease_Turn.mono_l k
  unfold lease_Turn.f
  repeat' first
      | (with_reducible exact ih0 _ _ _ _ _ _ _ _ _)
      | (with_reducible exact lease_own.mono _ _ _ _ _ _ _ _)
      | (with_reducible exact LeO.refl _)
      | (with_reducible exact LeO.none _)
      | (with_reducible refine LeO.ite ?_ ?_)
      | (with_reducible refine LeO.bind ?_ (fun _ => ?_))
      | exact ih0 _ _ _ _ _ _ _ _ _
      | exact lease_own.mono _ _ _ _ _ _ _ _
      | exact LeO.none _
      | refine LeO.ite ?_ ?_
      | refine LeO.bind ?_ (fun _ => ?_)
set_option maxHeartbeats 8000000 in
set_option maxRecDepth 100000 in
theorem lease_Turn.calls (k : Nat) (a0_0 : Int) (a0_1 : Int) (a0_2 : Int) (a0_3 : Int) (a1 : Int) (a2 : Int) (a3 : Int) (a4 : Int) (r1 : Int) (r2 : Int) (r3 : Int) (r4 : Int) (r5 : Int) (w : World) (h : lease_Turn.f k a0_0 a0_1 a0_2 a0_3 a1 a2 a3 a4 = some (r1, r2, r3, r4, r5)) :
    Calls Try.prog 22 #[.agg #[.int .u32 a0_0, .int .i64 a0_1, .int .u64 a0_2, .int .i64 a0_3], .int .u64 a1, .int .i64 a2, .int .u32 a3, .int .i64 a4] w fun e w' => e = .returned (.tuple #[.agg #[.int .u32 r1, .int .i64 r2, .int .u64 r3, .int .i64 r4], .int .i64 r5]) ∧ Below w.heap.size w w' := by
  have hu25 := Try.underlying25
  have HB := Aside0.mk (Below.refl w.heap.size w)
  have H : ((lease_Check.f a0_0 a0_1 a0_2 a0_3).bind fun t171 => (if t171 = 0 then ((lease_is.f a2).bind fun t172 => (if t172 = true then (if a4 = 1 then (lease_Turn.j0 k a1 a2 a3 a4 false a0_0 a0_1 a0_2 a0_3) else (lease_Turn.j0 k a1 a2 a3 a4 (a4 != 2) a0_0 a0_1 a0_2 a0_3)) else (lease_Turn.j0 k a1 a2 a3 a4 true a0_0 a0_1 a0_2 a0_3))) else (lease_Turn.j0 k a1 a2 a3 a4 true a0_0 a0_1 a0_2 a0_3))) = some (r1, r2, r3, r4, r5) := h
  clear h
  have HC6 := Aside0.mk H
  clear H
  go_enter Try.func22, Try.ntmps22
  go_upto_region 1 with (first | ((with_reducible refine gate_dst (N := 5) rfl ?_); refine box_event ?hg (N := 5) ?hd (cs := #[.int .u32 a0_0, .int .i64 a0_1, .int .u64 a0_2, .int .i64 a0_3]) (t := 25) ?hr ?_; (case hd => rfl); (case hg => rfl); (case hr => first | (go_simp; done) | (go_simp; rfl)); intro gb169 hg w7 hbox hb; have n0_ := Aside0.mk (below_step (by repeat (first | (with_reducible first | exact HB.out | apply below_alloc | apply pw_below_drewN | apply below_drew1) | exact HB.out)) hb); have n1_ := Aside0.mk (hbox); have n2_ := Aside0.mk ((by rw [hg]; exact (below_size (by repeat (first | (with_reducible first | exact HB.out | apply below_alloc | apply pw_below_drewN | apply below_drew1) | exact HB.out))) : w.heap.size ≤ gb169)); have n3_ := Aside0.mk ((by rw [hg]; exact (below_size (by repeat (first | (with_reducible first | exact HB.out | apply below_alloc | apply pw_below_drewN | apply below_drew1) | exact HB.out))) : w.heap.size ≤ gb169)); clear HB; have HB := n0_; have BK169 := n1_; have GW169 := n2_; have GE169 := n3_; clear n0_ n1_ n2_ n3_; clear hb hbox hg) | ((with_reducible refine gate_dst (N := 10) rfl ?_); refine box_event ?hg (N := 10) ?hd (cs := #[.int .u32 0, .int .i64 0, .int .u64 0, .int .i64 0]) (t := 25) ?hr ?_; (case hd => rfl); (case hg => rfl); (case hr => first | (go_simp; done) | (go_simp; rfl)); intro gb170 hg w8 hbox hb; have n0_ := Aside0.mk (blk_below (g := gb169) (o := .cells #[.int .u32 a0_0, .int .i64 a0_1, .int .u64 a0_2, .int .i64 a0_3] 25 (0, 0)) (by (with_reducible repeat (first | refine blk_drewN ?_ _ | refine blk_drew ?_ | refine blk_alloc ?_ _)); exact BK169.out) hb); have n1_ := Aside0.mk (below_step (by repeat (first | (with_reducible first | exact HB.out | apply below_alloc | apply pw_below_drewN | apply below_drew1 | refine below_set ?_ GE169.out) | exact HB.out)) hb); have n2_ := Aside0.mk (hbox); have n3_ := Aside0.mk ((by rw [hg]; exact (below_size (by repeat (first | (with_reducible first | exact HB.out | apply below_alloc | apply pw_below_drewN | apply below_drew1 | refine below_set ?_ GE169.out) | exact HB.out))) : w.heap.size ≤ gb170)); have n4_ := Aside0.mk ((by rw [hg]; exact (below_size (by repeat (first | (with_reducible first | exact HB.out | apply below_alloc | apply pw_below_drewN | apply below_drew1 | refine below_set ?_ GE169.out) | exact HB.out))) : w.heap.size ≤ gb170)); have n5_ := Aside0.mk ((by rw [hg]; exact Nat.ne_of_lt (blk_lt (g := gb169) (o := .cells #[.int .u32 a0_0, .int .i64 a0_1, .int .u64 a0_2, .int .i64 a0_3] 25 (0, 0)) (by (with_reducible repeat (first | refine blk_drewN ?_ _ | refine blk_drew ?_ | refine blk_alloc ?_ _)); exact BK169.out)) : gb169 ≠ gb170)); have n6_ := Aside0.mk ((by rw [hg]; exact Nat.ne_of_gt (blk_lt (g := gb169) (o := .cells #[.int .u32 a0_0, .int .i64 a0_1, .int .u64 a0_2, .int .i64 a0_3] 25 (0, 0)) (by (with_reducible repeat (first | refine blk_drewN ?_ _ | refine blk_drew ?_ | refine blk_alloc ?_ _)); exact BK169.out)) : gb170 ≠ gb169)); clear BK169; clear HB; have BK169 := n0_; have HB := n1_; have BK170 := n2_; have GW170 := n3_; have GE170 := n4_; have NB169_170 := n5_; have NB170_169 := n6_; clear n0_ n1_ n2_ n3_ n4_ n5_ n6_; clear hb hbox hg))
  (try simp only [Act.put, List.setIfInBounds_toArray, List.set_cons_zero, List.set_cons_succ])
  go_cut [28] (fun v28 wc => ∃ (kq : Nat) (x28_5 : Bool), v28 = .bool x28_5 ∧ Aside0 (lease_Turn.j0 kq a1 a2 a3 a4 x28_5 a0_0 a0_1 a0_2 a0_3 = some (r1, r2, r3, r4, r5)) ∧ Aside0 (kq ≤ k) ∧ Aside0 (wc.heap[gb169]? = some (.cells #[.int .u32 a0_0, .int .i64 a0_1, .int .u64 a0_2, .int .i64 a0_3] 25 (0, 0))) ∧ Aside0 (wc.heap[gb170]? = some (.cells #[.int .u32 0, .int .i64 0, .int .u64 0, .int .i64 0] 25 (0, 0))) ∧ Aside0 (Below w.heap.size w wc))
  case first =>
    have H := HC6.out
    clear HC6
    replace H := Option.bind_eq_some_iff.mp H
    obtain ⟨t171, A90, H⟩ := H
    replace H : (if t171 = 0 then ((lease_is.f a2).bind fun t172 => (if t172 = true then (if a4 = 1 then (lease_Turn.j0 k a1 a2 a3 a4 false a0_0 a0_1 a0_2 a0_3) else (lease_Turn.j0 k a1 a2 a3 a4 (a4 != 2) a0_0 a0_1 a0_2 a0_3)) else (lease_Turn.j0 k a1 a2 a3 a4 true a0_0 a0_1 a0_2 a0_3))) else (lease_Turn.j0 k a1 a2 a3 a4 true a0_0 a0_1 a0_2 a0_3)) = some (r1, r2, r3, r4, r5) := H
    have A9 := Aside0.mk A90
    clear A90
    by_cases c10 : t171 = 0
    · rw [if_pos c10] at H
      have c10b0 : (t171 == 0) = true := beq_iff_eq.mpr c10
      have c10b1 : (t171 != 0) = false := bne_eq_false_iff_eq.mpr c10
      clear c10
      (first | rw [c10b0] | (simp only [i64_w, i32_w]; rw [c10b0]) | skip)
      replace H := Option.bind_eq_some_iff.mp H
      obtain ⟨t172, A110, H⟩ := H
      replace H : (if t172 = true then (if a4 = 1 then (lease_Turn.j0 k a1 a2 a3 a4 false a0_0 a0_1 a0_2 a0_3) else (lease_Turn.j0 k a1 a2 a3 a4 (a4 != 2) a0_0 a0_1 a0_2 a0_3)) else (lease_Turn.j0 k a1 a2 a3 a4 true a0_0 a0_1 a0_2 a0_3)) = some (r1, r2, r3, r4, r5) := H
      have A11 := Aside0.mk A110
      clear A110
      by_cases c12 : t172 = true
      · subst c12
        have H1 : (if a4 = 1 then (lease_Turn.j0 k a1 a2 a3 a4 false a0_0 a0_1 a0_2 a0_3) else (lease_Turn.j0 k a1 a2 a3 a4 (a4 != 2) a0_0 a0_1 a0_2 a0_3)) = some (r1, r2, r3, r4, r5) := by rw [if_pos rfl] at H; exact H
        clear H
        have H := H1
        clear H1
        by_cases c13 : a4 = 1
        · rw [if_pos c13] at H
          have c13b0 : (a4 == 1) = true := beq_iff_eq.mpr c13
          have c13b1 : (a4 != 1) = false := bne_eq_false_iff_eq.mpr c13
          clear c13
          have H' := Aside0.mk H
          clear H
          have hnb14 := NB169_170.out
          have hnc14 := NB170_169.out
          have hcz15_0 : w8.cell? ⟨gb169, 0, none⟩ = some (.int .u32 a0_0) := (blk_cell BK169.out 0).trans rfl
          have hcz15_1 : w8.cell? ⟨gb169, 1, none⟩ = some (.int .i64 a0_1) := (blk_cell BK169.out 1).trans rfl
          have hcz15_2 : w8.cell? ⟨gb169, 2, none⟩ = some (.int .u64 a0_2) := (blk_cell BK169.out 2).trans rfl
          have hcz15_3 : w8.cell? ⟨gb169, 3, none⟩ = some (.int .i64 a0_3) := (blk_cell BK169.out 3).trans rfl
          have hfz15_0 := blk_frozen BK169.out 0
          have hfz15_1 := blk_frozen BK169.out 1
          have hfz15_2 := blk_frozen BK169.out 2
          have hfz15_3 := blk_frozen BK169.out 3
          go_wp2_with (first | ((with_reducible refine gate_callee (f := 10) rfl ?_); refine goesL_ (some 14) rfl rfl Try.func10 (by kernel_rfl) rfl #[.agg #[.int .u32 a0_0, .int .i64 a0_1, .int .u64 a0_2, .int .i64 a0_3]] rfl (by (try simp only [List.map_toArray, List.map_cons, List.map_nil]); first | done | rfl | (simp only [List.length_drop, List.length_take]; rfl)) ?_; (with_reducible refine (lease_Check.calls a0_0 a0_1 a0_2 a0_3 t171 _ A9.out).mono ?_); rintro e w16 ⟨rfl, hb⟩; refine ⟨_, rfl, ?_⟩; have n0_ := Aside0.mk (blk_below (g := gb169) (o := .cells #[.int .u32 a0_0, .int .i64 a0_1, .int .u64 a0_2, .int .i64 a0_3] 25 (0, 0)) (by (with_reducible repeat (first | refine blk_drewN ?_ _ | refine blk_drew ?_ | refine blk_alloc ?_ _)); exact BK169.out) hb); have n1_ := Aside0.mk (blk_below (g := gb170) (o := .cells #[.int .u32 0, .int .i64 0, .int .u64 0, .int .i64 0] 25 (0, 0)) (by (with_reducible repeat (first | refine blk_drewN ?_ _ | refine blk_drew ?_ | refine blk_alloc ?_ _)); exact BK170.out) hb); have n2_ := Aside0.mk (below_step (by repeat (first | (with_reducible first | exact HB.out | apply below_alloc | apply pw_below_drewN | apply below_drew1 | refine below_set ?_ GE169.out | refine below_set ?_ GE170.out) | exact HB.out)) hb); clear BK169; clear BK170; clear HB; have BK169 := n0_; have BK170 := n1_; have HB := n2_; clear n0_ n1_ n2_; (try clear hb); (try clear hb2); (try clear hk); (try clear hi)) | (go_at_call 25; (with_reducible refine (lease_is.calls a2 true _ A11.out).mono ?_); rintro e w' ⟨rfl, ⟨nd, rfl⟩⟩))
          go_meet
          case rel => exact ⟨_, (false), (by first | rfl | (simp; done) | (simp [*]; done)), H', ⟨by first | omega | exact Nat.le_refl _⟩, ⟨by (with_reducible repeat (first | refine blk_drewN ?_ _ | refine blk_drew ?_ | refine blk_alloc ?_ _)); exact BK169.out⟩, ⟨by (with_reducible repeat (first | refine blk_drewN ?_ _ | refine blk_drew ?_ | refine blk_alloc ?_ _)); exact BK170.out⟩, ⟨by repeat (first | (with_reducible first | exact HB.out | apply below_alloc | apply pw_below_drewN | apply below_drew1 | refine below_set ?_ GE169.out | refine below_set ?_ GE170.out) | exact HB.out)⟩⟩
        · rw [if_neg c13] at H
          have c13b0 : (a4 == 1) = false := beq_eq_false_iff_ne.mpr c13
          have c13b1 : (a4 != 1) = true := bne_iff_ne.mpr c13
          have H' := Aside0.mk H
          clear H
          have hnb17 := NB169_170.out
          have hnc17 := NB170_169.out
          have hcz18_0 : w8.cell? ⟨gb169, 0, none⟩ = some (.int .u32 a0_0) := (blk_cell BK169.out 0).trans rfl
          have hcz18_1 : w8.cell? ⟨gb169, 1, none⟩ = some (.int .i64 a0_1) := (blk_cell BK169.out 1).trans rfl
          have hcz18_2 : w8.cell? ⟨gb169, 2, none⟩ = some (.int .u64 a0_2) := (blk_cell BK169.out 2).trans rfl
          have hcz18_3 : w8.cell? ⟨gb169, 3, none⟩ = some (.int .i64 a0_3) := (blk_cell BK169.out 3).trans rfl
          have hfz18_0 := blk_frozen BK169.out 0
          have hfz18_1 := blk_frozen BK169.out 1
          have hfz18_2 := blk_frozen BK169.out 2
          have hfz18_3 := blk_frozen BK169.out 3
          go_wp2_with (first | ((with_reducible refine gate_callee (f := 10) rfl ?_); refine goesL_ (some 14) rfl rfl Try.func10 (by kernel_rfl) rfl #[.agg #[.int .u32 a0_0, .int .i64 a0_1, .int .u64 a0_2, .int .i64 a0_3]] rfl (by (try simp only [List.map_toArray, List.map_cons, List.map_nil]); first | done | rfl | (simp only [List.length_drop, List.length_take]; rfl)) ?_; (with_reducible refine (lease_Check.calls a0_0 a0_1 a0_2 a0_3 t171 _ A9.out).mono ?_); rintro e w19 ⟨rfl, hb⟩; refine ⟨_, rfl, ?_⟩; have n0_ := Aside0.mk (blk_below (g := gb169) (o := .cells #[.int .u32 a0_0, .int .i64 a0_1, .int .u64 a0_2, .int .i64 a0_3] 25 (0, 0)) (by (with_reducible repeat (first | refine blk_drewN ?_ _ | refine blk_drew ?_ | refine blk_alloc ?_ _)); exact BK169.out) hb); have n1_ := Aside0.mk (blk_below (g := gb170) (o := .cells #[.int .u32 0, .int .i64 0, .int .u64 0, .int .i64 0] 25 (0, 0)) (by (with_reducible repeat (first | refine blk_drewN ?_ _ | refine blk_drew ?_ | refine blk_alloc ?_ _)); exact BK170.out) hb); have n2_ := Aside0.mk (below_step (by repeat (first | (with_reducible first | exact HB.out | apply below_alloc | apply pw_below_drewN | apply below_drew1 | refine below_set ?_ GE169.out | refine below_set ?_ GE170.out) | exact HB.out)) hb); clear BK169; clear BK170; clear HB; have BK169 := n0_; have BK170 := n1_; have HB := n2_; clear n0_ n1_ n2_; (try clear hb); (try clear hb2); (try clear hk); (try clear hi)) | (go_at_call 25; (with_reducible refine (lease_is.calls a2 true _ A11.out).mono ?_); rintro e w' ⟨rfl, ⟨nd, rfl⟩⟩))
          go_meet
          case rel => exact ⟨_, ((a4 != 2)), (by first | rfl | (simp; done) | (simp [*]; done)), H', ⟨by first | omega | exact Nat.le_refl _⟩, ⟨by (with_reducible repeat (first | refine blk_drewN ?_ _ | refine blk_drew ?_ | refine blk_alloc ?_ _)); exact BK169.out⟩, ⟨by (with_reducible repeat (first | refine blk_drewN ?_ _ | refine blk_drew ?_ | refine blk_alloc ?_ _)); exact BK170.out⟩, ⟨by repeat (first | (with_reducible first | exact HB.out | apply below_alloc | apply pw_below_drewN | apply below_drew1 | refine below_set ?_ GE169.out | refine below_set ?_ GE170.out) | exact HB.out)⟩⟩
      · replace c12 := Bool.eq_false_iff.mpr c12
        subst c12
        have H1 : (lease_Turn.j0 k a1 a2 a3 a4 true a0_0 a0_1 a0_2 a0_3) = some (r1, r2, r3, r4, r5) := by rw [if_neg (show ¬ (false = true) by decide)] at H; exact H
        clear H
        have H := H1
        clear H1
        have H' := Aside0.mk H
        clear H
        have hnb20 := NB169_170.out
        have hnc20 := NB170_169.out
        have hcz21_0 : w8.cell? ⟨gb169, 0, none⟩ = some (.int .u32 a0_0) := (blk_cell BK169.out 0).trans rfl
        have hcz21_1 : w8.cell? ⟨gb169, 1, none⟩ = some (.int .i64 a0_1) := (blk_cell BK169.out 1).trans rfl
        have hcz21_2 : w8.cell? ⟨gb169, 2, none⟩ = some (.int .u64 a0_2) := (blk_cell BK169.out 2).trans rfl
        have hcz21_3 : w8.cell? ⟨gb169, 3, none⟩ = some (.int .i64 a0_3) := (blk_cell BK169.out 3).trans rfl
        have hfz21_0 := blk_frozen BK169.out 0
        have hfz21_1 := blk_frozen BK169.out 1
        have hfz21_2 := blk_frozen BK169.out 2
        have hfz21_3 := blk_frozen BK169.out 3
        go_wp2_with (first | ((with_reducible refine gate_callee (f := 10) rfl ?_); refine goesL_ (some 14) rfl rfl Try.func10 (by kernel_rfl) rfl #[.agg #[.int .u32 a0_0, .int .i64 a0_1, .int .u64 a0_2, .int .i64 a0_3]] rfl (by (try simp only [List.map_toArray, List.map_cons, List.map_nil]); first | done | rfl | (simp only [List.length_drop, List.length_take]; rfl)) ?_; (with_reducible refine (lease_Check.calls a0_0 a0_1 a0_2 a0_3 t171 _ A9.out).mono ?_); rintro e w22 ⟨rfl, hb⟩; refine ⟨_, rfl, ?_⟩; have n0_ := Aside0.mk (blk_below (g := gb169) (o := .cells #[.int .u32 a0_0, .int .i64 a0_1, .int .u64 a0_2, .int .i64 a0_3] 25 (0, 0)) (by (with_reducible repeat (first | refine blk_drewN ?_ _ | refine blk_drew ?_ | refine blk_alloc ?_ _)); exact BK169.out) hb); have n1_ := Aside0.mk (blk_below (g := gb170) (o := .cells #[.int .u32 0, .int .i64 0, .int .u64 0, .int .i64 0] 25 (0, 0)) (by (with_reducible repeat (first | refine blk_drewN ?_ _ | refine blk_drew ?_ | refine blk_alloc ?_ _)); exact BK170.out) hb); have n2_ := Aside0.mk (below_step (by repeat (first | (with_reducible first | exact HB.out | apply below_alloc | apply pw_below_drewN | apply below_drew1 | refine below_set ?_ GE169.out | refine below_set ?_ GE170.out) | exact HB.out)) hb); clear BK169; clear BK170; clear HB; have BK169 := n0_; have BK170 := n1_; have HB := n2_; clear n0_ n1_ n2_; (try clear hb); (try clear hb2); (try clear hk); (try clear hi)) | (go_at_call 25; (with_reducible refine (lease_is.calls a2 false _ A11.out).mono ?_); rintro e w' ⟨rfl, ⟨nd, rfl⟩⟩))
        go_meet
        case rel => exact ⟨_, (true), (by first | rfl | (simp; done) | (simp [*]; done)), H', ⟨by first | omega | exact Nat.le_refl _⟩, ⟨by (with_reducible repeat (first | refine blk_drewN ?_ _ | refine blk_drew ?_ | refine blk_alloc ?_ _)); exact BK169.out⟩, ⟨by (with_reducible repeat (first | refine blk_drewN ?_ _ | refine blk_drew ?_ | refine blk_alloc ?_ _)); exact BK170.out⟩, ⟨by repeat (first | (with_reducible first | exact HB.out | apply below_alloc | apply pw_below_drewN | apply below_drew1 | refine below_set ?_ GE169.out | refine below_set ?_ GE170.out) | exact HB.out)⟩⟩
    · rw [if_neg c10] at H
      have c10b0 : (t171 == 0) = false := beq_eq_false_iff_ne.mpr c10
      have c10b1 : (t171 != 0) = true := bne_iff_ne.mpr c10
      (first | rw [c10b0] | (simp only [i64_w, i32_w]; rw [c10b0]) | skip)
      have H' := Aside0.mk H
      clear H
      have hnb23 := NB169_170.out
      have hnc23 := NB170_169.out
      have hcz24_0 : w8.cell? ⟨gb169, 0, none⟩ = some (.int .u32 a0_0) := (blk_cell BK169.out 0).trans rfl
      have hcz24_1 : w8.cell? ⟨gb169, 1, none⟩ = some (.int .i64 a0_1) := (blk_cell BK169.out 1).trans rfl
      have hcz24_2 : w8.cell? ⟨gb169, 2, none⟩ = some (.int .u64 a0_2) := (blk_cell BK169.out 2).trans rfl
      have hcz24_3 : w8.cell? ⟨gb169, 3, none⟩ = some (.int .i64 a0_3) := (blk_cell BK169.out 3).trans rfl
      have hfz24_0 := blk_frozen BK169.out 0
      have hfz24_1 := blk_frozen BK169.out 1
      have hfz24_2 := blk_frozen BK169.out 2
      have hfz24_3 := blk_frozen BK169.out 3
      go_wp2_with (first | ((with_reducible refine gate_callee (f := 10) rfl ?_); refine goesL_ (some 14) rfl rfl Try.func10 (by kernel_rfl) rfl #[.agg #[.int .u32 a0_0, .int .i64 a0_1, .int .u64 a0_2, .int .i64 a0_3]] rfl (by (try simp only [List.map_toArray, List.map_cons, List.map_nil]); first | done | rfl | (simp only [List.length_drop, List.length_take]; rfl)) ?_; (with_reducible refine (lease_Check.calls a0_0 a0_1 a0_2 a0_3 t171 _ A9.out).mono ?_); rintro e w25 ⟨rfl, hb⟩; refine ⟨_, rfl, ?_⟩; have n0_ := Aside0.mk (blk_below (g := gb169) (o := .cells #[.int .u32 a0_0, .int .i64 a0_1, .int .u64 a0_2, .int .i64 a0_3] 25 (0, 0)) (by (with_reducible repeat (first | refine blk_drewN ?_ _ | refine blk_drew ?_ | refine blk_alloc ?_ _)); exact BK169.out) hb); have n1_ := Aside0.mk (blk_below (g := gb170) (o := .cells #[.int .u32 0, .int .i64 0, .int .u64 0, .int .i64 0] 25 (0, 0)) (by (with_reducible repeat (first | refine blk_drewN ?_ _ | refine blk_drew ?_ | refine blk_alloc ?_ _)); exact BK170.out) hb); have n2_ := Aside0.mk (below_step (by repeat (first | (with_reducible first | exact HB.out | apply below_alloc | apply pw_below_drewN | apply below_drew1 | refine below_set ?_ GE169.out | refine below_set ?_ GE170.out) | exact HB.out)) hb); clear BK169; clear BK170; clear HB; have BK169 := n0_; have BK170 := n1_; have HB := n2_; clear n0_ n1_ n2_; (try clear hb); (try clear hb2); (try clear hk); (try clear hi)))
      go_meet
      case rel => exact ⟨_, (true), (by first | rfl | (simp; done) | (simp [*]; done)), H', ⟨by first | omega | exact Nat.le_refl _⟩, ⟨by (with_reducible repeat (first | refine blk_drewN ?_ _ | refine blk_drew ?_ | refine blk_alloc ?_ _)); exact BK169.out⟩, ⟨by (with_reducible repeat (first | refine blk_drewN ?_ _ | refine blk_drew ?_ | refine blk_alloc ?_ _)); exact BK170.out⟩, ⟨by repeat (first | (with_reducible first | exact HB.out | apply below_alloc | apply pw_below_drewN | apply below_drew1 | refine below_set ?_ GE169.out | refine below_set ?_ GE170.out) | exact HB.out)⟩⟩
  case rest =>
    clear HC6
    try clear c1
    try clear c2
    try clear p2
    try clear c10
    try clear c10b0
    try clear c10b1
    try clear c12
    try clear c13
    try clear c13b0
    try clear c13b1
    try clear c14
    try clear c17
    try clear c20
    try clear c22
    try clear c23
    try clear hcz15_0
    try clear hcz15_1
    try clear hcz15_2
    try clear hcz15_3
    try clear hcz18_0
    try clear hcz18_1
    try clear hcz18_2
    try clear hcz18_3
    try clear hcz21_0
    try clear hcz21_1
    try clear hcz21_2
    try clear hcz21_3
    try clear hcz24_0
    try clear hcz24_1
    try clear hcz24_2
    try clear hcz24_3
    try clear hfz15_0
    try clear hfz15_1
    try clear hfz15_2
    try clear hfz15_3
    try clear hfz18_0
    try clear hfz18_1
    try clear hfz18_2
    try clear hfz18_3
    try clear hfz21_0
    try clear hfz21_1
    try clear hfz21_2
    try clear hfz21_3
    try clear hfz24_0
    try clear hfz24_1
    try clear hfz24_2
    try clear hfz24_3
    obtain ⟨kq, x28_5, rfl, HA, HJ5, BK169, BK170, HB⟩ := hcut
    cases kq with
    | zero => exact absurd HA.out (by simp [lease_Turn.j0])
    | succ kj5 =>
      have H := HA.out
      clear HA
      simp only [lease_Turn.j0] at H
      by_cases c26 : x28_5 = true
      · subst c26
        have H1 : (some (0, 0, 0, 0, 2)) = some (r1, r2, r3, r4, r5) := by rw [if_pos rfl] at H; exact H
        clear H
        have H := H1
        clear H1
        simp only [Option.some.injEq, Prod.mk.injEq] at H
        obtain ⟨rfl, rfl, rfl, rfl, rfl⟩ := H
        have hnb27 := NB170_169.out
        have hnc27 := NB169_170.out
        have hcz28_0 : wc.cell? ⟨gb170, 0, none⟩ = some (.int .u32 0) := (blk_cell BK170.out 0).trans rfl
        have hcz28_1 : wc.cell? ⟨gb170, 1, none⟩ = some (.int .i64 0) := (blk_cell BK170.out 1).trans rfl
        have hcz28_2 : wc.cell? ⟨gb170, 2, none⟩ = some (.int .u64 0) := (blk_cell BK170.out 2).trans rfl
        have hcz28_3 : wc.cell? ⟨gb170, 3, none⟩ = some (.int .i64 0) := (blk_cell BK170.out 3).trans rfl
        have hfz28_0 := blk_frozen BK170.out 0
        have hfz28_1 := blk_frozen BK170.out 1
        have hfz28_2 := blk_frozen BK170.out 2
        have hfz28_3 := blk_frozen BK170.out 3
        go_wp2
        refine bodyPost_ret (results_ct rfl _ _ gb170 25 #[.int .u32 0, .int .i64 0, .int .u64 0, .int .i64 0] (0, 0) _ rfl (by (with_reducible repeat (first | refine blk_drewN ?_ _ | refine blk_drew ?_ | refine blk_alloc ?_ _)); refine blk_put (cs := #[.int .u32 0, .int .i64 0, .int .u64 0, .int .i64 0]) ?_ 3 _ rfl; (with_reducible repeat (first | refine blk_drewN ?_ _ | refine blk_drew ?_ | refine blk_alloc ?_ _)); refine blk_put (cs := #[.int .u32 0, .int .i64 0, .int .u64 0, .int .i64 0]) ?_ 2 _ rfl; (with_reducible repeat (first | refine blk_drewN ?_ _ | refine blk_drew ?_ | refine blk_alloc ?_ _)); refine blk_put (cs := #[.int .u32 0, .int .i64 0, .int .u64 0, .int .i64 0]) ?_ 1 _ rfl; (with_reducible repeat (first | refine blk_drewN ?_ _ | refine blk_drew ?_ | refine blk_alloc ?_ _)); refine blk_put (cs := #[.int .u32 0, .int .i64 0, .int .u64 0, .int .i64 0]) ?_ 0 _ rfl; (with_reducible repeat (first | refine blk_drewN ?_ _ | refine blk_drew ?_ | refine blk_alloc ?_ _)); exact BK170.out) Try.underlying25 rfl (by kernel_rfl)) rfl ?_
        exact ⟨by first | rfl | (simp [errW_none, errW_some] <;> rfl) | (simp [*, errW_none, errW_some] <;> rfl), by repeat (first | (with_reducible first | exact HB.out | apply below_alloc | apply pw_below_drewN | apply below_drew1 | refine below_set ?_ GE169.out | refine below_set ?_ GE170.out) | exact HB.out)⟩
      · replace c26 := Bool.eq_false_iff.mpr c26
        subst c26
        have H1 : ((lease_own.f kj5 a0_0 a0_1 a0_2 a0_3 a1 a2 a3).bind fun t173 => (if t173 = 0 then (some (a0_0, a0_1, a0_2, a4, 0)) else (some (0, 0, 0, 0, t173)))) = some (r1, r2, r3, r4, r5) := by rw [if_neg (show ¬ (false = true) by decide)] at H; exact H
        clear H
        have H := H1
        clear H1
        replace H := Option.bind_eq_some_iff.mp H
        obtain ⟨t173, A290, H⟩ := H
        replace H : (if t173 = 0 then (some (a0_0, a0_1, a0_2, a4, 0)) else (some (0, 0, 0, 0, t173))) = some (r1, r2, r3, r4, r5) := H
        have A29 := Aside0.mk A290
        clear A290
        by_cases c30 : t173 = 0
        · rw [if_pos c30] at H
          have c30b0 : (t173 == 0) = true := beq_iff_eq.mpr c30
          have c30b1 : (t173 != 0) = false := bne_eq_false_iff_eq.mpr c30
          clear c30
          simp only [Option.some.injEq, Prod.mk.injEq] at H
          obtain ⟨rfl, rfl, rfl, rfl, rfl⟩ := H
          have hnb31 := NB169_170.out
          have hnc31 := NB170_169.out
          have hcz32_0 : wc.cell? ⟨gb169, 0, none⟩ = some (.int .u32 a0_0) := (blk_cell BK169.out 0).trans rfl
          have hcz32_1 : wc.cell? ⟨gb169, 1, none⟩ = some (.int .i64 a0_1) := (blk_cell BK169.out 1).trans rfl
          have hcz32_2 : wc.cell? ⟨gb169, 2, none⟩ = some (.int .u64 a0_2) := (blk_cell BK169.out 2).trans rfl
          have hcz32_3 : wc.cell? ⟨gb169, 3, none⟩ = some (.int .i64 a0_3) := (blk_cell BK169.out 3).trans rfl
          have hfz32_0 := blk_frozen BK169.out 0
          have hfz32_1 := blk_frozen BK169.out 1
          have hfz32_2 := blk_frozen BK169.out 2
          have hfz32_3 := blk_frozen BK169.out 3
          go_wp2_with (first | ((with_reducible refine gate_callee (f := 28) rfl ?_); refine goesL_ (some 34) rfl rfl Try.func28 (by kernel_rfl) rfl #[.agg #[.int .u32 a0_0, .int .i64 a0_1, .int .u64 a0_2, .int .i64 a0_3], .int .u64 a1, .int .i64 a2, .int .u32 a3] rfl (by (try simp only [List.map_toArray, List.map_cons, List.map_nil]); first | done | rfl | (simp only [List.length_drop, List.length_take]; rfl)) ?_; (with_reducible refine (lease_own.calls kj5 a0_0 a0_1 a0_2 a0_3 a1 a2 a3 t173 _ A29.out).mono ?_); rintro e w33 ⟨rfl, hb⟩; refine ⟨_, rfl, ?_⟩; have n0_ := Aside0.mk (blk_below (g := gb169) (o := .cells #[.int .u32 a0_0, .int .i64 a0_1, .int .u64 a0_2, .int .i64 a0_3] 25 (0, 0)) (by (with_reducible repeat (first | refine blk_drewN ?_ _ | refine blk_drew ?_ | refine blk_alloc ?_ _)); exact BK169.out) hb); have n1_ := Aside0.mk (blk_below (g := gb170) (o := .cells #[.int .u32 0, .int .i64 0, .int .u64 0, .int .i64 0] 25 (0, 0)) (by (with_reducible repeat (first | refine blk_drewN ?_ _ | refine blk_drew ?_ | refine blk_alloc ?_ _)); exact BK170.out) hb); have n2_ := Aside0.mk (below_step (by repeat (first | (with_reducible first | exact HB.out | apply below_alloc | apply pw_below_drewN | apply below_drew1 | refine below_set ?_ GE169.out | refine below_set ?_ GE170.out) | exact HB.out)) hb); clear BK169; clear BK170; clear HB; have BK169 := n0_; have BK170 := n1_; have HB := n2_; clear n0_ n1_ n2_; (try clear hb); (try clear hb2); (try clear hk); (try clear hi); have hcz34_0 : w33.cell? ⟨gb169, 0, none⟩ = some (.int .u32 a0_0) := (blk_cell BK169.out 0).trans rfl; have hcz34_1 : w33.cell? ⟨gb169, 1, none⟩ = some (.int .i64 a0_1) := (blk_cell BK169.out 1).trans rfl; have hcz34_2 : w33.cell? ⟨gb169, 2, none⟩ = some (.int .u64 a0_2) := (blk_cell BK169.out 2).trans rfl; have hcz34_3 : w33.cell? ⟨gb169, 3, none⟩ = some (.int .i64 a0_3) := (blk_cell BK169.out 3).trans rfl; have hfz34_0 := blk_frozen BK169.out 0; have hfz34_1 := blk_frozen BK169.out 1; have hfz34_2 := blk_frozen BK169.out 2; have hfz34_3 := blk_frozen BK169.out 3; have hcz35_0 : w33.cell? ⟨gb170, 0, none⟩ = some (.int .u32 0) := (blk_cell BK170.out 0).trans rfl; have hcz35_1 : w33.cell? ⟨gb170, 1, none⟩ = some (.int .i64 0) := (blk_cell BK170.out 1).trans rfl; have hcz35_2 : w33.cell? ⟨gb170, 2, none⟩ = some (.int .u64 0) := (blk_cell BK170.out 2).trans rfl; have hcz35_3 : w33.cell? ⟨gb170, 3, none⟩ = some (.int .i64 0) := (blk_cell BK170.out 3).trans rfl; have hfz35_0 := blk_frozen BK170.out 0; have hfz35_1 := blk_frozen BK170.out 1; have hfz35_2 := blk_frozen BK170.out 2; have hfz35_3 := blk_frozen BK170.out 3))
          refine bodyPost_ret (results_ct rfl _ _ gb170 25 #[.int .u32 a0_0, .int .i64 a0_1, .int .u64 a0_2, .int .i64 a4] (0, 0) _ rfl (by (with_reducible repeat (first | refine blk_drewN ?_ _ | refine blk_drew ?_ | refine blk_alloc ?_ _)); refine blk_put (cs := #[.int .u32 a0_0, .int .i64 a0_1, .int .u64 a0_2, .int .i64 0]) ?_ 3 _ rfl; (with_reducible repeat (first | refine blk_drewN ?_ _ | refine blk_drew ?_ | refine blk_alloc ?_ _)); refine blk_put (cs := #[.int .u32 a0_0, .int .i64 a0_1, .int .u64 0, .int .i64 0]) ?_ 2 _ rfl; (with_reducible repeat (first | refine blk_drewN ?_ _ | refine blk_drew ?_ | refine blk_alloc ?_ _)); refine blk_put (cs := #[.int .u32 a0_0, .int .i64 0, .int .u64 0, .int .i64 0]) ?_ 1 _ rfl; (with_reducible repeat (first | refine blk_drewN ?_ _ | refine blk_drew ?_ | refine blk_alloc ?_ _)); refine blk_put (cs := #[.int .u32 0, .int .i64 0, .int .u64 0, .int .i64 0]) ?_ 0 _ rfl; (with_reducible repeat (first | refine blk_drewN ?_ _ | refine blk_drew ?_ | refine blk_alloc ?_ _)); refine blk_far ?_ NB170_169.out _; (with_reducible repeat (first | refine blk_drewN ?_ _ | refine blk_drew ?_ | refine blk_alloc ?_ _)); exact BK170.out) Try.underlying25 rfl (by kernel_rfl)) rfl ?_
          exact ⟨by first | rfl | (simp [errW_none, errW_some] <;> rfl) | (simp [*, errW_none, errW_some] <;> rfl), by repeat (first | (with_reducible first | exact HB.out | apply below_alloc | apply pw_below_drewN | apply below_drew1 | refine below_set ?_ GE169.out | refine below_set ?_ GE170.out) | exact HB.out)⟩
        · rw [if_neg c30] at H
          have c30b0 : (t173 == 0) = false := beq_eq_false_iff_ne.mpr c30
          have c30b1 : (t173 != 0) = true := bne_iff_ne.mpr c30
          simp only [Option.some.injEq, Prod.mk.injEq] at H
          obtain ⟨rfl, rfl, rfl, rfl, rfl⟩ := H
          have hnb36 := NB169_170.out
          have hnc36 := NB170_169.out
          have hcz37_0 : wc.cell? ⟨gb169, 0, none⟩ = some (.int .u32 a0_0) := (blk_cell BK169.out 0).trans rfl
          have hcz37_1 : wc.cell? ⟨gb169, 1, none⟩ = some (.int .i64 a0_1) := (blk_cell BK169.out 1).trans rfl
          have hcz37_2 : wc.cell? ⟨gb169, 2, none⟩ = some (.int .u64 a0_2) := (blk_cell BK169.out 2).trans rfl
          have hcz37_3 : wc.cell? ⟨gb169, 3, none⟩ = some (.int .i64 a0_3) := (blk_cell BK169.out 3).trans rfl
          have hfz37_0 := blk_frozen BK169.out 0
          have hfz37_1 := blk_frozen BK169.out 1
          have hfz37_2 := blk_frozen BK169.out 2
          have hfz37_3 := blk_frozen BK169.out 3
          go_wp2_with (first | ((with_reducible refine gate_callee (f := 28) rfl ?_); refine goesL_ (some 34) rfl rfl Try.func28 (by kernel_rfl) rfl #[.agg #[.int .u32 a0_0, .int .i64 a0_1, .int .u64 a0_2, .int .i64 a0_3], .int .u64 a1, .int .i64 a2, .int .u32 a3] rfl (by (try simp only [List.map_toArray, List.map_cons, List.map_nil]); first | done | rfl | (simp only [List.length_drop, List.length_take]; rfl)) ?_; (with_reducible refine (lease_own.calls kj5 a0_0 a0_1 a0_2 a0_3 a1 a2 a3 t173 _ A29.out).mono ?_); rintro e w38 ⟨rfl, hb⟩; refine ⟨_, rfl, ?_⟩; have n0_ := Aside0.mk (blk_below (g := gb169) (o := .cells #[.int .u32 a0_0, .int .i64 a0_1, .int .u64 a0_2, .int .i64 a0_3] 25 (0, 0)) (by (with_reducible repeat (first | refine blk_drewN ?_ _ | refine blk_drew ?_ | refine blk_alloc ?_ _)); exact BK169.out) hb); have n1_ := Aside0.mk (blk_below (g := gb170) (o := .cells #[.int .u32 0, .int .i64 0, .int .u64 0, .int .i64 0] 25 (0, 0)) (by (with_reducible repeat (first | refine blk_drewN ?_ _ | refine blk_drew ?_ | refine blk_alloc ?_ _)); exact BK170.out) hb); have n2_ := Aside0.mk (below_step (by repeat (first | (with_reducible first | exact HB.out | apply below_alloc | apply pw_below_drewN | apply below_drew1 | refine below_set ?_ GE169.out | refine below_set ?_ GE170.out) | exact HB.out)) hb); clear BK169; clear BK170; clear HB; have BK169 := n0_; have BK170 := n1_; have HB := n2_; clear n0_ n1_ n2_; (try clear hb); (try clear hb2); (try clear hk); (try clear hi); have hcz39_0 : w38.cell? ⟨gb170, 0, none⟩ = some (.int .u32 0) := (blk_cell BK170.out 0).trans rfl; have hcz39_1 : w38.cell? ⟨gb170, 1, none⟩ = some (.int .i64 0) := (blk_cell BK170.out 1).trans rfl; have hcz39_2 : w38.cell? ⟨gb170, 2, none⟩ = some (.int .u64 0) := (blk_cell BK170.out 2).trans rfl; have hcz39_3 : w38.cell? ⟨gb170, 3, none⟩ = some (.int .i64 0) := (blk_cell BK170.out 3).trans rfl; have hfz39_0 := blk_frozen BK170.out 0; have hfz39_1 := blk_frozen BK170.out 1; have hfz39_2 := blk_frozen BK170.out 2; have hfz39_3 := blk_frozen BK170.out 3))
          refine bodyPost_ret (results_ct rfl _ _ gb170 25 #[.int .u32 0, .int .i64 0, .int .u64 0, .int .i64 0] (0, 0) _ rfl (by (with_reducible repeat (first | refine blk_drewN ?_ _ | refine blk_drew ?_ | refine blk_alloc ?_ _)); refine blk_put (cs := #[.int .u32 0, .int .i64 0, .int .u64 0, .int .i64 0]) ?_ 3 _ rfl; (with_reducible repeat (first | refine blk_drewN ?_ _ | refine blk_drew ?_ | refine blk_alloc ?_ _)); refine blk_put (cs := #[.int .u32 0, .int .i64 0, .int .u64 0, .int .i64 0]) ?_ 2 _ rfl; (with_reducible repeat (first | refine blk_drewN ?_ _ | refine blk_drew ?_ | refine blk_alloc ?_ _)); refine blk_put (cs := #[.int .u32 0, .int .i64 0, .int .u64 0, .int .i64 0]) ?_ 1 _ rfl; (with_reducible repeat (first | refine blk_drewN ?_ _ | refine blk_drew ?_ | refine blk_alloc ?_ _)); refine blk_put (cs := #[.int .u32 0, .int .i64 0, .int .u64 0, .int .i64 0]) ?_ 0 _ rfl; (with_reducible repeat (first | refine blk_drewN ?_ _ | refine blk_drew ?_ | refine blk_alloc ?_ _)); exact BK170.out) Try.underlying25 rfl (by kernel_rfl)) rfl ?_
          exact ⟨by first | rfl | (simp [errW_none, errW_some] <;> rfl) | (simp [*, errW_none, errW_some] <;> rfl), by repeat (first | (with_reducible first | exact HB.out | apply below_alloc | apply pw_below_drewN | apply below_drew1 | refine below_set ?_ GE169.out | refine below_set ?_ GE170.out) | exact HB.out)⟩

end Go.Proofs.Ytmepidkffpmflaa.PLeaseRenews
