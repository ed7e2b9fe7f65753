/- The function drayagelaw06.EpochsMeets: it comes to the answers of its Lean function. No condition. Put together by a program of mine out of what the print writes for this law. -/
import Derived.Test.YtdbebophchggfaaE4
namespace Go.Proofs.Ytdbebophchggfaa.Ep
open Go.RowKit Go.Proofs.YtdbebophchggfaaW.PrintWords Go.Proofs.YtdbebophchggfaaW.PrintLast Go.Proofs.YtdbebophchggfaaW.PrintMore
attribute [local go_sem] max2_int min2_int max_two min_two max_three min_three max_four min_four
set_option linter.unusedVariables false
set_option linter.unusedSimpArgs false


/-! ### drayagelaw06_EpochsMeets -/
mutual
def drayagelaw06_EpochsMeets.j0 : Nat → List (S37) → Int → List (S37) → Int → Bool → Option (Bool)
  | 0, _, _, _, _, _ => none
  | k + 1, x0, x1, x2, x3, x30 => if x30 = true then ((drayagelaw06_known.f k).bind fun t148 => (some t148)) else (if (x0.length : Int) > 0 then (if 0 < (x0.length : Int) then (if ((rd_T37 x0 0).f1) > 1 then (drayagelaw06_EpochsMeets.j1 k x0 x1 x2 x3 true) else (if (x2.length : Int) > 0 then (if 0 < (x2.length : Int) then (if ((rd_T37 x2 0).f1) > 1 then (drayagelaw06_EpochsMeets.j1 k x0 x1 x2 x3 true) else (if (x0.length : Int) = 0 then (if x1 > 0 then (drayagelaw06_EpochsMeets.j1 k x0 x1 x2 x3 true) else (if (x2.length : Int) = 0 then (drayagelaw06_EpochsMeets.j1 k x0 x1 x2 x3 (decide (x3 > 0))) else (drayagelaw06_EpochsMeets.j1 k x0 x1 x2 x3 false))) else (if (x2.length : Int) = 0 then (drayagelaw06_EpochsMeets.j1 k x0 x1 x2 x3 (decide (x3 > 0))) else (drayagelaw06_EpochsMeets.j1 k x0 x1 x2 x3 false)))) else (none)) else (if (x0.length : Int) = 0 then (if x1 > 0 then (drayagelaw06_EpochsMeets.j1 k x0 x1 x2 x3 true) else (if (x2.length : Int) = 0 then (drayagelaw06_EpochsMeets.j1 k x0 x1 x2 x3 (decide (x3 > 0))) else (drayagelaw06_EpochsMeets.j1 k x0 x1 x2 x3 false))) else (if (x2.length : Int) = 0 then (drayagelaw06_EpochsMeets.j1 k x0 x1 x2 x3 (decide (x3 > 0))) else (drayagelaw06_EpochsMeets.j1 k x0 x1 x2 x3 false))))) else (none)) else (if (x2.length : Int) > 0 then (if 0 < (x2.length : Int) then (if ((rd_T37 x2 0).f1) > 1 then (drayagelaw06_EpochsMeets.j1 k x0 x1 x2 x3 true) else (if (x0.length : Int) = 0 then (if x1 > 0 then (drayagelaw06_EpochsMeets.j1 k x0 x1 x2 x3 true) else (if (x2.length : Int) = 0 then (drayagelaw06_EpochsMeets.j1 k x0 x1 x2 x3 (decide (x3 > 0))) else (drayagelaw06_EpochsMeets.j1 k x0 x1 x2 x3 false))) else (if (x2.length : Int) = 0 then (drayagelaw06_EpochsMeets.j1 k x0 x1 x2 x3 (decide (x3 > 0))) else (drayagelaw06_EpochsMeets.j1 k x0 x1 x2 x3 false)))) else (none)) else (if (x0.length : Int) = 0 then (if x1 > 0 then (drayagelaw06_EpochsMeets.j1 k x0 x1 x2 x3 true) else (if (x2.length : Int) = 0 then (drayagelaw06_EpochsMeets.j1 k x0 x1 x2 x3 (decide (x3 > 0))) else (drayagelaw06_EpochsMeets.j1 k x0 x1 x2 x3 false))) else (if (x2.length : Int) = 0 then (drayagelaw06_EpochsMeets.j1 k x0 x1 x2 x3 (decide (x3 > 0))) else (drayagelaw06_EpochsMeets.j1 k x0 x1 x2 x3 false)))))
def drayagelaw06_EpochsMeets.j1 : Nat → List (S37) → Int → List (S37) → Int → Bool → Option (Bool)
  | 0, _, _, _, _, _ => none
  | k + 1, x0, x1, x2, x3, x71 => if x71 = true then ((drayagelaw06_known.f k).bind fun t152 => (some t152)) else ((drayagelaw06_shared.f k x0 x2).bind fun t153 => (if t153 = true then ((epochs_Fork.f x0 x1 x2 x3).bind fun t155 => ((epochs_Cut.f k x2 x3).bind fun t156 => (drayagelaw06_EpochsMeets.l0 k x0 x1 x2 t155 x3 t156 0))) else ((drayagelaw06_known.f k).bind fun t154 => (some t154))))
def drayagelaw06_EpochsMeets.l0 : Nat → List (S37) → Int → List (S37) → Int → Int → List (S37) → Int → Option (Bool)
  | 0, _, _, _, _, _, _, _ => none
  | k + 1, x0, x1, x2, x9, x10, x11, x12 => if x12 < (wrap64 ((x2.length : Int) + 2)) then ((epochs_At.f k x11 x10).bind fun t160 => ((epochs_End.f k x0 x1 t160).bind fun t161 => ((epochs_At.f k x0 t161).bind fun t162 => ((epochs_End.f k x11 x10 t162).bind fun t163 => (if (mn x10 (mn t161 t163)) = x10 then (if x10 = x9 then ((drayagelaw06_known.f k).bind fun t164 => (some t164)) else (some false)) else ((epochs_Cut.f k x11 (mn x10 (mn t161 t163))).bind fun t165 => (drayagelaw06_EpochsMeets.l0 k x0 x1 x2 x9 (mn x10 (mn t161 t163)) t165 (wrap64 (x12 + 1))))))))) else (if x10 = x9 then ((drayagelaw06_known.f k).bind fun t159 => (some t159)) else (some false))
end
def drayagelaw06_EpochsMeets.f (k : Nat) (l0 : List (S37)) (a1 : Int) (l2 : List (S37)) (a3 : Int) : Option (Bool) := (drayagelaw06_many.f l0 l2).bind fun t145 => (if t145 = true then (drayagelaw06_EpochsMeets.j0 k l0 a1 l2 a3 true) else ((epochs_Check.f k l0).bind fun t146 => (if t146 = 0 then ((epochs_Check.f k l2).bind fun t147 => (drayagelaw06_EpochsMeets.j0 k l0 a1 l2 a3 (t147 != 0))) else (drayagelaw06_EpochsMeets.j0 k l0 a1 l2 a3 true))))
theorem drayagelaw06_EpochsMeets.mono_l : ∀ k, (∀ y0 y1 y2 y3 y4, LeO (drayagelaw06_EpochsMeets.j0 k y0 y1 y2 y3 y4) (drayagelaw06_EpochsMeets.j0 (k + 1) y0 y1 y2 y3 y4)) ∧ (∀ y0 y1 y2 y3 y4, LeO (drayagelaw06_EpochsMeets.j1 k y0 y1 y2 y3 y4) (drayagelaw06_EpochsMeets.j1 (k + 1) y0 y1 y2 y3 y4)) ∧ (∀ y0 y1 y2 y3 y4 y5 y6, LeO (drayagelaw06_EpochsMeets.l0 k y0 y1 y2 y3 y4 y5 y6) (drayagelaw06_EpochsMeets.l0 (k + 1) y0 y1 y2 y3 y4 y5 y6))
  | 0 => ⟨fun _ _ _ _ _ r h => by simp [drayagelaw06_EpochsMeets.j0] at h, fun _ _ _ _ _ r h => by simp [drayagelaw06_EpochsMeets.j1] at h, fun _ _ _ _ _ _ _ r h => by simp [drayagelaw06_EpochsMeets.l0] at h⟩
  | k + 1 => by
    obtain ⟨ih0, ih1, ih2⟩ := drayagelaw06_EpochsMeets.mono_l k
    refine ⟨?_, ?_, ?_⟩
    · intro y0 y1 y2 y3 y4
      unfold drayagelaw06_EpochsMeets.j0
      repeat' first
      | (with_reducible exact ih0 _ _ _ _ _)
      | (with_reducible exact ih1 _ _ _ _ _)
      | (with_reducible exact ih2 _ _ _ _ _ _ _)
      | (with_reducible exact drayagelaw06_known.mono _)
      | (with_reducible exact drayagelaw06_shared.mono _ _ _)
      | (with_reducible exact epochs_At.mono _ _ _)
      | (with_reducible exact epochs_Check.mono _ _)
      | (with_reducible exact epochs_Cut.mono _ _ _)
      | (with_reducible exact epochs_End.mono _ _ _ _)
      | (with_reducible exact LeO.refl _)
      | (with_reducible exact LeO.none _)
      | (with_reducible refine LeO.ite ?_ ?_)
      | (with_reducible refine LeO.bind ?_ (fun _ => ?_))
      | exact ih0 _ _ _ _ _
      | exact ih1 _ _ _ _ _
      | exact ih2 _ _ _ _ _ _ _
      | exact drayagelaw06_known.mono _
      | exact drayagelaw06_shared.mono _ _ _
      | exact epochs_At.mono _ _ _
      | exact epochs_Check.mono _ _
      | exact epochs_Cut.mono _ _ _
      | exact epochs_End.mono _ _ _ _
      | exact LeO.none _
      | refine LeO.ite ?_ ?_
      | refine LeO.bind ?_ (fun _ => ?_)
    · intro y0 y1 y2 y3 y4
      unfold drayagelaw06_EpochsMeets.j1
      repeat' first
      | (with_reducible exact ih0 _ _ _ _ _)
      | (with_reducible exact ih1 _ _ _ _ _)
      | (with_reducible exact ih2 _ _ _ _ _ _ _)
      | (with_reducible exact drayagelaw06_known.mono _)
      | (with_reducible exact drayagelaw06_shared.mono _ _ _)
      | (with_reducible exact epochs_At.mono _ _ _)
      | (with_reducible exact epochs_Check.mono _ _)
      | (with_reducible exact epochs_Cut.mono _ _ _)
      | (with_reducible exact epochs_End.mono _ _ _ _)
      | (with_reducible exact LeO.refl _)
      | (with_reducible exact LeO.none _)
      | (with_reducible refine LeO.ite ?_ ?_)
      | (with_reducible refine LeO.bind ?_ (fun _ => ?_))
      | exact ih0 _ _ _ _ _
      | exact ih1 _ _ _ _ _
      | exact ih2 _ _ _ _ _ _ _
      | exact drayagelaw06_known.mono _
      | exact drayagelaw06_shared.mono _ _ _
      | exact epochs_At.mono _ _ _
      | exact epochs_Check.mono _ _
      | exact epochs_Cut.mono _ _ _
      | exact epochs_End.mono _ _ _ _
      | exact LeO.none _
      | refine LeO.ite ?_ ?_
      | refine LeO.bind ?_ (fun _ => ?_)
    · intro y0 y1 y2 y3 y4 y5 y6
      unfold drayagelaw06_EpochsMeets.l0
      repeat' first
      | (with_reducible exact ih0 _ _ _ _ _)
      | (with_reducible exact ih1 _ _ _ _ _)
      | (with_reducible exact ih2 _ _ _ _ _ _ _)
      | (with_reducible exact drayagelaw06_known.mono _)
      | (with_reducible exact drayagelaw06_shared.mono _ _ _)
      | (with_reducible exact epochs_At.mono _ _ _)
      | (with_reducible exact epochs_Check.mono _ _)
      | (with_reducible exact epochs_Cut.mono _ _ _)
      | (with_reducible exact epochs_End.mono _ _ _ _)
      | (with_reducible exact LeO.refl _)
      | (with_reducible exact LeO.none _)
      | (with_reducible refine LeO.ite ?_ ?_)
      | (with_reducible refine LeO.bind ?_ (fun _ => ?_))
      | exact ih0 _ _ _ _ _
      | exact ih1 _ _ _ _ _
      | exact ih2 _ _ _ _ _ _ _
      | exact drayagelaw06_known.mono _
      | exact drayagelaw06_shared.mono _ _ _
      | exact epochs_At.mono _ _ _
      | exact epochs_Check.mono _ _
      | exact epochs_Cut.mono _ _ _
      | exact epochs_End.mono _ _ _ _
      | exact LeO.none _
      | refine LeO.ite ?_ ?_
      | refine LeO.bind ?_ (fun _ => ?_)
theorem drayagelaw06_EpochsMeets.mono : ∀ a0 a1 a2 a3 k, LeO (drayagelaw06_EpochsMeets.f k a0 a1 a2 a3) (drayagelaw06_EpochsMeets.f (k + 1) a0 a1 a2 a3) := by
  intro a0 a1 a2 a3 k
  obtain ⟨ih0, ih1, ih2⟩ := drayagelaw06_EpochsMeets.mono_l k
  unfold drayagelaw06_EpochsMeets.f
  repeat' first
      | (with_reducible exact ih0 _ _ _ _ _)
      | (with_reducible exact ih1 _ _ _ _ _)
      | (with_reducible exact ih2 _ _ _ _ _ _ _)
      | (with_reducible exact drayagelaw06_known.mono _)
      | (with_reducible exact drayagelaw06_shared.mono _ _ _)
      | (with_reducible exact epochs_At.mono _ _ _)
      | (with_reducible exact epochs_Check.mono _ _)
      | (with_reducible exact epochs_Cut.mono _ _ _)
      | (with_reducible exact epochs_End.mono _ _ _ _)
      | (with_reducible exact LeO.refl _)
      | (with_reducible exact LeO.none _)
      | (with_reducible refine LeO.ite ?_ ?_)
      | (with_reducible refine LeO.bind ?_ (fun _ => ?_))
      | exact ih0 _ _ _ _ _
      | exact ih1 _ _ _ _ _
      | exact ih2 _ _ _ _ _ _ _
      | exact drayagelaw06_known.mono _
      | exact drayagelaw06_shared.mono _ _ _
      | exact epochs_At.mono _ _ _
      | exact epochs_Check.mono _ _
      | exact epochs_Cut.mono _ _ _
      | exact epochs_End.mono _ _ _ _
      | exact LeO.none _
      | refine LeO.ite ?_ ?_
      | refine LeO.bind ?_ (fun _ => ?_)
set_option maxHeartbeats 8000000 in
set_option maxRecDepth 100000 in
theorem drayagelaw06_EpochsMeets.calls (k : Nat) (A0 : Option Addr) (c0 : Nat) (l0 : List (S37)) (a1 : Int) (A2 : Option Addr) (c2 : Nat) (l2 : List (S37)) (a3 : Int) (r : Bool) (w : World) (hr0 : Kd.C k37 w A0 l0.length l0) (hc0 : l0.length ≤ c0) (hr2 : Kd.C k37 w A2 l2.length l2) (hc2 : l2.length ≤ c2) (h : drayagelaw06_EpochsMeets.f k l0 a1 l2 a3 = some r) :
    Calls Try.prog 7 #[.slice A0 l0.length c0, .int .u64 a1, .slice A2 l2.length c2, .int .u64 a3] w fun e w' => e = .returned (.bool r) ∧ Below w.heap.size w w' := by
  have HR0 := Aside0.mk hr0
  have HC0 := Aside0.mk hc0
  clear hr0 hc0
  have HR2 := Aside0.mk hr2
  have HC2 := Aside0.mk hc2
  clear hr2 hc2
  have HB := Aside0.mk (Below.refl w.heap.size w)
  have H : ((drayagelaw06_many.f l0 l2).bind fun t145 => (if t145 = true then (drayagelaw06_EpochsMeets.j0 k l0 a1 l2 a3 true) else ((epochs_Check.f k l0).bind fun t146 => (if t146 = 0 then ((epochs_Check.f k l2).bind fun t147 => (drayagelaw06_EpochsMeets.j0 k l0 a1 l2 a3 (t147 != 0))) else (drayagelaw06_EpochsMeets.j0 k l0 a1 l2 a3 true))))) = some r := h
  clear h
  have HC5 := Aside0.mk H
  clear H
  go_enter Try.func7, Try.ntmps7
  go_upto_region 1 with (fail)
  go_cut [30] (fun v30 wc => ∃ (kq : Nat) (x30_4 : Bool), v30 = .bool x30_4 ∧ Aside0 (drayagelaw06_EpochsMeets.j0 kq l0 a1 l2 a3 x30_4 = some r) ∧ Aside0 (kq ≤ k) ∧ Aside0 (Below w.heap.size w wc))
  case first =>
    have H := HC5.out
    clear HC5
    replace H := Option.bind_eq_some_iff.mp H
    obtain ⟨t145, A60, H⟩ := H
    replace H : (if t145 = true then (drayagelaw06_EpochsMeets.j0 k l0 a1 l2 a3 true) else ((epochs_Check.f k l0).bind fun t146 => (if t146 = 0 then ((epochs_Check.f k l2).bind fun t147 => (drayagelaw06_EpochsMeets.j0 k l0 a1 l2 a3 (t147 != 0))) else (drayagelaw06_EpochsMeets.j0 k l0 a1 l2 a3 true)))) = some r := H
    have A6 := Aside0.mk A60
    clear A60
    by_cases c7 : t145 = true
    · subst c7
      have H1 : (drayagelaw06_EpochsMeets.j0 k l0 a1 l2 a3 true) = some r := by rw [if_pos rfl] at H; exact H
      clear H
      have H := H1
      clear H1
      have H' := Aside0.mk H
      clear H
      go_wp2_with (first | ((with_reducible refine gate_callee (f := 10) rfl ?_); refine goesL_ (some 20) rfl rfl Try.func10 (by kernel_rfl) rfl #[.slice A0 l0.length c0, .slice A2 l2.length c2] rfl (by (try simp only [List.map_toArray, List.map_cons, List.map_nil]); first | done | rfl | (simp only [List.length_drop, List.length_take]; rfl)) ?_; (with_reducible refine (drayagelaw06_many.calls _ _ l0 _ _ l2 true _ ?side1 ?side2 ?side3 ?side4 A6.out).mono ?_); (case side1 => repeat (first | exact (Kd.C_below HR0.out HB.out) | (with_reducible refine Kd.C_alloc ?_ _) | (with_reducible refine Kd.C_drewN ?_ _) | (with_reducible refine Kd.C_drew ?_))); (case side2 => exact HC0.out); (case side3 => repeat (first | exact (Kd.C_below HR2.out HB.out) | (with_reducible refine Kd.C_alloc ?_ _) | (with_reducible refine Kd.C_drewN ?_ _) | (with_reducible refine Kd.C_drew ?_))); (case side4 => exact HC2.out); rintro e w' ⟨rfl, ⟨nd, rfl⟩⟩; refine ⟨_, rfl, ?_⟩))
      go_meet
      case rel => exact ⟨_, (true), (by first | rfl | (simp; done) | (simp [*]; done)), H', ⟨by first | omega | exact Nat.le_refl _⟩, ⟨by repeat (first | (with_reducible first | exact HB.out | apply below_alloc | apply pw_below_drewN | apply below_drew1) | exact HB.out)⟩⟩
    · replace c7 := Bool.eq_false_iff.mpr c7
      subst c7
      have H1 : ((epochs_Check.f k l0).bind fun t146 => (if t146 = 0 then ((epochs_Check.f k l2).bind fun t147 => (drayagelaw06_EpochsMeets.j0 k l0 a1 l2 a3 (t147 != 0))) else (drayagelaw06_EpochsMeets.j0 k l0 a1 l2 a3 true))) = some r := by rw [if_neg (show ¬ (false = true) by decide)] at H; exact H
      clear H
      have H := H1
      clear H1
      replace H := Option.bind_eq_some_iff.mp H
      obtain ⟨t146, A80, H⟩ := H
      replace H : (if t146 = 0 then ((epochs_Check.f k l2).bind fun t147 => (drayagelaw06_EpochsMeets.j0 k l0 a1 l2 a3 (t147 != 0))) else (drayagelaw06_EpochsMeets.j0 k l0 a1 l2 a3 true)) = some r := H
      have A8 := Aside0.mk A80
      clear A80
      by_cases c9 : t146 = 0
      · rw [if_pos c9] at H
        have c9b0 : (t146 == 0) = true := beq_iff_eq.mpr c9
        have c9b1 : (t146 != 0) = false := bne_eq_false_iff_eq.mpr c9
        clear c9
        (first | rw [c9b0] | (simp only [i64_w, i32_w]; rw [c9b0]) | skip)
        replace H := Option.bind_eq_some_iff.mp H
        obtain ⟨t147, A100, H⟩ := H
        replace H : (drayagelaw06_EpochsMeets.j0 k l0 a1 l2 a3 (t147 != 0)) = some r := H
        have A10 := Aside0.mk A100
        clear A100
        have H' := Aside0.mk H
        clear H
        go_wp2_with (first | ((with_reducible refine gate_callee (f := 10) rfl ?_); refine goesL_ (some 20) rfl rfl Try.func10 (by kernel_rfl) rfl #[.slice A0 l0.length c0, .slice A2 l2.length c2] rfl (by (try simp only [List.map_toArray, List.map_cons, List.map_nil]); first | done | rfl | (simp only [List.length_drop, List.length_take]; rfl)) ?_; (with_reducible refine (drayagelaw06_many.calls _ _ l0 _ _ l2 false _ ?side1 ?side2 ?side3 ?side4 A6.out).mono ?_); (case side1 => repeat (first | exact (Kd.C_below HR0.out HB.out) | (with_reducible refine Kd.C_alloc ?_ _) | (with_reducible refine Kd.C_drewN ?_ _) | (with_reducible refine Kd.C_drew ?_))); (case side2 => exact HC0.out); (case side3 => repeat (first | exact (Kd.C_below HR2.out HB.out) | (with_reducible refine Kd.C_alloc ?_ _) | (with_reducible refine Kd.C_drewN ?_ _) | (with_reducible refine Kd.C_drew ?_))); (case side4 => exact HC2.out); rintro e w' ⟨rfl, ⟨nd, rfl⟩⟩; refine ⟨_, rfl, ?_⟩) | (go_at_call 13; (with_reducible refine (epochs_Check.calls k _ _ l0 t146 _ ?side1 ?side2 A8.out).mono ?_); (case side1 => repeat (first | exact (Kd.C_below HR0.out (by repeat (first | (with_reducible first | exact HB.out | apply below_alloc | apply pw_below_drewN | apply below_drew1) | exact HB.out))) | (with_reducible refine Kd.C_alloc ?_ _) | (with_reducible refine Kd.C_drewN ?_ _) | (with_reducible refine Kd.C_drew ?_))); (case side2 => exact HC0.out); rintro e w11 ⟨rfl, hb⟩; have n0_ := Aside0.mk (below_step (by repeat (first | (with_reducible first | exact HB.out | apply below_alloc | apply pw_below_drewN | apply below_drew1) | exact HB.out)) hb); clear HB; have HB := n0_; clear n0_; (try clear hb); (try clear hb2); (try clear hk); (try clear hi)) | (go_at_call 13; (with_reducible refine (epochs_Check.calls k _ _ l2 t147 _ ?side1 ?side2 A10.out).mono ?_); (case side1 => repeat (first | exact (Kd.C_below HR2.out HB.out) | (with_reducible refine Kd.C_alloc ?_ _) | (with_reducible refine Kd.C_drewN ?_ _) | (with_reducible refine Kd.C_drew ?_))); (case side2 => exact HC2.out); rintro e w12 ⟨rfl, hb⟩; have n0_ := Aside0.mk (below_step (by repeat (first | (with_reducible first | exact HB.out | apply below_alloc | apply pw_below_drewN | apply below_drew1) | exact HB.out)) hb); clear HB; have HB := n0_; clear n0_; (try clear hb); (try clear hb2); (try clear hk); (try clear hi)))
        go_meet
        case rel => exact ⟨_, ((t147 != 0)), (by first | rfl | (simp; done) | (simp [*]; done)), H', ⟨by first | omega | exact Nat.le_refl _⟩, ⟨by repeat (first | (with_reducible first | exact HB.out | apply below_alloc | apply pw_below_drewN | apply below_drew1) | exact HB.out)⟩⟩
      · rw [if_neg c9] at H
        have c9b0 : (t146 == 0) = false := beq_eq_false_iff_ne.mpr c9
        have c9b1 : (t146 != 0) = true := bne_iff_ne.mpr c9
        (first | rw [c9b0] | (simp only [i64_w, i32_w]; rw [c9b0]) | skip)
        have H' := Aside0.mk H
        clear H
        go_wp2_with (first | ((with_reducible refine gate_callee (f := 10) rfl ?_); refine goesL_ (some 20) rfl rfl Try.func10 (by kernel_rfl) rfl #[.slice A0 l0.length c0, .slice A2 l2.length c2] rfl (by (try simp only [List.map_toArray, List.map_cons, List.map_nil]); first | done | rfl | (simp only [List.length_drop, List.length_take]; rfl)) ?_; (with_reducible refine (drayagelaw06_many.calls _ _ l0 _ _ l2 false _ ?side1 ?side2 ?side3 ?side4 A6.out).mono ?_); (case side1 => repeat (first | exact (Kd.C_below HR0.out HB.out) | (with_reducible refine Kd.C_alloc ?_ _) | (with_reducible refine Kd.C_drewN ?_ _) | (with_reducible refine Kd.C_drew ?_))); (case side2 => exact HC0.out); (case side3 => repeat (first | exact (Kd.C_below HR2.out HB.out) | (with_reducible refine Kd.C_alloc ?_ _) | (with_reducible refine Kd.C_drewN ?_ _) | (with_reducible refine Kd.C_drew ?_))); (case side4 => exact HC2.out); rintro e w' ⟨rfl, ⟨nd, rfl⟩⟩; refine ⟨_, rfl, ?_⟩) | (go_at_call 13; (with_reducible refine (epochs_Check.calls k _ _ l0 t146 _ ?side1 ?side2 A8.out).mono ?_); (case side1 => repeat (first | exact (Kd.C_below HR0.out (by repeat (first | (with_reducible first | exact HB.out | apply below_alloc | apply pw_below_drewN | apply below_drew1) | exact HB.out))) | (with_reducible refine Kd.C_alloc ?_ _) | (with_reducible refine Kd.C_drewN ?_ _) | (with_reducible refine Kd.C_drew ?_))); (case side2 => exact HC0.out); rintro e w13 ⟨rfl, hb⟩; have n0_ := Aside0.mk (below_step (by repeat (first | (with_reducible first | exact HB.out | apply below_alloc | apply pw_below_drewN | apply below_drew1) | exact HB.out)) hb); clear HB; have HB := n0_; clear n0_; (try clear hb); (try clear hb2); (try clear hk); (try clear hi)))
        go_meet
        case rel => exact ⟨_, (true), (by first | rfl | (simp; done) | (simp [*]; done)), H', ⟨by first | omega | exact Nat.le_refl _⟩, ⟨by repeat (first | (with_reducible first | exact HB.out | apply below_alloc | apply pw_below_drewN | apply below_drew1) | exact HB.out)⟩⟩
  case rest =>
    clear HC5
    try clear c1
    try clear c2
    try clear p2
    try clear c7
    try clear c9
    try clear c9b0
    try clear c9b1
    try clear c10
    obtain ⟨kq, x30_4, rfl, HA, HJ4, HB⟩ := hcut
    cases kq with
    | zero => exact absurd HA.out (by simp [drayagelaw06_EpochsMeets.j0])
    | succ kj4 =>
      have H := HA.out
      clear HA
      simp only [drayagelaw06_EpochsMeets.j0] at H
      by_cases c14 : x30_4 = true
      · subst c14
        have H1 : ((drayagelaw06_known.f kj4).bind fun t148 => (some t148)) = some r := by rw [if_pos rfl] at H; exact H
        clear H
        have H := H1
        clear H1
        replace H := Option.bind_eq_some_iff.mp H
        obtain ⟨t148, A150, H⟩ := H
        replace H : (some t148) = some r := H
        have A15 := Aside0.mk A150
        clear A150
        obtain rfl := Option.some.inj H
        go_wp2_with (first | ((with_reducible refine gate_callee (f := 11) rfl ?_); refine goesL_ (some 31) rfl rfl Try.func11 (by kernel_rfl) rfl #[] rfl (by (try simp only [List.map_toArray, List.map_cons, List.map_nil]); first | done | rfl | (simp only [List.length_drop, List.length_take]; rfl)) ?_; (with_reducible refine (drayagelaw06_known.calls kj4  t148 _ A15.out).mono ?_); rintro e w16 ⟨rfl, hb⟩; refine ⟨_, rfl, ?_⟩; have n0_ := Aside0.mk (below_step (by repeat (first | (with_reducible first | exact HB.out | apply below_alloc | apply pw_below_drewN | apply below_drew1) | exact HB.out)) hb); clear HB; have HB := n0_; clear n0_; (try clear hb); (try clear hb2); (try clear hk); (try clear hi)))
        go_ret
        exact ⟨by first | rfl | (simp [errW_none, errW_some] <;> rfl) | (simp [*, errW_none, errW_some] <;> rfl), by repeat (first | (with_reducible first | exact HB.out | apply below_alloc | apply pw_below_drewN | apply below_drew1) | exact HB.out)⟩
      · replace c14 := Bool.eq_false_iff.mpr c14
        subst c14
        have H1 : (if (l0.length : Int) > 0 then (if 0 < (l0.length : Int) then (if ((rd_T37 l0 0).f1) > 1 then (drayagelaw06_EpochsMeets.j1 kj4 l0 a1 l2 a3 true) else (if (l2.length : Int) > 0 then (if 0 < (l2.length : Int) then (if ((rd_T37 l2 0).f1) > 1 then (drayagelaw06_EpochsMeets.j1 kj4 l0 a1 l2 a3 true) else (if (l0.length : Int) = 0 then (if a1 > 0 then (drayagelaw06_EpochsMeets.j1 kj4 l0 a1 l2 a3 true) else (if (l2.length : Int) = 0 then (drayagelaw06_EpochsMeets.j1 kj4 l0 a1 l2 a3 (decide (a3 > 0))) else (drayagelaw06_EpochsMeets.j1 kj4 l0 a1 l2 a3 false))) else (if (l2.length : Int) = 0 then (drayagelaw06_EpochsMeets.j1 kj4 l0 a1 l2 a3 (decide (a3 > 0))) else (drayagelaw06_EpochsMeets.j1 kj4 l0 a1 l2 a3 false)))) else (none)) else (if (l0.length : Int) = 0 then (if a1 > 0 then (drayagelaw06_EpochsMeets.j1 kj4 l0 a1 l2 a3 true) else (if (l2.length : Int) = 0 then (drayagelaw06_EpochsMeets.j1 kj4 l0 a1 l2 a3 (decide (a3 > 0))) else (drayagelaw06_EpochsMeets.j1 kj4 l0 a1 l2 a3 false))) else (if (l2.length : Int) = 0 then (drayagelaw06_EpochsMeets.j1 kj4 l0 a1 l2 a3 (decide (a3 > 0))) else (drayagelaw06_EpochsMeets.j1 kj4 l0 a1 l2 a3 false))))) else (none)) else (if (l2.length : Int) > 0 then (if 0 < (l2.length : Int) then (if ((rd_T37 l2 0).f1) > 1 then (drayagelaw06_EpochsMeets.j1 kj4 l0 a1 l2 a3 true) else (if (l0.length : Int) = 0 then (if a1 > 0 then (drayagelaw06_EpochsMeets.j1 kj4 l0 a1 l2 a3 true) else (if (l2.length : Int) = 0 then (drayagelaw06_EpochsMeets.j1 kj4 l0 a1 l2 a3 (decide (a3 > 0))) else (drayagelaw06_EpochsMeets.j1 kj4 l0 a1 l2 a3 false))) else (if (l2.length : Int) = 0 then (drayagelaw06_EpochsMeets.j1 kj4 l0 a1 l2 a3 (decide (a3 > 0))) else (drayagelaw06_EpochsMeets.j1 kj4 l0 a1 l2 a3 false)))) else (none)) else (if (l0.length : Int) = 0 then (if a1 > 0 then (drayagelaw06_EpochsMeets.j1 kj4 l0 a1 l2 a3 true) else (if (l2.length : Int) = 0 then (drayagelaw06_EpochsMeets.j1 kj4 l0 a1 l2 a3 (decide (a3 > 0))) else (drayagelaw06_EpochsMeets.j1 kj4 l0 a1 l2 a3 false))) else (if (l2.length : Int) = 0 then (drayagelaw06_EpochsMeets.j1 kj4 l0 a1 l2 a3 (decide (a3 > 0))) else (drayagelaw06_EpochsMeets.j1 kj4 l0 a1 l2 a3 false))))) = some r := by rw [if_neg (show ¬ (false = true) by decide)] at H; exact H
        clear H
        have H := H1
        clear H1
        have HC17 := Aside0.mk H
        clear H
        go_upto_region 3 with (fail)
        go_cut [71] (fun v71 wc => ∃ (kq : Nat) (x71_16 : Bool), v71 = .bool x71_16 ∧ Aside0 (drayagelaw06_EpochsMeets.j1 kq l0 a1 l2 a3 x71_16 = some r) ∧ Aside0 (kq ≤ kj4) ∧ Aside0 (Below w.heap.size w wc))
        case first =>
          have H := HC17.out
          clear HC17
          by_cases c18 : (l0.length : Int) > 0
          · rw [if_pos c18] at H
            have c18b0 : decide (0 < (l0.length : Int)) = true := decide_eq_true c18
            have c18b1 : decide (0 < l0.length) = true := decide_eq_true (by omega)
            clear c18
            (first | rw [c18b0] | (simp only [i64_w, i32_w]; rw [c18b0]) | skip)
            by_cases c19 : 0 < (l0.length : Int)
            · rw [if_pos c19] at H
              have c19b0 : decide (0 < (l0.length : Int)) = true := decide_eq_true c19
              have c19b1 : decide (0 < l0.length) = true := decide_eq_true (by omega)
              clear c19
              by_cases c20 : ((rd_T37 l0 0).f1) > 1
              · rw [if_pos c20] at H
                have c20b0 : decide (1 < ((rd_T37 l0 0).f1)) = true := decide_eq_true c20
                clear c20
                have H' := Aside0.mk H
                clear H
                have p149 : 0 ≤ (0 : Int) := (by omega)
                have q149 : 0 < (l0.length : Int) := of_decide_eq_true (by first | (with_reducible assumption) | assumption)
                obtain ⟨ad149, e149, hx149_0, hx149_1⟩ := at_T37 HR0.out 0 p149 q149
                cases e149
                have qi149 : (0 < l0.length) = True := eq_true (by omega)
                (try rw [show ((0 : Int)).toNat = 0 from rfl] at hx149_0)
                (try rw [show 0 * 2 = 0 from rfl] at hx149_0)
                (try rw [Addr.add_zero'] at hx149_0)
                (try rw [show ((0 : Int)).toNat = 0 from rfl] at hx149_1)
                (try rw [show 0 * 2 = 0 from rfl] at hx149_1)
                (try rw [Addr.add_zero'] at hx149_1)
                replace hx149_0 := (HB.out.cell (World.block_lt_of_cell? w _ hx149_0)).trans hx149_0
                replace hx149_1 := (HB.out.cell (World.block_lt_of_cell? w _ hx149_1)).trans hx149_1
                replace p149 := eq_true p149
                replace q149 := eq_true q149
                go_wp2
                go_meet
                case rel => exact ⟨_, (true), (by first | rfl | (simp; done) | (simp [*]; done)), H', ⟨by have := HJ4.out; first | omega | exact Nat.le_refl _⟩, ⟨by repeat (first | (with_reducible first | exact HB.out | apply below_alloc | apply pw_below_drewN | apply below_drew1) | exact HB.out)⟩⟩
              · rw [if_neg c20] at H
                have c20b0 : decide (1 < ((rd_T37 l0 0).f1)) = false := decide_eq_false c20
                clear c20
                by_cases c21 : (l2.length : Int) > 0
                · rw [if_pos c21] at H
                  have c21b0 : decide (0 < (l2.length : Int)) = true := decide_eq_true c21
                  have c21b1 : decide (0 < l2.length) = true := decide_eq_true (by omega)
                  clear c21
                  by_cases c22 : 0 < (l2.length : Int)
                  · rw [if_pos c22] at H
                    have c22b0 : decide (0 < (l2.length : Int)) = true := decide_eq_true c22
                    have c22b1 : decide (0 < l2.length) = true := decide_eq_true (by omega)
                    clear c22
                    by_cases c23 : ((rd_T37 l2 0).f1) > 1
                    · rw [if_pos c23] at H
                      have c23b0 : decide (1 < ((rd_T37 l2 0).f1)) = true := decide_eq_true c23
                      clear c23
                      have H' := Aside0.mk H
                      clear H
                      have p149 : 0 ≤ (0 : Int) := (by omega)
                      have q149 : 0 < (l0.length : Int) := of_decide_eq_true (by first | (with_reducible assumption) | assumption)
                      obtain ⟨ad149, e149, hx149_0, hx149_1⟩ := at_T37 HR0.out 0 p149 q149
                      cases e149
                      have qi149 : (0 < l0.length) = True := eq_true (by omega)
                      (try rw [show ((0 : Int)).toNat = 0 from rfl] at hx149_0)
                      (try rw [show 0 * 2 = 0 from rfl] at hx149_0)
                      (try rw [Addr.add_zero'] at hx149_0)
                      (try rw [show ((0 : Int)).toNat = 0 from rfl] at hx149_1)
                      (try rw [show 0 * 2 = 0 from rfl] at hx149_1)
                      (try rw [Addr.add_zero'] at hx149_1)
                      replace hx149_0 := (HB.out.cell (World.block_lt_of_cell? w _ hx149_0)).trans hx149_0
                      replace hx149_1 := (HB.out.cell (World.block_lt_of_cell? w _ hx149_1)).trans hx149_1
                      replace p149 := eq_true p149
                      replace q149 := eq_true q149
                      have p150 : 0 ≤ (0 : Int) := (by omega)
                      have q150 : 0 < (l2.length : Int) := of_decide_eq_true (by first | (with_reducible assumption) | assumption)
                      obtain ⟨ad150, e150, hx150_0, hx150_1⟩ := at_T37 HR2.out 0 p150 q150
                      cases e150
                      have qi150 : (0 < l2.length) = True := eq_true (by omega)
                      (try rw [show ((0 : Int)).toNat = 0 from rfl] at hx150_0)
                      (try rw [show 0 * 2 = 0 from rfl] at hx150_0)
                      (try rw [Addr.add_zero'] at hx150_0)
                      (try rw [show ((0 : Int)).toNat = 0 from rfl] at hx150_1)
                      (try rw [show 0 * 2 = 0 from rfl] at hx150_1)
                      (try rw [Addr.add_zero'] at hx150_1)
                      replace hx150_0 := (HB.out.cell (World.block_lt_of_cell? w _ hx150_0)).trans hx150_0
                      replace hx150_1 := (HB.out.cell (World.block_lt_of_cell? w _ hx150_1)).trans hx150_1
                      replace p150 := eq_true p150
                      replace q150 := eq_true q150
                      go_wp2
                      go_meet
                      case rel => exact ⟨_, (true), (by first | rfl | (simp; done) | (simp [*]; done)), H', ⟨by have := HJ4.out; first | omega | exact Nat.le_refl _⟩, ⟨by repeat (first | (with_reducible first | exact HB.out | apply below_alloc | apply pw_below_drewN | apply below_drew1) | exact HB.out)⟩⟩
                    · rw [if_neg c23] at H
                      have c23b0 : decide (1 < ((rd_T37 l2 0).f1)) = false := decide_eq_false c23
                      clear c23
                      by_cases c24 : (l0.length : Int) = 0
                      · rw [if_pos c24] at H
                        have c24b0 : ((l0.length : Int) == 0) = true := beq_iff_eq.mpr c24
                        have c24b1 : ((l0.length : Int) != 0) = false := bne_eq_false_iff_eq.mpr c24
                        clear c24
                        by_cases c25 : a1 > 0
                        · rw [if_pos c25] at H
                          have c25b0 : decide (0 < a1) = true := decide_eq_true c25
                          clear c25
                          have H' := Aside0.mk H
                          clear H
                          have p149 : 0 ≤ (0 : Int) := (by omega)
                          have q149 : 0 < (l0.length : Int) := of_decide_eq_true (by first | (with_reducible assumption) | assumption)
                          obtain ⟨ad149, e149, hx149_0, hx149_1⟩ := at_T37 HR0.out 0 p149 q149
                          cases e149
                          have qi149 : (0 < l0.length) = True := eq_true (by omega)
                          (try rw [show ((0 : Int)).toNat = 0 from rfl] at hx149_0)
                          (try rw [show 0 * 2 = 0 from rfl] at hx149_0)
                          (try rw [Addr.add_zero'] at hx149_0)
                          (try rw [show ((0 : Int)).toNat = 0 from rfl] at hx149_1)
                          (try rw [show 0 * 2 = 0 from rfl] at hx149_1)
                          (try rw [Addr.add_zero'] at hx149_1)
                          replace hx149_0 := (HB.out.cell (World.block_lt_of_cell? w _ hx149_0)).trans hx149_0
                          replace hx149_1 := (HB.out.cell (World.block_lt_of_cell? w _ hx149_1)).trans hx149_1
                          replace p149 := eq_true p149
                          replace q149 := eq_true q149
                          have p150 : 0 ≤ (0 : Int) := (by omega)
                          have q150 : 0 < (l2.length : Int) := of_decide_eq_true (by first | (with_reducible assumption) | assumption)
                          obtain ⟨ad150, e150, hx150_0, hx150_1⟩ := at_T37 HR2.out 0 p150 q150
                          cases e150
                          have qi150 : (0 < l2.length) = True := eq_true (by omega)
                          (try rw [show ((0 : Int)).toNat = 0 from rfl] at hx150_0)
                          (try rw [show 0 * 2 = 0 from rfl] at hx150_0)
                          (try rw [Addr.add_zero'] at hx150_0)
                          (try rw [show ((0 : Int)).toNat = 0 from rfl] at hx150_1)
                          (try rw [show 0 * 2 = 0 from rfl] at hx150_1)
                          (try rw [Addr.add_zero'] at hx150_1)
                          replace hx150_0 := (HB.out.cell (World.block_lt_of_cell? w _ hx150_0)).trans hx150_0
                          replace hx150_1 := (HB.out.cell (World.block_lt_of_cell? w _ hx150_1)).trans hx150_1
                          replace p150 := eq_true p150
                          replace q150 := eq_true q150
                          go_wp2
                          go_meet
                          case rel => exact ⟨_, (true), (by first | rfl | (simp; done) | (simp [*]; done)), H', ⟨by have := HJ4.out; first | omega | exact Nat.le_refl _⟩, ⟨by repeat (first | (with_reducible first | exact HB.out | apply below_alloc | apply pw_below_drewN | apply below_drew1) | exact HB.out)⟩⟩
                        · rw [if_neg c25] at H
                          have c25b0 : decide (0 < a1) = false := decide_eq_false c25
                          clear c25
                          by_cases c26 : (l2.length : Int) = 0
                          · rw [if_pos c26] at H
                            have c26b0 : ((l2.length : Int) == 0) = true := beq_iff_eq.mpr c26
                            have c26b1 : ((l2.length : Int) != 0) = false := bne_eq_false_iff_eq.mpr c26
                            clear c26
                            have H' := Aside0.mk H
                            clear H
                            have p149 : 0 ≤ (0 : Int) := (by omega)
                            have q149 : 0 < (l0.length : Int) := of_decide_eq_true (by first | (with_reducible assumption) | assumption)
                            obtain ⟨ad149, e149, hx149_0, hx149_1⟩ := at_T37 HR0.out 0 p149 q149
                            cases e149
                            have qi149 : (0 < l0.length) = True := eq_true (by omega)
                            (try rw [show ((0 : Int)).toNat = 0 from rfl] at hx149_0)
                            (try rw [show 0 * 2 = 0 from rfl] at hx149_0)
                            (try rw [Addr.add_zero'] at hx149_0)
                            (try rw [show ((0 : Int)).toNat = 0 from rfl] at hx149_1)
                            (try rw [show 0 * 2 = 0 from rfl] at hx149_1)
                            (try rw [Addr.add_zero'] at hx149_1)
                            replace hx149_0 := (HB.out.cell (World.block_lt_of_cell? w _ hx149_0)).trans hx149_0
                            replace hx149_1 := (HB.out.cell (World.block_lt_of_cell? w _ hx149_1)).trans hx149_1
                            replace p149 := eq_true p149
                            replace q149 := eq_true q149
                            have p150 : 0 ≤ (0 : Int) := (by omega)
                            have q150 : 0 < (l2.length : Int) := of_decide_eq_true (by first | (with_reducible assumption) | assumption)
                            obtain ⟨ad150, e150, hx150_0, hx150_1⟩ := at_T37 HR2.out 0 p150 q150
                            cases e150
                            have qi150 : (0 < l2.length) = True := eq_true (by omega)
                            (try rw [show ((0 : Int)).toNat = 0 from rfl] at hx150_0)
                            (try rw [show 0 * 2 = 0 from rfl] at hx150_0)
                            (try rw [Addr.add_zero'] at hx150_0)
                            (try rw [show ((0 : Int)).toNat = 0 from rfl] at hx150_1)
                            (try rw [show 0 * 2 = 0 from rfl] at hx150_1)
                            (try rw [Addr.add_zero'] at hx150_1)
                            replace hx150_0 := (HB.out.cell (World.block_lt_of_cell? w _ hx150_0)).trans hx150_0
                            replace hx150_1 := (HB.out.cell (World.block_lt_of_cell? w _ hx150_1)).trans hx150_1
                            replace p150 := eq_true p150
                            replace q150 := eq_true q150
                            go_wp2
                            go_meet
                            case rel => exact ⟨_, (decide (a3 > 0)), (by first | rfl | (simp; done) | (simp [*]; done)), H', ⟨by have := HJ4.out; first | omega | exact Nat.le_refl _⟩, ⟨by repeat (first | (with_reducible first | exact HB.out | apply below_alloc | apply pw_below_drewN | apply below_drew1) | exact HB.out)⟩⟩
                          · rw [if_neg c26] at H
                            have c26b0 : ((l2.length : Int) == 0) = false := beq_eq_false_iff_ne.mpr c26
                            have c26b1 : ((l2.length : Int) != 0) = true := bne_iff_ne.mpr c26
                            have c26b2 : ¬ (l2 = []) := fun h_ => c26 (by rw [h_]; rfl)
                            have H' := Aside0.mk H
                            clear H
                            have p149 : 0 ≤ (0 : Int) := (by omega)
                            have q149 : 0 < (l0.length : Int) := of_decide_eq_true (by first | (with_reducible assumption) | assumption)
                            obtain ⟨ad149, e149, hx149_0, hx149_1⟩ := at_T37 HR0.out 0 p149 q149
                            cases e149
                            have qi149 : (0 < l0.length) = True := eq_true (by omega)
                            (try rw [show ((0 : Int)).toNat = 0 from rfl] at hx149_0)
                            (try rw [show 0 * 2 = 0 from rfl] at hx149_0)
                            (try rw [Addr.add_zero'] at hx149_0)
                            (try rw [show ((0 : Int)).toNat = 0 from rfl] at hx149_1)
                            (try rw [show 0 * 2 = 0 from rfl] at hx149_1)
                            (try rw [Addr.add_zero'] at hx149_1)
                            replace hx149_0 := (HB.out.cell (World.block_lt_of_cell? w _ hx149_0)).trans hx149_0
                            replace hx149_1 := (HB.out.cell (World.block_lt_of_cell? w _ hx149_1)).trans hx149_1
                            replace p149 := eq_true p149
                            replace q149 := eq_true q149
                            have p150 : 0 ≤ (0 : Int) := (by omega)
                            have q150 : 0 < (l2.length : Int) := of_decide_eq_true (by first | (with_reducible assumption) | assumption)
                            obtain ⟨ad150, e150, hx150_0, hx150_1⟩ := at_T37 HR2.out 0 p150 q150
                            cases e150
                            have qi150 : (0 < l2.length) = True := eq_true (by omega)
                            (try rw [show ((0 : Int)).toNat = 0 from rfl] at hx150_0)
                            (try rw [show 0 * 2 = 0 from rfl] at hx150_0)
                            (try rw [Addr.add_zero'] at hx150_0)
                            (try rw [show ((0 : Int)).toNat = 0 from rfl] at hx150_1)
                            (try rw [show 0 * 2 = 0 from rfl] at hx150_1)
                            (try rw [Addr.add_zero'] at hx150_1)
                            replace hx150_0 := (HB.out.cell (World.block_lt_of_cell? w _ hx150_0)).trans hx150_0
                            replace hx150_1 := (HB.out.cell (World.block_lt_of_cell? w _ hx150_1)).trans hx150_1
                            replace p150 := eq_true p150
                            replace q150 := eq_true q150
                            go_wp2
                            go_meet
                            case rel => exact ⟨_, (false), (by first | rfl | (simp; done) | (simp [*]; done)), H', ⟨by have := HJ4.out; first | omega | exact Nat.le_refl _⟩, ⟨by repeat (first | (with_reducible first | exact HB.out | apply below_alloc | apply pw_below_drewN | apply below_drew1) | exact HB.out)⟩⟩
                      · rw [if_neg c24] at H
                        have c24b0 : ((l0.length : Int) == 0) = false := beq_eq_false_iff_ne.mpr c24
                        have c24b1 : ((l0.length : Int) != 0) = true := bne_iff_ne.mpr c24
                        have c24b2 : ¬ (l0 = []) := fun h_ => c24 (by rw [h_]; rfl)
                        by_cases c27 : (l2.length : Int) = 0
                        · rw [if_pos c27] at H
                          have c27b0 : ((l2.length : Int) == 0) = true := beq_iff_eq.mpr c27
                          have c27b1 : ((l2.length : Int) != 0) = false := bne_eq_false_iff_eq.mpr c27
                          clear c27
                          have H' := Aside0.mk H
                          clear H
                          have p149 : 0 ≤ (0 : Int) := (by omega)
                          have q149 : 0 < (l0.length : Int) := of_decide_eq_true (by first | (with_reducible assumption) | assumption)
                          obtain ⟨ad149, e149, hx149_0, hx149_1⟩ := at_T37 HR0.out 0 p149 q149
                          cases e149
                          have qi149 : (0 < l0.length) = True := eq_true (by omega)
                          (try rw [show ((0 : Int)).toNat = 0 from rfl] at hx149_0)
                          (try rw [show 0 * 2 = 0 from rfl] at hx149_0)
                          (try rw [Addr.add_zero'] at hx149_0)
                          (try rw [show ((0 : Int)).toNat = 0 from rfl] at hx149_1)
                          (try rw [show 0 * 2 = 0 from rfl] at hx149_1)
                          (try rw [Addr.add_zero'] at hx149_1)
                          replace hx149_0 := (HB.out.cell (World.block_lt_of_cell? w _ hx149_0)).trans hx149_0
                          replace hx149_1 := (HB.out.cell (World.block_lt_of_cell? w _ hx149_1)).trans hx149_1
                          replace p149 := eq_true p149
                          replace q149 := eq_true q149
                          have p150 : 0 ≤ (0 : Int) := (by omega)
                          have q150 : 0 < (l2.length : Int) := of_decide_eq_true (by first | (with_reducible assumption) | assumption)
                          obtain ⟨ad150, e150, hx150_0, hx150_1⟩ := at_T37 HR2.out 0 p150 q150
                          cases e150
                          have qi150 : (0 < l2.length) = True := eq_true (by omega)
                          (try rw [show ((0 : Int)).toNat = 0 from rfl] at hx150_0)
                          (try rw [show 0 * 2 = 0 from rfl] at hx150_0)
                          (try rw [Addr.add_zero'] at hx150_0)
                          (try rw [show ((0 : Int)).toNat = 0 from rfl] at hx150_1)
                          (try rw [show 0 * 2 = 0 from rfl] at hx150_1)
                          (try rw [Addr.add_zero'] at hx150_1)
                          replace hx150_0 := (HB.out.cell (World.block_lt_of_cell? w _ hx150_0)).trans hx150_0
                          replace hx150_1 := (HB.out.cell (World.block_lt_of_cell? w _ hx150_1)).trans hx150_1
                          replace p150 := eq_true p150
                          replace q150 := eq_true q150
                          go_wp2
                          go_meet
                          case rel => exact ⟨_, (decide (a3 > 0)), (by first | rfl | (simp; done) | (simp [*]; done)), H', ⟨by have := HJ4.out; first | omega | exact Nat.le_refl _⟩, ⟨by repeat (first | (with_reducible first | exact HB.out | apply below_alloc | apply pw_below_drewN | apply below_drew1) | exact HB.out)⟩⟩
                        · rw [if_neg c27] at H
                          have c27b0 : ((l2.length : Int) == 0) = false := beq_eq_false_iff_ne.mpr c27
                          have c27b1 : ((l2.length : Int) != 0) = true := bne_iff_ne.mpr c27
                          have c27b2 : ¬ (l2 = []) := fun h_ => c27 (by rw [h_]; rfl)
                          have H' := Aside0.mk H
                          clear H
                          have p149 : 0 ≤ (0 : Int) := (by omega)
                          have q149 : 0 < (l0.length : Int) := of_decide_eq_true (by first | (with_reducible assumption) | assumption)
                          obtain ⟨ad149, e149, hx149_0, hx149_1⟩ := at_T37 HR0.out 0 p149 q149
                          cases e149
                          have qi149 : (0 < l0.length) = True := eq_true (by omega)
                          (try rw [show ((0 : Int)).toNat = 0 from rfl] at hx149_0)
                          (try rw [show 0 * 2 = 0 from rfl] at hx149_0)
                          (try rw [Addr.add_zero'] at hx149_0)
                          (try rw [show ((0 : Int)).toNat = 0 from rfl] at hx149_1)
                          (try rw [show 0 * 2 = 0 from rfl] at hx149_1)
                          (try rw [Addr.add_zero'] at hx149_1)
                          replace hx149_0 := (HB.out.cell (World.block_lt_of_cell? w _ hx149_0)).trans hx149_0
                          replace hx149_1 := (HB.out.cell (World.block_lt_of_cell? w _ hx149_1)).trans hx149_1
                          replace p149 := eq_true p149
                          replace q149 := eq_true q149
                          have p150 : 0 ≤ (0 : Int) := (by omega)
                          have q150 : 0 < (l2.length : Int) := of_decide_eq_true (by first | (with_reducible assumption) | assumption)
                          obtain ⟨ad150, e150, hx150_0, hx150_1⟩ := at_T37 HR2.out 0 p150 q150
                          cases e150
                          have qi150 : (0 < l2.length) = True := eq_true (by omega)
                          (try rw [show ((0 : Int)).toNat = 0 from rfl] at hx150_0)
                          (try rw [show 0 * 2 = 0 from rfl] at hx150_0)
                          (try rw [Addr.add_zero'] at hx150_0)
                          (try rw [show ((0 : Int)).toNat = 0 from rfl] at hx150_1)
                          (try rw [show 0 * 2 = 0 from rfl] at hx150_1)
                          (try rw [Addr.add_zero'] at hx150_1)
                          replace hx150_0 := (HB.out.cell (World.block_lt_of_cell? w _ hx150_0)).trans hx150_0
                          replace hx150_1 := (HB.out.cell (World.block_lt_of_cell? w _ hx150_1)).trans hx150_1
                          replace p150 := eq_true p150
                          replace q150 := eq_true q150
                          go_wp2
                          go_meet
                          case rel => exact ⟨_, (false), (by first | rfl | (simp; done) | (simp [*]; done)), H', ⟨by have := HJ4.out; first | omega | exact Nat.le_refl _⟩, ⟨by repeat (first | (with_reducible first | exact HB.out | apply below_alloc | apply pw_below_drewN | apply below_drew1) | exact HB.out)⟩⟩
                  · rw [if_neg c22] at H
                    exact absurd H (by simp)
                · rw [if_neg c21] at H
                  have c21b0 : decide (0 < (l2.length : Int)) = false := decide_eq_false c21
                  have c21b1 : decide (0 < l2.length) = false := decide_eq_false (by omega)
                  clear c21
                  by_cases c28 : (l0.length : Int) = 0
                  · rw [if_pos c28] at H
                    have c28b0 : ((l0.length : Int) == 0) = true := beq_iff_eq.mpr c28
                    have c28b1 : ((l0.length : Int) != 0) = false := bne_eq_false_iff_eq.mpr c28
                    clear c28
                    by_cases c29 : a1 > 0
                    · rw [if_pos c29] at H
                      have c29b0 : decide (0 < a1) = true := decide_eq_true c29
                      clear c29
                      have H' := Aside0.mk H
                      clear H
                      have p149 : 0 ≤ (0 : Int) := (by omega)
                      have q149 : 0 < (l0.length : Int) := of_decide_eq_true (by first | (with_reducible assumption) | assumption)
                      obtain ⟨ad149, e149, hx149_0, hx149_1⟩ := at_T37 HR0.out 0 p149 q149
                      cases e149
                      have qi149 : (0 < l0.length) = True := eq_true (by omega)
                      (try rw [show ((0 : Int)).toNat = 0 from rfl] at hx149_0)
                      (try rw [show 0 * 2 = 0 from rfl] at hx149_0)
                      (try rw [Addr.add_zero'] at hx149_0)
                      (try rw [show ((0 : Int)).toNat = 0 from rfl] at hx149_1)
                      (try rw [show 0 * 2 = 0 from rfl] at hx149_1)
                      (try rw [Addr.add_zero'] at hx149_1)
                      replace hx149_0 := (HB.out.cell (World.block_lt_of_cell? w _ hx149_0)).trans hx149_0
                      replace hx149_1 := (HB.out.cell (World.block_lt_of_cell? w _ hx149_1)).trans hx149_1
                      replace p149 := eq_true p149
                      replace q149 := eq_true q149
                      go_wp2
                      go_meet
                      case rel => exact ⟨_, (true), (by first | rfl | (simp; done) | (simp [*]; done)), H', ⟨by have := HJ4.out; first | omega | exact Nat.le_refl _⟩, ⟨by repeat (first | (with_reducible first | exact HB.out | apply below_alloc | apply pw_below_drewN | apply below_drew1) | exact HB.out)⟩⟩
                    · rw [if_neg c29] at H
                      have c29b0 : decide (0 < a1) = false := decide_eq_false c29
                      clear c29
                      by_cases c30 : (l2.length : Int) = 0
                      · rw [if_pos c30] at H
                        have c30b0 : ((l2.length : Int) == 0) = true := beq_iff_eq.mpr c30
                        have c30b1 : ((l2.length : Int) != 0) = false := bne_eq_false_iff_eq.mpr c30
                        clear c30
                        have H' := Aside0.mk H
                        clear H
                        have p149 : 0 ≤ (0 : Int) := (by omega)
                        have q149 : 0 < (l0.length : Int) := of_decide_eq_true (by first | (with_reducible assumption) | assumption)
                        obtain ⟨ad149, e149, hx149_0, hx149_1⟩ := at_T37 HR0.out 0 p149 q149
                        cases e149
                        have qi149 : (0 < l0.length) = True := eq_true (by omega)
                        (try rw [show ((0 : Int)).toNat = 0 from rfl] at hx149_0)
                        (try rw [show 0 * 2 = 0 from rfl] at hx149_0)
                        (try rw [Addr.add_zero'] at hx149_0)
                        (try rw [show ((0 : Int)).toNat = 0 from rfl] at hx149_1)
                        (try rw [show 0 * 2 = 0 from rfl] at hx149_1)
                        (try rw [Addr.add_zero'] at hx149_1)
                        replace hx149_0 := (HB.out.cell (World.block_lt_of_cell? w _ hx149_0)).trans hx149_0
                        replace hx149_1 := (HB.out.cell (World.block_lt_of_cell? w _ hx149_1)).trans hx149_1
                        replace p149 := eq_true p149
                        replace q149 := eq_true q149
                        go_wp2
                        go_meet
                        case rel => exact ⟨_, (decide (a3 > 0)), (by first | rfl | (simp; done) | (simp [*]; done)), H', ⟨by have := HJ4.out; first | omega | exact Nat.le_refl _⟩, ⟨by repeat (first | (with_reducible first | exact HB.out | apply below_alloc | apply pw_below_drewN | apply below_drew1) | exact HB.out)⟩⟩
                      · rw [if_neg c30] at H
                        have c30b0 : ((l2.length : Int) == 0) = false := beq_eq_false_iff_ne.mpr c30
                        have c30b1 : ((l2.length : Int) != 0) = true := bne_iff_ne.mpr c30
                        have c30b2 : ¬ (l2 = []) := fun h_ => c30 (by rw [h_]; rfl)
                        have H' := Aside0.mk H
                        clear H
                        have p149 : 0 ≤ (0 : Int) := (by omega)
                        have q149 : 0 < (l0.length : Int) := of_decide_eq_true (by first | (with_reducible assumption) | assumption)
                        obtain ⟨ad149, e149, hx149_0, hx149_1⟩ := at_T37 HR0.out 0 p149 q149
                        cases e149
                        have qi149 : (0 < l0.length) = True := eq_true (by omega)
                        (try rw [show ((0 : Int)).toNat = 0 from rfl] at hx149_0)
                        (try rw [show 0 * 2 = 0 from rfl] at hx149_0)
                        (try rw [Addr.add_zero'] at hx149_0)
                        (try rw [show ((0 : Int)).toNat = 0 from rfl] at hx149_1)
                        (try rw [show 0 * 2 = 0 from rfl] at hx149_1)
                        (try rw [Addr.add_zero'] at hx149_1)
                        replace hx149_0 := (HB.out.cell (World.block_lt_of_cell? w _ hx149_0)).trans hx149_0
                        replace hx149_1 := (HB.out.cell (World.block_lt_of_cell? w _ hx149_1)).trans hx149_1
                        replace p149 := eq_true p149
                        replace q149 := eq_true q149
                        go_wp2
                        go_meet
                        case rel => exact ⟨_, (false), (by first | rfl | (simp; done) | (simp [*]; done)), H', ⟨by have := HJ4.out; first | omega | exact Nat.le_refl _⟩, ⟨by repeat (first | (with_reducible first | exact HB.out | apply below_alloc | apply pw_below_drewN | apply below_drew1) | exact HB.out)⟩⟩
                  · rw [if_neg c28] at H
                    have c28b0 : ((l0.length : Int) == 0) = false := beq_eq_false_iff_ne.mpr c28
                    have c28b1 : ((l0.length : Int) != 0) = true := bne_iff_ne.mpr c28
                    have c28b2 : ¬ (l0 = []) := fun h_ => c28 (by rw [h_]; rfl)
                    by_cases c31 : (l2.length : Int) = 0
                    · rw [if_pos c31] at H
                      have c31b0 : ((l2.length : Int) == 0) = true := beq_iff_eq.mpr c31
                      have c31b1 : ((l2.length : Int) != 0) = false := bne_eq_false_iff_eq.mpr c31
                      clear c31
                      have H' := Aside0.mk H
                      clear H
                      have p149 : 0 ≤ (0 : Int) := (by omega)
                      have q149 : 0 < (l0.length : Int) := of_decide_eq_true (by first | (with_reducible assumption) | assumption)
                      obtain ⟨ad149, e149, hx149_0, hx149_1⟩ := at_T37 HR0.out 0 p149 q149
                      cases e149
                      have qi149 : (0 < l0.length) = True := eq_true (by omega)
                      (try rw [show ((0 : Int)).toNat = 0 from rfl] at hx149_0)
                      (try rw [show 0 * 2 = 0 from rfl] at hx149_0)
                      (try rw [Addr.add_zero'] at hx149_0)
                      (try rw [show ((0 : Int)).toNat = 0 from rfl] at hx149_1)
                      (try rw [show 0 * 2 = 0 from rfl] at hx149_1)
                      (try rw [Addr.add_zero'] at hx149_1)
                      replace hx149_0 := (HB.out.cell (World.block_lt_of_cell? w _ hx149_0)).trans hx149_0
                      replace hx149_1 := (HB.out.cell (World.block_lt_of_cell? w _ hx149_1)).trans hx149_1
                      replace p149 := eq_true p149
                      replace q149 := eq_true q149
                      go_wp2
                      go_meet
                      case rel => exact ⟨_, (decide (a3 > 0)), (by first | rfl | (simp; done) | (simp [*]; done)), H', ⟨by have := HJ4.out; first | omega | exact Nat.le_refl _⟩, ⟨by repeat (first | (with_reducible first | exact HB.out | apply below_alloc | apply pw_below_drewN | apply below_drew1) | exact HB.out)⟩⟩
                    · rw [if_neg c31] at H
                      have c31b0 : ((l2.length : Int) == 0) = false := beq_eq_false_iff_ne.mpr c31
                      have c31b1 : ((l2.length : Int) != 0) = true := bne_iff_ne.mpr c31
                      have c31b2 : ¬ (l2 = []) := fun h_ => c31 (by rw [h_]; rfl)
                      have H' := Aside0.mk H
                      clear H
                      have p149 : 0 ≤ (0 : Int) := (by omega)
                      have q149 : 0 < (l0.length : Int) := of_decide_eq_true (by first | (with_reducible assumption) | assumption)
                      obtain ⟨ad149, e149, hx149_0, hx149_1⟩ := at_T37 HR0.out 0 p149 q149
                      cases e149
                      have qi149 : (0 < l0.length) = True := eq_true (by omega)
                      (try rw [show ((0 : Int)).toNat = 0 from rfl] at hx149_0)
                      (try rw [show 0 * 2 = 0 from rfl] at hx149_0)
                      (try rw [Addr.add_zero'] at hx149_0)
                      (try rw [show ((0 : Int)).toNat = 0 from rfl] at hx149_1)
                      (try rw [show 0 * 2 = 0 from rfl] at hx149_1)
                      (try rw [Addr.add_zero'] at hx149_1)
                      replace hx149_0 := (HB.out.cell (World.block_lt_of_cell? w _ hx149_0)).trans hx149_0
                      replace hx149_1 := (HB.out.cell (World.block_lt_of_cell? w _ hx149_1)).trans hx149_1
                      replace p149 := eq_true p149
                      replace q149 := eq_true q149
                      go_wp2
                      go_meet
                      case rel => exact ⟨_, (false), (by first | rfl | (simp; done) | (simp [*]; done)), H', ⟨by have := HJ4.out; first | omega | exact Nat.le_refl _⟩, ⟨by repeat (first | (with_reducible first | exact HB.out | apply below_alloc | apply pw_below_drewN | apply below_drew1) | exact HB.out)⟩⟩
            · rw [if_neg c19] at H
              exact absurd H (by simp)
          · rw [if_neg c18] at H
            have c18b0 : decide (0 < (l0.length : Int)) = false := decide_eq_false c18
            have c18b1 : decide (0 < l0.length) = false := decide_eq_false (by omega)
            clear c18
            (first | rw [c18b0] | (simp only [i64_w, i32_w]; rw [c18b0]) | skip)
            by_cases c32 : (l2.length : Int) > 0
            · rw [if_pos c32] at H
              have c32b0 : decide (0 < (l2.length : Int)) = true := decide_eq_true c32
              have c32b1 : decide (0 < l2.length) = true := decide_eq_true (by omega)
              clear c32
              by_cases c33 : 0 < (l2.length : Int)
              · rw [if_pos c33] at H
                have c33b0 : decide (0 < (l2.length : Int)) = true := decide_eq_true c33
                have c33b1 : decide (0 < l2.length) = true := decide_eq_true (by omega)
                clear c33
                by_cases c34 : ((rd_T37 l2 0).f1) > 1
                · rw [if_pos c34] at H
                  have c34b0 : decide (1 < ((rd_T37 l2 0).f1)) = true := decide_eq_true c34
                  clear c34
                  have H' := Aside0.mk H
                  clear H
                  have p151 : 0 ≤ (0 : Int) := (by omega)
                  have q151 : 0 < (l2.length : Int) := of_decide_eq_true (by first | (with_reducible assumption) | assumption)
                  obtain ⟨ad151, e151, hx151_0, hx151_1⟩ := at_T37 HR2.out 0 p151 q151
                  cases e151
                  have qi151 : (0 < l2.length) = True := eq_true (by omega)
                  (try rw [show ((0 : Int)).toNat = 0 from rfl] at hx151_0)
                  (try rw [show 0 * 2 = 0 from rfl] at hx151_0)
                  (try rw [Addr.add_zero'] at hx151_0)
                  (try rw [show ((0 : Int)).toNat = 0 from rfl] at hx151_1)
                  (try rw [show 0 * 2 = 0 from rfl] at hx151_1)
                  (try rw [Addr.add_zero'] at hx151_1)
                  replace hx151_0 := (HB.out.cell (World.block_lt_of_cell? w _ hx151_0)).trans hx151_0
                  replace hx151_1 := (HB.out.cell (World.block_lt_of_cell? w _ hx151_1)).trans hx151_1
                  replace p151 := eq_true p151
                  replace q151 := eq_true q151
                  go_wp2
                  go_meet
                  case rel => exact ⟨_, (true), (by first | rfl | (simp; done) | (simp [*]; done)), H', ⟨by have := HJ4.out; first | omega | exact Nat.le_refl _⟩, ⟨by repeat (first | (with_reducible first | exact HB.out | apply below_alloc | apply pw_below_drewN | apply below_drew1) | exact HB.out)⟩⟩
                · rw [if_neg c34] at H
                  have c34b0 : decide (1 < ((rd_T37 l2 0).f1)) = false := decide_eq_false c34
                  clear c34
                  by_cases c35 : (l0.length : Int) = 0
                  · rw [if_pos c35] at H
                    have c35b0 : ((l0.length : Int) == 0) = true := beq_iff_eq.mpr c35
                    have c35b1 : ((l0.length : Int) != 0) = false := bne_eq_false_iff_eq.mpr c35
                    clear c35
                    by_cases c36 : a1 > 0
                    · rw [if_pos c36] at H
                      have c36b0 : decide (0 < a1) = true := decide_eq_true c36
                      clear c36
                      have H' := Aside0.mk H
                      clear H
                      have p151 : 0 ≤ (0 : Int) := (by omega)
                      have q151 : 0 < (l2.length : Int) := of_decide_eq_true (by first | (with_reducible assumption) | assumption)
                      obtain ⟨ad151, e151, hx151_0, hx151_1⟩ := at_T37 HR2.out 0 p151 q151
                      cases e151
                      have qi151 : (0 < l2.length) = True := eq_true (by omega)
                      (try rw [show ((0 : Int)).toNat = 0 from rfl] at hx151_0)
                      (try rw [show 0 * 2 = 0 from rfl] at hx151_0)
                      (try rw [Addr.add_zero'] at hx151_0)
                      (try rw [show ((0 : Int)).toNat = 0 from rfl] at hx151_1)
                      (try rw [show 0 * 2 = 0 from rfl] at hx151_1)
                      (try rw [Addr.add_zero'] at hx151_1)
                      replace hx151_0 := (HB.out.cell (World.block_lt_of_cell? w _ hx151_0)).trans hx151_0
                      replace hx151_1 := (HB.out.cell (World.block_lt_of_cell? w _ hx151_1)).trans hx151_1
                      replace p151 := eq_true p151
                      replace q151 := eq_true q151
                      go_wp2
                      go_meet
                      case rel => exact ⟨_, (true), (by first | rfl | (simp; done) | (simp [*]; done)), H', ⟨by have := HJ4.out; first | omega | exact Nat.le_refl _⟩, ⟨by repeat (first | (with_reducible first | exact HB.out | apply below_alloc | apply pw_below_drewN | apply below_drew1) | exact HB.out)⟩⟩
                    · rw [if_neg c36] at H
                      have c36b0 : decide (0 < a1) = false := decide_eq_false c36
                      clear c36
                      by_cases c37 : (l2.length : Int) = 0
                      · rw [if_pos c37] at H
                        have c37b0 : ((l2.length : Int) == 0) = true := beq_iff_eq.mpr c37
                        have c37b1 : ((l2.length : Int) != 0) = false := bne_eq_false_iff_eq.mpr c37
                        clear c37
                        have H' := Aside0.mk H
                        clear H
                        have p151 : 0 ≤ (0 : Int) := (by omega)
                        have q151 : 0 < (l2.length : Int) := of_decide_eq_true (by first | (with_reducible assumption) | assumption)
                        obtain ⟨ad151, e151, hx151_0, hx151_1⟩ := at_T37 HR2.out 0 p151 q151
                        cases e151
                        have qi151 : (0 < l2.length) = True := eq_true (by omega)
                        (try rw [show ((0 : Int)).toNat = 0 from rfl] at hx151_0)
                        (try rw [show 0 * 2 = 0 from rfl] at hx151_0)
                        (try rw [Addr.add_zero'] at hx151_0)
                        (try rw [show ((0 : Int)).toNat = 0 from rfl] at hx151_1)
                        (try rw [show 0 * 2 = 0 from rfl] at hx151_1)
                        (try rw [Addr.add_zero'] at hx151_1)
                        replace hx151_0 := (HB.out.cell (World.block_lt_of_cell? w _ hx151_0)).trans hx151_0
                        replace hx151_1 := (HB.out.cell (World.block_lt_of_cell? w _ hx151_1)).trans hx151_1
                        replace p151 := eq_true p151
                        replace q151 := eq_true q151
                        go_wp2
                        go_meet
                        case rel => exact ⟨_, (decide (a3 > 0)), (by first | rfl | (simp; done) | (simp [*]; done)), H', ⟨by have := HJ4.out; first | omega | exact Nat.le_refl _⟩, ⟨by repeat (first | (with_reducible first | exact HB.out | apply below_alloc | apply pw_below_drewN | apply below_drew1) | exact HB.out)⟩⟩
                      · rw [if_neg c37] at H
                        have c37b0 : ((l2.length : Int) == 0) = false := beq_eq_false_iff_ne.mpr c37
                        have c37b1 : ((l2.length : Int) != 0) = true := bne_iff_ne.mpr c37
                        have c37b2 : ¬ (l2 = []) := fun h_ => c37 (by rw [h_]; rfl)
                        have H' := Aside0.mk H
                        clear H
                        have p151 : 0 ≤ (0 : Int) := (by omega)
                        have q151 : 0 < (l2.length : Int) := of_decide_eq_true (by first | (with_reducible assumption) | assumption)
                        obtain ⟨ad151, e151, hx151_0, hx151_1⟩ := at_T37 HR2.out 0 p151 q151
                        cases e151
                        have qi151 : (0 < l2.length) = True := eq_true (by omega)
                        (try rw [show ((0 : Int)).toNat = 0 from rfl] at hx151_0)
                        (try rw [show 0 * 2 = 0 from rfl] at hx151_0)
                        (try rw [Addr.add_zero'] at hx151_0)
                        (try rw [show ((0 : Int)).toNat = 0 from rfl] at hx151_1)
                        (try rw [show 0 * 2 = 0 from rfl] at hx151_1)
                        (try rw [Addr.add_zero'] at hx151_1)
                        replace hx151_0 := (HB.out.cell (World.block_lt_of_cell? w _ hx151_0)).trans hx151_0
                        replace hx151_1 := (HB.out.cell (World.block_lt_of_cell? w _ hx151_1)).trans hx151_1
                        replace p151 := eq_true p151
                        replace q151 := eq_true q151
                        go_wp2
                        go_meet
                        case rel => exact ⟨_, (false), (by first | rfl | (simp; done) | (simp [*]; done)), H', ⟨by have := HJ4.out; first | omega | exact Nat.le_refl _⟩, ⟨by repeat (first | (with_reducible first | exact HB.out | apply below_alloc | apply pw_below_drewN | apply below_drew1) | exact HB.out)⟩⟩
                  · rw [if_neg c35] at H
                    have c35b0 : ((l0.length : Int) == 0) = false := beq_eq_false_iff_ne.mpr c35
                    have c35b1 : ((l0.length : Int) != 0) = true := bne_iff_ne.mpr c35
                    have c35b2 : ¬ (l0 = []) := fun h_ => c35 (by rw [h_]; rfl)
                    by_cases c38 : (l2.length : Int) = 0
                    · rw [if_pos c38] at H
                      have c38b0 : ((l2.length : Int) == 0) = true := beq_iff_eq.mpr c38
                      have c38b1 : ((l2.length : Int) != 0) = false := bne_eq_false_iff_eq.mpr c38
                      clear c38
                      have H' := Aside0.mk H
                      clear H
                      have p151 : 0 ≤ (0 : Int) := (by omega)
                      have q151 : 0 < (l2.length : Int) := of_decide_eq_true (by first | (with_reducible assumption) | assumption)
                      obtain ⟨ad151, e151, hx151_0, hx151_1⟩ := at_T37 HR2.out 0 p151 q151
                      cases e151
                      have qi151 : (0 < l2.length) = True := eq_true (by omega)
                      (try rw [show ((0 : Int)).toNat = 0 from rfl] at hx151_0)
                      (try rw [show 0 * 2 = 0 from rfl] at hx151_0)
                      (try rw [Addr.add_zero'] at hx151_0)
                      (try rw [show ((0 : Int)).toNat = 0 from rfl] at hx151_1)
                      (try rw [show 0 * 2 = 0 from rfl] at hx151_1)
                      (try rw [Addr.add_zero'] at hx151_1)
                      replace hx151_0 := (HB.out.cell (World.block_lt_of_cell? w _ hx151_0)).trans hx151_0
                      replace hx151_1 := (HB.out.cell (World.block_lt_of_cell? w _ hx151_1)).trans hx151_1
                      replace p151 := eq_true p151
                      replace q151 := eq_true q151
                      go_wp2
                      go_meet
                      case rel => exact ⟨_, (decide (a3 > 0)), (by first | rfl | (simp; done) | (simp [*]; done)), H', ⟨by have := HJ4.out; first | omega | exact Nat.le_refl _⟩, ⟨by repeat (first | (with_reducible first | exact HB.out | apply below_alloc | apply pw_below_drewN | apply below_drew1) | exact HB.out)⟩⟩
                    · rw [if_neg c38] at H
                      have c38b0 : ((l2.length : Int) == 0) = false := beq_eq_false_iff_ne.mpr c38
                      have c38b1 : ((l2.length : Int) != 0) = true := bne_iff_ne.mpr c38
                      have c38b2 : ¬ (l2 = []) := fun h_ => c38 (by rw [h_]; rfl)
                      have H' := Aside0.mk H
                      clear H
                      have p151 : 0 ≤ (0 : Int) := (by omega)
                      have q151 : 0 < (l2.length : Int) := of_decide_eq_true (by first | (with_reducible assumption) | assumption)
                      obtain ⟨ad151, e151, hx151_0, hx151_1⟩ := at_T37 HR2.out 0 p151 q151
                      cases e151
                      have qi151 : (0 < l2.length) = True := eq_true (by omega)
                      (try rw [show ((0 : Int)).toNat = 0 from rfl] at hx151_0)
                      (try rw [show 0 * 2 = 0 from rfl] at hx151_0)
                      (try rw [Addr.add_zero'] at hx151_0)
                      (try rw [show ((0 : Int)).toNat = 0 from rfl] at hx151_1)
                      (try rw [show 0 * 2 = 0 from rfl] at hx151_1)
                      (try rw [Addr.add_zero'] at hx151_1)
                      replace hx151_0 := (HB.out.cell (World.block_lt_of_cell? w _ hx151_0)).trans hx151_0
                      replace hx151_1 := (HB.out.cell (World.block_lt_of_cell? w _ hx151_1)).trans hx151_1
                      replace p151 := eq_true p151
                      replace q151 := eq_true q151
                      go_wp2
                      go_meet
                      case rel => exact ⟨_, (false), (by first | rfl | (simp; done) | (simp [*]; done)), H', ⟨by have := HJ4.out; first | omega | exact Nat.le_refl _⟩, ⟨by repeat (first | (with_reducible first | exact HB.out | apply below_alloc | apply pw_below_drewN | apply below_drew1) | exact HB.out)⟩⟩
              · rw [if_neg c33] at H
                exact absurd H (by simp)
            · rw [if_neg c32] at H
              have c32b0 : decide (0 < (l2.length : Int)) = false := decide_eq_false c32
              have c32b1 : decide (0 < l2.length) = false := decide_eq_false (by omega)
              clear c32
              by_cases c39 : (l0.length : Int) = 0
              · rw [if_pos c39] at H
                have c39b0 : ((l0.length : Int) == 0) = true := beq_iff_eq.mpr c39
                have c39b1 : ((l0.length : Int) != 0) = false := bne_eq_false_iff_eq.mpr c39
                clear c39
                by_cases c40 : a1 > 0
                · rw [if_pos c40] at H
                  have c40b0 : decide (0 < a1) = true := decide_eq_true c40
                  clear c40
                  have H' := Aside0.mk H
                  clear H
                  go_wp2
                  go_meet
                  case rel => exact ⟨_, (true), (by first | rfl | (simp; done) | (simp [*]; done)), H', ⟨by have := HJ4.out; first | omega | exact Nat.le_refl _⟩, ⟨by repeat (first | (with_reducible first | exact HB.out | apply below_alloc | apply pw_below_drewN | apply below_drew1) | exact HB.out)⟩⟩
                · rw [if_neg c40] at H
                  have c40b0 : decide (0 < a1) = false := decide_eq_false c40
                  clear c40
                  by_cases c41 : (l2.length : Int) = 0
                  · rw [if_pos c41] at H
                    have c41b0 : ((l2.length : Int) == 0) = true := beq_iff_eq.mpr c41
                    have c41b1 : ((l2.length : Int) != 0) = false := bne_eq_false_iff_eq.mpr c41
                    clear c41
                    have H' := Aside0.mk H
                    clear H
                    go_wp2
                    go_meet
                    case rel => exact ⟨_, (decide (a3 > 0)), (by first | rfl | (simp; done) | (simp [*]; done)), H', ⟨by have := HJ4.out; first | omega | exact Nat.le_refl _⟩, ⟨by repeat (first | (with_reducible first | exact HB.out | apply below_alloc | apply pw_below_drewN | apply below_drew1) | exact HB.out)⟩⟩
                  · rw [if_neg c41] at H
                    have c41b0 : ((l2.length : Int) == 0) = false := beq_eq_false_iff_ne.mpr c41
                    have c41b1 : ((l2.length : Int) != 0) = true := bne_iff_ne.mpr c41
                    have c41b2 : ¬ (l2 = []) := fun h_ => c41 (by rw [h_]; rfl)
                    have H' := Aside0.mk H
                    clear H
                    go_wp2
                    go_meet
                    case rel => exact ⟨_, (false), (by first | rfl | (simp; done) | (simp [*]; done)), H', ⟨by have := HJ4.out; first | omega | exact Nat.le_refl _⟩, ⟨by repeat (first | (with_reducible first | exact HB.out | apply below_alloc | apply pw_below_drewN | apply below_drew1) | exact HB.out)⟩⟩
              · rw [if_neg c39] at H
                have c39b0 : ((l0.length : Int) == 0) = false := beq_eq_false_iff_ne.mpr c39
                have c39b1 : ((l0.length : Int) != 0) = true := bne_iff_ne.mpr c39
                have c39b2 : ¬ (l0 = []) := fun h_ => c39 (by rw [h_]; rfl)
                by_cases c42 : (l2.length : Int) = 0
                · rw [if_pos c42] at H
                  have c42b0 : ((l2.length : Int) == 0) = true := beq_iff_eq.mpr c42
                  have c42b1 : ((l2.length : Int) != 0) = false := bne_eq_false_iff_eq.mpr c42
                  clear c42
                  have H' := Aside0.mk H
                  clear H
                  go_wp2
                  go_meet
                  case rel => exact ⟨_, (decide (a3 > 0)), (by first | rfl | (simp; done) | (simp [*]; done)), H', ⟨by have := HJ4.out; first | omega | exact Nat.le_refl _⟩, ⟨by repeat (first | (with_reducible first | exact HB.out | apply below_alloc | apply pw_below_drewN | apply below_drew1) | exact HB.out)⟩⟩
                · rw [if_neg c42] at H
                  have c42b0 : ((l2.length : Int) == 0) = false := beq_eq_false_iff_ne.mpr c42
                  have c42b1 : ((l2.length : Int) != 0) = true := bne_iff_ne.mpr c42
                  have c42b2 : ¬ (l2 = []) := fun h_ => c42 (by rw [h_]; rfl)
                  have H' := Aside0.mk H
                  clear H
                  go_wp2
                  go_meet
                  case rel => exact ⟨_, (false), (by first | rfl | (simp; done) | (simp [*]; done)), H', ⟨by have := HJ4.out; first | omega | exact Nat.le_refl _⟩, ⟨by repeat (first | (with_reducible first | exact HB.out | apply below_alloc | apply pw_below_drewN | apply below_drew1) | exact HB.out)⟩⟩
        case rest =>
          clear HC17
          try clear c1
          try clear p1
          try clear q1
          try clear hx1
          try clear qi1
          try clear c2
          try clear p2
          try clear c3
          try clear c4
          try clear p14
          try clear q14
          try clear hx14
          try clear qi14
          try clear p15
          try clear q15
          try clear hx15
          try clear qi15
          try clear c18
          try clear c18b0
          try clear c18b1
          try clear c19
          try clear c21
          try clear c21b0
          try clear c21b1
          try clear c22
          try clear c23
          try clear c23b0
          try clear c24
          try clear c24b0
          try clear c24b1
          try clear c24b2
          try clear c25
          try clear c25b0
          try clear c26
          try clear c26b0
          try clear c26b1
          try clear c26b2
          try clear c27
          try clear c27b0
          try clear c27b1
          try clear c27b2
          try clear c28
          try clear c28b0
          try clear c28b1
          try clear c28b2
          try clear c29
          try clear c29b0
          try clear c30
          try clear c30b0
          try clear c30b1
          try clear c30b2
          try clear c31
          try clear c31b0
          try clear c31b1
          try clear c31b2
          try clear c32
          try clear c32b0
          try clear c32b1
          try clear c33
          try clear c33b0
          try clear c33b1
          try clear c34
          try clear c34b0
          try clear c35
          try clear c35b0
          try clear c35b1
          try clear c35b2
          try clear c36
          try clear c36b0
          try clear c37
          try clear c37b0
          try clear c37b1
          try clear c37b2
          try clear c38
          try clear c38b0
          try clear c38b1
          try clear c38b2
          try clear c39
          try clear c39b0
          try clear c39b1
          try clear c39b2
          try clear c40
          try clear c40b0
          try clear c41
          try clear c41b0
          try clear c41b1
          try clear c41b2
          try clear c42
          try clear c42b0
          try clear c42b1
          try clear c42b2
          try clear hx149_0
          try clear hx149_1
          try clear hx150_0
          try clear hx150_1
          try clear hx151_0
          try clear hx151_1
          try clear p149
          try clear p150
          try clear p151
          try clear q149
          try clear q150
          try clear q151
          obtain ⟨kq, x71_16, rfl, HA, HJ16, HB⟩ := hcut
          cases kq with
          | zero => exact absurd HA.out (by simp [drayagelaw06_EpochsMeets.j1])
          | succ kj16 =>
            have H := HA.out
            clear HA
            simp only [drayagelaw06_EpochsMeets.j1] at H
            by_cases c43 : x71_16 = true
            · subst c43
              have H1 : ((drayagelaw06_known.f kj16).bind fun t152 => (some t152)) = some r := by rw [if_pos rfl] at H; exact H
              clear H
              have H := H1
              clear H1
              replace H := Option.bind_eq_some_iff.mp H
              obtain ⟨t152, A440, H⟩ := H
              replace H : (some t152) = some r := H
              have A44 := Aside0.mk A440
              clear A440
              obtain rfl := Option.some.inj H
              go_wp2_with (first | ((with_reducible refine gate_callee (f := 11) rfl ?_); refine goesL_ (some 72) rfl rfl Try.func11 (by kernel_rfl) rfl #[] rfl (by (try simp only [List.map_toArray, List.map_cons, List.map_nil]); first | done | rfl | (simp only [List.length_drop, List.length_take]; rfl)) ?_; (with_reducible refine (drayagelaw06_known.calls kj16  t152 _ A44.out).mono ?_); rintro e w45 ⟨rfl, hb⟩; refine ⟨_, rfl, ?_⟩; have n0_ := Aside0.mk (below_step (by repeat (first | (with_reducible first | exact HB.out | apply below_alloc | apply pw_below_drewN | apply below_drew1) | exact HB.out)) hb); clear HB; have HB := n0_; clear n0_; (try clear hb); (try clear hb2); (try clear hk); (try clear hi)))
              go_ret
              exact ⟨by first | rfl | (simp [errW_none, errW_some] <;> rfl) | (simp [*, errW_none, errW_some] <;> rfl), by repeat (first | (with_reducible first | exact HB.out | apply below_alloc | apply pw_below_drewN | apply below_drew1) | exact HB.out)⟩
            · replace c43 := Bool.eq_false_iff.mpr c43
              subst c43
              have H1 : ((drayagelaw06_shared.f kj16 l0 l2).bind fun t153 => (if t153 = true then ((epochs_Fork.f l0 a1 l2 a3).bind fun t155 => ((epochs_Cut.f kj16 l2 a3).bind fun t156 => (drayagelaw06_EpochsMeets.l0 kj16 l0 a1 l2 t155 a3 t156 0))) else ((drayagelaw06_known.f kj16).bind fun t154 => (some t154)))) = some r := by rw [if_neg (show ¬ (false = true) by decide)] at H; exact H
              clear H
              have H := H1
              clear H1
              replace H := Option.bind_eq_some_iff.mp H
              obtain ⟨t153, A460, H⟩ := H
              replace H : (if t153 = true then ((epochs_Fork.f l0 a1 l2 a3).bind fun t155 => ((epochs_Cut.f kj16 l2 a3).bind fun t156 => (drayagelaw06_EpochsMeets.l0 kj16 l0 a1 l2 t155 a3 t156 0))) else ((drayagelaw06_known.f kj16).bind fun t154 => (some t154))) = some r := H
              have A46 := Aside0.mk A460
              clear A460
              by_cases c47 : t153 = true
              · subst c47
                have H1 : ((epochs_Fork.f l0 a1 l2 a3).bind fun t155 => ((epochs_Cut.f kj16 l2 a3).bind fun t156 => (drayagelaw06_EpochsMeets.l0 kj16 l0 a1 l2 t155 a3 t156 0))) = some r := by rw [if_pos rfl] at H; exact H
                clear H
                have H := H1
                clear H1
                replace H := Option.bind_eq_some_iff.mp H
                obtain ⟨t155, A480, H⟩ := H
                replace H : ((epochs_Cut.f kj16 l2 a3).bind fun t156 => (drayagelaw06_EpochsMeets.l0 kj16 l0 a1 l2 t155 a3 t156 0)) = some r := H
                have A48 := Aside0.mk A480
                clear A480
                replace H := Option.bind_eq_some_iff.mp H
                obtain ⟨t156, A490, H⟩ := H
                replace H : (drayagelaw06_EpochsMeets.l0 kj16 l0 a1 l2 t155 a3 t156 0) = some r := H
                have A49 := Aside0.mk A490
                clear A490
                have H' := Aside0.mk H
                clear H
                go_wp2_with (first | ((with_reducible refine gate_callee (f := 23) rfl ?_); refine goesL_ (some 75) rfl rfl Try.func23 (by kernel_rfl) rfl #[.slice A0 l0.length c0, .slice A2 l2.length c2] rfl (by (try simp only [List.map_toArray, List.map_cons, List.map_nil]); first | done | rfl | (simp only [List.length_drop, List.length_take]; rfl)) ?_; (with_reducible refine (drayagelaw06_shared.calls kj16 _ _ l0 _ _ l2 true _ ?side1 ?side2 ?side3 ?side4 A46.out).mono ?_); (case side1 => repeat (first | exact (Kd.C_below HR0.out HB.out) | (with_reducible refine Kd.C_alloc ?_ _) | (with_reducible refine Kd.C_drewN ?_ _) | (with_reducible refine Kd.C_drew ?_))); (case side2 => exact HC0.out); (case side3 => repeat (first | exact (Kd.C_below HR2.out HB.out) | (with_reducible refine Kd.C_alloc ?_ _) | (with_reducible refine Kd.C_drewN ?_ _) | (with_reducible refine Kd.C_drew ?_))); (case side4 => exact HC2.out); rintro e w' ⟨rfl, ⟨nd, rfl⟩⟩; refine ⟨_, rfl, ?_⟩) | ((with_reducible refine gate_callee (f := 20) rfl ?_); refine goesL_ (some 82) rfl rfl Try.func20 (by kernel_rfl) rfl #[.slice A0 l0.length c0, .int .u64 a1, .slice A2 l2.length c2, .int .u64 a3] rfl (by (try simp only [List.map_toArray, List.map_cons, List.map_nil]); first | done | rfl | (simp only [List.length_drop, List.length_take]; rfl)) ?_; (with_reducible refine (epochs_Fork.calls _ _ l0 a1 _ _ l2 a3 t155 _ ?side1 ?side2 ?side3 ?side4 A48.out).mono ?_); (case side1 => repeat (first | exact (Kd.C_below HR0.out (by repeat (first | (with_reducible first | exact HB.out | apply below_alloc | apply pw_below_drewN | apply below_drew1) | exact HB.out))) | (with_reducible refine Kd.C_alloc ?_ _) | (with_reducible refine Kd.C_drewN ?_ _) | (with_reducible refine Kd.C_drew ?_))); (case side2 => exact HC0.out); (case side3 => repeat (first | exact (Kd.C_below HR2.out (by repeat (first | (with_reducible first | exact HB.out | apply below_alloc | apply pw_below_drewN | apply below_drew1) | exact HB.out))) | (with_reducible refine Kd.C_alloc ?_ _) | (with_reducible refine Kd.C_drewN ?_ _) | (with_reducible refine Kd.C_drew ?_))); (case side4 => exact HC2.out); rintro e w50 ⟨rfl, hb⟩; refine ⟨_, rfl, ?_⟩; have n0_ := Aside0.mk (below_step (by repeat (first | (with_reducible first | exact HB.out | apply below_alloc | apply pw_below_drewN | apply below_drew1) | exact HB.out)) hb); clear HB; have HB := n0_; clear n0_; (try clear hb); (try clear hb2); (try clear hk); (try clear hi)) | ((with_reducible refine gate_callee (f := 22) rfl ?_); refine goesL_ (some 86) rfl rfl Try.func22 (by kernel_rfl) rfl #[.slice A2 l2.length c2, .int .u64 a3] rfl (by (try simp only [List.map_toArray, List.map_cons, List.map_nil]); first | done | rfl | (simp only [List.length_drop, List.length_take]; rfl)) ?_; (with_reducible refine (epochs_Cut.calls kj16 _ _ l2 a3 t156 _ ?side1 ?side2 A49.out).mono ?_); (case side1 => repeat (first | exact (Kd.C_below HR2.out HB.out) | (with_reducible refine Kd.C_alloc ?_ _) | (with_reducible refine Kd.C_drewN ?_ _) | (with_reducible refine Kd.C_drew ?_))); (case side2 => exact HC2.out); rintro e w51 ⟨v157, rfl, ho0, hb⟩; refine ⟨_, rfl, ?_⟩; have n0_ := Aside0.mk (Kd.R_lower ho0 (below_size (by repeat (first | (with_reducible first | exact HB.out | apply below_alloc | apply pw_below_drewN | apply below_drew1) | exact HB.out)))); have n1_ := Aside0.mk (below_step (by repeat (first | (with_reducible first | exact HB.out | apply below_alloc | apply pw_below_drewN | apply below_drew1) | exact HB.out)) hb); clear HB; have HO158 := n0_; have HB := n1_; clear n0_ n1_; (try clear hb); (try clear hb2); (try clear hk); (try clear hi); (try clear ho0)))
                go_loopg [10, 11, 12] kj16 (fun kq v10 v11 v12 w' => ∃ (x10_3 : Int) (x11_3 : List (S37)) (x12_3 : Int), v10 = .int .u64 x10_3 ∧ v12 = .int .i64 x12_3 ∧ Aside0 (drayagelaw06_EpochsMeets.l0 kq l0 a1 l2 t155 x10_3 x11_3 x12_3 = some r) ∧ Aside0 (kq ≤ kj16) ∧ Aside0 (Kd.R k37 37 w' w.heap.size (fun _ => True) v11 x11_3) ∧ Aside0 (Below w.heap.size w w'))
                case atStart => exact ⟨(a3), (t156), (0), (by first | rfl | (simp; done) | (simp [*]; done)), (by first | rfl | (simp; done) | (simp [*]; done)), H', ⟨Nat.le_refl _⟩, ⟨by (with_reducible repeat (first | apply Kd.R_alloc | apply Kd.R_drewN | apply Kd.R_drew)); exact HO158.out⟩, ⟨by repeat (first | (with_reducible first | exact HB.out | apply below_alloc | apply pw_below_drewN | apply below_drew1) | exact HB.out)⟩⟩
                case round =>
                  clear H'
                  try clear c1
                  try clear p1
                  try clear q1
                  try clear hx1
                  try clear qi1
                  try clear c2
                  try clear p2
                  try clear c3
                  try clear c4
                  try clear c11
                  try clear p14
                  try clear q14
                  try clear hx14
                  try clear qi14
                  try clear p15
                  try clear q15
                  try clear hx15
                  try clear qi15
                  try clear c18
                  try clear c18b0
                  try clear c18b1
                  try clear c19
                  try clear c20
                  try clear c21
                  try clear c21b0
                  try clear c21b1
                  try clear c22
                  try clear c23
                  try clear c23b0
                  try clear c24
                  try clear c24b0
                  try clear c24b1
                  try clear c24b2
                  try clear c25
                  try clear c25b0
                  try clear c26
                  try clear c26b0
                  try clear c26b1
                  try clear c26b2
                  try clear c27
                  try clear c27b0
                  try clear c27b1
                  try clear c27b2
                  try clear c28
                  try clear c28b0
                  try clear c28b1
                  try clear c28b2
                  try clear c29
                  try clear c29b0
                  try clear c30
                  try clear c30b0
                  try clear c30b1
                  try clear c30b2
                  try clear c31
                  try clear c31b0
                  try clear c31b1
                  try clear c31b2
                  try clear c32
                  try clear c32b0
                  try clear c32b1
                  try clear c33
                  try clear c33b0
                  try clear c33b1
                  try clear c34
                  try clear c34b0
                  try clear c35
                  try clear c35b0
                  try clear c35b1
                  try clear c35b2
                  try clear c36
                  try clear c36b0
                  try clear c37
                  try clear c37b0
                  try clear c37b1
                  try clear c37b2
                  try clear c38
                  try clear c38b0
                  try clear c38b1
                  try clear c38b2
                  try clear c39
                  try clear c39b0
                  try clear c39b1
                  try clear c39b2
                  try clear c40
                  try clear c40b0
                  try clear c41
                  try clear c41b0
                  try clear c41b1
                  try clear c41b2
                  try clear c42
                  try clear c42b0
                  try clear c42b1
                  try clear c42b2
                  try clear c43
                  try clear c47
                  try clear hx149_0
                  try clear hx149_1
                  try clear hx150_0
                  try clear hx150_1
                  try clear hx151_0
                  try clear hx151_1
                  try clear p1
                  try clear p14
                  try clear p149
                  try clear p15
                  try clear p150
                  try clear p151
                  try clear p2
                  try clear q1
                  try clear q14
                  try clear q149
                  try clear q15
                  try clear q150
                  try clear q151
                  obtain ⟨x10_3, x11_3, x12_3, rfl, rfl, HA, HK3, HO_11, HB⟩ := hrel
                  cases gk with
                  | zero => exact absurd HA.out (by simp [drayagelaw06_EpochsMeets.l0])
                  | succ k3 =>
                    have H := HA.out
                    clear HA
                    simp only [drayagelaw06_EpochsMeets.l0] at H
                    by_cases c52 : x12_3 < (wrap64 ((l2.length : Int) + 2))
                    · rw [if_pos c52] at H
                      have c52b0 : decide (x12_3 < (wrap64 ((l2.length : Int) + 2))) = true := decide_eq_true c52
                      clear c52
                      replace H := Option.bind_eq_some_iff.mp H
                      obtain ⟨t160, A530, H⟩ := H
                      replace H : ((epochs_End.f k3 l0 a1 t160).bind fun t161 => ((epochs_At.f k3 l0 t161).bind fun t162 => ((epochs_End.f k3 x11_3 x10_3 t162).bind fun t163 => (if (mn x10_3 (mn t161 t163)) = x10_3 then (if x10_3 = t155 then ((drayagelaw06_known.f k3).bind fun t164 => (some t164)) else (some false)) else ((epochs_Cut.f k3 x11_3 (mn x10_3 (mn t161 t163))).bind fun t165 => (drayagelaw06_EpochsMeets.l0 k3 l0 a1 l2 t155 (mn x10_3 (mn t161 t163)) t165 (wrap64 (x12_3 + 1)))))))) = some r := H
                      have A53 := Aside0.mk A530
                      clear A530
                      replace H := Option.bind_eq_some_iff.mp H
                      obtain ⟨t161, A540, H⟩ := H
                      replace H : ((epochs_At.f k3 l0 t161).bind fun t162 => ((epochs_End.f k3 x11_3 x10_3 t162).bind fun t163 => (if (mn x10_3 (mn t161 t163)) = x10_3 then (if x10_3 = t155 then ((drayagelaw06_known.f k3).bind fun t164 => (some t164)) else (some false)) else ((epochs_Cut.f k3 x11_3 (mn x10_3 (mn t161 t163))).bind fun t165 => (drayagelaw06_EpochsMeets.l0 k3 l0 a1 l2 t155 (mn x10_3 (mn t161 t163)) t165 (wrap64 (x12_3 + 1))))))) = some r := H
                      have A54 := Aside0.mk A540
                      clear A540
                      replace H := Option.bind_eq_some_iff.mp H
                      obtain ⟨t162, A550, H⟩ := H
                      replace H : ((epochs_End.f k3 x11_3 x10_3 t162).bind fun t163 => (if (mn x10_3 (mn t161 t163)) = x10_3 then (if x10_3 = t155 then ((drayagelaw06_known.f k3).bind fun t164 => (some t164)) else (some false)) else ((epochs_Cut.f k3 x11_3 (mn x10_3 (mn t161 t163))).bind fun t165 => (drayagelaw06_EpochsMeets.l0 k3 l0 a1 l2 t155 (mn x10_3 (mn t161 t163)) t165 (wrap64 (x12_3 + 1)))))) = some r := H
                      have A55 := Aside0.mk A550
                      clear A550
                      replace H := Option.bind_eq_some_iff.mp H
                      obtain ⟨t163, A560, H⟩ := H
                      replace H : (if (mn x10_3 (mn t161 t163)) = x10_3 then (if x10_3 = t155 then ((drayagelaw06_known.f k3).bind fun t164 => (some t164)) else (some false)) else ((epochs_Cut.f k3 x11_3 (mn x10_3 (mn t161 t163))).bind fun t165 => (drayagelaw06_EpochsMeets.l0 k3 l0 a1 l2 t155 (mn x10_3 (mn t161 t163)) t165 (wrap64 (x12_3 + 1))))) = some r := H
                      have A56 := Aside0.mk A560
                      clear A560
                      obtain ⟨ji57, hji57⟩ : ∃ j_ : Int, (mn t161 t163) = j_ := ⟨_, rfl⟩
                      replace H : (if (mn x10_3 (ji57)) = x10_3 then (if x10_3 = t155 then ((drayagelaw06_known.f k3).bind fun t164 => (some t164)) else (some false)) else ((epochs_Cut.f k3 x11_3 (mn x10_3 (ji57))).bind fun t165 => (drayagelaw06_EpochsMeets.l0 k3 l0 a1 l2 t155 (mn x10_3 (ji57)) t165 (wrap64 (x12_3 + 1))))) = some r := by first | (rw [hji57] at H; exact H) | (simp only [hji57] at H ⊢; exact H)
                      (try rw [hji57] at A53)
                      (try rw [hji57] at A54)
                      (try rw [hji57] at A55)
                      (try rw [hji57] at A56)
                      have hji57_ : (if t163 < t161 then t163 else t161) = ji57 := hji57
                      obtain ⟨ji58, hji58⟩ : ∃ j_ : Int, (mn x10_3 (ji57)) = j_ := ⟨_, rfl⟩
                      replace H : (if (ji58) = x10_3 then (if x10_3 = t155 then ((drayagelaw06_known.f k3).bind fun t164 => (some t164)) else (some false)) else ((epochs_Cut.f k3 x11_3 (ji58)).bind fun t165 => (drayagelaw06_EpochsMeets.l0 k3 l0 a1 l2 t155 ji58 t165 (wrap64 (x12_3 + 1))))) = some r := by first | (rw [hji58] at H; exact H) | (simp only [hji58] at H ⊢; exact H)
                      (try rw [hji58] at A53)
                      (try rw [hji58] at A54)
                      (try rw [hji58] at A55)
                      (try rw [hji58] at A56)
                      have hji58_ : (if (ji57) < x10_3 then (ji57) else x10_3) = ji58 := hji58
                      by_cases c59 : (ji58) = x10_3
                      · rw [if_pos c59] at H
                        have c59b0 : ((ji58) == x10_3) = true := beq_iff_eq.mpr c59
                        have c59b1 : ((ji58) != x10_3) = false := bne_eq_false_iff_eq.mpr c59
                        clear c59
                        by_cases c60 : x10_3 = t155
                        · rw [if_pos c60] at H
                          have c60b0 : (x10_3 == t155) = true := beq_iff_eq.mpr c60
                          have c60b1 : (x10_3 != t155) = false := bne_eq_false_iff_eq.mpr c60
                          clear c60
                          replace H := Option.bind_eq_some_iff.mp H
                          obtain ⟨t164, A610, H⟩ := H
                          replace H : (some t164) = some r := H
                          have A61 := Aside0.mk A610
                          clear A610
                          obtain rfl := Option.some.inj H
                          obtain ⟨Ao62, co62, eo62⟩ := Kd.R_slice HO_11.out
                          subst eo62
                          go_wp2_with (first | ((with_reducible refine gate_callee (f := 14) rfl ?_); refine goesL_ (some 96) rfl rfl Try.func14 (by kernel_rfl) rfl #[.slice Ao62 x11_3.length co62, .int .u64 x10_3] rfl (by (try simp only [List.map_toArray, List.map_cons, List.map_nil]); first | done | rfl | (simp only [List.length_drop, List.length_take]; rfl)) ?_; (with_reducible refine (epochs_At.calls k3 _ _ x11_3 x10_3 t160 _ ?side1 ?side2 A53.out).mono ?_); (case side1 => repeat (first | exact (Kd.R_reads' HO_11.out).2.2 | (with_reducible refine Kd.C_alloc ?_ _) | (with_reducible refine Kd.C_drewN ?_ _) | (with_reducible refine Kd.C_drew ?_))); (case side2 => exact (Kd.R_reads' HO_11.out).2.1); rintro e w63 ⟨rfl, hb⟩; refine ⟨_, rfl, ?_⟩; have n0_ := Aside0.mk (Kd.R_below (by (with_reducible repeat (first | apply Kd.R_alloc | apply Kd.R_drewN | apply Kd.R_drew)); exact HO_11.out) hb); have n1_ := Aside0.mk (below_step (by repeat (first | (with_reducible first | exact HB.out | apply below_alloc | apply pw_below_drewN | apply below_drew1) | exact HB.out)) hb); clear HO_11; clear HB; have HO_11 := n0_; have HB := n1_; clear n0_ n1_; (try clear hb); (try clear hb2); (try clear hk); (try clear hi)) | ((with_reducible refine gate_callee (f := 15) rfl ?_); refine goesL_ (some 100) rfl rfl Try.func15 (by kernel_rfl) rfl #[.slice A0 l0.length c0, .int .u64 a1, .int .u32 t160] rfl (by (try simp only [List.map_toArray, List.map_cons, List.map_nil]); first | done | rfl | (simp only [List.length_drop, List.length_take]; rfl)) ?_; (with_reducible refine (epochs_End.calls k3 _ _ l0 a1 t160 t161 _ ?side1 ?side2 A54.out).mono ?_); (case side1 => repeat (first | exact (Kd.C_below HR0.out HB.out) | (with_reducible refine Kd.C_alloc ?_ _) | (with_reducible refine Kd.C_drewN ?_ _) | (with_reducible refine Kd.C_drew ?_))); (case side2 => exact HC0.out); rintro e w64 ⟨rfl, hb⟩; refine ⟨_, rfl, ?_⟩; have n0_ := Aside0.mk (Kd.R_below (by (with_reducible repeat (first | apply Kd.R_alloc | apply Kd.R_drewN | apply Kd.R_drew)); exact HO_11.out) hb); have n1_ := Aside0.mk (below_step (by repeat (first | (with_reducible first | exact HB.out | apply below_alloc | apply pw_below_drewN | apply below_drew1) | exact HB.out)) hb); clear HO_11; clear HB; have HO_11 := n0_; have HB := n1_; clear n0_ n1_; (try clear hb); (try clear hb2); (try clear hk); (try clear hi)) | ((with_reducible refine gate_callee (f := 14) rfl ?_); refine goesL_ (some 103) rfl rfl Try.func14 (by kernel_rfl) rfl #[.slice A0 l0.length c0, .int .u64 t161] rfl (by (try simp only [List.map_toArray, List.map_cons, List.map_nil]); first | done | rfl | (simp only [List.length_drop, List.length_take]; rfl)) ?_; (with_reducible refine (epochs_At.calls k3 _ _ l0 t161 t162 _ ?side1 ?side2 A55.out).mono ?_); (case side1 => repeat (first | exact (Kd.C_below HR0.out HB.out) | (with_reducible refine Kd.C_alloc ?_ _) | (with_reducible refine Kd.C_drewN ?_ _) | (with_reducible refine Kd.C_drew ?_))); (case side2 => exact HC0.out); rintro e w65 ⟨rfl, hb⟩; refine ⟨_, rfl, ?_⟩; have n0_ := Aside0.mk (Kd.R_below (by (with_reducible repeat (first | apply Kd.R_alloc | apply Kd.R_drewN | apply Kd.R_drew)); exact HO_11.out) hb); have n1_ := Aside0.mk (below_step (by repeat (first | (with_reducible first | exact HB.out | apply below_alloc | apply pw_below_drewN | apply below_drew1) | exact HB.out)) hb); clear HO_11; clear HB; have HO_11 := n0_; have HB := n1_; clear n0_ n1_; (try clear hb); (try clear hb2); (try clear hk); (try clear hi)) | ((with_reducible refine gate_callee (f := 15) rfl ?_); refine goesL_ (some 107) rfl rfl Try.func15 (by kernel_rfl) rfl #[.slice Ao62 x11_3.length co62, .int .u64 x10_3, .int .u32 t162] rfl (by (try simp only [List.map_toArray, List.map_cons, List.map_nil]); first | done | rfl | (simp only [List.length_drop, List.length_take]; rfl)) ?_; (with_reducible refine (epochs_End.calls k3 _ _ x11_3 x10_3 t162 t163 _ ?side1 ?side2 A56.out).mono ?_); (case side1 => repeat (first | exact (Kd.R_reads' HO_11.out).2.2 | (with_reducible refine Kd.C_alloc ?_ _) | (with_reducible refine Kd.C_drewN ?_ _) | (with_reducible refine Kd.C_drew ?_))); (case side2 => exact (Kd.R_reads' HO_11.out).2.1); rintro e w66 ⟨rfl, hb⟩; refine ⟨_, rfl, ?_⟩; have n0_ := Aside0.mk (Kd.R_below (by (with_reducible repeat (first | apply Kd.R_alloc | apply Kd.R_drewN | apply Kd.R_drew)); exact HO_11.out) hb); have n1_ := Aside0.mk (below_step (by repeat (first | (with_reducible first | exact HB.out | apply below_alloc | apply pw_below_drewN | apply below_drew1) | exact HB.out)) hb); clear HO_11; clear HB; have HO_11 := n0_; have HB := n1_; clear n0_ n1_; (try clear hb); (try clear hb2); (try clear hk); (try clear hi)) | (go_at_call 11; (with_reducible refine (drayagelaw06_known.calls k3  t164 _ A61.out).mono ?_); rintro e w67 ⟨rfl, hb⟩; have n0_ := Aside0.mk (Kd.R_below (by (with_reducible repeat (first | apply Kd.R_alloc | apply Kd.R_drewN | apply Kd.R_drew)); exact HO_11.out) hb); have n1_ := Aside0.mk (below_step (by repeat (first | (with_reducible first | exact HB.out | apply below_alloc | apply pw_below_drewN | apply below_drew1) | exact HB.out)) hb); clear HO_11; clear HB; have HO_11 := n0_; have HB := n1_; clear n0_ n1_; (try clear hb); (try clear hb2); (try clear hk); (try clear hi)))
                          go_ret
                          exact ⟨by first | rfl | (simp [errW_none, errW_some] <;> rfl) | (simp only [← hji57, ← hji58]; first | rfl | (simp [errW_none, errW_some] <;> rfl)) | (simp [*, errW_none, errW_some] <;> rfl), by repeat (first | (with_reducible first | exact HB.out | apply below_alloc | apply pw_below_drewN | apply below_drew1) | exact HB.out)⟩
                        · rw [if_neg c60] at H
                          have c60b0 : (x10_3 == t155) = false := beq_eq_false_iff_ne.mpr c60
                          have c60b1 : (x10_3 != t155) = true := bne_iff_ne.mpr c60
                          obtain rfl := Option.some.inj H
                          obtain ⟨Ao68, co68, eo68⟩ := Kd.R_slice HO_11.out
                          subst eo68
                          go_wp2_with (first | ((with_reducible refine gate_callee (f := 14) rfl ?_); refine goesL_ (some 96) rfl rfl Try.func14 (by kernel_rfl) rfl #[.slice Ao68 x11_3.length co68, .int .u64 x10_3] rfl (by (try simp only [List.map_toArray, List.map_cons, List.map_nil]); first | done | rfl | (simp only [List.length_drop, List.length_take]; rfl)) ?_; (with_reducible refine (epochs_At.calls k3 _ _ x11_3 x10_3 t160 _ ?side1 ?side2 A53.out).mono ?_); (case side1 => repeat (first | exact (Kd.R_reads' HO_11.out).2.2 | (with_reducible refine Kd.C_alloc ?_ _) | (with_reducible refine Kd.C_drewN ?_ _) | (with_reducible refine Kd.C_drew ?_))); (case side2 => exact (Kd.R_reads' HO_11.out).2.1); rintro e w69 ⟨rfl, hb⟩; refine ⟨_, rfl, ?_⟩; have n0_ := Aside0.mk (Kd.R_below (by (with_reducible repeat (first | apply Kd.R_alloc | apply Kd.R_drewN | apply Kd.R_drew)); exact HO_11.out) hb); have n1_ := Aside0.mk (below_step (by repeat (first | (with_reducible first | exact HB.out | apply below_alloc | apply pw_below_drewN | apply below_drew1) | exact HB.out)) hb); clear HO_11; clear HB; have HO_11 := n0_; have HB := n1_; clear n0_ n1_; (try clear hb); (try clear hb2); (try clear hk); (try clear hi)) | ((with_reducible refine gate_callee (f := 15) rfl ?_); refine goesL_ (some 100) rfl rfl Try.func15 (by kernel_rfl) rfl #[.slice A0 l0.length c0, .int .u64 a1, .int .u32 t160] rfl (by (try simp only [List.map_toArray, List.map_cons, List.map_nil]); first | done | rfl | (simp only [List.length_drop, List.length_take]; rfl)) ?_; (with_reducible refine (epochs_End.calls k3 _ _ l0 a1 t160 t161 _ ?side1 ?side2 A54.out).mono ?_); (case side1 => repeat (first | exact (Kd.C_below HR0.out HB.out) | (with_reducible refine Kd.C_alloc ?_ _) | (with_reducible refine Kd.C_drewN ?_ _) | (with_reducible refine Kd.C_drew ?_))); (case side2 => exact HC0.out); rintro e w70 ⟨rfl, hb⟩; refine ⟨_, rfl, ?_⟩; have n0_ := Aside0.mk (Kd.R_below (by (with_reducible repeat (first | apply Kd.R_alloc | apply Kd.R_drewN | apply Kd.R_drew)); exact HO_11.out) hb); have n1_ := Aside0.mk (below_step (by repeat (first | (with_reducible first | exact HB.out | apply below_alloc | apply pw_below_drewN | apply below_drew1) | exact HB.out)) hb); clear HO_11; clear HB; have HO_11 := n0_; have HB := n1_; clear n0_ n1_; (try clear hb); (try clear hb2); (try clear hk); (try clear hi)) | ((with_reducible refine gate_callee (f := 14) rfl ?_); refine goesL_ (some 103) rfl rfl Try.func14 (by kernel_rfl) rfl #[.slice A0 l0.length c0, .int .u64 t161] rfl (by (try simp only [List.map_toArray, List.map_cons, List.map_nil]); first | done | rfl | (simp only [List.length_drop, List.length_take]; rfl)) ?_; (with_reducible refine (epochs_At.calls k3 _ _ l0 t161 t162 _ ?side1 ?side2 A55.out).mono ?_); (case side1 => repeat (first | exact (Kd.C_below HR0.out HB.out) | (with_reducible refine Kd.C_alloc ?_ _) | (with_reducible refine Kd.C_drewN ?_ _) | (with_reducible refine Kd.C_drew ?_))); (case side2 => exact HC0.out); rintro e w71 ⟨rfl, hb⟩; refine ⟨_, rfl, ?_⟩; have n0_ := Aside0.mk (Kd.R_below (by (with_reducible repeat (first | apply Kd.R_alloc | apply Kd.R_drewN | apply Kd.R_drew)); exact HO_11.out) hb); have n1_ := Aside0.mk (below_step (by repeat (first | (with_reducible first | exact HB.out | apply below_alloc | apply pw_below_drewN | apply below_drew1) | exact HB.out)) hb); clear HO_11; clear HB; have HO_11 := n0_; have HB := n1_; clear n0_ n1_; (try clear hb); (try clear hb2); (try clear hk); (try clear hi)) | ((with_reducible refine gate_callee (f := 15) rfl ?_); refine goesL_ (some 107) rfl rfl Try.func15 (by kernel_rfl) rfl #[.slice Ao68 x11_3.length co68, .int .u64 x10_3, .int .u32 t162] rfl (by (try simp only [List.map_toArray, List.map_cons, List.map_nil]); first | done | rfl | (simp only [List.length_drop, List.length_take]; rfl)) ?_; (with_reducible refine (epochs_End.calls k3 _ _ x11_3 x10_3 t162 t163 _ ?side1 ?side2 A56.out).mono ?_); (case side1 => repeat (first | exact (Kd.R_reads' HO_11.out).2.2 | (with_reducible refine Kd.C_alloc ?_ _) | (with_reducible refine Kd.C_drewN ?_ _) | (with_reducible refine Kd.C_drew ?_))); (case side2 => exact (Kd.R_reads' HO_11.out).2.1); rintro e w72 ⟨rfl, hb⟩; refine ⟨_, rfl, ?_⟩; have n0_ := Aside0.mk (Kd.R_below (by (with_reducible repeat (first | apply Kd.R_alloc | apply Kd.R_drewN | apply Kd.R_drew)); exact HO_11.out) hb); have n1_ := Aside0.mk (below_step (by repeat (first | (with_reducible first | exact HB.out | apply below_alloc | apply pw_below_drewN | apply below_drew1) | exact HB.out)) hb); clear HO_11; clear HB; have HO_11 := n0_; have HB := n1_; clear n0_ n1_; (try clear hb); (try clear hb2); (try clear hk); (try clear hi)))
                          go_ret
                          exact ⟨by first | rfl | (simp [errW_none, errW_some] <;> rfl) | (simp only [← hji57, ← hji58]; first | rfl | (simp [errW_none, errW_some] <;> rfl)) | (simp [*, errW_none, errW_some] <;> rfl), by repeat (first | (with_reducible first | exact HB.out | apply below_alloc | apply pw_below_drewN | apply below_drew1) | exact HB.out)⟩
                      · rw [if_neg c59] at H
                        have c59b0 : ((ji58) == x10_3) = false := beq_eq_false_iff_ne.mpr c59
                        have c59b1 : ((ji58) != x10_3) = true := bne_iff_ne.mpr c59
                        have ej_ : ji58 = ji57 := by
                          have h := hji58
                          unfold mn at h
                          split at h
                          · exact h.symm
                          · exact absurd h.symm c59
                        subst ej_
                        replace H := Option.bind_eq_some_iff.mp H
                        obtain ⟨t165, A730, H⟩ := H
                        replace H : (drayagelaw06_EpochsMeets.l0 k3 l0 a1 l2 t155 ji58 t165 (wrap64 (x12_3 + 1))) = some r := H
                        have A73 := Aside0.mk A730
                        clear A730
                        have H' := Aside0.mk H
                        clear H
                        obtain ⟨Ao74, co74, eo74⟩ := Kd.R_slice HO_11.out
                        subst eo74
                        go_wp2_with (first | ((with_reducible refine gate_callee (f := 14) rfl ?_); refine goesL_ (some 96) rfl rfl Try.func14 (by kernel_rfl) rfl #[.slice Ao74 x11_3.length co74, .int .u64 x10_3] rfl (by (try simp only [List.map_toArray, List.map_cons, List.map_nil]); first | done | rfl | (simp only [List.length_drop, List.length_take]; rfl)) ?_; (with_reducible refine (epochs_At.calls k3 _ _ x11_3 x10_3 t160 _ ?side1 ?side2 A53.out).mono ?_); (case side1 => repeat (first | exact (Kd.R_reads' HO_11.out).2.2 | (with_reducible refine Kd.C_alloc ?_ _) | (with_reducible refine Kd.C_drewN ?_ _) | (with_reducible refine Kd.C_drew ?_))); (case side2 => exact (Kd.R_reads' HO_11.out).2.1); rintro e w75 ⟨rfl, hb⟩; refine ⟨_, rfl, ?_⟩; have n0_ := Aside0.mk (Kd.R_below (by (with_reducible repeat (first | apply Kd.R_alloc | apply Kd.R_drewN | apply Kd.R_drew)); exact HO_11.out) hb); have n1_ := Aside0.mk (below_step (by repeat (first | (with_reducible first | exact HB.out | apply below_alloc | apply pw_below_drewN | apply below_drew1) | exact HB.out)) hb); clear HO_11; clear HB; have HO_11 := n0_; have HB := n1_; clear n0_ n1_; (try clear hb); (try clear hb2); (try clear hk); (try clear hi)) | ((with_reducible refine gate_callee (f := 15) rfl ?_); refine goesL_ (some 100) rfl rfl Try.func15 (by kernel_rfl) rfl #[.slice A0 l0.length c0, .int .u64 a1, .int .u32 t160] rfl (by (try simp only [List.map_toArray, List.map_cons, List.map_nil]); first | done | rfl | (simp only [List.length_drop, List.length_take]; rfl)) ?_; (with_reducible refine (epochs_End.calls k3 _ _ l0 a1 t160 t161 _ ?side1 ?side2 A54.out).mono ?_); (case side1 => repeat (first | exact (Kd.C_below HR0.out HB.out) | (with_reducible refine Kd.C_alloc ?_ _) | (with_reducible refine Kd.C_drewN ?_ _) | (with_reducible refine Kd.C_drew ?_))); (case side2 => exact HC0.out); rintro e w76 ⟨rfl, hb⟩; refine ⟨_, rfl, ?_⟩; have n0_ := Aside0.mk (Kd.R_below (by (with_reducible repeat (first | apply Kd.R_alloc | apply Kd.R_drewN | apply Kd.R_drew)); exact HO_11.out) hb); have n1_ := Aside0.mk (below_step (by repeat (first | (with_reducible first | exact HB.out | apply below_alloc | apply pw_below_drewN | apply below_drew1) | exact HB.out)) hb); clear HO_11; clear HB; have HO_11 := n0_; have HB := n1_; clear n0_ n1_; (try clear hb); (try clear hb2); (try clear hk); (try clear hi)) | ((with_reducible refine gate_callee (f := 14) rfl ?_); refine goesL_ (some 103) rfl rfl Try.func14 (by kernel_rfl) rfl #[.slice A0 l0.length c0, .int .u64 t161] rfl (by (try simp only [List.map_toArray, List.map_cons, List.map_nil]); first | done | rfl | (simp only [List.length_drop, List.length_take]; rfl)) ?_; (with_reducible refine (epochs_At.calls k3 _ _ l0 t161 t162 _ ?side1 ?side2 A55.out).mono ?_); (case side1 => repeat (first | exact (Kd.C_below HR0.out HB.out) | (with_reducible refine Kd.C_alloc ?_ _) | (with_reducible refine Kd.C_drewN ?_ _) | (with_reducible refine Kd.C_drew ?_))); (case side2 => exact HC0.out); rintro e w77 ⟨rfl, hb⟩; refine ⟨_, rfl, ?_⟩; have n0_ := Aside0.mk (Kd.R_below (by (with_reducible repeat (first | apply Kd.R_alloc | apply Kd.R_drewN | apply Kd.R_drew)); exact HO_11.out) hb); have n1_ := Aside0.mk (below_step (by repeat (first | (with_reducible first | exact HB.out | apply below_alloc | apply pw_below_drewN | apply below_drew1) | exact HB.out)) hb); clear HO_11; clear HB; have HO_11 := n0_; have HB := n1_; clear n0_ n1_; (try clear hb); (try clear hb2); (try clear hk); (try clear hi)) | ((with_reducible refine gate_callee (f := 15) rfl ?_); refine goesL_ (some 107) rfl rfl Try.func15 (by kernel_rfl) rfl #[.slice Ao74 x11_3.length co74, .int .u64 x10_3, .int .u32 t162] rfl (by (try simp only [List.map_toArray, List.map_cons, List.map_nil]); first | done | rfl | (simp only [List.length_drop, List.length_take]; rfl)) ?_; (with_reducible refine (epochs_End.calls k3 _ _ x11_3 x10_3 t162 t163 _ ?side1 ?side2 A56.out).mono ?_); (case side1 => repeat (first | exact (Kd.R_reads' HO_11.out).2.2 | (with_reducible refine Kd.C_alloc ?_ _) | (with_reducible refine Kd.C_drewN ?_ _) | (with_reducible refine Kd.C_drew ?_))); (case side2 => exact (Kd.R_reads' HO_11.out).2.1); rintro e w78 ⟨rfl, hb⟩; refine ⟨_, rfl, ?_⟩; have n0_ := Aside0.mk (Kd.R_below (by (with_reducible repeat (first | apply Kd.R_alloc | apply Kd.R_drewN | apply Kd.R_drew)); exact HO_11.out) hb); have n1_ := Aside0.mk (below_step (by repeat (first | (with_reducible first | exact HB.out | apply below_alloc | apply pw_below_drewN | apply below_drew1) | exact HB.out)) hb); clear HO_11; clear HB; have HO_11 := n0_; have HB := n1_; clear n0_ n1_; (try clear hb); (try clear hb2); (try clear hk); (try clear hi)) | ((with_reducible refine gate_callee (f := 22) rfl ?_); refine goesL_ (some 119) rfl rfl Try.func22 (by kernel_rfl) rfl #[.slice Ao74 x11_3.length co74, .int .u64 ji58] rfl (by (try simp only [List.map_toArray, List.map_cons, List.map_nil]); first | done | (simp only [hji58]; rfl) | rfl | (simp only [List.length_drop, List.length_take]; rfl)) ?_; (with_reducible refine (epochs_Cut.calls k3 _ _ x11_3 ji58 t165 _ ?side1 ?side2 A73.out).mono ?_); (case side1 => repeat (first | exact (Kd.R_reads' HO_11.out).2.2 | (with_reducible refine Kd.C_alloc ?_ _) | (with_reducible refine Kd.C_drewN ?_ _) | (with_reducible refine Kd.C_drew ?_))); (case side2 => exact (Kd.R_reads' HO_11.out).2.1); rintro e w79 ⟨v166, rfl, ho0, hb⟩; refine ⟨_, rfl, ?_⟩; have n0_ := Aside0.mk (Kd.R_elder' (by (with_reducible repeat (first | apply Kd.R_alloc | apply Kd.R_drewN | apply Kd.R_drew)); exact HO_11.out) (Kd.R_base ho0) hb); have n1_ := Aside0.mk (Kd.R_lower (Kd.R_new' ho0 (Kd.R_lt (by (with_reducible repeat (first | apply Kd.R_alloc | apply Kd.R_drewN | apply Kd.R_drew)); exact HO_11.out))) (below_size (by repeat (first | (with_reducible first | exact HB.out | apply below_alloc | apply pw_below_drewN | apply below_drew1) | exact HB.out)))); have n2_ := Aside0.mk (below_step (by repeat (first | (with_reducible first | exact HB.out | apply below_alloc | apply pw_below_drewN | apply below_drew1) | exact HB.out)) hb); clear HO_11; clear HB; have HO_11 := n0_; have HO167 := n1_; have HB := n2_; clear n0_ n1_ n2_; (try clear hb); (try clear hb2); (try clear hk); (try clear hi); (try clear ho0)))
                        go_roundg k3
                        case measure => have := HJ4.out; have := HJ16.out; have := HK3.out; omega
                        case rel => exact ⟨(ji58), (t165), (wrap64 (x12_3 + 1)), (by first | rfl | (simp; done) | (simp only [← hji58] <;> (first | rfl | simp)) | (simp [*]; done)), (by first | rfl | (simp; done) | (simp [*]; done)), H', ⟨by have := HJ4.out; have := HJ16.out; have := HK3.out; omega⟩, ⟨by (with_reducible repeat (first | apply Kd.R_alloc | apply Kd.R_drewN | apply Kd.R_drew)); exact Kd.R_mono HO167.out (fun _ hk => trivial)⟩, ⟨by repeat (first | (with_reducible first | exact HB.out | apply below_alloc | apply pw_below_drewN | apply below_drew1) | exact HB.out)⟩⟩
                    · rw [if_neg c52] at H
                      have c52b0 : decide (x12_3 < (wrap64 ((l2.length : Int) + 2))) = false := decide_eq_false c52
                      clear c52
                      by_cases c80 : x10_3 = t155
                      · rw [if_pos c80] at H
                        have c80b0 : (x10_3 == t155) = true := beq_iff_eq.mpr c80
                        have c80b1 : (x10_3 != t155) = false := bne_eq_false_iff_eq.mpr c80
                        clear c80
                        replace H := Option.bind_eq_some_iff.mp H
                        obtain ⟨t159, A810, H⟩ := H
                        replace H : (some t159) = some r := H
                        have A81 := Aside0.mk A810
                        clear A810
                        obtain rfl := Option.some.inj H
                        go_wp2_with (first | (go_at_call 11; (with_reducible refine (drayagelaw06_known.calls k3  t159 _ A81.out).mono ?_); rintro e w82 ⟨rfl, hb⟩; have n0_ := Aside0.mk (Kd.R_below (by (with_reducible repeat (first | apply Kd.R_alloc | apply Kd.R_drewN | apply Kd.R_drew)); exact HO_11.out) hb); have n1_ := Aside0.mk (below_step (by repeat (first | (with_reducible first | exact HB.out | apply below_alloc | apply pw_below_drewN | apply below_drew1) | exact HB.out)) hb); clear HO_11; clear HB; have HO_11 := n0_; have HB := n1_; clear n0_ n1_; (try clear hb); (try clear hb2); (try clear hk); (try clear hi)))
                        go_ret
                        exact ⟨by first | rfl | (simp [errW_none, errW_some] <;> rfl) | (simp [*, errW_none, errW_some] <;> rfl), by repeat (first | (with_reducible first | exact HB.out | apply below_alloc | apply pw_below_drewN | apply below_drew1) | exact HB.out)⟩
                      · rw [if_neg c80] at H
                        have c80b0 : (x10_3 == t155) = false := beq_eq_false_iff_ne.mpr c80
                        have c80b1 : (x10_3 != t155) = true := bne_iff_ne.mpr c80
                        obtain rfl := Option.some.inj H
                        go_wp2
                        go_ret
                        exact ⟨by first | rfl | (simp [errW_none, errW_some] <;> rfl) | (simp [*, errW_none, errW_some] <;> rfl), by repeat (first | (with_reducible first | exact HB.out | apply below_alloc | apply pw_below_drewN | apply below_drew1) | exact HB.out)⟩
              · replace c47 := Bool.eq_false_iff.mpr c47
                subst c47
                have H1 : ((drayagelaw06_known.f kj16).bind fun t154 => (some t154)) = some r := by rw [if_neg (show ¬ (false = true) by decide)] at H; exact H
                clear H
                have H := H1
                clear H1
                replace H := Option.bind_eq_some_iff.mp H
                obtain ⟨t154, A830, H⟩ := H
                replace H : (some t154) = some r := H
                have A83 := Aside0.mk A830
                clear A830
                obtain rfl := Option.some.inj H
                go_wp2_with (first | ((with_reducible refine gate_callee (f := 23) rfl ?_); refine goesL_ (some 75) rfl rfl Try.func23 (by kernel_rfl) rfl #[.slice A0 l0.length c0, .slice A2 l2.length c2] rfl (by (try simp only [List.map_toArray, List.map_cons, List.map_nil]); first | done | rfl | (simp only [List.length_drop, List.length_take]; rfl)) ?_; (with_reducible refine (drayagelaw06_shared.calls kj16 _ _ l0 _ _ l2 false _ ?side1 ?side2 ?side3 ?side4 A46.out).mono ?_); (case side1 => repeat (first | exact (Kd.C_below HR0.out HB.out) | (with_reducible refine Kd.C_alloc ?_ _) | (with_reducible refine Kd.C_drewN ?_ _) | (with_reducible refine Kd.C_drew ?_))); (case side2 => exact HC0.out); (case side3 => repeat (first | exact (Kd.C_below HR2.out HB.out) | (with_reducible refine Kd.C_alloc ?_ _) | (with_reducible refine Kd.C_drewN ?_ _) | (with_reducible refine Kd.C_drew ?_))); (case side4 => exact HC2.out); rintro e w' ⟨rfl, ⟨nd, rfl⟩⟩; refine ⟨_, rfl, ?_⟩) | ((with_reducible refine gate_callee (f := 11) rfl ?_); refine goesL_ (some 77) rfl rfl Try.func11 (by kernel_rfl) rfl #[] rfl (by (try simp only [List.map_toArray, List.map_cons, List.map_nil]); first | done | rfl | (simp only [List.length_drop, List.length_take]; rfl)) ?_; (with_reducible refine (drayagelaw06_known.calls kj16  t154 _ A83.out).mono ?_); rintro e w84 ⟨rfl, hb⟩; refine ⟨_, rfl, ?_⟩; have n0_ := Aside0.mk (below_step (by repeat (first | (with_reducible first | exact HB.out | apply below_alloc | apply pw_below_drewN | apply below_drew1) | exact HB.out)) hb); clear HB; have HB := n0_; clear n0_; (try clear hb); (try clear hb2); (try clear hk); (try clear hi)))
                go_ret
                exact ⟨by first | rfl | (simp [errW_none, errW_some] <;> rfl) | (simp [*, errW_none, errW_some] <;> rfl), by repeat (first | (with_reducible first | exact HB.out | apply below_alloc | apply pw_below_drewN | apply below_drew1) | exact HB.out)⟩

end Go.Proofs.Ytdbebophchggfaa.Ep
