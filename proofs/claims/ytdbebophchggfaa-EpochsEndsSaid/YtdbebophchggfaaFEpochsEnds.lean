/- The function drayagelaw06.EpochsEnds: it comes to the answers of its Lean function. No condition. Put together by a program of mine out of what the print writes for this law. -/
import Derived.Test.YtdbebophchggfaaE4
namespace Go.Proofs.Ytdbebophchggfaa.Ep
open Go.RowKit Go.Proofs.YtdbebophchggfaaW.PrintWords Go.Proofs.YtdbebophchggfaaW.PrintLast Go.Proofs.YtdbebophchggfaaW.PrintMore
attribute [local go_sem] max2_int min2_int max_two min_two max_three min_three max_four min_four
set_option linter.unusedVariables false
set_option linter.unusedSimpArgs false


/-! ### drayagelaw06_EpochsEnds -/
mutual
def drayagelaw06_EpochsEnds.j0 : Nat → List (S37) → Int → Int → Bool → Option (Bool)
  | 0, _, _, _, _ => none
  | k + 1, x0, x1, x2, x15 => if x15 = true then ((drayagelaw06_known.f k).bind fun t131 => (some t131)) else ((epochs_End.f k x0 x1 x2).bind fun t132 => (if t132 > x1 then (some false) else (if t132 > 0 then ((epochs_At.f k x0 t132).bind fun t133 => (if t133 = 0 then (some false) else (if t133 > x2 then (some false) else (drayagelaw06_EpochsEnds.j1 k x0 x1 x2 t132)))) else (drayagelaw06_EpochsEnds.j1 k x0 x1 x2 t132))))
def drayagelaw06_EpochsEnds.j1 : Nat → List (S37) → Int → Int → Int → Option (Bool)
  | 0, _, _, _, _ => none
  | k + 1, x0, x1, x2, x7 => if x7 < x1 then (if x7 > 0 then ((epochs_At.f k x0 (IntKind.u64.wrap (x7 + 1))).bind fun t134 => (drayagelaw06_EpochsEnds.j2 k x0 x1 x2 x7 (decide (t134 ≤ x2)))) else (drayagelaw06_EpochsEnds.j2 k x0 x1 x2 x7 false)) else (drayagelaw06_EpochsEnds.j2 k x0 x1 x2 x7 false)
def drayagelaw06_EpochsEnds.j2 : Nat → List (S37) → Int → Int → Int → Bool → Option (Bool)
  | 0, _, _, _, _, _ => none
  | k + 1, x0, x1, x2, x7, x50 => if x50 = true then (some false) else (if x7 = 0 then (if (x0.length : Int) > 0 then (if 0 < (x0.length : Int) then (if ((rd_T37 x0 0).f1) ≤ x1 then (if ((rd_T37 x0 0).f0) ≤ x2 then (some false) else ((drayagelaw06_known.f k).bind fun t137 => (some t137))) else ((drayagelaw06_known.f k).bind fun t138 => (some t138))) else (none)) else ((drayagelaw06_known.f k).bind fun t139 => (some t139))) else ((drayagelaw06_known.f k).bind fun t140 => (some t140)))
end
def drayagelaw06_EpochsEnds.f (k : Nat) (l0 : List (S37)) (a1 : Int) (a2 : Int) : Option (Bool) := (drayagelaw06_many.f l0 ([] : List (S37))).bind fun t129 => (if t129 = true then (drayagelaw06_EpochsEnds.j0 k l0 a1 a2 true) else ((epochs_Check.f k l0).bind fun t130 => (drayagelaw06_EpochsEnds.j0 k l0 a1 a2 (t130 != 0))))
theorem drayagelaw06_EpochsEnds.mono_l : ∀ k, (∀ y0 y1 y2 y3, LeO (drayagelaw06_EpochsEnds.j0 k y0 y1 y2 y3) (drayagelaw06_EpochsEnds.j0 (k + 1) y0 y1 y2 y3)) ∧ (∀ y0 y1 y2 y3, LeO (drayagelaw06_EpochsEnds.j1 k y0 y1 y2 y3) (drayagelaw06_EpochsEnds.j1 (k + 1) y0 y1 y2 y3)) ∧ (∀ y0 y1 y2 y3 y4, LeO (drayagelaw06_EpochsEnds.j2 k y0 y1 y2 y3 y4) (drayagelaw06_EpochsEnds.j2 (k + 1) y0 y1 y2 y3 y4))
  | 0 => ⟨fun _ _ _ _ r h => by simp [drayagelaw06_EpochsEnds.j0] at h, fun _ _ _ _ r h => by simp [drayagelaw06_EpochsEnds.j1] at h, fun _ _ _ _ _ r h => by simp [drayagelaw06_EpochsEnds.j2] at h⟩
  | k + 1 => by
    obtain ⟨ih0, ih1, ih2⟩ := drayagelaw06_EpochsEnds.mono_l k
    refine ⟨?_, ?_, ?_⟩
    · intro y0 y1 y2 y3
      unfold drayagelaw06_EpochsEnds.j0
      repeat' first
      | (with_reducible exact ih0 _ _ _ _)
      | (with_reducible exact ih1 _ _ _ _)
      | (with_reducible exact ih2 _ _ _ _ _)
      | (with_reducible exact drayagelaw06_known.mono _)
      | (with_reducible exact epochs_At.mono _ _ _)
      | (with_reducible exact epochs_Check.mono _ _)
      | (with_reducible exact epochs_End.mono _ _ _ _)
      | (with_reducible exact LeO.refl _)
      | (with_reducible exact LeO.none _)
      | (with_reducible refine LeO.ite ?_ ?_)
      | (with_reducible refine LeO.bind ?_ (fun _ => ?_))
      | exact ih0 _ _ _ _
      | exact ih1 _ _ _ _
      | exact ih2 _ _ _ _ _
      | exact drayagelaw06_known.mono _
      | exact epochs_At.mono _ _ _
      | exact epochs_Check.mono _ _
      | exact epochs_End.mono _ _ _ _
      | exact LeO.none _
      | refine LeO.ite ?_ ?_
      | refine LeO.bind ?_ (fun _ => ?_)
    · intro y0 y1 y2 y3
      unfold drayagelaw06_EpochsEnds.j1
      repeat' first
      | (with_reducible exact ih0 _ _ _ _)
      | (with_reducible exact ih1 _ _ _ _)
      | (with_reducible exact ih2 _ _ _ _ _)
      | (with_reducible exact drayagelaw06_known.mono _)
      | (with_reducible exact epochs_At.mono _ _ _)
      | (with_reducible exact epochs_Check.mono _ _)
      | (with_reducible exact epochs_End.mono _ _ _ _)
      | (with_reducible exact LeO.refl _)
      | (with_reducible exact LeO.none _)
      | (with_reducible refine LeO.ite ?_ ?_)
      | (with_reducible refine LeO.bind ?_ (fun _ => ?_))
      | exact ih0 _ _ _ _
      | exact ih1 _ _ _ _
      | exact ih2 _ _ _ _ _
      | exact drayagelaw06_known.mono _
      | exact epochs_At.mono _ _ _
      | exact epochs_Check.mono _ _
      | exact epochs_End.mono _ _ _ _
      | exact LeO.none _
      | refine LeO.ite ?_ ?_
      | refine LeO.bind ?_ (fun _ => ?_)
    · intro y0 y1 y2 y3 y4
      unfold drayagelaw06_EpochsEnds.j2
      repeat' first
      | (with_reducible exact ih0 _ _ _ _)
      | (with_reducible exact ih1 _ _ _ _)
      | (with_reducible exact ih2 _ _ _ _ _)
      | (with_reducible exact drayagelaw06_known.mono _)
      | (with_reducible exact epochs_At.mono _ _ _)
      | (with_reducible exact epochs_Check.mono _ _)
      | (with_reducible exact epochs_End.mono _ _ _ _)
      | (with_reducible exact LeO.refl _)
      | (with_reducible exact LeO.none _)
      | (with_reducible refine LeO.ite ?_ ?_)
      | (with_reducible refine LeO.bind ?_ (fun _ => ?_))
      | exact ih0 _ _ _ _
      | exact ih1 _ _ _ _
      | exact ih2 _ _ _ _ _
      | exact drayagelaw06_known.mono _
      | exact epochs_At.mono _ _ _
      | exact epochs_Check.mono _ _
      | exact epochs_End.mono _ _ _ _
      | exact LeO.none _
      | refine LeO.ite ?_ ?_
      | refine LeO.bind ?_ (fun _ => ?_)
theorem drayagelaw06_EpochsEnds.mono : ∀ a0 a1 a2 k, LeO (drayagelaw06_EpochsEnds.f k a0 a1 a2) (drayagelaw06_EpochsEnds.f (k + 1) a0 a1 a2) := by
  intro a0 a1 a2 k
  obtain ⟨ih0, ih1, ih2⟩ := drayagelaw06_EpochsEnds.mono_l k
  unfold drayagelaw06_EpochsEnds.f
  repeat' first
      | (with_reducible exact ih0 _ _ _ _)
      | (with_reducible exact ih1 _ _ _ _)
      | (with_reducible exact ih2 _ _ _ _ _)
      | (with_reducible exact drayagelaw06_known.mono _)
      | (with_reducible exact epochs_At.mono _ _ _)
      | (with_reducible exact epochs_Check.mono _ _)
      | (with_reducible exact epochs_End.mono _ _ _ _)
      | (with_reducible exact LeO.refl _)
      | (with_reducible exact LeO.none _)
      | (with_reducible refine LeO.ite ?_ ?_)
      | (with_reducible refine LeO.bind ?_ (fun _ => ?_))
      | exact ih0 _ _ _ _
      | exact ih1 _ _ _ _
      | exact ih2 _ _ _ _ _
      | exact drayagelaw06_known.mono _
      | exact epochs_At.mono _ _ _
      | exact epochs_Check.mono _ _
      | exact epochs_End.mono _ _ _ _
      | exact LeO.none _
      | refine LeO.ite ?_ ?_
      | refine LeO.bind ?_ (fun _ => ?_)
set_option maxHeartbeats 8000000 in
set_option maxRecDepth 100000 in
theorem drayagelaw06_EpochsEnds.calls (k : Nat) (A0 : Option Addr) (c0 : Nat) (l0 : List (S37)) (a1 : Int) (a2 : Int) (r : Bool) (w : World) (hr0 : Kd.C k37 w A0 l0.length l0) (hc0 : l0.length ≤ c0) (h : drayagelaw06_EpochsEnds.f k l0 a1 a2 = some r) :
    Calls Try.prog 5 #[.slice A0 l0.length c0, .int .u64 a1, .int .u32 a2] w fun e w' => e = .returned (.bool r) ∧ Below w.heap.size w w' := by
  have HR0 := Aside0.mk hr0
  have HC0 := Aside0.mk hc0
  clear hr0 hc0
  have HB := Aside0.mk (Below.refl w.heap.size w)
  have H : ((drayagelaw06_many.f l0 ([] : List (S37))).bind fun t129 => (if t129 = true then (drayagelaw06_EpochsEnds.j0 k l0 a1 a2 true) else ((epochs_Check.f k l0).bind fun t130 => (drayagelaw06_EpochsEnds.j0 k l0 a1 a2 (t130 != 0))))) = some r := h
  clear h
  have HC4 := Aside0.mk H
  clear H
  go_enter Try.func5, Try.ntmps5
  go_upto_region 1 with (fail)
  go_cut [15] (fun v15 wc => ∃ (kq : Nat) (x15_3 : Bool), v15 = .bool x15_3 ∧ Aside0 (drayagelaw06_EpochsEnds.j0 kq l0 a1 a2 x15_3 = some r) ∧ Aside0 (kq ≤ k) ∧ Aside0 (Below w.heap.size w wc))
  case first =>
    have H := HC4.out
    clear HC4
    replace H := Option.bind_eq_some_iff.mp H
    obtain ⟨t129, A50, H⟩ := H
    replace H : (if t129 = true then (drayagelaw06_EpochsEnds.j0 k l0 a1 a2 true) else ((epochs_Check.f k l0).bind fun t130 => (drayagelaw06_EpochsEnds.j0 k l0 a1 a2 (t130 != 0)))) = some r := H
    have A5 := Aside0.mk A50
    clear A50
    by_cases c6 : t129 = true
    · subst c6
      have H1 : (drayagelaw06_EpochsEnds.j0 k l0 a1 a2 true) = some r := by rw [if_pos rfl] at H; exact H
      clear H
      have H := H1
      clear H1
      have H' := Aside0.mk H
      clear H
      go_wp2_with (first | ((with_reducible refine gate_callee (f := 10) rfl ?_); refine goesL_ (some 10) rfl rfl Try.func10 (by kernel_rfl) rfl #[.slice A0 l0.length c0, .slice none 0 0] rfl (by (try simp only [List.map_toArray, List.map_cons, List.map_nil]); first | done | rfl | (simp only [List.length_drop, List.length_take]; rfl)) ?_; (refine (drayagelaw06_many.calls _ _ l0 _ _ ([] : List (S37)) true _ ?side1 ?side2 ?side3 ?side4 A5.out).mono ?_); (case side1 => repeat (first | exact (Kd.C_below HR0.out HB.out) | (with_reducible refine Kd.C_alloc ?_ _) | (with_reducible refine Kd.C_drewN ?_ _) | (with_reducible refine Kd.C_drew ?_))); (case side2 => exact HC0.out); (case side3 => exact Kd.C_nil _ _); (case side4 => exact Nat.le_refl _); rintro e w' ⟨rfl, ⟨nd, rfl⟩⟩; refine ⟨_, rfl, ?_⟩))
      go_meet
      case rel => exact ⟨_, (true), (by first | rfl | (simp; done) | (simp [*]; done)), H', ⟨by first | omega | exact Nat.le_refl _⟩, ⟨by repeat (first | (with_reducible first | exact HB.out | apply below_alloc | apply pw_below_drewN | apply below_drew1) | exact HB.out)⟩⟩
    · replace c6 := Bool.eq_false_iff.mpr c6
      subst c6
      have H1 : ((epochs_Check.f k l0).bind fun t130 => (drayagelaw06_EpochsEnds.j0 k l0 a1 a2 (t130 != 0))) = some r := by rw [if_neg (show ¬ (false = true) by decide)] at H; exact H
      clear H
      have H := H1
      clear H1
      replace H := Option.bind_eq_some_iff.mp H
      obtain ⟨t130, A70, H⟩ := H
      replace H : (drayagelaw06_EpochsEnds.j0 k l0 a1 a2 (t130 != 0)) = some r := H
      have A7 := Aside0.mk A70
      clear A70
      have H' := Aside0.mk H
      clear H
      go_wp2_with (first | ((with_reducible refine gate_callee (f := 10) rfl ?_); refine goesL_ (some 10) rfl rfl Try.func10 (by kernel_rfl) rfl #[.slice A0 l0.length c0, .slice none 0 0] rfl (by (try simp only [List.map_toArray, List.map_cons, List.map_nil]); first | done | rfl | (simp only [List.length_drop, List.length_take]; rfl)) ?_; (refine (drayagelaw06_many.calls _ _ l0 _ _ ([] : List (S37)) false _ ?side1 ?side2 ?side3 ?side4 A5.out).mono ?_); (case side1 => repeat (first | exact (Kd.C_below HR0.out HB.out) | (with_reducible refine Kd.C_alloc ?_ _) | (with_reducible refine Kd.C_drewN ?_ _) | (with_reducible refine Kd.C_drew ?_))); (case side2 => exact HC0.out); (case side3 => exact Kd.C_nil _ _); (case side4 => exact Nat.le_refl _); rintro e w' ⟨rfl, ⟨nd, rfl⟩⟩; refine ⟨_, rfl, ?_⟩) | (go_at_call 13; (with_reducible refine (epochs_Check.calls k _ _ l0 t130 _ ?side1 ?side2 A7.out).mono ?_); (case side1 => repeat (first | exact (Kd.C_below HR0.out (by repeat (first | (with_reducible first | exact HB.out | apply below_alloc | apply pw_below_drewN | apply below_drew1) | exact HB.out))) | (with_reducible refine Kd.C_alloc ?_ _) | (with_reducible refine Kd.C_drewN ?_ _) | (with_reducible refine Kd.C_drew ?_))); (case side2 => exact HC0.out); rintro e w8 ⟨rfl, hb⟩; have n0_ := Aside0.mk (below_step (by repeat (first | (with_reducible first | exact HB.out | apply below_alloc | apply pw_below_drewN | apply below_drew1) | exact HB.out)) hb); clear HB; have HB := n0_; clear n0_; (try clear hb); (try clear hb2); (try clear hk); (try clear hi)))
      go_meet
      case rel => exact ⟨_, ((t130 != 0)), (by first | rfl | (simp; done) | (simp [*]; done)), H', ⟨by first | omega | exact Nat.le_refl _⟩, ⟨by repeat (first | (with_reducible first | exact HB.out | apply below_alloc | apply pw_below_drewN | apply below_drew1) | exact HB.out)⟩⟩
  case rest =>
    clear HC4
    try clear c1
    try clear p2
    try clear c5
    try clear c6
    obtain ⟨kq, x15_3, rfl, HA, HJ3, HB⟩ := hcut
    cases kq with
    | zero => exact absurd HA.out (by simp [drayagelaw06_EpochsEnds.j0])
    | succ kj3 =>
      have H := HA.out
      clear HA
      simp only [drayagelaw06_EpochsEnds.j0] at H
      by_cases c9 : x15_3 = true
      · subst c9
        have H1 : ((drayagelaw06_known.f kj3).bind fun t131 => (some t131)) = some r := by rw [if_pos rfl] at H; exact H
        clear H
        have H := H1
        clear H1
        replace H := Option.bind_eq_some_iff.mp H
        obtain ⟨t131, A100, H⟩ := H
        replace H : (some t131) = some r := H
        have A10 := Aside0.mk A100
        clear A100
        obtain rfl := Option.some.inj H
        go_wp2_with (first | ((with_reducible refine gate_callee (f := 11) rfl ?_); refine goesL_ (some 16) rfl rfl Try.func11 (by kernel_rfl) rfl #[] rfl (by (try simp only [List.map_toArray, List.map_cons, List.map_nil]); first | done | rfl | (simp only [List.length_drop, List.length_take]; rfl)) ?_; (with_reducible refine (drayagelaw06_known.calls kj3  t131 _ A10.out).mono ?_); rintro e w11 ⟨rfl, hb⟩; refine ⟨_, rfl, ?_⟩; have n0_ := Aside0.mk (below_step (by repeat (first | (with_reducible first | exact HB.out | apply below_alloc | apply pw_below_drewN | apply below_drew1) | exact HB.out)) hb); clear HB; have HB := n0_; clear n0_; (try clear hb); (try clear hb2); (try clear hk); (try clear hi)))
        go_ret
        exact ⟨by first | rfl | (simp [errW_none, errW_some] <;> rfl) | (simp [*, errW_none, errW_some] <;> rfl), by repeat (first | (with_reducible first | exact HB.out | apply below_alloc | apply pw_below_drewN | apply below_drew1) | exact HB.out)⟩
      · replace c9 := Bool.eq_false_iff.mpr c9
        subst c9
        have H1 : ((epochs_End.f kj3 l0 a1 a2).bind fun t132 => (if t132 > a1 then (some false) else (if t132 > 0 then ((epochs_At.f kj3 l0 t132).bind fun t133 => (if t133 = 0 then (some false) else (if t133 > a2 then (some false) else (drayagelaw06_EpochsEnds.j1 kj3 l0 a1 a2 t132)))) else (drayagelaw06_EpochsEnds.j1 kj3 l0 a1 a2 t132)))) = some r := by rw [if_neg (show ¬ (false = true) by decide)] at H; exact H
        clear H
        have H := H1
        clear H1
        replace H := Option.bind_eq_some_iff.mp H
        obtain ⟨t132, A120, H⟩ := H
        replace H : (if t132 > a1 then (some false) else (if t132 > 0 then ((epochs_At.f kj3 l0 t132).bind fun t133 => (if t133 = 0 then (some false) else (if t133 > a2 then (some false) else (drayagelaw06_EpochsEnds.j1 kj3 l0 a1 a2 t132)))) else (drayagelaw06_EpochsEnds.j1 kj3 l0 a1 a2 t132))) = some r := H
        have A12 := Aside0.mk A120
        clear A120
        by_cases c13 : t132 > a1
        · rw [if_pos c13] at H
          have c13b0 : decide (a1 < t132) = true := decide_eq_true c13
          clear c13
          obtain rfl := Option.some.inj H
          go_wp2_with (first | ((with_reducible refine gate_callee (f := 15) rfl ?_); refine goesL_ (some 20) rfl rfl Try.func15 (by kernel_rfl) rfl #[.slice A0 l0.length c0, .int .u64 a1, .int .u32 a2] rfl (by (try simp only [List.map_toArray, List.map_cons, List.map_nil]); first | done | rfl | (simp only [List.length_drop, List.length_take]; rfl)) ?_; (with_reducible refine (epochs_End.calls kj3 _ _ l0 a1 a2 t132 _ ?side1 ?side2 A12.out).mono ?_); (case side1 => repeat (first | exact (Kd.C_below HR0.out HB.out) | (with_reducible refine Kd.C_alloc ?_ _) | (with_reducible refine Kd.C_drewN ?_ _) | (with_reducible refine Kd.C_drew ?_))); (case side2 => exact HC0.out); rintro e w14 ⟨rfl, hb⟩; refine ⟨_, rfl, ?_⟩; have n0_ := Aside0.mk (below_step (by repeat (first | (with_reducible first | exact HB.out | apply below_alloc | apply pw_below_drewN | apply below_drew1) | exact HB.out)) hb); clear HB; have HB := n0_; clear n0_; (try clear hb); (try clear hb2); (try clear hk); (try clear hi)))
          go_ret
          exact ⟨by first | rfl | (simp [errW_none, errW_some] <;> rfl) | (simp [*, errW_none, errW_some] <;> rfl), by repeat (first | (with_reducible first | exact HB.out | apply below_alloc | apply pw_below_drewN | apply below_drew1) | exact HB.out)⟩
        · rw [if_neg c13] at H
          have c13b0 : decide (a1 < t132) = false := decide_eq_false c13
          clear c13
          have HC15 := Aside0.mk H
          clear H
          go_upto_if 25 with (first | ((with_reducible refine gate_callee (f := 15) rfl ?_); refine goesL_ (some 20) rfl rfl Try.func15 (by kernel_rfl) rfl #[.slice A0 l0.length c0, .int .u64 a1, .int .u32 a2] rfl (by (try simp only [List.map_toArray, List.map_cons, List.map_nil]); first | done | rfl | (simp only [List.length_drop, List.length_take]; rfl)) ?_; (with_reducible refine (epochs_End.calls kj3 _ _ l0 a1 a2 t132 _ ?side1 ?side2 A12.out).mono ?_); (case side1 => repeat (first | exact (Kd.C_below HR0.out HB.out) | (with_reducible refine Kd.C_alloc ?_ _) | (with_reducible refine Kd.C_drewN ?_ _) | (with_reducible refine Kd.C_drew ?_))); (case side2 => exact HC0.out); rintro e w16 ⟨rfl, hb⟩; refine ⟨_, rfl, ?_⟩; have n0_ := Aside0.mk (below_step (by repeat (first | (with_reducible first | exact HB.out | apply below_alloc | apply pw_below_drewN | apply below_drew1) | exact HB.out)) hb); clear HB; have HB := n0_; clear n0_; (try clear hb); (try clear hb2); (try clear hk); (try clear hi)))
          (try simp only [Act.put, List.setIfInBounds_toArray, List.set_cons_zero, List.set_cons_succ])
          go_cut [] (fun wc => ∃ (kq : Nat), Aside0 (drayagelaw06_EpochsEnds.j1 kq l0 a1 a2 t132 = some r) ∧ Aside0 (kq ≤ kj3) ∧ Aside0 (Below w.heap.size w wc))
          case first =>
            have H := HC15.out
            clear HC15
            by_cases c17 : t132 > 0
            · rw [if_pos c17] at H
              have c17b0 : decide (0 < t132) = true := decide_eq_true c17
              clear c17
              (first | rw [c17b0] | (simp only [i64_w, i32_w]; rw [c17b0]) | skip)
              replace H := Option.bind_eq_some_iff.mp H
              obtain ⟨t133, A180, H⟩ := H
              replace H : (if t133 = 0 then (some false) else (if t133 > a2 then (some false) else (drayagelaw06_EpochsEnds.j1 kj3 l0 a1 a2 t132))) = some r := H
              have A18 := Aside0.mk A180
              clear A180
              by_cases c19 : t133 = 0
              · rw [if_pos c19] at H
                have c19b0 : (t133 == 0) = true := beq_iff_eq.mpr c19
                have c19b1 : (t133 != 0) = false := bne_eq_false_iff_eq.mpr c19
                clear c19
                obtain rfl := Option.some.inj H
                go_wp2_with (first | ((with_reducible refine gate_callee (f := 14) rfl ?_); refine goesL_ (some 28) rfl rfl Try.func14 (by kernel_rfl) rfl #[.slice A0 l0.length c0, .int .u64 t132] rfl (by (try simp only [List.map_toArray, List.map_cons, List.map_nil]); first | done | rfl | (simp only [List.length_drop, List.length_take]; rfl)) ?_; (with_reducible refine (epochs_At.calls kj3 _ _ l0 t132 t133 _ ?side1 ?side2 A18.out).mono ?_); (case side1 => repeat (first | exact (Kd.C_below HR0.out HB.out) | (with_reducible refine Kd.C_alloc ?_ _) | (with_reducible refine Kd.C_drewN ?_ _) | (with_reducible refine Kd.C_drew ?_))); (case side2 => exact HC0.out); rintro e w20 ⟨rfl, hb⟩; refine ⟨_, rfl, ?_⟩; have n0_ := Aside0.mk (below_step (by repeat (first | (with_reducible first | exact HB.out | apply below_alloc | apply pw_below_drewN | apply below_drew1) | exact HB.out)) hb); clear HB; have HB := n0_; clear n0_; (try clear hb); (try clear hb2); (try clear hk); (try clear hi)))
                go_ret
                exact ⟨by first | rfl | (simp [errW_none, errW_some] <;> rfl) | (simp [*, errW_none, errW_some] <;> rfl), by repeat (first | (with_reducible first | exact HB.out | apply below_alloc | apply pw_below_drewN | apply below_drew1) | exact HB.out)⟩
              · rw [if_neg c19] at H
                have c19b0 : (t133 == 0) = false := beq_eq_false_iff_ne.mpr c19
                have c19b1 : (t133 != 0) = true := bne_iff_ne.mpr c19
                by_cases c21 : t133 > a2
                · rw [if_pos c21] at H
                  have c21b0 : decide (a2 < t133) = true := decide_eq_true c21
                  clear c21
                  obtain rfl := Option.some.inj H
                  go_wp2_with (first | ((with_reducible refine gate_callee (f := 14) rfl ?_); refine goesL_ (some 28) rfl rfl Try.func14 (by kernel_rfl) rfl #[.slice A0 l0.length c0, .int .u64 t132] rfl (by (try simp only [List.map_toArray, List.map_cons, List.map_nil]); first | done | rfl | (simp only [List.length_drop, List.length_take]; rfl)) ?_; (with_reducible refine (epochs_At.calls kj3 _ _ l0 t132 t133 _ ?side1 ?side2 A18.out).mono ?_); (case side1 => repeat (first | exact (Kd.C_below HR0.out HB.out) | (with_reducible refine Kd.C_alloc ?_ _) | (with_reducible refine Kd.C_drewN ?_ _) | (with_reducible refine Kd.C_drew ?_))); (case side2 => exact HC0.out); rintro e w22 ⟨rfl, hb⟩; refine ⟨_, rfl, ?_⟩; have n0_ := Aside0.mk (below_step (by repeat (first | (with_reducible first | exact HB.out | apply below_alloc | apply pw_below_drewN | apply below_drew1) | exact HB.out)) hb); clear HB; have HB := n0_; clear n0_; (try clear hb); (try clear hb2); (try clear hk); (try clear hi)))
                  go_ret
                  exact ⟨by first | rfl | (simp [errW_none, errW_some] <;> rfl) | (simp [*, errW_none, errW_some] <;> rfl), by repeat (first | (with_reducible first | exact HB.out | apply below_alloc | apply pw_below_drewN | apply below_drew1) | exact HB.out)⟩
                · rw [if_neg c21] at H
                  have c21b0 : decide (a2 < t133) = false := decide_eq_false c21
                  clear c21
                  have H' := Aside0.mk H
                  clear H
                  go_wp2_with (first | ((with_reducible refine gate_callee (f := 14) rfl ?_); refine goesL_ (some 28) rfl rfl Try.func14 (by kernel_rfl) rfl #[.slice A0 l0.length c0, .int .u64 t132] rfl (by (try simp only [List.map_toArray, List.map_cons, List.map_nil]); first | done | rfl | (simp only [List.length_drop, List.length_take]; rfl)) ?_; (with_reducible refine (epochs_At.calls kj3 _ _ l0 t132 t133 _ ?side1 ?side2 A18.out).mono ?_); (case side1 => repeat (first | exact (Kd.C_below HR0.out HB.out) | (with_reducible refine Kd.C_alloc ?_ _) | (with_reducible refine Kd.C_drewN ?_ _) | (with_reducible refine Kd.C_drew ?_))); (case side2 => exact HC0.out); rintro e w23 ⟨rfl, hb⟩; refine ⟨_, rfl, ?_⟩; have n0_ := Aside0.mk (below_step (by repeat (first | (with_reducible first | exact HB.out | apply below_alloc | apply pw_below_drewN | apply below_drew1) | exact HB.out)) hb); clear HB; have HB := n0_; clear n0_; (try clear hb); (try clear hb2); (try clear hk); (try clear hi)))
                  go_meet
                  case rel => exact ⟨_, H', ⟨by have := HJ3.out; first | omega | exact Nat.le_refl _⟩, ⟨by repeat (first | (with_reducible first | exact HB.out | apply below_alloc | apply pw_below_drewN | apply below_drew1) | exact HB.out)⟩⟩
            · rw [if_neg c17] at H
              have c17b0 : decide (0 < t132) = false := decide_eq_false c17
              clear c17
              (first | rw [c17b0] | (simp only [i64_w, i32_w]; rw [c17b0]) | skip)
              have H' := Aside0.mk H
              clear H
              go_wp2
              go_meet
              case rel => exact ⟨_, H', ⟨by have := HJ3.out; first | omega | exact Nat.le_refl _⟩, ⟨by repeat (first | (with_reducible first | exact HB.out | apply below_alloc | apply pw_below_drewN | apply below_drew1) | exact HB.out)⟩⟩
          case rest =>
            clear HC15
            try clear c1
            try clear c2
            try clear p2
            try clear c5
            try clear c6
            try clear c9
            try clear c10
            try clear c11
            try clear c13
            try clear c13b0
            try clear c14
            try clear c15
            try clear c17
            try clear c17b0
            try clear c19
            try clear c19b0
            try clear c19b1
            try clear c21
            try clear c21b0
            try clear p2
            obtain ⟨kq, HA, HJ14, HB⟩ := hcut
            cases kq with
            | zero => exact absurd HA.out (by simp [drayagelaw06_EpochsEnds.j1])
            | succ kj14 =>
              have H := HA.out
              clear HA
              simp only [drayagelaw06_EpochsEnds.j1] at H
              have HC24 := Aside0.mk H
              clear H
              go_upto_region 10 with (fail)
              go_cut [50] (fun v50 wc => ∃ (kq : Nat) (x50_23 : Bool), v50 = .bool x50_23 ∧ Aside0 (drayagelaw06_EpochsEnds.j2 kq l0 a1 a2 t132 x50_23 = some r) ∧ Aside0 (kq ≤ kj14) ∧ Aside0 (Below w.heap.size w wc))
              case first =>
                have H := HC24.out
                clear HC24
                by_cases c25 : t132 < a1
                · rw [if_pos c25] at H
                  have c25b0 : decide (t132 < a1) = true := decide_eq_true c25
                  clear c25
                  (first | rw [c25b0] | (simp only [i64_w, i32_w]; rw [c25b0]) | skip)
                  by_cases c26 : t132 > 0
                  · rw [if_pos c26] at H
                    have c26b0 : decide (0 < t132) = true := decide_eq_true c26
                    clear c26
                    replace H := Option.bind_eq_some_iff.mp H
                    obtain ⟨t134, A270, H⟩ := H
                    replace H : (drayagelaw06_EpochsEnds.j2 kj14 l0 a1 a2 t132 (decide (t134 ≤ a2))) = some r := H
                    have A27 := Aside0.mk A270
                    clear A270
                    have H' := Aside0.mk H
                    clear H
                    go_wp2_with (first | (go_at_call 14; (with_reducible refine (epochs_At.calls kj14 _ _ l0 (IntKind.u64.wrap (t132 + 1)) t134 _ ?side1 ?side2 A27.out).mono ?_); (case side1 => repeat (first | exact (Kd.C_below HR0.out HB.out) | (with_reducible refine Kd.C_alloc ?_ _) | (with_reducible refine Kd.C_drewN ?_ _) | (with_reducible refine Kd.C_drew ?_))); (case side2 => exact HC0.out); rintro e w28 ⟨rfl, hb⟩; have n0_ := Aside0.mk (below_step (by repeat (first | (with_reducible first | exact HB.out | apply below_alloc | apply pw_below_drewN | apply below_drew1) | exact HB.out)) hb); clear HB; have HB := n0_; clear n0_; (try clear hb); (try clear hb2); (try clear hk); (try clear hi)))
                    go_meet
                    case rel => exact ⟨_, (decide (t134 ≤ a2)), (by first | rfl | (simp; done) | (simp [*]; done)), H', ⟨by have := HJ3.out; have := HJ14.out; first | omega | exact Nat.le_refl _⟩, ⟨by repeat (first | (with_reducible first | exact HB.out | apply below_alloc | apply pw_below_drewN | apply below_drew1) | exact HB.out)⟩⟩
                  · rw [if_neg c26] at H
                    have c26b0 : decide (0 < t132) = false := decide_eq_false c26
                    clear c26
                    have H' := Aside0.mk H
                    clear H
                    go_wp2
                    go_meet
                    case rel => exact ⟨_, (false), (by first | rfl | (simp; done) | (simp [*]; done)), H', ⟨by have := HJ3.out; have := HJ14.out; first | omega | exact Nat.le_refl _⟩, ⟨by repeat (first | (with_reducible first | exact HB.out | apply below_alloc | apply pw_below_drewN | apply below_drew1) | exact HB.out)⟩⟩
                · rw [if_neg c25] at H
                  have c25b0 : decide (t132 < a1) = false := decide_eq_false c25
                  clear c25
                  (first | rw [c25b0] | (simp only [i64_w, i32_w]; rw [c25b0]) | skip)
                  have H' := Aside0.mk H
                  clear H
                  go_wp2
                  go_meet
                  case rel => exact ⟨_, (false), (by first | rfl | (simp; done) | (simp [*]; done)), H', ⟨by have := HJ3.out; have := HJ14.out; first | omega | exact Nat.le_refl _⟩, ⟨by repeat (first | (with_reducible first | exact HB.out | apply below_alloc | apply pw_below_drewN | apply below_drew1) | exact HB.out)⟩⟩
              case rest =>
                clear HC24
                try clear c1
                try clear c2
                try clear p2
                try clear c5
                try clear c6
                try clear c9
                try clear c10
                try clear c11
                try clear c13
                try clear c13b0
                try clear c14
                try clear c15
                try clear c17
                try clear c17b0
                try clear c19
                try clear c19b0
                try clear c19b1
                try clear c21
                try clear c21b0
                try clear c25
                try clear c25b0
                try clear c26
                try clear c26b0
                try clear p2
                obtain ⟨kq, x50_23, rfl, HA, HJ23, HB⟩ := hcut
                cases kq with
                | zero => exact absurd HA.out (by simp [drayagelaw06_EpochsEnds.j2])
                | succ kj23 =>
                  have H := HA.out
                  clear HA
                  simp only [drayagelaw06_EpochsEnds.j2] at H
                  by_cases c29 : x50_23 = true
                  · subst c29
                    have H1 : (some false) = some r := by rw [if_pos rfl] at H; exact H
                    clear H
                    have H := H1
                    clear H1
                    obtain rfl := Option.some.inj H
                    go_wp2
                    go_ret
                    exact ⟨by first | rfl | (simp [errW_none, errW_some] <;> rfl) | (simp [*, errW_none, errW_some] <;> rfl), by repeat (first | (with_reducible first | exact HB.out | apply below_alloc | apply pw_below_drewN | apply below_drew1) | exact HB.out)⟩
                  · replace c29 := Bool.eq_false_iff.mpr c29
                    subst c29
                    have H1 : (if t132 = 0 then (if (l0.length : Int) > 0 then (if 0 < (l0.length : Int) then (if ((rd_T37 l0 0).f1) ≤ a1 then (if ((rd_T37 l0 0).f0) ≤ a2 then (some false) else ((drayagelaw06_known.f kj23).bind fun t137 => (some t137))) else ((drayagelaw06_known.f kj23).bind fun t138 => (some t138))) else (none)) else ((drayagelaw06_known.f kj23).bind fun t139 => (some t139))) else ((drayagelaw06_known.f kj23).bind fun t140 => (some t140))) = some r := by rw [if_neg (show ¬ (false = true) by decide)] at H; exact H
                    clear H
                    have H := H1
                    clear H1
                    by_cases c30 : t132 = 0
                    · rw [if_pos c30] at H
                      have c30b0 : (t132 == 0) = true := beq_iff_eq.mpr c30
                      have c30b1 : (t132 != 0) = false := bne_eq_false_iff_eq.mpr c30
                      clear c30
                      by_cases c31 : (l0.length : Int) > 0
                      · rw [if_pos c31] at H
                        have c31b0 : decide (0 < (l0.length : Int)) = true := decide_eq_true c31
                        have c31b1 : decide (0 < l0.length) = true := decide_eq_true (by omega)
                        clear c31
                        by_cases c32 : 0 < (l0.length : Int)
                        · rw [if_pos c32] at H
                          have c32b0 : decide (0 < (l0.length : Int)) = true := decide_eq_true c32
                          have c32b1 : decide (0 < l0.length) = true := decide_eq_true (by omega)
                          clear c32
                          by_cases c33 : ((rd_T37 l0 0).f1) ≤ a1
                          · rw [if_pos c33] at H
                            have c33b0 : decide (((rd_T37 l0 0).f1) ≤ a1) = true := decide_eq_true c33
                            clear c33
                            by_cases c34 : ((rd_T37 l0 0).f0) ≤ a2
                            · rw [if_pos c34] at H
                              have c34b0 : decide (((rd_T37 l0 0).f0) ≤ a2) = true := decide_eq_true c34
                              clear c34
                              obtain rfl := Option.some.inj H
                              have p135 : 0 ≤ (0 : Int) := (by omega)
                              have q135 : 0 < (l0.length : Int) := of_decide_eq_true (by first | (with_reducible assumption) | assumption)
                              obtain ⟨ad135, e135, hx135_0, hx135_1⟩ := at_T37 HR0.out 0 p135 q135
                              cases e135
                              have qi135 : (0 < l0.length) = True := eq_true (by omega)
                              (try rw [show ((0 : Int)).toNat = 0 from rfl] at hx135_0)
                              (try rw [show 0 * 2 = 0 from rfl] at hx135_0)
                              (try rw [Addr.add_zero'] at hx135_0)
                              (try rw [show ((0 : Int)).toNat = 0 from rfl] at hx135_1)
                              (try rw [show 0 * 2 = 0 from rfl] at hx135_1)
                              (try rw [Addr.add_zero'] at hx135_1)
                              replace hx135_0 := (HB.out.cell (World.block_lt_of_cell? w _ hx135_0)).trans hx135_0
                              replace hx135_1 := (HB.out.cell (World.block_lt_of_cell? w _ hx135_1)).trans hx135_1
                              replace p135 := eq_true p135
                              replace q135 := eq_true q135
                              have p136 : 0 ≤ (0 : Int) := (by omega)
                              have q136 : 0 < (l0.length : Int) := of_decide_eq_true (by first | (with_reducible assumption) | assumption)
                              obtain ⟨ad136, e136, hx136_0, hx136_1⟩ := at_T37 HR0.out 0 p136 q136
                              obtain rfl : ad135 = ad136 := (by injection e136)
                              have qi136 : (0 < l0.length) = True := eq_true (by omega)
                              (try rw [show ((0 : Int)).toNat = 0 from rfl] at hx136_0)
                              (try rw [show 0 * 2 = 0 from rfl] at hx136_0)
                              (try rw [Addr.add_zero'] at hx136_0)
                              (try rw [show ((0 : Int)).toNat = 0 from rfl] at hx136_1)
                              (try rw [show 0 * 2 = 0 from rfl] at hx136_1)
                              (try rw [Addr.add_zero'] at hx136_1)
                              replace hx136_0 := (HB.out.cell (World.block_lt_of_cell? w _ hx136_0)).trans hx136_0
                              replace hx136_1 := (HB.out.cell (World.block_lt_of_cell? w _ hx136_1)).trans hx136_1
                              replace p136 := eq_true p136
                              replace q136 := eq_true q136
                              go_wp2
                              go_ret
                              exact ⟨by first | rfl | (simp [errW_none, errW_some] <;> rfl) | (simp [*, errW_none, errW_some] <;> rfl), by repeat (first | (with_reducible first | exact HB.out | apply below_alloc | apply pw_below_drewN | apply below_drew1) | exact HB.out)⟩
                            · rw [if_neg c34] at H
                              have c34b0 : decide (((rd_T37 l0 0).f0) ≤ a2) = false := decide_eq_false c34
                              clear c34
                              replace H := Option.bind_eq_some_iff.mp H
                              obtain ⟨t137, A350, H⟩ := H
                              replace H : (some t137) = some r := H
                              have A35 := Aside0.mk A350
                              clear A350
                              obtain rfl := Option.some.inj H
                              have p135 : 0 ≤ (0 : Int) := (by omega)
                              have q135 : 0 < (l0.length : Int) := of_decide_eq_true (by first | (with_reducible assumption) | assumption)
                              obtain ⟨ad135, e135, hx135_0, hx135_1⟩ := at_T37 HR0.out 0 p135 q135
                              cases e135
                              have qi135 : (0 < l0.length) = True := eq_true (by omega)
                              (try rw [show ((0 : Int)).toNat = 0 from rfl] at hx135_0)
                              (try rw [show 0 * 2 = 0 from rfl] at hx135_0)
                              (try rw [Addr.add_zero'] at hx135_0)
                              (try rw [show ((0 : Int)).toNat = 0 from rfl] at hx135_1)
                              (try rw [show 0 * 2 = 0 from rfl] at hx135_1)
                              (try rw [Addr.add_zero'] at hx135_1)
                              replace hx135_0 := (HB.out.cell (World.block_lt_of_cell? w _ hx135_0)).trans hx135_0
                              replace hx135_1 := (HB.out.cell (World.block_lt_of_cell? w _ hx135_1)).trans hx135_1
                              replace p135 := eq_true p135
                              replace q135 := eq_true q135
                              have p136 : 0 ≤ (0 : Int) := (by omega)
                              have q136 : 0 < (l0.length : Int) := of_decide_eq_true (by first | (with_reducible assumption) | assumption)
                              obtain ⟨ad136, e136, hx136_0, hx136_1⟩ := at_T37 HR0.out 0 p136 q136
                              obtain rfl : ad135 = ad136 := (by injection e136)
                              have qi136 : (0 < l0.length) = True := eq_true (by omega)
                              (try rw [show ((0 : Int)).toNat = 0 from rfl] at hx136_0)
                              (try rw [show 0 * 2 = 0 from rfl] at hx136_0)
                              (try rw [Addr.add_zero'] at hx136_0)
                              (try rw [show ((0 : Int)).toNat = 0 from rfl] at hx136_1)
                              (try rw [show 0 * 2 = 0 from rfl] at hx136_1)
                              (try rw [Addr.add_zero'] at hx136_1)
                              replace hx136_0 := (HB.out.cell (World.block_lt_of_cell? w _ hx136_0)).trans hx136_0
                              replace hx136_1 := (HB.out.cell (World.block_lt_of_cell? w _ hx136_1)).trans hx136_1
                              replace p136 := eq_true p136
                              replace q136 := eq_true q136
                              go_wp2_with (first | ((with_reducible refine gate_callee (f := 11) rfl ?_); refine goesL_ (some 74) rfl rfl Try.func11 (by kernel_rfl) rfl #[] rfl (by (try simp only [List.map_toArray, List.map_cons, List.map_nil]); first | done | rfl | (simp only [List.length_drop, List.length_take]; rfl)) ?_; (with_reducible refine (drayagelaw06_known.calls kj23  t137 _ A35.out).mono ?_); rintro e w36 ⟨rfl, hb⟩; refine ⟨_, rfl, ?_⟩; have n0_ := Aside0.mk (below_step (by repeat (first | (with_reducible first | exact HB.out | apply below_alloc | apply pw_below_drewN | apply below_drew1) | exact HB.out)) hb); clear HB; have HB := n0_; clear n0_; (try clear hb); (try clear hb2); (try clear hk); (try clear hi)))
                              go_ret
                              exact ⟨by first | rfl | (simp [errW_none, errW_some] <;> rfl) | (simp [*, errW_none, errW_some] <;> rfl), by repeat (first | (with_reducible first | exact HB.out | apply below_alloc | apply pw_below_drewN | apply below_drew1) | exact HB.out)⟩
                          · rw [if_neg c33] at H
                            have c33b0 : decide (((rd_T37 l0 0).f1) ≤ a1) = false := decide_eq_false c33
                            clear c33
                            replace H := Option.bind_eq_some_iff.mp H
                            obtain ⟨t138, A370, H⟩ := H
                            replace H : (some t138) = some r := H
                            have A37 := Aside0.mk A370
                            clear A370
                            obtain rfl := Option.some.inj H
                            have p135 : 0 ≤ (0 : Int) := (by omega)
                            have q135 : 0 < (l0.length : Int) := of_decide_eq_true (by first | (with_reducible assumption) | assumption)
                            obtain ⟨ad135, e135, hx135_0, hx135_1⟩ := at_T37 HR0.out 0 p135 q135
                            cases e135
                            have qi135 : (0 < l0.length) = True := eq_true (by omega)
                            (try rw [show ((0 : Int)).toNat = 0 from rfl] at hx135_0)
                            (try rw [show 0 * 2 = 0 from rfl] at hx135_0)
                            (try rw [Addr.add_zero'] at hx135_0)
                            (try rw [show ((0 : Int)).toNat = 0 from rfl] at hx135_1)
                            (try rw [show 0 * 2 = 0 from rfl] at hx135_1)
                            (try rw [Addr.add_zero'] at hx135_1)
                            replace hx135_0 := (HB.out.cell (World.block_lt_of_cell? w _ hx135_0)).trans hx135_0
                            replace hx135_1 := (HB.out.cell (World.block_lt_of_cell? w _ hx135_1)).trans hx135_1
                            replace p135 := eq_true p135
                            replace q135 := eq_true q135
                            go_wp2_with (first | ((with_reducible refine gate_callee (f := 11) rfl ?_); refine goesL_ (some 74) rfl rfl Try.func11 (by kernel_rfl) rfl #[] rfl (by (try simp only [List.map_toArray, List.map_cons, List.map_nil]); first | done | rfl | (simp only [List.length_drop, List.length_take]; rfl)) ?_; (with_reducible refine (drayagelaw06_known.calls kj23  t138 _ A37.out).mono ?_); rintro e w38 ⟨rfl, hb⟩; refine ⟨_, rfl, ?_⟩; have n0_ := Aside0.mk (below_step (by repeat (first | (with_reducible first | exact HB.out | apply below_alloc | apply pw_below_drewN | apply below_drew1) | exact HB.out)) hb); clear HB; have HB := n0_; clear n0_; (try clear hb); (try clear hb2); (try clear hk); (try clear hi)))
                            go_ret
                            exact ⟨by first | rfl | (simp [errW_none, errW_some] <;> rfl) | (simp [*, errW_none, errW_some] <;> rfl), by repeat (first | (with_reducible first | exact HB.out | apply below_alloc | apply pw_below_drewN | apply below_drew1) | exact HB.out)⟩
                        · rw [if_neg c32] at H
                          exact absurd H (by simp)
                      · rw [if_neg c31] at H
                        have c31b0 : decide (0 < (l0.length : Int)) = false := decide_eq_false c31
                        have c31b1 : decide (0 < l0.length) = false := decide_eq_false (by omega)
                        clear c31
                        replace H := Option.bind_eq_some_iff.mp H
                        obtain ⟨t139, A390, H⟩ := H
                        replace H : (some t139) = some r := H
                        have A39 := Aside0.mk A390
                        clear A390
                        obtain rfl := Option.some.inj H
                        go_wp2_with (first | ((with_reducible refine gate_callee (f := 11) rfl ?_); refine goesL_ (some 74) rfl rfl Try.func11 (by kernel_rfl) rfl #[] rfl (by (try simp only [List.map_toArray, List.map_cons, List.map_nil]); first | done | rfl | (simp only [List.length_drop, List.length_take]; rfl)) ?_; (with_reducible refine (drayagelaw06_known.calls kj23  t139 _ A39.out).mono ?_); rintro e w40 ⟨rfl, hb⟩; refine ⟨_, rfl, ?_⟩; have n0_ := Aside0.mk (below_step (by repeat (first | (with_reducible first | exact HB.out | apply below_alloc | apply pw_below_drewN | apply below_drew1) | exact HB.out)) hb); clear HB; have HB := n0_; clear n0_; (try clear hb); (try clear hb2); (try clear hk); (try clear hi)))
                        go_ret
                        exact ⟨by first | rfl | (simp [errW_none, errW_some] <;> rfl) | (simp [*, errW_none, errW_some] <;> rfl), by repeat (first | (with_reducible first | exact HB.out | apply below_alloc | apply pw_below_drewN | apply below_drew1) | exact HB.out)⟩
                    · rw [if_neg c30] at H
                      have c30b0 : (t132 == 0) = false := beq_eq_false_iff_ne.mpr c30
                      have c30b1 : (t132 != 0) = true := bne_iff_ne.mpr c30
                      replace H := Option.bind_eq_some_iff.mp H
                      obtain ⟨t140, A410, H⟩ := H
                      replace H : (some t140) = some r := H
                      have A41 := Aside0.mk A410
                      clear A410
                      obtain rfl := Option.some.inj H
                      go_wp2_with (first | ((with_reducible refine gate_callee (f := 11) rfl ?_); refine goesL_ (some 74) rfl rfl Try.func11 (by kernel_rfl) rfl #[] rfl (by (try simp only [List.map_toArray, List.map_cons, List.map_nil]); first | done | rfl | (simp only [List.length_drop, List.length_take]; rfl)) ?_; (with_reducible refine (drayagelaw06_known.calls kj23  t140 _ A41.out).mono ?_); rintro e w42 ⟨rfl, hb⟩; refine ⟨_, rfl, ?_⟩; have n0_ := Aside0.mk (below_step (by repeat (first | (with_reducible first | exact HB.out | apply below_alloc | apply pw_below_drewN | apply below_drew1) | exact HB.out)) hb); clear HB; have HB := n0_; clear n0_; (try clear hb); (try clear hb2); (try clear hk); (try clear hi)))
                      go_ret
                      exact ⟨by first | rfl | (simp [errW_none, errW_some] <;> rfl) | (simp [*, errW_none, errW_some] <;> rfl), by repeat (first | (with_reducible first | exact HB.out | apply below_alloc | apply pw_below_drewN | apply below_drew1) | exact HB.out)⟩

end Go.Proofs.Ytdbebophchggfaa.Ep
