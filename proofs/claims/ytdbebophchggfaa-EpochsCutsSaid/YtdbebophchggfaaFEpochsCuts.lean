/- The function drayagelaw06.EpochsCuts: it comes to the answers of its Lean function. No condition. Put together by a program of mine out of what the print writes for this law. -/
import Derived.Test.YtdbebophchggfaaE4
namespace Go.Proofs.Ytdbebophchggfaa.Ep
open Go.RowKit Go.Proofs.YtdbebophchggfaaW.PrintWords Go.Proofs.YtdbebophchggfaaW.PrintLast Go.Proofs.YtdbebophchggfaaW.PrintMore
attribute [local go_sem] max2_int min2_int max_two min_two max_three min_three max_four min_four
set_option linter.unusedVariables false
set_option linter.unusedSimpArgs false


/-! ### drayagelaw06_EpochsCuts -/
mutual
def drayagelaw06_EpochsCuts.j0 : Nat → List (S37) → List (S37) → List (S37) → List (S37) → Bool → Option (Bool)
  | 0, _, _, _, _, _ => none
  | k + 1, x0, x7, x8, x9, x57 => if x57 = true then (some false) else (drayagelaw06_EpochsCuts.l0 k x0 x7 x8 x9 0)
def drayagelaw06_EpochsCuts.l0 : Nat → List (S37) → List (S37) → List (S37) → List (S37) → Int → Option (Bool)
  | 0, _, _, _, _, _ => none
  | k + 1, x0, x7, x8, x9, x13 => if x13 < (x8.length : Int) then (if 0 ≤ x13 then (drayagelaw06_EpochsCuts.l0 k x0 x7 (x8.set (x13 : Int).toNat (⟨(rd_T37 x8 x13).f0, 7⟩ : S37)) x9 (wrap64 (x13 + 1))) else (none)) else (drayagelaw06_EpochsCuts.l1 k x0 x7 x9 0)
def drayagelaw06_EpochsCuts.l1 : Nat → List (S37) → List (S37) → List (S37) → Int → Option (Bool)
  | 0, _, _, _, _ => none
  | k + 1, x0, x7, x9, x14 => if x14 < (x9.length : Int) then (if 0 ≤ x14 then (drayagelaw06_EpochsCuts.l1 k x0 x7 (x9.set (x14 : Int).toNat (⟨9, (rd_T37 x9 x14).f1⟩ : S37)) (wrap64 (x14 + 1))) else (none)) else ((drayageref06_Same.f k x7 x0).bind fun t202 => (if t202 = true then ((drayagelaw06_known.f k).bind fun t203 => (some t203)) else (some false)))
end
def drayagelaw06_EpochsCuts.f (k : Nat) (l0 : List (S37)) (a1 : Int) (a2_0 : Int) (a2_1 : Int) : Option (Bool) := (drayagelaw06_many.f l0 ([] : List (S37))).bind fun t178 => (if t178 = true then ((drayagelaw06_known.f k).bind fun t179 => (some t179)) else ((drayagelaw06_copied.f l0).bind fun t180 => ((epochs_Cut.f k t180 a1).bind fun t183 => ((epochs_Add.f k t180 a2_0 a2_1).bind fun bt186 => ((drayageref06_Add.f k l0 a2_0 a2_1).bind fun bt190 => ((drayageref06_Cut.f k l0 a1).bind fun t194 => ((drayageref06_Same.f k t183 t194).bind fun t197 => (if t197 = true then ((drayageref06_Same.f k bt186.1 bt190.1).bind fun t198 => (if t198 = true then (if bt186.2 = bt190.2 then ((drayageref06_Same.f k t180 l0).bind fun t199 => (drayagelaw06_EpochsCuts.j0 k l0 t180 t183 bt186.1 (!t199))) else (drayagelaw06_EpochsCuts.j0 k l0 t180 t183 bt186.1 true)) else (drayagelaw06_EpochsCuts.j0 k l0 t180 t183 bt186.1 true))) else (drayagelaw06_EpochsCuts.j0 k l0 t180 t183 bt186.1 true)))))))))
theorem drayagelaw06_EpochsCuts.mono_l : ∀ k, (∀ y0 y1 y2 y3 y4, LeO (drayagelaw06_EpochsCuts.j0 k y0 y1 y2 y3 y4) (drayagelaw06_EpochsCuts.j0 (k + 1) y0 y1 y2 y3 y4)) ∧ (∀ y0 y1 y2 y3 y4, LeO (drayagelaw06_EpochsCuts.l0 k y0 y1 y2 y3 y4) (drayagelaw06_EpochsCuts.l0 (k + 1) y0 y1 y2 y3 y4)) ∧ (∀ y0 y1 y2 y3, LeO (drayagelaw06_EpochsCuts.l1 k y0 y1 y2 y3) (drayagelaw06_EpochsCuts.l1 (k + 1) y0 y1 y2 y3))
  | 0 => ⟨fun _ _ _ _ _ r h => by simp [drayagelaw06_EpochsCuts.j0] at h, fun _ _ _ _ _ r h => by simp [drayagelaw06_EpochsCuts.l0] at h, fun _ _ _ _ r h => by simp [drayagelaw06_EpochsCuts.l1] at h⟩
  | k + 1 => by
    obtain ⟨ih0, ih1, ih2⟩ := drayagelaw06_EpochsCuts.mono_l k
    refine ⟨?_, ?_, ?_⟩
    · intro y0 y1 y2 y3 y4
      unfold drayagelaw06_EpochsCuts.j0
      repeat' first
      | (with_reducible exact ih0 _ _ _ _ _)
      | (with_reducible exact ih1 _ _ _ _ _)
      | (with_reducible exact ih2 _ _ _ _)
      | (with_reducible exact drayagelaw06_known.mono _)
      | (with_reducible exact drayageref06_Add.mono _ _ _ _)
      | (with_reducible exact drayageref06_Cut.mono _ _ _)
      | (with_reducible exact drayageref06_Same.mono _ _ _)
      | (with_reducible exact epochs_Add.mono _ _ _ _)
      | (with_reducible exact epochs_Cut.mono _ _ _)
      | (with_reducible exact LeO.refl _)
      | (with_reducible exact LeO.none _)
      | (with_reducible refine LeO.ite ?_ ?_)
      | (with_reducible refine LeO.bind ?_ (fun _ => ?_))
      | exact ih0 _ _ _ _ _
      | exact ih1 _ _ _ _ _
      | exact ih2 _ _ _ _
      | exact drayagelaw06_known.mono _
      | exact drayageref06_Add.mono _ _ _ _
      | exact drayageref06_Cut.mono _ _ _
      | exact drayageref06_Same.mono _ _ _
      | exact epochs_Add.mono _ _ _ _
      | exact epochs_Cut.mono _ _ _
      | exact LeO.none _
      | refine LeO.ite ?_ ?_
      | refine LeO.bind ?_ (fun _ => ?_)
    · intro y0 y1 y2 y3 y4
      unfold drayagelaw06_EpochsCuts.l0
      repeat' first
      | (with_reducible exact ih0 _ _ _ _ _)
      | (with_reducible exact ih1 _ _ _ _ _)
      | (with_reducible exact ih2 _ _ _ _)
      | (with_reducible exact drayagelaw06_known.mono _)
      | (with_reducible exact drayageref06_Add.mono _ _ _ _)
      | (with_reducible exact drayageref06_Cut.mono _ _ _)
      | (with_reducible exact drayageref06_Same.mono _ _ _)
      | (with_reducible exact epochs_Add.mono _ _ _ _)
      | (with_reducible exact epochs_Cut.mono _ _ _)
      | (with_reducible exact LeO.refl _)
      | (with_reducible exact LeO.none _)
      | (with_reducible refine LeO.ite ?_ ?_)
      | (with_reducible refine LeO.bind ?_ (fun _ => ?_))
      | exact ih0 _ _ _ _ _
      | exact ih1 _ _ _ _ _
      | exact ih2 _ _ _ _
      | exact drayagelaw06_known.mono _
      | exact drayageref06_Add.mono _ _ _ _
      | exact drayageref06_Cut.mono _ _ _
      | exact drayageref06_Same.mono _ _ _
      | exact epochs_Add.mono _ _ _ _
      | exact epochs_Cut.mono _ _ _
      | exact LeO.none _
      | refine LeO.ite ?_ ?_
      | refine LeO.bind ?_ (fun _ => ?_)
    · intro y0 y1 y2 y3
      unfold drayagelaw06_EpochsCuts.l1
      repeat' first
      | (with_reducible exact ih0 _ _ _ _ _)
      | (with_reducible exact ih1 _ _ _ _ _)
      | (with_reducible exact ih2 _ _ _ _)
      | (with_reducible exact drayagelaw06_known.mono _)
      | (with_reducible exact drayageref06_Add.mono _ _ _ _)
      | (with_reducible exact drayageref06_Cut.mono _ _ _)
      | (with_reducible exact drayageref06_Same.mono _ _ _)
      | (with_reducible exact epochs_Add.mono _ _ _ _)
      | (with_reducible exact epochs_Cut.mono _ _ _)
      | (with_reducible exact LeO.refl _)
      | (with_reducible exact LeO.none _)
      | (with_reducible refine LeO.ite ?_ ?_)
      | (with_reducible refine LeO.bind ?_ (fun _ => ?_))
      | exact ih0 _ _ _ _ _
      | exact ih1 _ _ _ _ _
      | exact ih2 _ _ _ _
      | exact drayagelaw06_known.mono _
      | exact drayageref06_Add.mono _ _ _ _
      | exact drayageref06_Cut.mono _ _ _
      | exact drayageref06_Same.mono _ _ _
      | exact epochs_Add.mono _ _ _ _
      | exact epochs_Cut.mono _ _ _
      | exact LeO.none _
      | refine LeO.ite ?_ ?_
      | refine LeO.bind ?_ (fun _ => ?_)
theorem drayagelaw06_EpochsCuts.mono : ∀ a0 a1 a2 a3 k, LeO (drayagelaw06_EpochsCuts.f k a0 a1 a2 a3) (drayagelaw06_EpochsCuts.f (k + 1) a0 a1 a2 a3) := by
  intro a0 a1 a2 a3 k
  obtain ⟨ih0, ih1, ih2⟩ := drayagelaw06_EpochsCuts.mono_l k
  unfold drayagelaw06_EpochsCuts.f
  repeat' first
      | (with_reducible exact ih0 _ _ _ _ _)
      | (with_reducible exact ih1 _ _ _ _ _)
      | (with_reducible exact ih2 _ _ _ _)
      | (with_reducible exact drayagelaw06_known.mono _)
      | (with_reducible exact drayageref06_Add.mono _ _ _ _)
      | (with_reducible exact drayageref06_Cut.mono _ _ _)
      | (with_reducible exact drayageref06_Same.mono _ _ _)
      | (with_reducible exact epochs_Add.mono _ _ _ _)
      | (with_reducible exact epochs_Cut.mono _ _ _)
      | (with_reducible exact LeO.refl _)
      | (with_reducible exact LeO.none _)
      | (with_reducible refine LeO.ite ?_ ?_)
      | (with_reducible refine LeO.bind ?_ (fun _ => ?_))
      | exact ih0 _ _ _ _ _
      | exact ih1 _ _ _ _ _
      | exact ih2 _ _ _ _
      | exact drayagelaw06_known.mono _
      | exact drayageref06_Add.mono _ _ _ _
      | exact drayageref06_Cut.mono _ _ _
      | exact drayageref06_Same.mono _ _ _
      | exact epochs_Add.mono _ _ _ _
      | exact epochs_Cut.mono _ _ _
      | exact LeO.none _
      | refine LeO.ite ?_ ?_
      | refine LeO.bind ?_ (fun _ => ?_)
set_option maxHeartbeats 8000000 in
set_option maxRecDepth 100000 in
theorem drayagelaw06_EpochsCuts.calls (k : Nat) (A0 : Option Addr) (c0 : Nat) (l0 : List (S37)) (a1 : Int) (a2_0 : Int) (a2_1 : Int) (r : Bool) (w : World) (hr0 : Kd.C k37 w A0 l0.length l0) (hc0 : l0.length ≤ c0) (h : drayagelaw06_EpochsCuts.f k l0 a1 a2_0 a2_1 = some r) :
    Calls Try.prog 8 #[.slice A0 l0.length c0, .int .u64 a1, .agg #[.int .u32 a2_0, .int .u64 a2_1]] w fun e w' => e = .returned (.bool r) ∧ Below w.heap.size w w' := by
  have hu37 := Try.underlying37
  have HR0 := Aside0.mk hr0
  have HC0 := Aside0.mk hc0
  clear hr0 hc0
  have HB := Aside0.mk (Below.refl w.heap.size w)
  have H : ((drayagelaw06_many.f l0 ([] : List (S37))).bind fun t178 => (if t178 = true then ((drayagelaw06_known.f k).bind fun t179 => (some t179)) else ((drayagelaw06_copied.f l0).bind fun t180 => ((epochs_Cut.f k t180 a1).bind fun t183 => ((epochs_Add.f k t180 a2_0 a2_1).bind fun bt186 => ((drayageref06_Add.f k l0 a2_0 a2_1).bind fun bt190 => ((drayageref06_Cut.f k l0 a1).bind fun t194 => ((drayageref06_Same.f k t183 t194).bind fun t197 => (if t197 = true then ((drayageref06_Same.f k bt186.1 bt190.1).bind fun t198 => (if t198 = true then (if bt186.2 = bt190.2 then ((drayageref06_Same.f k t180 l0).bind fun t199 => (drayagelaw06_EpochsCuts.j0 k l0 t180 t183 bt186.1 (!t199))) else (drayagelaw06_EpochsCuts.j0 k l0 t180 t183 bt186.1 true)) else (drayagelaw06_EpochsCuts.j0 k l0 t180 t183 bt186.1 true))) else (drayagelaw06_EpochsCuts.j0 k l0 t180 t183 bt186.1 true)))))))))) = some r := h
  clear h
  replace H := Option.bind_eq_some_iff.mp H
  obtain ⟨t178, A40, H⟩ := H
  replace H : (if t178 = true then ((drayagelaw06_known.f k).bind fun t179 => (some t179)) else ((drayagelaw06_copied.f l0).bind fun t180 => ((epochs_Cut.f k t180 a1).bind fun t183 => ((epochs_Add.f k t180 a2_0 a2_1).bind fun bt186 => ((drayageref06_Add.f k l0 a2_0 a2_1).bind fun bt190 => ((drayageref06_Cut.f k l0 a1).bind fun t194 => ((drayageref06_Same.f k t183 t194).bind fun t197 => (if t197 = true then ((drayageref06_Same.f k bt186.1 bt190.1).bind fun t198 => (if t198 = true then (if bt186.2 = bt190.2 then ((drayageref06_Same.f k t180 l0).bind fun t199 => (drayagelaw06_EpochsCuts.j0 k l0 t180 t183 bt186.1 (!t199))) else (drayagelaw06_EpochsCuts.j0 k l0 t180 t183 bt186.1 true)) else (drayagelaw06_EpochsCuts.j0 k l0 t180 t183 bt186.1 true))) else (drayagelaw06_EpochsCuts.j0 k l0 t180 t183 bt186.1 true))))))))) = some r := H
  have A4 := Aside0.mk A40
  clear A40
  by_cases c5 : t178 = true
  · subst c5
    have H1 : ((drayagelaw06_known.f k).bind fun t179 => (some t179)) = some r := by rw [if_pos rfl] at H; exact H
    clear H
    have H := H1
    clear H1
    replace H := Option.bind_eq_some_iff.mp H
    obtain ⟨t179, A60, H⟩ := H
    replace H : (some t179) = some r := H
    have A6 := Aside0.mk A60
    clear A60
    obtain rfl := Option.some.inj H
    go_enter Try.func8, Try.ntmps8
    go_wp2_with (first | ((with_reducible refine gate_dst (N := 5) rfl ?_); refine box_event ?hg (N := 5) ?hd (cs := #[.int .u32 a2_0, .int .u64 a2_1]) (t := 37) ?hr ?_; (case hd => rfl); (case hg => rfl); (case hr => first | (go_simp; done) | (go_simp; rfl)); intro gb177 hg w7 hbox hb; have n0_ := Aside0.mk (below_step (by repeat (first | (with_reducible first | exact HB.out | apply below_alloc | apply pw_below_drewN | apply below_drew1) | exact HB.out)) hb); have n1_ := Aside0.mk (hbox); have n2_ := Aside0.mk ((by rw [hg]; exact (below_size (by repeat (first | (with_reducible first | exact HB.out | apply below_alloc | apply pw_below_drewN | apply below_drew1) | exact HB.out))) : w.heap.size ≤ gb177)); have n3_ := Aside0.mk ((by rw [hg]; exact (below_size (by repeat (first | (with_reducible first | exact HB.out | apply below_alloc | apply pw_below_drewN | apply below_drew1) | exact HB.out))) : w.heap.size ≤ gb177)); clear HB; have HB := n0_; have BK177 := n1_; have GW177 := n2_; have GE177 := n3_; clear n0_ n1_ n2_ n3_; clear hb hbox hg) | ((with_reducible refine gate_callee (f := 10) rfl ?_); refine goesL_ (some 16) rfl rfl Try.func10 (by kernel_rfl) rfl #[.slice A0 l0.length c0, .slice none 0 0] rfl (by (try simp only [List.map_toArray, List.map_cons, List.map_nil]); first | done | rfl | (simp only [List.length_drop, List.length_take]; rfl)) ?_; (refine (drayagelaw06_many.calls _ _ l0 _ _ ([] : List (S37)) true _ ?side1 ?side2 ?side3 ?side4 A4.out).mono ?_); (case side1 => repeat (first | exact (Kd.C_below HR0.out HB.out) | (with_reducible refine Kd.C_alloc ?_ _) | (with_reducible refine Kd.C_drewN ?_ _) | (with_reducible refine Kd.C_drew ?_))); (case side2 => exact HC0.out); (case side3 => exact Kd.C_nil _ _); (case side4 => exact Nat.le_refl _); rintro e w' ⟨rfl, ⟨nd, rfl⟩⟩; refine ⟨_, rfl, ?_⟩) | ((with_reducible refine gate_callee (f := 11) rfl ?_); refine goesL_ (some 17) rfl rfl Try.func11 (by kernel_rfl) rfl #[] rfl (by (try simp only [List.map_toArray, List.map_cons, List.map_nil]); first | done | rfl | (simp only [List.length_drop, List.length_take]; rfl)) ?_; (with_reducible refine (drayagelaw06_known.calls k  t179 _ A6.out).mono ?_); rintro e w8 ⟨rfl, hb⟩; refine ⟨_, rfl, ?_⟩; have n0_ := Aside0.mk (blk_below (g := gb177) (o := .cells #[.int .u32 a2_0, .int .u64 a2_1] 37 (0, 0)) (by (with_reducible repeat (first | refine blk_drewN ?_ _ | refine blk_drew ?_ | refine blk_alloc ?_ _)); exact BK177.out) hb); have n1_ := Aside0.mk (below_step (by repeat (first | (with_reducible first | exact HB.out | apply below_alloc | apply pw_below_drewN | apply below_drew1 | refine below_set ?_ GE177.out) | exact HB.out)) hb); clear BK177; clear HB; have BK177 := n0_; have HB := n1_; clear n0_ n1_; (try clear hb); (try clear hb2); (try clear hk); (try clear hi)))
    go_ret
    exact ⟨by first | rfl | (simp [errW_none, errW_some] <;> rfl) | (simp [*, errW_none, errW_some] <;> rfl), by repeat (first | (with_reducible first | exact HB.out | apply below_alloc | apply pw_below_drewN | apply below_drew1 | refine below_set ?_ GE177.out) | exact HB.out)⟩
  · replace c5 := Bool.eq_false_iff.mpr c5
    subst c5
    have H1 : ((drayagelaw06_copied.f l0).bind fun t180 => ((epochs_Cut.f k t180 a1).bind fun t183 => ((epochs_Add.f k t180 a2_0 a2_1).bind fun bt186 => ((drayageref06_Add.f k l0 a2_0 a2_1).bind fun bt190 => ((drayageref06_Cut.f k l0 a1).bind fun t194 => ((drayageref06_Same.f k t183 t194).bind fun t197 => (if t197 = true then ((drayageref06_Same.f k bt186.1 bt190.1).bind fun t198 => (if t198 = true then (if bt186.2 = bt190.2 then ((drayageref06_Same.f k t180 l0).bind fun t199 => (drayagelaw06_EpochsCuts.j0 k l0 t180 t183 bt186.1 (!t199))) else (drayagelaw06_EpochsCuts.j0 k l0 t180 t183 bt186.1 true)) else (drayagelaw06_EpochsCuts.j0 k l0 t180 t183 bt186.1 true))) else (drayagelaw06_EpochsCuts.j0 k l0 t180 t183 bt186.1 true)))))))) = some r := by rw [if_neg (show ¬ (false = true) by decide)] at H; exact H
    clear H
    have H := H1
    clear H1
    replace H := Option.bind_eq_some_iff.mp H
    obtain ⟨t180, A90, H⟩ := H
    replace H : ((epochs_Cut.f k t180 a1).bind fun t183 => ((epochs_Add.f k t180 a2_0 a2_1).bind fun bt186 => ((drayageref06_Add.f k l0 a2_0 a2_1).bind fun bt190 => ((drayageref06_Cut.f k l0 a1).bind fun t194 => ((drayageref06_Same.f k t183 t194).bind fun t197 => (if t197 = true then ((drayageref06_Same.f k bt186.1 bt190.1).bind fun t198 => (if t198 = true then (if bt186.2 = bt190.2 then ((drayageref06_Same.f k t180 l0).bind fun t199 => (drayagelaw06_EpochsCuts.j0 k l0 t180 t183 bt186.1 (!t199))) else (drayagelaw06_EpochsCuts.j0 k l0 t180 t183 bt186.1 true)) else (drayagelaw06_EpochsCuts.j0 k l0 t180 t183 bt186.1 true))) else (drayagelaw06_EpochsCuts.j0 k l0 t180 t183 bt186.1 true))))))) = some r := H
    have A9 := Aside0.mk A90
    clear A90
    replace H := Option.bind_eq_some_iff.mp H
    obtain ⟨t183, A100, H⟩ := H
    replace H : ((epochs_Add.f k t180 a2_0 a2_1).bind fun bt186 => ((drayageref06_Add.f k l0 a2_0 a2_1).bind fun bt190 => ((drayageref06_Cut.f k l0 a1).bind fun t194 => ((drayageref06_Same.f k t183 t194).bind fun t197 => (if t197 = true then ((drayageref06_Same.f k bt186.1 bt190.1).bind fun t198 => (if t198 = true then (if bt186.2 = bt190.2 then ((drayageref06_Same.f k t180 l0).bind fun t199 => (drayagelaw06_EpochsCuts.j0 k l0 t180 t183 bt186.1 (!t199))) else (drayagelaw06_EpochsCuts.j0 k l0 t180 t183 bt186.1 true)) else (drayagelaw06_EpochsCuts.j0 k l0 t180 t183 bt186.1 true))) else (drayagelaw06_EpochsCuts.j0 k l0 t180 t183 bt186.1 true)))))) = some r := H
    have A10 := Aside0.mk A100
    clear A100
    replace H := Option.bind_eq_some_iff.mp H
    obtain ⟨⟨t186, t189⟩, A110, H⟩ := H
    replace H : ((drayageref06_Add.f k l0 a2_0 a2_1).bind fun bt190 => ((drayageref06_Cut.f k l0 a1).bind fun t194 => ((drayageref06_Same.f k t183 t194).bind fun t197 => (if t197 = true then ((drayageref06_Same.f k t186 bt190.1).bind fun t198 => (if t198 = true then (if t189 = bt190.2 then ((drayageref06_Same.f k t180 l0).bind fun t199 => (drayagelaw06_EpochsCuts.j0 k l0 t180 t183 t186 (!t199))) else (drayagelaw06_EpochsCuts.j0 k l0 t180 t183 t186 true)) else (drayagelaw06_EpochsCuts.j0 k l0 t180 t183 t186 true))) else (drayagelaw06_EpochsCuts.j0 k l0 t180 t183 t186 true))))) = some r := H
    have A11 := Aside0.mk A110
    clear A110
    replace H := Option.bind_eq_some_iff.mp H
    obtain ⟨⟨t190, t193⟩, A120, H⟩ := H
    replace H : ((drayageref06_Cut.f k l0 a1).bind fun t194 => ((drayageref06_Same.f k t183 t194).bind fun t197 => (if t197 = true then ((drayageref06_Same.f k t186 t190).bind fun t198 => (if t198 = true then (if t189 = t193 then ((drayageref06_Same.f k t180 l0).bind fun t199 => (drayagelaw06_EpochsCuts.j0 k l0 t180 t183 t186 (!t199))) else (drayagelaw06_EpochsCuts.j0 k l0 t180 t183 t186 true)) else (drayagelaw06_EpochsCuts.j0 k l0 t180 t183 t186 true))) else (drayagelaw06_EpochsCuts.j0 k l0 t180 t183 t186 true)))) = some r := H
    have A12 := Aside0.mk A120
    clear A120
    have HC13 := Aside0.mk H
    clear H
    go_enter Try.func8, Try.ntmps8
    go_upto_region 7 with (first | ((with_reducible refine gate_dst (N := 5) rfl ?_); refine box_event ?hg (N := 5) ?hd (cs := #[.int .u32 a2_0, .int .u64 a2_1]) (t := 37) ?hr ?_; (case hd => rfl); (case hg => rfl); (case hr => first | (go_simp; done) | (go_simp; rfl)); intro gb177 hg w14 hbox hb; have n0_ := Aside0.mk (below_step (by repeat (first | (with_reducible first | exact HB.out | apply below_alloc | apply pw_below_drewN | apply below_drew1) | exact HB.out)) hb); have n1_ := Aside0.mk (hbox); have n2_ := Aside0.mk ((by rw [hg]; exact (below_size (by repeat (first | (with_reducible first | exact HB.out | apply below_alloc | apply pw_below_drewN | apply below_drew1) | exact HB.out))) : w.heap.size ≤ gb177)); have n3_ := Aside0.mk ((by rw [hg]; exact (below_size (by repeat (first | (with_reducible first | exact HB.out | apply below_alloc | apply pw_below_drewN | apply below_drew1) | exact HB.out))) : w.heap.size ≤ gb177)); clear HB; have HB := n0_; have BK177 := n1_; have GW177 := n2_; have GE177 := n3_; clear n0_ n1_ n2_ n3_; clear hb hbox hg) | ((with_reducible refine gate_callee (f := 10) rfl ?_); refine goesL_ (some 16) rfl rfl Try.func10 (by kernel_rfl) rfl #[.slice A0 l0.length c0, .slice none 0 0] rfl (by (try simp only [List.map_toArray, List.map_cons, List.map_nil]); first | done | rfl | (simp only [List.length_drop, List.length_take]; rfl)) ?_; (refine (drayagelaw06_many.calls _ _ l0 _ _ ([] : List (S37)) false _ ?side1 ?side2 ?side3 ?side4 A4.out).mono ?_); (case side1 => repeat (first | exact (Kd.C_below HR0.out HB.out) | (with_reducible refine Kd.C_alloc ?_ _) | (with_reducible refine Kd.C_drewN ?_ _) | (with_reducible refine Kd.C_drew ?_))); (case side2 => exact HC0.out); (case side3 => exact Kd.C_nil _ _); (case side4 => exact Nat.le_refl _); rintro e w' ⟨rfl, ⟨nd, rfl⟩⟩; refine ⟨_, rfl, ?_⟩) | ((with_reducible refine gate_callee (f := 12) rfl ?_); refine goesL_ (some 19) rfl rfl Try.func12 (by kernel_rfl) rfl #[.slice A0 l0.length c0] rfl (by (try simp only [List.map_toArray, List.map_cons, List.map_nil]); first | done | rfl | (simp only [List.length_drop, List.length_take]; rfl)) ?_; (with_reducible refine (drayagelaw06_copied.calls _ _ l0 t180 _ ?side1 ?side2 A9.out).mono ?_); (case side1 => repeat (first | exact (Kd.C_below HR0.out (by repeat (first | (with_reducible first | exact HB.out | apply below_alloc | apply pw_below_drewN | apply below_drew1 | refine below_set ?_ GE177.out) | exact HB.out))) | (with_reducible refine Kd.C_alloc ?_ _) | (with_reducible refine Kd.C_drewN ?_ _) | (with_reducible refine Kd.C_drew ?_))); (case side2 => exact HC0.out); rintro e w15 ⟨v181, rfl, ho0, hb⟩; refine ⟨_, rfl, ?_⟩; have n0_ := Aside0.mk (Kd.R_lower (Kd.R_newB ho0 (g := gb177) (o := .cells #[.int .u32 a2_0, .int .u64 a2_1] 37 (0, 0)) (by (with_reducible repeat (first | refine blk_drewN ?_ _ | refine blk_drew ?_ | refine blk_alloc ?_ _)); exact BK177.out)) (below_size (by repeat (first | (with_reducible first | exact HB.out | apply below_alloc | apply pw_below_drewN | apply below_drew1 | refine below_set ?_ GE177.out) | exact HB.out)))); have n1_ := Aside0.mk (blk_below (g := gb177) (o := .cells #[.int .u32 a2_0, .int .u64 a2_1] 37 (0, 0)) (by (with_reducible repeat (first | refine blk_drewN ?_ _ | refine blk_drew ?_ | refine blk_alloc ?_ _)); exact BK177.out) hb); have n2_ := Aside0.mk (below_step (by repeat (first | (with_reducible first | exact HB.out | apply below_alloc | apply pw_below_drewN | apply below_drew1 | refine below_set ?_ GE177.out) | exact HB.out)) hb); clear BK177; clear HB; have HO182 := n0_; have BK177 := n1_; have HB := n2_; clear n0_ n1_ n2_; (try clear hb); (try clear hb2); (try clear hk); (try clear hi); (try clear ho0); obtain ⟨Ao16, co16, eo16⟩ := Kd.R_slice HO182.out; subst eo16) | ((with_reducible refine gate_callee (f := 22) rfl ?_); refine goesL_ (some 22) rfl rfl Try.func22 (by kernel_rfl) rfl #[.slice Ao16 t180.length co16, .int .u64 a1] rfl (by (try simp only [List.map_toArray, List.map_cons, List.map_nil]); first | done | rfl | (simp only [List.length_drop, List.length_take]; rfl)) ?_; (with_reducible refine (epochs_Cut.calls k _ _ t180 a1 t183 _ ?side1 ?side2 A10.out).mono ?_); (case side1 => repeat (first | exact (Kd.R_reads' HO182.out).2.2 | (with_reducible refine Kd.C_alloc ?_ _) | (with_reducible refine Kd.C_drewN ?_ _) | (with_reducible refine Kd.C_drew ?_))); (case side2 => exact (Kd.R_reads' HO182.out).2.1); rintro e w17 ⟨v184, rfl, ho0, hb⟩; refine ⟨_, rfl, ?_⟩; have n0_ := Aside0.mk (Kd.R_elder' (by (with_reducible repeat (first | apply Kd.R_alloc | apply Kd.R_drewN | apply Kd.R_drew)); exact HO182.out) (Kd.R_base ho0) hb); have n1_ := Aside0.mk (Kd.R_lower (Kd.R_newB (Kd.R_new' ho0 (Kd.R_lt (by (with_reducible repeat (first | apply Kd.R_alloc | apply Kd.R_drewN | apply Kd.R_drew)); exact HO182.out))) (g := gb177) (o := .cells #[.int .u32 a2_0, .int .u64 a2_1] 37 (0, 0)) (by (with_reducible repeat (first | refine blk_drewN ?_ _ | refine blk_drew ?_ | refine blk_alloc ?_ _)); exact BK177.out)) (below_size (by repeat (first | (with_reducible first | exact HB.out | apply below_alloc | apply pw_below_drewN | apply below_drew1 | refine below_set ?_ GE177.out) | exact HB.out)))); have n2_ := Aside0.mk (blk_below (g := gb177) (o := .cells #[.int .u32 a2_0, .int .u64 a2_1] 37 (0, 0)) (by (with_reducible repeat (first | refine blk_drewN ?_ _ | refine blk_drew ?_ | refine blk_alloc ?_ _)); exact BK177.out) hb); have n3_ := Aside0.mk (below_step (by repeat (first | (with_reducible first | exact HB.out | apply below_alloc | apply pw_below_drewN | apply below_drew1 | refine below_set ?_ GE177.out) | exact HB.out)) hb); clear HO182; clear BK177; clear HB; have HO182 := n0_; have HO185 := n1_; have BK177 := n2_; have HB := n3_; clear n0_ n1_ n2_ n3_; (try clear hb); (try clear hb2); (try clear hk); (try clear hi); (try clear ho0); have hcz18_0 : w17.cell? ⟨gb177, 0, none⟩ = some (.int .u32 a2_0) := (blk_cell BK177.out 0).trans rfl; have hcz18_1 : w17.cell? ⟨gb177, 1, none⟩ = some (.int .u64 a2_1) := (blk_cell BK177.out 1).trans rfl; have hfz18_0 := blk_frozen BK177.out 0; have hfz18_1 := blk_frozen BK177.out 1) | ((with_reducible refine gate_callee (f := 24) rfl ?_); refine goesL_ (some 26) rfl rfl Try.func24 (by kernel_rfl) rfl #[.slice Ao16 t180.length co16, .agg #[.int .u32 a2_0, .int .u64 a2_1]] rfl (by (try simp only [List.map_toArray, List.map_cons, List.map_nil]); first | done | rfl | (simp only [List.length_drop, List.length_take]; rfl)) ?_; (with_reducible refine (epochs_Add.calls k _ _ t180 a2_0 a2_1 t186 t189 _ ?side1 ?side2 A11.out).mono ?_); (case side1 => repeat (first | exact (Kd.R_reads' HO182.out).2.2 | (with_reducible refine Kd.C_alloc ?_ _) | (with_reducible refine Kd.C_drewN ?_ _) | (with_reducible refine Kd.C_drew ?_))); (case side2 => exact (Kd.R_reads' HO182.out).2.1); rintro e w19 ⟨v187, rfl, ho0, hb⟩; refine ⟨_, rfl, ?_⟩; have n0_ := Aside0.mk (Kd.R_elder' (by (with_reducible repeat (first | apply Kd.R_alloc | apply Kd.R_drewN | apply Kd.R_drew)); exact HO182.out) (Kd.R_base ho0) hb); have n1_ := Aside0.mk (Kd.R_elder' (by (with_reducible repeat (first | apply Kd.R_alloc | apply Kd.R_drewN | apply Kd.R_drew)); exact HO185.out) (Kd.R_base ho0) hb); have n2_ := Aside0.mk (Kd.R_lower (Kd.R_newB (Kd.R_new' (Kd.R_new' ho0 (Kd.R_lt (by (with_reducible repeat (first | apply Kd.R_alloc | apply Kd.R_drewN | apply Kd.R_drew)); exact HO182.out))) (Kd.R_lt (by (with_reducible repeat (first | apply Kd.R_alloc | apply Kd.R_drewN | apply Kd.R_drew)); exact HO185.out))) (g := gb177) (o := .cells #[.int .u32 a2_0, .int .u64 a2_1] 37 (0, 0)) (by (with_reducible repeat (first | refine blk_drewN ?_ _ | refine blk_drew ?_ | refine blk_alloc ?_ _)); exact BK177.out)) (below_size (by repeat (first | (with_reducible first | exact HB.out | apply below_alloc | apply pw_below_drewN | apply below_drew1 | refine below_set ?_ GE177.out) | exact HB.out)))); have n3_ := Aside0.mk (blk_below (g := gb177) (o := .cells #[.int .u32 a2_0, .int .u64 a2_1] 37 (0, 0)) (by (with_reducible repeat (first | refine blk_drewN ?_ _ | refine blk_drew ?_ | refine blk_alloc ?_ _)); exact BK177.out) hb); have n4_ := Aside0.mk (below_step (by repeat (first | (with_reducible first | exact HB.out | apply below_alloc | apply pw_below_drewN | apply below_drew1 | refine below_set ?_ GE177.out) | exact HB.out)) hb); clear HO182; clear HO185; clear BK177; clear HB; have HO182 := n0_; have HO185 := n1_; have HO188 := n2_; have BK177 := n3_; have HB := n4_; clear n0_ n1_ n2_ n3_ n4_; (try clear hb); (try clear hb2); (try clear hk); (try clear hi); (try clear ho0); have hcz20_0 : w19.cell? ⟨gb177, 0, none⟩ = some (.int .u32 a2_0) := (blk_cell BK177.out 0).trans rfl; have hcz20_1 : w19.cell? ⟨gb177, 1, none⟩ = some (.int .u64 a2_1) := (blk_cell BK177.out 1).trans rfl; have hfz20_0 := blk_frozen BK177.out 0; have hfz20_1 := blk_frozen BK177.out 1) | ((with_reducible refine gate_callee (f := 25) rfl ?_); refine goesL_ (some 32) rfl rfl Try.func25 (by kernel_rfl) rfl #[.slice A0 l0.length c0, .agg #[.int .u32 a2_0, .int .u64 a2_1]] rfl (by (try simp only [List.map_toArray, List.map_cons, List.map_nil]); first | done | rfl | (simp only [List.length_drop, List.length_take]; rfl)) ?_; (with_reducible refine (drayageref06_Add.calls k _ _ l0 a2_0 a2_1 t190 t193 _ ?side1 ?side2 A12.out).mono ?_); (case side1 => repeat (first | exact (Kd.C_below HR0.out HB.out) | (with_reducible refine Kd.C_alloc ?_ _) | (with_reducible refine Kd.C_drewN ?_ _) | (with_reducible refine Kd.C_drew ?_))); (case side2 => exact HC0.out); rintro e w21 ⟨v191, rfl, ho0, hb⟩; refine ⟨_, rfl, ?_⟩; have n0_ := Aside0.mk (Kd.R_elder' (by (with_reducible repeat (first | apply Kd.R_alloc | apply Kd.R_drewN | apply Kd.R_drew)); exact HO182.out) (Kd.R_base ho0) hb); have n1_ := Aside0.mk (Kd.R_elder' (by (with_reducible repeat (first | apply Kd.R_alloc | apply Kd.R_drewN | apply Kd.R_drew)); exact HO185.out) (Kd.R_base ho0) hb); have n2_ := Aside0.mk (Kd.R_elder' (by (with_reducible repeat (first | apply Kd.R_alloc | apply Kd.R_drewN | apply Kd.R_drew)); exact HO188.out) (Kd.R_base ho0) hb); have n3_ := Aside0.mk (Kd.R_lower (Kd.R_newB (Kd.R_new' (Kd.R_new' (Kd.R_new' ho0 (Kd.R_lt (by (with_reducible repeat (first | apply Kd.R_alloc | apply Kd.R_drewN | apply Kd.R_drew)); exact HO182.out))) (Kd.R_lt (by (with_reducible repeat (first | apply Kd.R_alloc | apply Kd.R_drewN | apply Kd.R_drew)); exact HO185.out))) (Kd.R_lt (by (with_reducible repeat (first | apply Kd.R_alloc | apply Kd.R_drewN | apply Kd.R_drew)); exact HO188.out))) (g := gb177) (o := .cells #[.int .u32 a2_0, .int .u64 a2_1] 37 (0, 0)) (by (with_reducible repeat (first | refine blk_drewN ?_ _ | refine blk_drew ?_ | refine blk_alloc ?_ _)); exact BK177.out)) (below_size (by repeat (first | (with_reducible first | exact HB.out | apply below_alloc | apply pw_below_drewN | apply below_drew1 | refine below_set ?_ GE177.out) | exact HB.out)))); have n4_ := Aside0.mk (blk_below (g := gb177) (o := .cells #[.int .u32 a2_0, .int .u64 a2_1] 37 (0, 0)) (by (with_reducible repeat (first | refine blk_drewN ?_ _ | refine blk_drew ?_ | refine blk_alloc ?_ _)); exact BK177.out) hb); have n5_ := Aside0.mk (below_step (by repeat (first | (with_reducible first | exact HB.out | apply below_alloc | apply pw_below_drewN | apply below_drew1 | refine below_set ?_ GE177.out) | exact HB.out)) hb); clear HO182; clear HO185; clear HO188; clear BK177; clear HB; have HO182 := n0_; have HO185 := n1_; have HO188 := n2_; have HO192 := n3_; have BK177 := n4_; have HB := n5_; clear n0_ n1_ n2_ n3_ n4_ n5_; (try clear hb); (try clear hb2); (try clear hk); (try clear hi); (try clear ho0)))
    (try simp only [Act.put, List.setIfInBounds_toArray, List.set_cons_zero, List.set_cons_succ])
    go_cut [57] (fun v57 wc => ∃ (kq : Nat) (x57_12 : Bool), v57 = .bool x57_12 ∧ Aside0 (drayagelaw06_EpochsCuts.j0 kq l0 t180 t183 t186 x57_12 = some r) ∧ Aside0 (kq ≤ k) ∧ Aside0 (Kd.R k37 37 wc w.heap.size (fun k_ => some k_ ≠ (v184 : Value).ownBlock ∧ some k_ ≠ (v187 : Value).ownBlock ∧ k_ ≠ gb177) (.slice Ao16 t180.length co16) t180) ∧ Aside0 (Kd.R k37 37 wc w.heap.size (fun k_ => some k_ ≠ ((.slice Ao16 t180.length co16) : Value).ownBlock ∧ some k_ ≠ (v187 : Value).ownBlock ∧ k_ ≠ gb177) v184 t183) ∧ Aside0 (Kd.R k37 37 wc w.heap.size (fun k_ => some k_ ≠ ((.slice Ao16 t180.length co16) : Value).ownBlock ∧ some k_ ≠ (v184 : Value).ownBlock ∧ k_ ≠ gb177) v187 t186) ∧ Aside0 (wc.heap[gb177]? = some (.cells #[.int .u32 a2_0, .int .u64 a2_1] 37 (0, 0))) ∧ Aside0 (Below w.heap.size w wc))
    case first =>
      have H := HC13.out
      clear HC13
      replace H := Option.bind_eq_some_iff.mp H
      obtain ⟨t194, A220, H⟩ := H
      replace H : ((drayageref06_Same.f k t183 t194).bind fun t197 => (if t197 = true then ((drayageref06_Same.f k t186 t190).bind fun t198 => (if t198 = true then (if t189 = t193 then ((drayageref06_Same.f k t180 l0).bind fun t199 => (drayagelaw06_EpochsCuts.j0 k l0 t180 t183 t186 (!t199))) else (drayagelaw06_EpochsCuts.j0 k l0 t180 t183 t186 true)) else (drayagelaw06_EpochsCuts.j0 k l0 t180 t183 t186 true))) else (drayagelaw06_EpochsCuts.j0 k l0 t180 t183 t186 true))) = some r := H
      have A22 := Aside0.mk A220
      clear A220
      replace H := Option.bind_eq_some_iff.mp H
      obtain ⟨t197, A230, H⟩ := H
      replace H : (if t197 = true then ((drayageref06_Same.f k t186 t190).bind fun t198 => (if t198 = true then (if t189 = t193 then ((drayageref06_Same.f k t180 l0).bind fun t199 => (drayagelaw06_EpochsCuts.j0 k l0 t180 t183 t186 (!t199))) else (drayagelaw06_EpochsCuts.j0 k l0 t180 t183 t186 true)) else (drayagelaw06_EpochsCuts.j0 k l0 t180 t183 t186 true))) else (drayagelaw06_EpochsCuts.j0 k l0 t180 t183 t186 true)) = some r := H
      have A23 := Aside0.mk A230
      clear A230
      by_cases c24 : t197 = true
      · subst c24
        have H1 : ((drayageref06_Same.f k t186 t190).bind fun t198 => (if t198 = true then (if t189 = t193 then ((drayageref06_Same.f k t180 l0).bind fun t199 => (drayagelaw06_EpochsCuts.j0 k l0 t180 t183 t186 (!t199))) else (drayagelaw06_EpochsCuts.j0 k l0 t180 t183 t186 true)) else (drayagelaw06_EpochsCuts.j0 k l0 t180 t183 t186 true))) = some r := by rw [if_pos rfl] at H; exact H
        clear H
        have H := H1
        clear H1
        replace H := Option.bind_eq_some_iff.mp H
        obtain ⟨t198, A250, H⟩ := H
        replace H : (if t198 = true then (if t189 = t193 then ((drayageref06_Same.f k t180 l0).bind fun t199 => (drayagelaw06_EpochsCuts.j0 k l0 t180 t183 t186 (!t199))) else (drayagelaw06_EpochsCuts.j0 k l0 t180 t183 t186 true)) else (drayagelaw06_EpochsCuts.j0 k l0 t180 t183 t186 true)) = some r := H
        have A25 := Aside0.mk A250
        clear A250
        by_cases c26 : t198 = true
        · subst c26
          have H1 : (if t189 = t193 then ((drayageref06_Same.f k t180 l0).bind fun t199 => (drayagelaw06_EpochsCuts.j0 k l0 t180 t183 t186 (!t199))) else (drayagelaw06_EpochsCuts.j0 k l0 t180 t183 t186 true)) = some r := by rw [if_pos rfl] at H; exact H
          clear H
          have H := H1
          clear H1
          by_cases c27 : t189 = t193
          · rw [if_pos c27] at H
            have c27b0 : (t189 == t193) = true := beq_iff_eq.mpr c27
            have c27b1 : (t189 != t193) = false := bne_eq_false_iff_eq.mpr c27
            clear c27
            (first | rw [c27b0] | (simp only [i64_w, i32_w]; rw [c27b0]) | skip)
            replace H := Option.bind_eq_some_iff.mp H
            obtain ⟨t199, A280, H⟩ := H
            replace H : (drayagelaw06_EpochsCuts.j0 k l0 t180 t183 t186 (!t199)) = some r := H
            have A28 := Aside0.mk A280
            clear A280
            have H' := Aside0.mk H
            clear H
            go_wp2_with (first | ((with_reducible refine gate_callee (f := 26) rfl ?_); refine goesL_ (some 38) rfl rfl Try.func26 (by kernel_rfl) rfl #[.slice A0 l0.length c0, .int .u64 a1] rfl (by (try simp only [List.map_toArray, List.map_cons, List.map_nil]); first | done | rfl | (simp only [List.length_drop, List.length_take]; rfl)) ?_; (with_reducible refine (drayageref06_Cut.calls k _ _ l0 a1 t194 _ ?side1 ?side2 A22.out).mono ?_); (case side1 => repeat (first | exact (Kd.C_below HR0.out HB.out) | (with_reducible refine Kd.C_alloc ?_ _) | (with_reducible refine Kd.C_drewN ?_ _) | (with_reducible refine Kd.C_drew ?_))); (case side2 => exact HC0.out); rintro e w29 ⟨v195, rfl, ho0, hb⟩; refine ⟨_, rfl, ?_⟩; have n0_ := Aside0.mk (Kd.R_elder' (by (with_reducible repeat (first | apply Kd.R_alloc | apply Kd.R_drewN | apply Kd.R_drew)); exact HO182.out) (Kd.R_base ho0) hb); have n1_ := Aside0.mk (Kd.R_elder' (by (with_reducible repeat (first | apply Kd.R_alloc | apply Kd.R_drewN | apply Kd.R_drew)); exact HO185.out) (Kd.R_base ho0) hb); have n2_ := Aside0.mk (Kd.R_elder' (by (with_reducible repeat (first | apply Kd.R_alloc | apply Kd.R_drewN | apply Kd.R_drew)); exact HO188.out) (Kd.R_base ho0) hb); have n3_ := Aside0.mk (Kd.R_elder' (by (with_reducible repeat (first | apply Kd.R_alloc | apply Kd.R_drewN | apply Kd.R_drew)); exact HO192.out) (Kd.R_base ho0) hb); have n4_ := Aside0.mk (Kd.R_lower (Kd.R_newB (Kd.R_new' (Kd.R_new' (Kd.R_new' (Kd.R_new' ho0 (Kd.R_lt (by (with_reducible repeat (first | apply Kd.R_alloc | apply Kd.R_drewN | apply Kd.R_drew)); exact HO182.out))) (Kd.R_lt (by (with_reducible repeat (first | apply Kd.R_alloc | apply Kd.R_drewN | apply Kd.R_drew)); exact HO185.out))) (Kd.R_lt (by (with_reducible repeat (first | apply Kd.R_alloc | apply Kd.R_drewN | apply Kd.R_drew)); exact HO188.out))) (Kd.R_lt (by (with_reducible repeat (first | apply Kd.R_alloc | apply Kd.R_drewN | apply Kd.R_drew)); exact HO192.out))) (g := gb177) (o := .cells #[.int .u32 a2_0, .int .u64 a2_1] 37 (0, 0)) (by (with_reducible repeat (first | refine blk_drewN ?_ _ | refine blk_drew ?_ | refine blk_alloc ?_ _)); exact BK177.out)) (below_size (by repeat (first | (with_reducible first | exact HB.out | apply below_alloc | apply pw_below_drewN | apply below_drew1 | refine below_set ?_ GE177.out) | exact HB.out)))); have n5_ := Aside0.mk (blk_below (g := gb177) (o := .cells #[.int .u32 a2_0, .int .u64 a2_1] 37 (0, 0)) (by (with_reducible repeat (first | refine blk_drewN ?_ _ | refine blk_drew ?_ | refine blk_alloc ?_ _)); exact BK177.out) hb); have n6_ := Aside0.mk (below_step (by repeat (first | (with_reducible first | exact HB.out | apply below_alloc | apply pw_below_drewN | apply below_drew1 | refine below_set ?_ GE177.out) | exact HB.out)) hb); clear HO182; clear HO185; clear HO188; clear HO192; clear BK177; clear HB; have HO182 := n0_; have HO185 := n1_; have HO188 := n2_; have HO192 := n3_; have HO196 := n4_; have BK177 := n5_; have HB := n6_; clear n0_ n1_ n2_ n3_ n4_ n5_ n6_; (try clear hb); (try clear hb2); (try clear hk); (try clear hi); (try clear ho0); obtain ⟨Ao30, co30, eo30⟩ := Kd.R_slice HO185.out; subst eo30; obtain ⟨Ao31, co31, eo31⟩ := Kd.R_slice HO196.out; subst eo31) | ((with_reducible refine gate_callee (f := 19) rfl ?_); refine goesL_ (some 39) rfl rfl Try.func19 (by kernel_rfl) rfl #[.slice Ao30 t183.length co30, .slice Ao31 t194.length co31] rfl (by (try simp only [List.map_toArray, List.map_cons, List.map_nil]); first | done | rfl | (simp only [List.length_drop, List.length_take]; rfl)) ?_; (with_reducible refine (drayageref06_Same.calls k _ _ t183 _ _ t194 true _ ?side1 ?side2 ?side3 ?side4 A23.out).mono ?_); (case side1 => repeat (first | exact (Kd.R_reads' HO185.out).2.2 | (with_reducible refine Kd.C_alloc ?_ _) | (with_reducible refine Kd.C_drewN ?_ _) | (with_reducible refine Kd.C_drew ?_))); (case side2 => exact (Kd.R_reads' HO185.out).2.1); (case side3 => repeat (first | exact (Kd.R_reads' HO196.out).2.2 | (with_reducible refine Kd.C_alloc ?_ _) | (with_reducible refine Kd.C_drewN ?_ _) | (with_reducible refine Kd.C_drew ?_))); (case side4 => exact (Kd.R_reads' HO196.out).2.1); rintro e w' ⟨rfl, ⟨nd, rfl⟩⟩; refine ⟨_, rfl, ?_⟩; obtain ⟨Ao32, co32, eo32⟩ := Kd.R_slice HO188.out; subst eo32; obtain ⟨Ao33, co33, eo33⟩ := Kd.R_slice HO192.out; subst eo33) | (go_at_call 19; (with_reducible refine (drayageref06_Same.calls k _ _ t186 _ _ t190 true _ ?side1 ?side2 ?side3 ?side4 A25.out).mono ?_); (case side1 => repeat (first | exact (Kd.R_reads' HO188.out).2.2 | (with_reducible refine Kd.C_alloc ?_ _) | (with_reducible refine Kd.C_drewN ?_ _) | (with_reducible refine Kd.C_drew ?_))); (case side2 => exact (Kd.R_reads' HO188.out).2.1); (case side3 => repeat (first | exact (Kd.R_reads' HO192.out).2.2 | (with_reducible refine Kd.C_alloc ?_ _) | (with_reducible refine Kd.C_drewN ?_ _) | (with_reducible refine Kd.C_drew ?_))); (case side4 => exact (Kd.R_reads' HO192.out).2.1); rintro e w' ⟨rfl, ⟨nd, rfl⟩⟩) | (go_at_call 19; (with_reducible refine (drayageref06_Same.calls k _ _ t180 _ _ l0 t199 _ ?side1 ?side2 ?side3 ?side4 A28.out).mono ?_); (case side1 => repeat (first | exact (Kd.R_reads' HO182.out).2.2 | (with_reducible refine Kd.C_alloc ?_ _) | (with_reducible refine Kd.C_drewN ?_ _) | (with_reducible refine Kd.C_drew ?_))); (case side2 => exact (Kd.R_reads' HO182.out).2.1); (case side3 => repeat (first | exact (Kd.C_below HR0.out (by repeat (first | (with_reducible first | exact HB.out | apply below_alloc | apply pw_below_drewN | apply below_drew1 | refine below_set ?_ GE177.out) | exact HB.out))) | (with_reducible refine Kd.C_alloc ?_ _) | (with_reducible refine Kd.C_drewN ?_ _) | (with_reducible refine Kd.C_drew ?_))); (case side4 => exact HC0.out); rintro e w' ⟨rfl, ⟨nd, rfl⟩⟩))
            go_meet
            case rel => exact ⟨_, (!t199), (by first | rfl | (simp; done) | (simp [*]; done)), H', ⟨by first | omega | exact Nat.le_refl _⟩, ⟨by (with_reducible repeat (first | apply Kd.R_alloc | apply Kd.R_drewN | apply Kd.R_drew)); exact Kd.R_mono HO182.out (fun _ hk => ⟨hk.1.1.1.2, ⟨hk.1.1.2, hk.1.1.1.1.2⟩⟩)⟩, ⟨by (with_reducible repeat (first | apply Kd.R_alloc | apply Kd.R_drewN | apply Kd.R_drew)); exact Kd.R_mono HO185.out (fun _ hk => ⟨hk.1.1.1.1.2, ⟨hk.1.1.2, hk.1.1.1.2⟩⟩)⟩, ⟨by (with_reducible repeat (first | apply Kd.R_alloc | apply Kd.R_drewN | apply Kd.R_drew)); exact Kd.R_mono HO188.out (fun _ hk => ⟨hk.1.1.1.1.2, ⟨hk.1.1.1.2, hk.1.1.2⟩⟩)⟩, ⟨by (with_reducible repeat (first | refine blk_drewN ?_ _ | refine blk_drew ?_ | refine blk_alloc ?_ _)); exact BK177.out⟩, ⟨by repeat (first | (with_reducible first | exact HB.out | apply below_alloc | apply pw_below_drewN | apply below_drew1 | refine below_set ?_ GE177.out) | exact HB.out)⟩⟩
          · rw [if_neg c27] at H
            have c27b0 : (t189 == t193) = false := beq_eq_false_iff_ne.mpr c27
            have c27b1 : (t189 != t193) = true := bne_iff_ne.mpr c27
            (first | rw [c27b0] | (simp only [i64_w, i32_w]; rw [c27b0]) | skip)
            have H' := Aside0.mk H
            clear H
            go_wp2_with (first | ((with_reducible refine gate_callee (f := 26) rfl ?_); refine goesL_ (some 38) rfl rfl Try.func26 (by kernel_rfl) rfl #[.slice A0 l0.length c0, .int .u64 a1] rfl (by (try simp only [List.map_toArray, List.map_cons, List.map_nil]); first | done | rfl | (simp only [List.length_drop, List.length_take]; rfl)) ?_; (with_reducible refine (drayageref06_Cut.calls k _ _ l0 a1 t194 _ ?side1 ?side2 A22.out).mono ?_); (case side1 => repeat (first | exact (Kd.C_below HR0.out HB.out) | (with_reducible refine Kd.C_alloc ?_ _) | (with_reducible refine Kd.C_drewN ?_ _) | (with_reducible refine Kd.C_drew ?_))); (case side2 => exact HC0.out); rintro e w34 ⟨v195, rfl, ho0, hb⟩; refine ⟨_, rfl, ?_⟩; have n0_ := Aside0.mk (Kd.R_elder' (by (with_reducible repeat (first | apply Kd.R_alloc | apply Kd.R_drewN | apply Kd.R_drew)); exact HO182.out) (Kd.R_base ho0) hb); have n1_ := Aside0.mk (Kd.R_elder' (by (with_reducible repeat (first | apply Kd.R_alloc | apply Kd.R_drewN | apply Kd.R_drew)); exact HO185.out) (Kd.R_base ho0) hb); have n2_ := Aside0.mk (Kd.R_elder' (by (with_reducible repeat (first | apply Kd.R_alloc | apply Kd.R_drewN | apply Kd.R_drew)); exact HO188.out) (Kd.R_base ho0) hb); have n3_ := Aside0.mk (Kd.R_elder' (by (with_reducible repeat (first | apply Kd.R_alloc | apply Kd.R_drewN | apply Kd.R_drew)); exact HO192.out) (Kd.R_base ho0) hb); have n4_ := Aside0.mk (Kd.R_lower (Kd.R_newB (Kd.R_new' (Kd.R_new' (Kd.R_new' (Kd.R_new' ho0 (Kd.R_lt (by (with_reducible repeat (first | apply Kd.R_alloc | apply Kd.R_drewN | apply Kd.R_drew)); exact HO182.out))) (Kd.R_lt (by (with_reducible repeat (first | apply Kd.R_alloc | apply Kd.R_drewN | apply Kd.R_drew)); exact HO185.out))) (Kd.R_lt (by (with_reducible repeat (first | apply Kd.R_alloc | apply Kd.R_drewN | apply Kd.R_drew)); exact HO188.out))) (Kd.R_lt (by (with_reducible repeat (first | apply Kd.R_alloc | apply Kd.R_drewN | apply Kd.R_drew)); exact HO192.out))) (g := gb177) (o := .cells #[.int .u32 a2_0, .int .u64 a2_1] 37 (0, 0)) (by (with_reducible repeat (first | refine blk_drewN ?_ _ | refine blk_drew ?_ | refine blk_alloc ?_ _)); exact BK177.out)) (below_size (by repeat (first | (with_reducible first | exact HB.out | apply below_alloc | apply pw_below_drewN | apply below_drew1 | refine below_set ?_ GE177.out) | exact HB.out)))); have n5_ := Aside0.mk (blk_below (g := gb177) (o := .cells #[.int .u32 a2_0, .int .u64 a2_1] 37 (0, 0)) (by (with_reducible repeat (first | refine blk_drewN ?_ _ | refine blk_drew ?_ | refine blk_alloc ?_ _)); exact BK177.out) hb); have n6_ := Aside0.mk (below_step (by repeat (first | (with_reducible first | exact HB.out | apply below_alloc | apply pw_below_drewN | apply below_drew1 | refine below_set ?_ GE177.out) | exact HB.out)) hb); clear HO182; clear HO185; clear HO188; clear HO192; clear BK177; clear HB; have HO182 := n0_; have HO185 := n1_; have HO188 := n2_; have HO192 := n3_; have HO196 := n4_; have BK177 := n5_; have HB := n6_; clear n0_ n1_ n2_ n3_ n4_ n5_ n6_; (try clear hb); (try clear hb2); (try clear hk); (try clear hi); (try clear ho0); obtain ⟨Ao35, co35, eo35⟩ := Kd.R_slice HO185.out; subst eo35; obtain ⟨Ao36, co36, eo36⟩ := Kd.R_slice HO196.out; subst eo36) | ((with_reducible refine gate_callee (f := 19) rfl ?_); refine goesL_ (some 39) rfl rfl Try.func19 (by kernel_rfl) rfl #[.slice Ao35 t183.length co35, .slice Ao36 t194.length co36] rfl (by (try simp only [List.map_toArray, List.map_cons, List.map_nil]); first | done | rfl | (simp only [List.length_drop, List.length_take]; rfl)) ?_; (with_reducible refine (drayageref06_Same.calls k _ _ t183 _ _ t194 true _ ?side1 ?side2 ?side3 ?side4 A23.out).mono ?_); (case side1 => repeat (first | exact (Kd.R_reads' HO185.out).2.2 | (with_reducible refine Kd.C_alloc ?_ _) | (with_reducible refine Kd.C_drewN ?_ _) | (with_reducible refine Kd.C_drew ?_))); (case side2 => exact (Kd.R_reads' HO185.out).2.1); (case side3 => repeat (first | exact (Kd.R_reads' HO196.out).2.2 | (with_reducible refine Kd.C_alloc ?_ _) | (with_reducible refine Kd.C_drewN ?_ _) | (with_reducible refine Kd.C_drew ?_))); (case side4 => exact (Kd.R_reads' HO196.out).2.1); rintro e w' ⟨rfl, ⟨nd, rfl⟩⟩; refine ⟨_, rfl, ?_⟩; obtain ⟨Ao37, co37, eo37⟩ := Kd.R_slice HO188.out; subst eo37; obtain ⟨Ao38, co38, eo38⟩ := Kd.R_slice HO192.out; subst eo38) | (go_at_call 19; (with_reducible refine (drayageref06_Same.calls k _ _ t186 _ _ t190 true _ ?side1 ?side2 ?side3 ?side4 A25.out).mono ?_); (case side1 => repeat (first | exact (Kd.R_reads' HO188.out).2.2 | (with_reducible refine Kd.C_alloc ?_ _) | (with_reducible refine Kd.C_drewN ?_ _) | (with_reducible refine Kd.C_drew ?_))); (case side2 => exact (Kd.R_reads' HO188.out).2.1); (case side3 => repeat (first | exact (Kd.R_reads' HO192.out).2.2 | (with_reducible refine Kd.C_alloc ?_ _) | (with_reducible refine Kd.C_drewN ?_ _) | (with_reducible refine Kd.C_drew ?_))); (case side4 => exact (Kd.R_reads' HO192.out).2.1); rintro e w' ⟨rfl, ⟨nd, rfl⟩⟩))
            go_meet
            case rel => exact ⟨_, (true), (by first | rfl | (simp; done) | (simp [*]; done)), H', ⟨by first | omega | exact Nat.le_refl _⟩, ⟨by (with_reducible repeat (first | apply Kd.R_alloc | apply Kd.R_drewN | apply Kd.R_drew)); exact Kd.R_mono HO182.out (fun _ hk => ⟨hk.1.1.1.2, ⟨hk.1.1.2, hk.1.1.1.1.2⟩⟩)⟩, ⟨by (with_reducible repeat (first | apply Kd.R_alloc | apply Kd.R_drewN | apply Kd.R_drew)); exact Kd.R_mono HO185.out (fun _ hk => ⟨hk.1.1.1.1.2, ⟨hk.1.1.2, hk.1.1.1.2⟩⟩)⟩, ⟨by (with_reducible repeat (first | apply Kd.R_alloc | apply Kd.R_drewN | apply Kd.R_drew)); exact Kd.R_mono HO188.out (fun _ hk => ⟨hk.1.1.1.1.2, ⟨hk.1.1.1.2, hk.1.1.2⟩⟩)⟩, ⟨by (with_reducible repeat (first | refine blk_drewN ?_ _ | refine blk_drew ?_ | refine blk_alloc ?_ _)); exact BK177.out⟩, ⟨by repeat (first | (with_reducible first | exact HB.out | apply below_alloc | apply pw_below_drewN | apply below_drew1 | refine below_set ?_ GE177.out) | exact HB.out)⟩⟩
        · replace c26 := Bool.eq_false_iff.mpr c26
          subst c26
          have H1 : (drayagelaw06_EpochsCuts.j0 k l0 t180 t183 t186 true) = some r := by rw [if_neg (show ¬ (false = true) by decide)] at H; exact H
          clear H
          have H := H1
          clear H1
          have H' := Aside0.mk H
          clear H
          go_wp2_with (first | ((with_reducible refine gate_callee (f := 26) rfl ?_); refine goesL_ (some 38) rfl rfl Try.func26 (by kernel_rfl) rfl #[.slice A0 l0.length c0, .int .u64 a1] rfl (by (try simp only [List.map_toArray, List.map_cons, List.map_nil]); first | done | rfl | (simp only [List.length_drop, List.length_take]; rfl)) ?_; (with_reducible refine (drayageref06_Cut.calls k _ _ l0 a1 t194 _ ?side1 ?side2 A22.out).mono ?_); (case side1 => repeat (first | exact (Kd.C_below HR0.out HB.out) | (with_reducible refine Kd.C_alloc ?_ _) | (with_reducible refine Kd.C_drewN ?_ _) | (with_reducible refine Kd.C_drew ?_))); (case side2 => exact HC0.out); rintro e w39 ⟨v195, rfl, ho0, hb⟩; refine ⟨_, rfl, ?_⟩; have n0_ := Aside0.mk (Kd.R_elder' (by (with_reducible repeat (first | apply Kd.R_alloc | apply Kd.R_drewN | apply Kd.R_drew)); exact HO182.out) (Kd.R_base ho0) hb); have n1_ := Aside0.mk (Kd.R_elder' (by (with_reducible repeat (first | apply Kd.R_alloc | apply Kd.R_drewN | apply Kd.R_drew)); exact HO185.out) (Kd.R_base ho0) hb); have n2_ := Aside0.mk (Kd.R_elder' (by (with_reducible repeat (first | apply Kd.R_alloc | apply Kd.R_drewN | apply Kd.R_drew)); exact HO188.out) (Kd.R_base ho0) hb); have n3_ := Aside0.mk (Kd.R_elder' (by (with_reducible repeat (first | apply Kd.R_alloc | apply Kd.R_drewN | apply Kd.R_drew)); exact HO192.out) (Kd.R_base ho0) hb); have n4_ := Aside0.mk (Kd.R_lower (Kd.R_newB (Kd.R_new' (Kd.R_new' (Kd.R_new' (Kd.R_new' ho0 (Kd.R_lt (by (with_reducible repeat (first | apply Kd.R_alloc | apply Kd.R_drewN | apply Kd.R_drew)); exact HO182.out))) (Kd.R_lt (by (with_reducible repeat (first | apply Kd.R_alloc | apply Kd.R_drewN | apply Kd.R_drew)); exact HO185.out))) (Kd.R_lt (by (with_reducible repeat (first | apply Kd.R_alloc | apply Kd.R_drewN | apply Kd.R_drew)); exact HO188.out))) (Kd.R_lt (by (with_reducible repeat (first | apply Kd.R_alloc | apply Kd.R_drewN | apply Kd.R_drew)); exact HO192.out))) (g := gb177) (o := .cells #[.int .u32 a2_0, .int .u64 a2_1] 37 (0, 0)) (by (with_reducible repeat (first | refine blk_drewN ?_ _ | refine blk_drew ?_ | refine blk_alloc ?_ _)); exact BK177.out)) (below_size (by repeat (first | (with_reducible first | exact HB.out | apply below_alloc | apply pw_below_drewN | apply below_drew1 | refine below_set ?_ GE177.out) | exact HB.out)))); have n5_ := Aside0.mk (blk_below (g := gb177) (o := .cells #[.int .u32 a2_0, .int .u64 a2_1] 37 (0, 0)) (by (with_reducible repeat (first | refine blk_drewN ?_ _ | refine blk_drew ?_ | refine blk_alloc ?_ _)); exact BK177.out) hb); have n6_ := Aside0.mk (below_step (by repeat (first | (with_reducible first | exact HB.out | apply below_alloc | apply pw_below_drewN | apply below_drew1 | refine below_set ?_ GE177.out) | exact HB.out)) hb); clear HO182; clear HO185; clear HO188; clear HO192; clear BK177; clear HB; have HO182 := n0_; have HO185 := n1_; have HO188 := n2_; have HO192 := n3_; have HO196 := n4_; have BK177 := n5_; have HB := n6_; clear n0_ n1_ n2_ n3_ n4_ n5_ n6_; (try clear hb); (try clear hb2); (try clear hk); (try clear hi); (try clear ho0); obtain ⟨Ao40, co40, eo40⟩ := Kd.R_slice HO185.out; subst eo40; obtain ⟨Ao41, co41, eo41⟩ := Kd.R_slice HO196.out; subst eo41) | ((with_reducible refine gate_callee (f := 19) rfl ?_); refine goesL_ (some 39) rfl rfl Try.func19 (by kernel_rfl) rfl #[.slice Ao40 t183.length co40, .slice Ao41 t194.length co41] rfl (by (try simp only [List.map_toArray, List.map_cons, List.map_nil]); first | done | rfl | (simp only [List.length_drop, List.length_take]; rfl)) ?_; (with_reducible refine (drayageref06_Same.calls k _ _ t183 _ _ t194 true _ ?side1 ?side2 ?side3 ?side4 A23.out).mono ?_); (case side1 => repeat (first | exact (Kd.R_reads' HO185.out).2.2 | (with_reducible refine Kd.C_alloc ?_ _) | (with_reducible refine Kd.C_drewN ?_ _) | (with_reducible refine Kd.C_drew ?_))); (case side2 => exact (Kd.R_reads' HO185.out).2.1); (case side3 => repeat (first | exact (Kd.R_reads' HO196.out).2.2 | (with_reducible refine Kd.C_alloc ?_ _) | (with_reducible refine Kd.C_drewN ?_ _) | (with_reducible refine Kd.C_drew ?_))); (case side4 => exact (Kd.R_reads' HO196.out).2.1); rintro e w' ⟨rfl, ⟨nd, rfl⟩⟩; refine ⟨_, rfl, ?_⟩; obtain ⟨Ao42, co42, eo42⟩ := Kd.R_slice HO188.out; subst eo42; obtain ⟨Ao43, co43, eo43⟩ := Kd.R_slice HO192.out; subst eo43) | (go_at_call 19; (with_reducible refine (drayageref06_Same.calls k _ _ t186 _ _ t190 false _ ?side1 ?side2 ?side3 ?side4 A25.out).mono ?_); (case side1 => repeat (first | exact (Kd.R_reads' HO188.out).2.2 | (with_reducible refine Kd.C_alloc ?_ _) | (with_reducible refine Kd.C_drewN ?_ _) | (with_reducible refine Kd.C_drew ?_))); (case side2 => exact (Kd.R_reads' HO188.out).2.1); (case side3 => repeat (first | exact (Kd.R_reads' HO192.out).2.2 | (with_reducible refine Kd.C_alloc ?_ _) | (with_reducible refine Kd.C_drewN ?_ _) | (with_reducible refine Kd.C_drew ?_))); (case side4 => exact (Kd.R_reads' HO192.out).2.1); rintro e w' ⟨rfl, ⟨nd, rfl⟩⟩))
          go_meet
          case rel => exact ⟨_, (true), (by first | rfl | (simp; done) | (simp [*]; done)), H', ⟨by first | omega | exact Nat.le_refl _⟩, ⟨by (with_reducible repeat (first | apply Kd.R_alloc | apply Kd.R_drewN | apply Kd.R_drew)); exact Kd.R_mono HO182.out (fun _ hk => ⟨hk.1.1.1.2, ⟨hk.1.1.2, hk.1.1.1.1.2⟩⟩)⟩, ⟨by (with_reducible repeat (first | apply Kd.R_alloc | apply Kd.R_drewN | apply Kd.R_drew)); exact Kd.R_mono HO185.out (fun _ hk => ⟨hk.1.1.1.1.2, ⟨hk.1.1.2, hk.1.1.1.2⟩⟩)⟩, ⟨by (with_reducible repeat (first | apply Kd.R_alloc | apply Kd.R_drewN | apply Kd.R_drew)); exact Kd.R_mono HO188.out (fun _ hk => ⟨hk.1.1.1.1.2, ⟨hk.1.1.1.2, hk.1.1.2⟩⟩)⟩, ⟨by (with_reducible repeat (first | refine blk_drewN ?_ _ | refine blk_drew ?_ | refine blk_alloc ?_ _)); exact BK177.out⟩, ⟨by repeat (first | (with_reducible first | exact HB.out | apply below_alloc | apply pw_below_drewN | apply below_drew1 | refine below_set ?_ GE177.out) | exact HB.out)⟩⟩
      · replace c24 := Bool.eq_false_iff.mpr c24
        subst c24
        have H1 : (drayagelaw06_EpochsCuts.j0 k l0 t180 t183 t186 true) = some r := by rw [if_neg (show ¬ (false = true) by decide)] at H; exact H
        clear H
        have H := H1
        clear H1
        have H' := Aside0.mk H
        clear H
        go_wp2_with (first | ((with_reducible refine gate_callee (f := 26) rfl ?_); refine goesL_ (some 38) rfl rfl Try.func26 (by kernel_rfl) rfl #[.slice A0 l0.length c0, .int .u64 a1] rfl (by (try simp only [List.map_toArray, List.map_cons, List.map_nil]); first | done | rfl | (simp only [List.length_drop, List.length_take]; rfl)) ?_; (with_reducible refine (drayageref06_Cut.calls k _ _ l0 a1 t194 _ ?side1 ?side2 A22.out).mono ?_); (case side1 => repeat (first | exact (Kd.C_below HR0.out HB.out) | (with_reducible refine Kd.C_alloc ?_ _) | (with_reducible refine Kd.C_drewN ?_ _) | (with_reducible refine Kd.C_drew ?_))); (case side2 => exact HC0.out); rintro e w44 ⟨v195, rfl, ho0, hb⟩; refine ⟨_, rfl, ?_⟩; have n0_ := Aside0.mk (Kd.R_elder' (by (with_reducible repeat (first | apply Kd.R_alloc | apply Kd.R_drewN | apply Kd.R_drew)); exact HO182.out) (Kd.R_base ho0) hb); have n1_ := Aside0.mk (Kd.R_elder' (by (with_reducible repeat (first | apply Kd.R_alloc | apply Kd.R_drewN | apply Kd.R_drew)); exact HO185.out) (Kd.R_base ho0) hb); have n2_ := Aside0.mk (Kd.R_elder' (by (with_reducible repeat (first | apply Kd.R_alloc | apply Kd.R_drewN | apply Kd.R_drew)); exact HO188.out) (Kd.R_base ho0) hb); have n3_ := Aside0.mk (Kd.R_elder' (by (with_reducible repeat (first | apply Kd.R_alloc | apply Kd.R_drewN | apply Kd.R_drew)); exact HO192.out) (Kd.R_base ho0) hb); have n4_ := Aside0.mk (Kd.R_lower (Kd.R_newB (Kd.R_new' (Kd.R_new' (Kd.R_new' (Kd.R_new' ho0 (Kd.R_lt (by (with_reducible repeat (first | apply Kd.R_alloc | apply Kd.R_drewN | apply Kd.R_drew)); exact HO182.out))) (Kd.R_lt (by (with_reducible repeat (first | apply Kd.R_alloc | apply Kd.R_drewN | apply Kd.R_drew)); exact HO185.out))) (Kd.R_lt (by (with_reducible repeat (first | apply Kd.R_alloc | apply Kd.R_drewN | apply Kd.R_drew)); exact HO188.out))) (Kd.R_lt (by (with_reducible repeat (first | apply Kd.R_alloc | apply Kd.R_drewN | apply Kd.R_drew)); exact HO192.out))) (g := gb177) (o := .cells #[.int .u32 a2_0, .int .u64 a2_1] 37 (0, 0)) (by (with_reducible repeat (first | refine blk_drewN ?_ _ | refine blk_drew ?_ | refine blk_alloc ?_ _)); exact BK177.out)) (below_size (by repeat (first | (with_reducible first | exact HB.out | apply below_alloc | apply pw_below_drewN | apply below_drew1 | refine below_set ?_ GE177.out) | exact HB.out)))); have n5_ := Aside0.mk (blk_below (g := gb177) (o := .cells #[.int .u32 a2_0, .int .u64 a2_1] 37 (0, 0)) (by (with_reducible repeat (first | refine blk_drewN ?_ _ | refine blk_drew ?_ | refine blk_alloc ?_ _)); exact BK177.out) hb); have n6_ := Aside0.mk (below_step (by repeat (first | (with_reducible first | exact HB.out | apply below_alloc | apply pw_below_drewN | apply below_drew1 | refine below_set ?_ GE177.out) | exact HB.out)) hb); clear HO182; clear HO185; clear HO188; clear HO192; clear BK177; clear HB; have HO182 := n0_; have HO185 := n1_; have HO188 := n2_; have HO192 := n3_; have HO196 := n4_; have BK177 := n5_; have HB := n6_; clear n0_ n1_ n2_ n3_ n4_ n5_ n6_; (try clear hb); (try clear hb2); (try clear hk); (try clear hi); (try clear ho0); obtain ⟨Ao45, co45, eo45⟩ := Kd.R_slice HO185.out; subst eo45; obtain ⟨Ao46, co46, eo46⟩ := Kd.R_slice HO196.out; subst eo46) | ((with_reducible refine gate_callee (f := 19) rfl ?_); refine goesL_ (some 39) rfl rfl Try.func19 (by kernel_rfl) rfl #[.slice Ao45 t183.length co45, .slice Ao46 t194.length co46] rfl (by (try simp only [List.map_toArray, List.map_cons, List.map_nil]); first | done | rfl | (simp only [List.length_drop, List.length_take]; rfl)) ?_; (with_reducible refine (drayageref06_Same.calls k _ _ t183 _ _ t194 false _ ?side1 ?side2 ?side3 ?side4 A23.out).mono ?_); (case side1 => repeat (first | exact (Kd.R_reads' HO185.out).2.2 | (with_reducible refine Kd.C_alloc ?_ _) | (with_reducible refine Kd.C_drewN ?_ _) | (with_reducible refine Kd.C_drew ?_))); (case side2 => exact (Kd.R_reads' HO185.out).2.1); (case side3 => repeat (first | exact (Kd.R_reads' HO196.out).2.2 | (with_reducible refine Kd.C_alloc ?_ _) | (with_reducible refine Kd.C_drewN ?_ _) | (with_reducible refine Kd.C_drew ?_))); (case side4 => exact (Kd.R_reads' HO196.out).2.1); rintro e w' ⟨rfl, ⟨nd, rfl⟩⟩; refine ⟨_, rfl, ?_⟩))
        go_meet
        case rel => exact ⟨_, (true), (by first | rfl | (simp; done) | (simp [*]; done)), H', ⟨by first | omega | exact Nat.le_refl _⟩, ⟨by (with_reducible repeat (first | apply Kd.R_alloc | apply Kd.R_drewN | apply Kd.R_drew)); exact Kd.R_mono HO182.out (fun _ hk => ⟨hk.1.1.1.2, ⟨hk.1.1.2, hk.1.1.1.1.2⟩⟩)⟩, ⟨by (with_reducible repeat (first | apply Kd.R_alloc | apply Kd.R_drewN | apply Kd.R_drew)); exact Kd.R_mono HO185.out (fun _ hk => ⟨hk.1.1.1.1.2, ⟨hk.1.1.2, hk.1.1.1.2⟩⟩)⟩, ⟨by (with_reducible repeat (first | apply Kd.R_alloc | apply Kd.R_drewN | apply Kd.R_drew)); exact Kd.R_mono HO188.out (fun _ hk => ⟨hk.1.1.1.1.2, ⟨hk.1.1.1.2, hk.1.1.2⟩⟩)⟩, ⟨by (with_reducible repeat (first | refine blk_drewN ?_ _ | refine blk_drew ?_ | refine blk_alloc ?_ _)); exact BK177.out⟩, ⟨by repeat (first | (with_reducible first | exact HB.out | apply below_alloc | apply pw_below_drewN | apply below_drew1 | refine below_set ?_ GE177.out) | exact HB.out)⟩⟩
    case rest =>
      clear HC13
      try clear c1
      try clear c2
      try clear p2
      try clear c5
      try clear c8
      try clear c10
      try clear c11
      try clear c12
      try clear c19
      try clear c22
      try clear c24
      try clear c25
      try clear c26
      try clear c27
      try clear c27b0
      try clear c27b1
      try clear hcz18_0
      try clear hcz18_1
      try clear hcz20_0
      try clear hcz20_1
      try clear hfz18_0
      try clear hfz18_1
      try clear hfz20_0
      try clear hfz20_1
      obtain ⟨kq, x57_12, rfl, HA, HJ12, HO_7, HO_8, HO_9, BK177, HB⟩ := hcut
      cases kq with
      | zero => exact absurd HA.out (by simp [drayagelaw06_EpochsCuts.j0])
      | succ kj12 =>
        have H := HA.out
        clear HA
        simp only [drayagelaw06_EpochsCuts.j0] at H
        by_cases c47 : x57_12 = true
        · subst c47
          have H1 : (some false) = some r := by rw [if_pos rfl] at H; exact H
          clear H
          have H := H1
          clear H1
          obtain rfl := Option.some.inj H
          go_wp2
          go_ret
          exact ⟨by first | rfl | (simp [errW_none, errW_some] <;> rfl) | (simp [*, errW_none, errW_some] <;> rfl), by repeat (first | (with_reducible first | exact HB.out | apply below_alloc | apply pw_below_drewN | apply below_drew1 | refine below_set ?_ GE177.out) | exact HB.out)⟩
        · replace c47 := Bool.eq_false_iff.mpr c47
          subst c47
          have H1 : (drayagelaw06_EpochsCuts.l0 kj12 l0 t180 t183 t186 0) = some r := by rw [if_neg (show ¬ (false = true) by decide)] at H; exact H
          clear H
          have H := H1
          clear H1
          have H' := Aside0.mk H
          clear H
          go_wp2
          go_loopg [13] kj12 (fun kq v13 w' => ∃ (x8_2 : List (S37)) (x13_2 : Int) (x178001_2 : Int), v13 = .int .i64 x13_2 ∧ Aside0 (drayagelaw06_EpochsCuts.l0 kq l0 t180 x8_2 t186 x13_2 = some r) ∧ Aside0 (kq ≤ kj12) ∧ Aside0 (Kd.R k37 37 w' w.heap.size (fun k_ => some k_ ≠ (v184 : Value).ownBlock ∧ some k_ ≠ (v187 : Value).ownBlock ∧ k_ ≠ gb177) (.slice Ao16 t180.length co16) t180) ∧ Aside0 (Kd.R k37 37 w' w.heap.size (fun k_ => some k_ ≠ ((.slice Ao16 t180.length co16) : Value).ownBlock ∧ some k_ ≠ (v187 : Value).ownBlock ∧ k_ ≠ gb177) v184 x8_2) ∧ Aside0 (Kd.R k37 37 w' w.heap.size (fun k_ => some k_ ≠ ((.slice Ao16 t180.length co16) : Value).ownBlock ∧ some k_ ≠ (v184 : Value).ownBlock ∧ k_ ≠ gb177) v187 t186) ∧ Aside0 (w'.heap[gb177]? = some (.cells #[.int .u32 a2_0, .int .u64 x178001_2] 37 (0, 0))) ∧ Aside0 (Below w.heap.size w w'))
          case atStart => exact ⟨(t183), (0), (a2_1), (by first | rfl | (simp; done) | (simp [*]; done)), H', ⟨Nat.le_refl _⟩, ⟨by (with_reducible repeat (first | apply Kd.R_alloc | apply Kd.R_drewN | apply Kd.R_drew)); exact HO_7.out⟩, ⟨by (with_reducible repeat (first | apply Kd.R_alloc | apply Kd.R_drewN | apply Kd.R_drew)); exact HO_8.out⟩, ⟨by (with_reducible repeat (first | apply Kd.R_alloc | apply Kd.R_drewN | apply Kd.R_drew)); exact HO_9.out⟩, ⟨by (with_reducible repeat (first | refine blk_drewN ?_ _ | refine blk_drew ?_ | refine blk_alloc ?_ _)); exact BK177.out⟩, ⟨by repeat (first | (with_reducible first | exact HB.out | apply below_alloc | apply pw_below_drewN | apply below_drew1 | refine below_set ?_ GE177.out) | exact HB.out)⟩⟩
          case round =>
            clear H'
            try clear c1
            try clear c2
            try clear p2
            try clear c4
            try clear c5
            try clear c8
            try clear c10
            try clear c11
            try clear c12
            try clear c19
            try clear c22
            try clear c24
            try clear c25
            try clear c26
            try clear c27
            try clear c27b0
            try clear c27b1
            try clear c47
            try clear hcz18_0
            try clear hcz18_1
            try clear hcz20_0
            try clear hcz20_1
            try clear hfz18_0
            try clear hfz18_1
            try clear hfz20_0
            try clear hfz20_1
            try clear p2
            obtain ⟨x8_2, x13_2, x178001_2, rfl, HA, HK2, HO_7, HO_8, HO_9, BK177, HB⟩ := hrel
            cases gk with
            | zero => exact absurd HA.out (by simp [drayagelaw06_EpochsCuts.l0])
            | succ k2 =>
              have H := HA.out
              clear HA
              simp only [drayagelaw06_EpochsCuts.l0] at H
              by_cases c48 : x13_2 < (x8_2.length : Int)
              · rw [if_pos c48] at H
                have c48b0 : decide (x13_2 < (x8_2.length : Int)) = true := decide_eq_true c48
                clear c48
                by_cases c49 : 0 ≤ x13_2
                · rw [if_pos c49] at H
                  have c49b0 : decide (0 ≤ x13_2) = true := decide_eq_true c49
                  clear c49
                  obtain ⟨y200, hy200⟩ : ∃ y_ : List (S37), y_ = (x8_2.set (x13_2 : Int).toNat (⟨(rd_T37 x8_2 x13_2).f0, 7⟩ : S37)) := ⟨_, rfl⟩
                  replace H : (drayagelaw06_EpochsCuts.l0 k2 l0 t180 y200 t186 (wrap64 (x13_2 + 1))) = some r := by first | (rw [hy200]; with_reducible exact H) | (have H2_ := (Option.bind_some _ _).symm.trans H; rw [hy200]; with_reducible exact H2_) | (have H2_ := (Option.bind_some _ _).symm.trans H; with_reducible exact H2_) | with_reducible exact H | (rw [hy200]; exact H) | exact H
                  have Ny200 := Aside0.mk hy200
                  clear hy200
                  have H' := Aside0.mk H
                  clear H
                  obtain ⟨Ao51, co51, eo51⟩ := Kd.R_slice HO_8.out
                  subst eo51
                  have p50 : 0 ≤ (x13_2 : Int) := of_decide_eq_true (by first | (with_reducible assumption) | assumption)
                  have q50 : (x13_2 : Int) < ((x8_2.length : Int) : Int) := of_decide_eq_true (by first | (with_reducible assumption) | assumption)
                  obtain ⟨go50, co50, eo50, gb50, gl50, cl50, HG50⟩ := Kd.R_form HO_8.out (by omega)
                  (first | cases eo50 | (injection eo50 with ea_ en_ ec_; (first | subst ea_ | (injection ea_ with ea_; subst ea_)); subst ec_; clear en_))
                  have GB50 := Aside0.mk gb50
                  have GG50 := Aside0.mk HG50
                  clear gb50 gl50 HG50
                  obtain ⟨ce50, hcl50, hM50, hcc50, hfr50⟩ := Kd.R_elem HO_8.out z37 (x13_2 : Int) p50 q50
                  obtain rfl := k37_openM hM50
                  have hx50_0 : wr.cell? ⟨go50, (x13_2 : Int).toNat * 2, none⟩ = some (.int .u32 ((rd_T37 x8_2 x13_2).f0)) := hcc50 0 _ rfl
                  have hx50_1 : wr.cell? ⟨go50, (x13_2 : Int).toNat * 2 + 1, none⟩ = some (.int .u64 ((rd_T37 x8_2 x13_2).f1)) := hcc50 1 _ rfl
                  have hf50_0 : wr.frozen? ⟨go50, (x13_2 : Int).toNat * 2, none⟩ = false := hfr50 0
                  have hf50_1 : wr.frozen? ⟨go50, (x13_2 : Int).toNat * 2 + 1, none⟩ = false := hfr50 1
                  clear hcl50 hcc50 hfr50 hM50
                  replace p50 := eq_true p50
                  replace q50 := eq_true q50
                  have HX52 := Aside0.mk (show Kd.R k37 37 wr w.heap.size (fun k_ => some k_ ≠ (.slice Ao16 t180.length co16 : Value).ownBlock ∧ some k_ ≠ (v187 : Value).ownBlock ∧ k_ ≠ gb177) (.slice (some ⟨go50, 0, none⟩) x8_2.length co51) x8_2 from (by (with_reducible repeat (first | apply Kd.R_alloc | apply Kd.R_drewN | apply Kd.R_drew)); exact HO_8.out))
                  obtain ⟨ce52, hcl52, hM52, hcc52, hfr52⟩ := Kd.R_elem HX52.out z37 (x13_2 : Int) (of_decide_eq_true (by first | (with_reducible assumption) | assumption)) (by have h_ : (x13_2 : Int) < ((x8_2.length : Int) : Int) := of_decide_eq_true (by first | (with_reducible assumption) | assumption); first | exact h_ | (have e_ := (Kd.R_reads' HO_8.out).1; omega) | simpa using h_)
                  obtain rfl := k37_openM hM52
                  have HP52 := Kd.R_seg HX52.out (x13_2 : Int) (of_decide_eq_true (by first | (with_reducible assumption) | assumption)) (by have h_ : (x13_2 : Int) < ((x8_2.length : Int) : Int) := of_decide_eq_true (by first | (with_reducible assumption) | assumption); first | exact h_ | (have e_ := (Kd.R_reads' HO_8.out).1; omega) | simpa using h_) (seg := [.int .u64 7]) (j := 1) hcl52 hcc52 (show 2 ≤ 2 from by decide) (x' := (⟨(rd_T37 x8_2 x13_2).f0, 7⟩ : S37)) (k37_mkM _ _ _ (⟨(rd_T37 x8_2 x13_2).f0, 7⟩ : S37) ) (fun _ hk => hk)
                  have hx52_1 := hcc52 1 _ rfl
                  (try simp only [show (k37).sz = 2 from rfl, Nat.mul_one, Nat.add_zero] at hx52_1)
                  have hf52_1 := hfr52 1
                  (try simp only [show (k37).sz = 2 from rfl, Nat.mul_one, Nat.add_zero] at hf52_1)
                  clear hcl52 hcc52 hfr52 hM52
                  go_wp2_with (first | ((with_reducible refine gate_store (t := 23) (p := 67) rfl ?_); refine store_event (t := 23) (p := 67) (v := ?vo_w53) (w1 := (wr.setCell ⟨go50, (x13_2 : Int).toNat * 2 + 1, none⟩ (.int .u64 7))) ?hg ?ho ?hn ?hr ?_; (case ho => rfl); (case hg => rfl); (case hn => rfl); (case hr => first | (go_simp; done) | (go_simp; rfl)); intro w53 hw; have hg : wr.grownBy w53 (some go50) := (by rw [hw]; exact HP52.2); have hp_ : Kd.R k37 37 w53 w.heap.size (fun k_ => some k_ ≠ (.slice Ao16 t180.length co16 : Value).ownBlock ∧ some k_ ≠ (v187 : Value).ownBlock ∧ k_ ≠ gb177) (.slice (some ⟨go50, 0, none⟩) x8_2.length co51) y200 := (by rw [hw, Ny200.out]; exact HP52.1); clear HP52; have n0_ := Aside0.mk (Kd.R_after (v := (.slice (some ⟨go50, 0, none⟩) x8_2.length co51)) (v1 := (.slice (some ⟨go50, 0, none⟩) x8_2.length co51)) (ok := (fun k_ => some k_ ≠ (v187 : Value).ownBlock ∧ k_ ≠ gb177)) (by (with_reducible repeat (first | apply Kd.R_alloc | apply Kd.R_drewN | apply Kd.R_drew)); exact Kd.R_mono HO_7.out (fun _ hk => ⟨⟨hk.2.1, hk.2.2⟩, hk.1⟩)) hg (.inl rfl)); have n1_ := Aside0.mk (hp_); have n2_ := Aside0.mk (Kd.R_after (v := (.slice (some ⟨go50, 0, none⟩) x8_2.length co51)) (v1 := (.slice (some ⟨go50, 0, none⟩) x8_2.length co51)) (ok := (fun k_ => some k_ ≠ (.slice Ao16 t180.length co16 : Value).ownBlock ∧ k_ ≠ gb177)) (by (with_reducible repeat (first | apply Kd.R_alloc | apply Kd.R_drewN | apply Kd.R_drew)); exact Kd.R_mono HO_9.out (fun _ hk => ⟨⟨hk.1, hk.2.2⟩, hk.2.1⟩)) hg (.inl rfl)); have n3_ := Aside0.mk (blk_grown (g := gb177) (o := .cells #[.int .u32 a2_0, .int .u64 x178001_2] 37 (0, 0)) (by (with_reducible repeat (first | refine blk_drewN ?_ _ | refine blk_drew ?_ | refine blk_alloc ?_ _)); exact BK177.out) hg (Kd.R_away HO_8.out (fun _ hk => hk.2.2))); have n4_ := Aside0.mk ((by rw [hw]; exact below_set (HB.out) GB50.out : Below w.heap.size w w53)); clear HO_7; clear HO_8; clear HO_9; clear BK177; clear HB; have HO_7 := n0_; have HO_8 := n1_; have HO_9 := n2_; have BK177 := n3_; have HB := n4_; clear n0_ n1_ n2_ n3_ n4_; clear hg hw hp_))
                  go_roundg k2
                  case measure => have := HJ12.out; have := HK2.out; omega
                  case rel => exact ⟨(y200), (wrap64 (x13_2 + 1)), (x178001_2), (by first | rfl | (simp; done) | (simp [*]; done)), H', ⟨by have := HJ12.out; have := HK2.out; omega⟩, ⟨by (with_reducible repeat (first | apply Kd.R_alloc | apply Kd.R_drewN | apply Kd.R_drew)); exact Kd.R_mono HO_7.out (fun _ hk => ⟨hk.2, ⟨hk.1.1, hk.1.2⟩⟩)⟩, ⟨by (with_reducible repeat (first | apply Kd.R_alloc | apply Kd.R_drewN | apply Kd.R_drew)); exact HO_8.out⟩, ⟨by (with_reducible repeat (first | apply Kd.R_alloc | apply Kd.R_drewN | apply Kd.R_drew)); exact Kd.R_mono HO_9.out (fun _ hk => ⟨hk.1.1, ⟨hk.2, hk.1.2⟩⟩)⟩, ⟨by (with_reducible repeat (first | refine blk_drewN ?_ _ | refine blk_drew ?_ | refine blk_alloc ?_ _)); exact BK177.out⟩, ⟨by repeat (first | (with_reducible first | exact HB.out | apply below_alloc | apply pw_below_drewN | apply below_drew1 | refine below_set ?_ GE177.out) | exact HB.out)⟩⟩
                · rw [if_neg c49] at H
                  exact absurd H (by simp)
              · rw [if_neg c48] at H
                have c48b0 : decide (x13_2 < (x8_2.length : Int)) = false := decide_eq_false c48
                clear c48
                have H' := Aside0.mk H
                clear H
                obtain ⟨Ao54, co54, eo54⟩ := Kd.R_slice HO_8.out
                subst eo54
                go_wp2
                go_loopg [14] k2 (fun kq v14 w' => ∃ (x9_3 : List (S37)) (x14_3 : Int) (x178000_3 : Int), v14 = .int .i64 x14_3 ∧ Aside0 (drayagelaw06_EpochsCuts.l1 kq l0 t180 x9_3 x14_3 = some r) ∧ Aside0 (kq ≤ k2) ∧ Aside0 (Kd.R k37 37 w' w.heap.size (fun k_ => some k_ ≠ (v187 : Value).ownBlock ∧ k_ ≠ gb177) (.slice Ao16 t180.length co16) t180) ∧ Aside0 (Kd.R k37 37 w' w.heap.size (fun k_ => some k_ ≠ ((.slice Ao16 t180.length co16) : Value).ownBlock ∧ k_ ≠ gb177) v187 x9_3) ∧ Aside0 (w'.heap[gb177]? = some (.cells #[.int .u32 x178000_3, .int .u64 x178001_2] 37 (0, 0))) ∧ Aside0 (Below w.heap.size w w'))
                case atStart => exact ⟨(t186), (0), (a2_0), (by first | rfl | (simp; done) | (simp [*]; done)), H', ⟨Nat.le_refl _⟩, ⟨by (with_reducible repeat (first | apply Kd.R_alloc | apply Kd.R_drewN | apply Kd.R_drew)); exact Kd.R_mono HO_7.out (fun _ hk => ⟨hk.2.1, hk.2.2⟩)⟩, ⟨by (with_reducible repeat (first | apply Kd.R_alloc | apply Kd.R_drewN | apply Kd.R_drew)); exact Kd.R_mono HO_9.out (fun _ hk => ⟨hk.1, hk.2.2⟩)⟩, ⟨by (with_reducible repeat (first | refine blk_drewN ?_ _ | refine blk_drew ?_ | refine blk_alloc ?_ _)); exact BK177.out⟩, ⟨by repeat (first | (with_reducible first | exact HB.out | apply below_alloc | apply pw_below_drewN | apply below_drew1 | refine below_set ?_ GE177.out) | exact HB.out)⟩⟩
                case round =>
                  clear H'
                  try clear c1
                  try clear c2
                  try clear p2
                  try clear c4
                  try clear c5
                  try clear p5
                  try clear q5
                  try clear hx5
                  try clear hf5
                  try clear p6
                  try clear c8
                  try clear c10
                  try clear c11
                  try clear c12
                  try clear c19
                  try clear c22
                  try clear c24
                  try clear c25
                  try clear c26
                  try clear c27
                  try clear c27b0
                  try clear c27b1
                  try clear c47
                  try clear c48
                  try clear c48b0
                  try clear c49
                  try clear c49b0
                  try clear c50
                  try clear p50
                  try clear q50
                  try clear hx50
                  try clear hf50
                  try clear c52
                  try clear hx52
                  try clear hf52
                  try clear hcz18_0
                  try clear hcz18_1
                  try clear hcz20_0
                  try clear hcz20_1
                  try clear hfz18_0
                  try clear hfz18_1
                  try clear hfz20_0
                  try clear hfz20_1
                  try clear hx50_0
                  try clear hx50_1
                  try clear hx52_1
                  try clear p2
                  try clear p50
                  try clear q50
                  obtain ⟨x9_3, x14_3, x178000_3, rfl, HA, HK3, HO_7, HO_9, BK177, HB⟩ := hrel
                  cases gk with
                  | zero => exact absurd HA.out (by simp [drayagelaw06_EpochsCuts.l1])
                  | succ k3 =>
                    have H := HA.out
                    clear HA
                    simp only [drayagelaw06_EpochsCuts.l1] at H
                    by_cases c55 : x14_3 < (x9_3.length : Int)
                    · rw [if_pos c55] at H
                      have c55b0 : decide (x14_3 < (x9_3.length : Int)) = true := decide_eq_true c55
                      clear c55
                      by_cases c56 : 0 ≤ x14_3
                      · rw [if_pos c56] at H
                        have c56b0 : decide (0 ≤ x14_3) = true := decide_eq_true c56
                        clear c56
                        obtain ⟨y201, hy201⟩ : ∃ y_ : List (S37), y_ = (x9_3.set (x14_3 : Int).toNat (⟨9, (rd_T37 x9_3 x14_3).f1⟩ : S37)) := ⟨_, rfl⟩
                        replace H : (drayagelaw06_EpochsCuts.l1 k3 l0 t180 y201 (wrap64 (x14_3 + 1))) = some r := by first | (rw [hy201]; with_reducible exact H) | (have H2_ := (Option.bind_some _ _).symm.trans H; rw [hy201]; with_reducible exact H2_) | (have H2_ := (Option.bind_some _ _).symm.trans H; with_reducible exact H2_) | with_reducible exact H | (rw [hy201]; exact H) | exact H
                        have Ny201 := Aside0.mk hy201
                        clear hy201
                        have H' := Aside0.mk H
                        clear H
                        obtain ⟨Ao58, co58, eo58⟩ := Kd.R_slice HO_9.out
                        subst eo58
                        have p57 : 0 ≤ (x14_3 : Int) := of_decide_eq_true (by first | (with_reducible assumption) | assumption)
                        have q57 : (x14_3 : Int) < ((x9_3.length : Int) : Int) := of_decide_eq_true (by first | (with_reducible assumption) | assumption)
                        obtain ⟨go57, co57, eo57, gb57, gl57, cl57, HG57⟩ := Kd.R_form HO_9.out (by omega)
                        (first | cases eo57 | (injection eo57 with ea_ en_ ec_; (first | subst ea_ | (injection ea_ with ea_; subst ea_)); subst ec_; clear en_))
                        have GB57 := Aside0.mk gb57
                        have GG57 := Aside0.mk HG57
                        clear gb57 gl57 HG57
                        obtain ⟨ce57, hcl57, hM57, hcc57, hfr57⟩ := Kd.R_elem HO_9.out z37 (x14_3 : Int) p57 q57
                        obtain rfl := k37_openM hM57
                        have hx57_0 : wr.cell? ⟨go57, (x14_3 : Int).toNat * 2, none⟩ = some (.int .u32 ((rd_T37 x9_3 x14_3).f0)) := hcc57 0 _ rfl
                        have hx57_1 : wr.cell? ⟨go57, (x14_3 : Int).toNat * 2 + 1, none⟩ = some (.int .u64 ((rd_T37 x9_3 x14_3).f1)) := hcc57 1 _ rfl
                        have hf57_0 : wr.frozen? ⟨go57, (x14_3 : Int).toNat * 2, none⟩ = false := hfr57 0
                        have hf57_1 : wr.frozen? ⟨go57, (x14_3 : Int).toNat * 2 + 1, none⟩ = false := hfr57 1
                        clear hcl57 hcc57 hfr57 hM57
                        replace p57 := eq_true p57
                        replace q57 := eq_true q57
                        have HX59 := Aside0.mk (show Kd.R k37 37 wr w.heap.size (fun k_ => some k_ ≠ (.slice Ao16 t180.length co16 : Value).ownBlock ∧ k_ ≠ gb177) (.slice (some ⟨go57, 0, none⟩) x9_3.length co58) x9_3 from (by (with_reducible repeat (first | apply Kd.R_alloc | apply Kd.R_drewN | apply Kd.R_drew)); exact HO_9.out))
                        obtain ⟨ce59, hcl59, hM59, hcc59, hfr59⟩ := Kd.R_elem HX59.out z37 (x14_3 : Int) (of_decide_eq_true (by first | (with_reducible assumption) | assumption)) (by have h_ : (x14_3 : Int) < ((x9_3.length : Int) : Int) := of_decide_eq_true (by first | (with_reducible assumption) | assumption); first | exact h_ | (have e_ := (Kd.R_reads' HO_9.out).1; omega) | simpa using h_)
                        obtain rfl := k37_openM hM59
                        have HP59 := Kd.R_seg HX59.out (x14_3 : Int) (of_decide_eq_true (by first | (with_reducible assumption) | assumption)) (by have h_ : (x14_3 : Int) < ((x9_3.length : Int) : Int) := of_decide_eq_true (by first | (with_reducible assumption) | assumption); first | exact h_ | (have e_ := (Kd.R_reads' HO_9.out).1; omega) | simpa using h_) (seg := [.int .u32 9]) (j := 0) hcl59 hcc59 (show 1 ≤ 2 from by decide) (x' := (⟨9, (rd_T37 x9_3 x14_3).f1⟩ : S37)) (k37_mkM _ _ _ (⟨9, (rd_T37 x9_3 x14_3).f1⟩ : S37) ) (fun _ hk => hk)
                        have hx59_0 := hcc59 0 _ rfl
                        (try simp only [show (k37).sz = 2 from rfl, Nat.mul_one, Nat.add_zero] at hx59_0)
                        have hf59_0 := hfr59 0
                        (try simp only [show (k37).sz = 2 from rfl, Nat.mul_one, Nat.add_zero] at hf59_0)
                        clear hcl59 hcc59 hfr59 hM59
                        go_wp2_with (first | ((with_reducible refine gate_store (t := 24) (p := 77) rfl ?_); refine store_event (t := 24) (p := 77) (v := ?vo_w60) (w1 := (wr.setCell ⟨go57, (x14_3 : Int).toNat * 2, none⟩ (.int .u32 9))) ?hg ?ho ?hn ?hr ?_; (case ho => rfl); (case hg => rfl); (case hn => rfl); (case hr => first | (go_simp; done) | (go_simp; rfl)); intro w60 hw; have hg : wr.grownBy w60 (some go57) := (by rw [hw]; exact HP59.2); have hp_ : Kd.R k37 37 w60 w.heap.size (fun k_ => some k_ ≠ (.slice Ao16 t180.length co16 : Value).ownBlock ∧ k_ ≠ gb177) (.slice (some ⟨go57, 0, none⟩) x9_3.length co58) y201 := (by rw [hw, Ny201.out]; exact HP59.1); clear HP59; have n0_ := Aside0.mk (Kd.R_after (v := (.slice (some ⟨go57, 0, none⟩) x9_3.length co58)) (v1 := (.slice (some ⟨go57, 0, none⟩) x9_3.length co58)) (ok := (fun k_ => k_ ≠ gb177)) (by (with_reducible repeat (first | apply Kd.R_alloc | apply Kd.R_drewN | apply Kd.R_drew)); exact Kd.R_mono HO_7.out (fun _ hk => ⟨hk.2, hk.1⟩)) hg (.inl rfl)); have n1_ := Aside0.mk (hp_); have n2_ := Aside0.mk (blk_grown (g := gb177) (o := .cells #[.int .u32 x178000_3, .int .u64 x178001_2] 37 (0, 0)) (by (with_reducible repeat (first | refine blk_drewN ?_ _ | refine blk_drew ?_ | refine blk_alloc ?_ _)); exact BK177.out) hg (Kd.R_away HO_9.out (fun _ hk => hk.2))); have n3_ := Aside0.mk ((by rw [hw]; exact below_set (HB.out) GB57.out : Below w.heap.size w w60)); clear HO_7; clear HO_9; clear BK177; clear HB; have HO_7 := n0_; have HO_9 := n1_; have BK177 := n2_; have HB := n3_; clear n0_ n1_ n2_ n3_; clear hg hw hp_))
                        go_roundg k3
                        case measure => have := HJ12.out; have := HK2.out; have := HK3.out; omega
                        case rel => exact ⟨(y201), (wrap64 (x14_3 + 1)), (x178000_3), (by first | rfl | (simp; done) | (simp [*]; done)), H', ⟨by have := HJ12.out; have := HK2.out; have := HK3.out; omega⟩, ⟨by (with_reducible repeat (first | apply Kd.R_alloc | apply Kd.R_drewN | apply Kd.R_drew)); exact Kd.R_mono HO_7.out (fun _ hk => ⟨hk.2, hk.1⟩)⟩, ⟨by (with_reducible repeat (first | apply Kd.R_alloc | apply Kd.R_drewN | apply Kd.R_drew)); exact HO_9.out⟩, ⟨by (with_reducible repeat (first | refine blk_drewN ?_ _ | refine blk_drew ?_ | refine blk_alloc ?_ _)); exact BK177.out⟩, ⟨by repeat (first | (with_reducible first | exact HB.out | apply below_alloc | apply pw_below_drewN | apply below_drew1 | refine below_set ?_ GE177.out) | exact HB.out)⟩⟩
                      · rw [if_neg c56] at H
                        exact absurd H (by simp)
                    · rw [if_neg c55] at H
                      have c55b0 : decide (x14_3 < (x9_3.length : Int)) = false := decide_eq_false c55
                      clear c55
                      replace H := Option.bind_eq_some_iff.mp H
                      obtain ⟨t202, A610, H⟩ := H
                      replace H : (if t202 = true then ((drayagelaw06_known.f k3).bind fun t203 => (some t203)) else (some false)) = some r := H
                      have A61 := Aside0.mk A610
                      clear A610
                      by_cases c62 : t202 = true
                      · subst c62
                        have H1 : ((drayagelaw06_known.f k3).bind fun t203 => (some t203)) = some r := by rw [if_pos rfl] at H; exact H
                        clear H
                        have H := H1
                        clear H1
                        replace H := Option.bind_eq_some_iff.mp H
                        obtain ⟨t203, A630, H⟩ := H
                        replace H : (some t203) = some r := H
                        have A63 := Aside0.mk A630
                        clear A630
                        obtain rfl := Option.some.inj H
                        obtain ⟨Ao64, co64, eo64⟩ := Kd.R_slice HO_9.out
                        subst eo64
                        go_wp2_with (first | ((with_reducible refine gate_callee (f := 19) rfl ?_); refine goesL_ (some 80) rfl rfl Try.func19 (by kernel_rfl) rfl #[.slice Ao16 t180.length co16, .slice A0 l0.length c0] rfl (by (try simp only [List.map_toArray, List.map_cons, List.map_nil]); first | done | rfl | (simp only [List.length_drop, List.length_take]; rfl)) ?_; (with_reducible refine (drayageref06_Same.calls k3 _ _ t180 _ _ l0 true _ ?side1 ?side2 ?side3 ?side4 A61.out).mono ?_); (case side1 => repeat (first | exact (Kd.R_reads' HO_7.out).2.2 | (with_reducible refine Kd.C_alloc ?_ _) | (with_reducible refine Kd.C_drewN ?_ _) | (with_reducible refine Kd.C_drew ?_))); (case side2 => exact (Kd.R_reads' HO_7.out).2.1); (case side3 => repeat (first | exact (Kd.C_below HR0.out HB.out) | (with_reducible refine Kd.C_alloc ?_ _) | (with_reducible refine Kd.C_drewN ?_ _) | (with_reducible refine Kd.C_drew ?_))); (case side4 => exact HC0.out); rintro e w' ⟨rfl, ⟨nd, rfl⟩⟩; refine ⟨_, rfl, ?_⟩) | (go_at_call 11; (with_reducible refine (drayagelaw06_known.calls k3  t203 _ A63.out).mono ?_); rintro e w65 ⟨rfl, hb⟩; have n0_ := Aside0.mk (Kd.R_below (by (with_reducible repeat (first | apply Kd.R_alloc | apply Kd.R_drewN | apply Kd.R_drew)); exact HO_7.out) hb); have n1_ := Aside0.mk (Kd.R_below (by (with_reducible repeat (first | apply Kd.R_alloc | apply Kd.R_drewN | apply Kd.R_drew)); exact HO_9.out) hb); have n2_ := Aside0.mk (blk_below (g := gb177) (o := .cells #[.int .u32 x178000_3, .int .u64 x178001_2] 37 (0, 0)) (by (with_reducible repeat (first | refine blk_drewN ?_ _ | refine blk_drew ?_ | refine blk_alloc ?_ _)); exact BK177.out) hb); have n3_ := Aside0.mk (below_step (by repeat (first | (with_reducible first | exact HB.out | apply below_alloc | apply pw_below_drewN | apply below_drew1 | refine below_set ?_ GE177.out) | exact HB.out)) hb); clear HO_7; clear HO_9; clear BK177; clear HB; have HO_7 := n0_; have HO_9 := n1_; have BK177 := n2_; have HB := n3_; clear n0_ n1_ n2_ n3_; (try clear hb); (try clear hb2); (try clear hk); (try clear hi)))
                        go_ret
                        exact ⟨by first | rfl | (simp [errW_none, errW_some] <;> rfl) | (simp [*, errW_none, errW_some] <;> rfl), by repeat (first | (with_reducible first | exact HB.out | apply below_alloc | apply pw_below_drewN | apply below_drew1 | refine below_set ?_ GE177.out) | exact HB.out)⟩
                      · replace c62 := Bool.eq_false_iff.mpr c62
                        subst c62
                        have H1 : (some false) = some r := by rw [if_neg (show ¬ (false = true) by decide)] at H; exact H
                        clear H
                        have H := H1
                        clear H1
                        obtain rfl := Option.some.inj H
                        obtain ⟨Ao66, co66, eo66⟩ := Kd.R_slice HO_9.out
                        subst eo66
                        go_wp2_with (first | ((with_reducible refine gate_callee (f := 19) rfl ?_); refine goesL_ (some 80) rfl rfl Try.func19 (by kernel_rfl) rfl #[.slice Ao16 t180.length co16, .slice A0 l0.length c0] rfl (by (try simp only [List.map_toArray, List.map_cons, List.map_nil]); first | done | rfl | (simp only [List.length_drop, List.length_take]; rfl)) ?_; (with_reducible refine (drayageref06_Same.calls k3 _ _ t180 _ _ l0 false _ ?side1 ?side2 ?side3 ?side4 A61.out).mono ?_); (case side1 => repeat (first | exact (Kd.R_reads' HO_7.out).2.2 | (with_reducible refine Kd.C_alloc ?_ _) | (with_reducible refine Kd.C_drewN ?_ _) | (with_reducible refine Kd.C_drew ?_))); (case side2 => exact (Kd.R_reads' HO_7.out).2.1); (case side3 => repeat (first | exact (Kd.C_below HR0.out HB.out) | (with_reducible refine Kd.C_alloc ?_ _) | (with_reducible refine Kd.C_drewN ?_ _) | (with_reducible refine Kd.C_drew ?_))); (case side4 => exact HC0.out); rintro e w' ⟨rfl, ⟨nd, rfl⟩⟩; refine ⟨_, rfl, ?_⟩))
                        go_ret
                        exact ⟨by first | rfl | (simp [errW_none, errW_some] <;> rfl) | (simp [*, errW_none, errW_some] <;> rfl), by repeat (first | (with_reducible first | exact HB.out | apply below_alloc | apply pw_below_drewN | apply below_drew1 | refine below_set ?_ GE177.out) | exact HB.out)⟩

end Go.Proofs.Ytdbebophchggfaa.Ep
