/- A disk that is not there answers so; two of them know nothing of one another; what is read may be written over: for every input the law returns true. No condition. -/
import Derived.Test.YtfhnhkjbfaieiaaRw
import Derived.Test.YtfhnhkjbfaieiaaL8
namespace Go.Proofs.Ytfhnhkjbfaieiaa.blockNil
open Go.ChangeShapes Go.WideShapes Go.ChangeAt Go.RowKit Go.Joins
open Go.ChangeMaps (open_string shut_string)
set_option linter.unusedVariables false
set_option maxRecDepth 100000 in
theorem lifted (os : Os) (started : os.Started) (H : Type) (enc : TypeId × Value → H) :
    ReturnsInHanded {} Try.checked os 8 .any (Rows.blockNilSpec.pre6 enc Try.prog Try.f8 Rows.blockNilRow.domain false) (Rows.blockNilSpec.post enc Try.prog Try.f8 false true false false) := by
  refine returnsInHanded_of_change_sized (C := Try.checked) Bl.own_knob started (by kernel_rfl) Try.func8
    (ChangeSpec.witness6 (enc := enc) (C := Try.checked) false ⟨#[], #[.agg #[.int .i64 0, .int .i64 0, .int .i64 0, .int .u8 0]], []⟩ 8 (by kernel_rfl) (by kernel_rfl) (by kernel_rfl) (by kernel_rfl)) ?_
  intro W base args ds gs before hval0 hW hcnd hsz0 _
  have hval : ∀ (j : Nat) t v, Try.f8.params[j]? = some t → args[j]? = some v → Value.okWide Try.prog W .any base t v := hval0
  have hW' := hW
  obtain ⟨p, q, hA0, hV, rfl, hfz, hnd⟩ := hW
  have hA : DataW.TrodAll enc Try.prog W 0 (fun _ => true) true Try.f8.params.toList args.toList ds p := hA0
  have hA1 := hA
  rw [Try.params8] at hA hval
  obtain ⟨v0, vs0, d0, ds0, p0, q0, hargs, rfl, rfl, h0, r0⟩ := trodAll_cons hA
  obtain ⟨rfl, rfl, rfl⟩ := trodAll_nil r0
  obtain rfl : args = #[v0] := by cases args; simp_all
  obtain ⟨rfl, rfl⟩ := trodVars_none hV
  obtain ⟨c0, c1, c2, c3, y0, y1, y2, y3, m0, rfl, hd0, hp0, hy0, hy1, hy2, hy3⟩ := open_agg4 Try.underlying30 (by kernel_rfl) Bl.cells30 (hval 0 30 v0 rfl rfl) h0
  obtain ⟨a0, e0, hx0, wa0⟩ := DataW.trod_int Try.underlying3 hy0
  simp only [List.cons.injEq, and_true] at e0
  subst e0
  obtain ⟨a1, e1, hx1, wa1⟩ := DataW.trod_int Try.underlying3 hy1
  simp only [List.cons.injEq, and_true] at e1
  subst e1
  obtain ⟨a2, e2, hx2, wa2⟩ := DataW.trod_int Try.underlying3 hy2
  simp only [List.cons.injEq, and_true] at e2
  subst e2
  obtain ⟨a3, e3, hx3, wa3⟩ := DataW.trod_int Try.underlying5 hy3
  simp only [List.cons.injEq, and_true] at e3
  subst e3
  have b3 : 0 ≤ a3 ∧ a3 < 256 := by have := bounds_u8 wa3; omega
  clear hA0 hval0 hsz0
  refine (Bl.nil_a a0 a1 a2 a3 W b3).mono fun e0 W' ⟨he, bel⟩ => ?_
  subst he
  exact ⟨_, rfl, _, _, _, [], _, [], hW', trodAll_mk1 (shut_bool Try.underlying4 _), Bl.below_trodAll Bl.laid_out bel _ _ _ _ (by kernel_rfl) hA1 (fun x hx => by have := hW'.lt x (by simpa using hx); simpa using this), rfl, bel.frame _, fun h => by cases h⟩
theorem over : Rows.blockNilRow.holds Try.pinned (OpenSpec.ofChange Rows.blockNilSpec) :=
  OpenClaim.holds_of_wide 8 Try.f8 rfl rfl rfl rfl rfl rfl rfl ⟨rfl, rfl, rfl, rfl, rfl⟩ rfl rfl rfl rfl rfl (by kernel_rfl) Try.func8 (by kernel_rfl)
    (of_decide_eq_true (by kernel_rfl)) (by unfold Func.isWrapper; first | (rw [if_pos (by decide +kernel)]; kernel_rfl) | (rw [if_neg (by decide +kernel)]; exact ⟨rfl, rfl⟩))
    (fun os started H enc _ => lifted os started H enc)
theorem proved : Rows.BlockNilSaid := over
#print axioms proved
end Go.Proofs.Ytfhnhkjbfaieiaa.blockNil
namespace Go.Proofs.Ytfhnhkjbfaieiaa
/-- The row, under a short name, for the claim. -/
theorem blockNil_holds : Rows.BlockNilSaid := blockNil.proved
end Go.Proofs.Ytfhnhkjbfaieiaa
