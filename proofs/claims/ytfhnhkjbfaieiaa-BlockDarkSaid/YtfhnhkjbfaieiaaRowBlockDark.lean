/- Of any acts just as many go well as were let, the next one, and all behind it, do not, and change nothing; behind a crash all go well again: for every input the law returns true. No condition. -/
import Derived.Test.YtfhnhkjbfaieiaaRw
import Derived.Test.YtfhnhkjbfaieiaaL5
namespace Go.Proofs.Ytfhnhkjbfaieiaa.blockDark
open Go.ChangeShapes Go.WideShapes Go.ChangeAt Go.RowKit Go.Joins
open Go.ChangeMaps (open_string shut_string)
set_option linter.unusedVariables false
set_option maxRecDepth 100000 in
theorem lifted (os : Os) (started : os.Started) (H : Type) (enc : TypeId × Value → H) :
    ReturnsInHanded {} Try.checked os 5 .any (Rows.blockDarkSpec.pre6 enc Try.prog Try.f5 Rows.blockDarkRow.domain false) (Rows.blockDarkSpec.post enc Try.prog Try.f5 false true false false) := by
  refine returnsInHanded_of_change_sized (C := Try.checked) Bl.own_knob started (by kernel_rfl) Try.func5
    (ChangeSpec.witness6 (enc := enc) (C := Try.checked) false ⟨#[], #[.int .i64 0, .slice none 0 0], []⟩ 8 (by kernel_rfl) (by kernel_rfl) (by kernel_rfl) (by kernel_rfl)) ?_
  intro W base args ds gs before hval0 hW hcnd hsz0 _
  have hval : ∀ (j : Nat) t v, Try.f5.params[j]? = some t → args[j]? = some v → Value.okWide Try.prog W .any base t v := hval0
  have hW' := hW
  obtain ⟨p, q, hA0, hV, rfl, hfz, hnd⟩ := hW
  have hA : DataW.TrodAll enc Try.prog W 0 (fun _ => true) true Try.f5.params.toList args.toList ds p := hA0
  have hA1 := hA
  rw [Try.params5] at hA hval
  obtain ⟨v0, vs0, d0, ds0, p0, q0, hargs, rfl, rfl, h0, r0⟩ := trodAll_cons hA
  obtain ⟨v1, vs1, d1, ds1, p1, q1, rfl, rfl, rfl, h1, r1⟩ := trodAll_cons r0
  obtain ⟨rfl, rfl, rfl⟩ := trodAll_nil r1
  obtain rfl : args = #[v0, v1] := by cases args; simp_all
  obtain ⟨rfl, rfl⟩ := trodVars_none hV
  obtain ⟨x, rfl, hd0, hp0, wx⟩ := open_int Try.underlying3 (hval 0 3 v0 rfl rfl) h0
  have bx : -9223372036854775808 ≤ x ∧ x ≤ 9223372036854775807 := by have := bounds_i64 wx; omega
  obtain ⟨A, c, l, rfl, hc1, hll, hl⟩ := Bl.open_acts (hval 1 22 v1 rfl rfl) h1
  clear hA0 hval0 hsz0
  refine (Bl.dark_law A c l x W hl hll).mono fun e0 W' ⟨he, bel⟩ => ?_
  subst he
  exact ⟨_, rfl, _, _, _, [], _, [], hW', trodAll_mk1 (shut_bool Try.underlying4 _), Bl.below_trodAll Bl.laid_out bel _ _ _ _ (by kernel_rfl) hA1 (fun x hx => by have := hW'.lt x (by simpa using hx); simpa using this), rfl, bel.frame _, fun h => by cases h⟩
theorem over : Rows.blockDarkRow.holds Try.pinned (OpenSpec.ofChange Rows.blockDarkSpec) :=
  OpenClaim.holds_of_wide 5 Try.f5 rfl rfl rfl rfl rfl rfl rfl ⟨rfl, rfl, rfl, rfl, rfl⟩ rfl rfl rfl rfl rfl (by kernel_rfl) Try.func5 (by kernel_rfl)
    (of_decide_eq_true (by kernel_rfl)) (by unfold Func.isWrapper; first | (rw [if_pos (by decide +kernel)]; kernel_rfl) | (rw [if_neg (by decide +kernel)]; exact ⟨rfl, rfl⟩))
    (fun os started H enc _ => lifted os started H enc)
theorem proved : Rows.BlockDarkSaid := over
#print axioms proved
end Go.Proofs.Ytfhnhkjbfaieiaa.blockDark
namespace Go.Proofs.Ytfhnhkjbfaieiaa
/-- The row, under a short name, for the claim. -/
theorem blockDark_holds : Rows.BlockDarkSaid := blockDark.proved
end Go.Proofs.Ytfhnhkjbfaieiaa
