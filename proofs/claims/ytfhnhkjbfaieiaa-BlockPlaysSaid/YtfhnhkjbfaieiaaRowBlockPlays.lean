/- Whatever is written, flushed and read, whatever limits there are, whenever the power goes, and whatever is kept: each answer, what waits, whether it is lit, and all blocks, are what the chapter says: for every input the law returns true. No condition. -/
import Derived.Test.YtfhnhkjbfaieiaaRw
import Derived.Test.YtfhnhkjbfaieiaaL7
namespace Go.Proofs.Ytfhnhkjbfaieiaa.blockPlays
open Go.ChangeShapes Go.WideShapes Go.ChangeAt Go.RowKit Go.Joins
open Go.ChangeMaps (open_string shut_string)
set_option linter.unusedVariables false
set_option maxRecDepth 100000 in
theorem lifted (os : Os) (started : os.Started) (H : Type) (enc : TypeId × Value → H) :
    ReturnsInHanded {} Try.checked os 7 .any (Rows.blockPlaysSpec.pre6 enc Try.prog Try.f7 Rows.blockPlaysRow.domain false) (Rows.blockPlaysSpec.post enc Try.prog Try.f7 false true false false) := by
  refine returnsInHanded_of_change_sized (C := Try.checked) Bl.own_knob started (by kernel_rfl) Try.func7
    (ChangeSpec.witness6 (enc := enc) (C := Try.checked) false ⟨#[], #[.int .i64 0, .slice none 0 0], []⟩ 8 (by kernel_rfl) (by kernel_rfl) (by kernel_rfl) (by kernel_rfl)) ?_
  intro W base args ds gs before hval0 hW hcnd hsz0 _
  have hval : ∀ (j : Nat) t v, Try.f7.params[j]? = some t → args[j]? = some v → Value.okWide Try.prog W .any base t v := hval0
  have hW' := hW
  obtain ⟨p, q, hA0, hV, rfl, hfz, hnd⟩ := hW
  have hA : DataW.TrodAll enc Try.prog W 0 (fun _ => true) true Try.f7.params.toList args.toList ds p := hA0
  have hA1 := hA
  rw [Try.params7] at hA hval
  obtain ⟨v0, vs0, d0, ds0, p0, q0, hargs, rfl, rfl, h0, r0⟩ := trodAll_cons hA
  obtain ⟨v1, vs1, d1, ds1, p1, q1, rfl, rfl, rfl, h1, r1⟩ := trodAll_cons r0
  obtain ⟨rfl, rfl, rfl⟩ := trodAll_nil r1
  obtain rfl : args = #[v0, v1] := by cases args; simp_all
  obtain ⟨rfl, rfl⟩ := trodVars_none hV
  obtain ⟨x, rfl, hd0, hp0, wx⟩ := open_int Try.underlying3 (hval 0 3 v0 rfl rfl) h0
  have bx : -9223372036854775808 ≤ x ∧ x ≤ 9223372036854775807 := by have := bounds_i64 wx; omega
  obtain ⟨A, c, l, rfl, hc1, hll, hl⟩ := Bl.open_acts (hval 1 22 v1 rfl rfl) h1
  clear hA0 hval0 hsz0
  refine (Bl.plays_a A c l x W hl hll bx).mono fun e0 W' ⟨he, bel⟩ => ?_
  subst he
  exact ⟨_, rfl, _, _, _, [], _, [], hW', trodAll_mk1 (shut_bool Try.underlying4 _), Bl.below_trodAll Bl.laid_out bel _ _ _ _ (by kernel_rfl) hA1 (fun x hx => by have := hW'.lt x (by simpa using hx); simpa using this), rfl, bel.frame _, fun h => by cases h⟩
theorem over : Rows.blockPlaysRow.holds Try.pinned (OpenSpec.ofChange Rows.blockPlaysSpec) :=
  OpenClaim.holds_of_wide 7 Try.f7 rfl rfl rfl rfl rfl rfl rfl ⟨rfl, rfl, rfl, rfl, rfl⟩ rfl rfl rfl rfl rfl (by kernel_rfl) Try.func7 (by kernel_rfl)
    (of_decide_eq_true (by kernel_rfl)) (by unfold Func.isWrapper; first | (rw [if_pos (by decide +kernel)]; kernel_rfl) | (rw [if_neg (by decide +kernel)]; exact ⟨rfl, rfl⟩))
    (fun os started H enc _ => lifted os started H enc)
theorem proved : Rows.BlockPlaysSaid := over
#print axioms proved
end Go.Proofs.Ytfhnhkjbfaieiaa.blockPlays
namespace Go.Proofs.Ytfhnhkjbfaieiaa
/-- The row, under a short name, for the claim. -/
theorem blockPlays_holds : Rows.BlockPlaysSaid := blockPlays.proved
end Go.Proofs.Ytfhnhkjbfaieiaa
