/- A block has what was written to it last, whether that was flushed or not; other blocks have what they had: for every input the law returns true. No condition. -/
import Derived.Test.YtfhnhkjbfaieiaaRw
import Derived.Test.YtfhnhkjbfaieiaaL3
namespace Go.Proofs.Ytfhnhkjbfaieiaa.blockReads
open Go.ChangeShapes Go.WideShapes Go.ChangeAt Go.RowKit Go.Joins
open Go.ChangeMaps (open_string shut_string)
set_option linter.unusedVariables false
set_option maxRecDepth 100000 in
theorem lifted (os : Os) (started : os.Started) (H : Type) (enc : TypeId × Value → H) :
    ReturnsInHanded {} Try.checked os 3 .any (Rows.blockReadsSpec.pre6 enc Try.prog Try.f3 Rows.blockReadsRow.domain false) (Rows.blockReadsSpec.post enc Try.prog Try.f3 false true false false) := by
  refine returnsInHanded_of_change_sized (C := Try.checked) Bl.own_knob started (by kernel_rfl) Try.func3
    (ChangeSpec.witness6 (enc := enc) (C := Try.checked) false ⟨#[], #[.slice none 0 0], []⟩ 8 (by kernel_rfl) (by kernel_rfl) (by kernel_rfl) (by kernel_rfl)) ?_
  intro W base args ds gs before hval0 hW hcnd hsz0 _
  have hval : ∀ (j : Nat) t v, Try.f3.params[j]? = some t → args[j]? = some v → Value.okWide Try.prog W .any base t v := hval0
  have hW' := hW
  obtain ⟨p, q, hA0, hV, rfl, hfz, hnd⟩ := hW
  have hA : DataW.TrodAll enc Try.prog W 0 (fun _ => true) true Try.f3.params.toList args.toList ds p := hA0
  have hA1 := hA
  rw [Try.params3] at hA hval
  obtain ⟨v0, vs0, d0, ds0, p0, q0, hargs, rfl, rfl, h0, r0⟩ := trodAll_cons hA
  obtain ⟨rfl, rfl, rfl⟩ := trodAll_nil r0
  obtain rfl : args = #[v0] := by cases args; simp_all
  obtain ⟨rfl, rfl⟩ := trodVars_none hV
  obtain ⟨A, c, l, rfl, hc0, hll, hl⟩ := Bl.open_acts (hval 0 22 v0 rfl rfl) h0
  clear hA0 hval0 hsz0
  refine (Bl.reads_a A c l W hl hll).mono fun e0 W' ⟨he, bel⟩ => ?_
  subst he
  exact ⟨_, rfl, _, _, _, [], _, [], hW', trodAll_mk1 (shut_bool Try.underlying4 _), Bl.below_trodAll Bl.laid_out bel _ _ _ _ (by kernel_rfl) hA1 (fun x hx => by have := hW'.lt x (by simpa using hx); simpa using this), rfl, bel.frame _, fun h => by cases h⟩
theorem over : Rows.blockReadsRow.holds Try.pinned (OpenSpec.ofChange Rows.blockReadsSpec) :=
  OpenClaim.holds_of_wide 3 Try.f3 rfl rfl rfl rfl rfl rfl rfl ⟨rfl, rfl, rfl, rfl, rfl⟩ rfl rfl rfl rfl rfl (by kernel_rfl) Try.func3 (by kernel_rfl)
    (of_decide_eq_true (by kernel_rfl)) (by unfold Func.isWrapper; first | (rw [if_pos (by decide +kernel)]; kernel_rfl) | (rw [if_neg (by decide +kernel)]; exact ⟨rfl, rfl⟩))
    (fun os started H enc _ => lifted os started H enc)
theorem proved : Rows.BlockReadsSaid := over
#print axioms proved
end Go.Proofs.Ytfhnhkjbfaieiaa.blockReads
namespace Go.Proofs.Ytfhnhkjbfaieiaa
/-- The row, under a short name, for the claim. -/
theorem blockReads_holds : Rows.BlockReadsSaid := blockReads.proved
end Go.Proofs.Ytfhnhkjbfaieiaa
