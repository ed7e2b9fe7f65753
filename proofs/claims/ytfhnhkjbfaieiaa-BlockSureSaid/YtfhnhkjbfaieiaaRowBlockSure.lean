/- What was flushed, and not written since, is there behind each crash, whatever waits, whatever is kept; and so is the limit: for every input the law returns true. No condition. -/
import Derived.Test.YtfhnhkjbfaieiaaRw
import Derived.Test.YtfhnhkjbfaieiaaL6
namespace Go.Proofs.Ytfhnhkjbfaieiaa.blockSure
open Go.ChangeShapes Go.WideShapes Go.ChangeAt Go.RowKit Go.Joins
open Go.ChangeMaps (open_string shut_string)
set_option linter.unusedVariables false
set_option maxRecDepth 100000 in
theorem lifted (os : Os) (started : os.Started) (H : Type) (enc : TypeId × Value → H) :
    ReturnsInHanded {} Try.checked os 6 .any (Rows.blockSureSpec.pre6 enc Try.prog Try.f6 Rows.blockSureRow.domain false) (Rows.blockSureSpec.post enc Try.prog Try.f6 false true false false) := by
  refine returnsInHanded_of_change_sized (C := Try.checked) Bl.own_knob started (by kernel_rfl) Try.func6
    (ChangeSpec.witness6 (enc := enc) (C := Try.checked) false ⟨#[], #[.slice none 0 0, .slice none 0 0, .int .i64 0, .int .i64 0, .int .i64 0], []⟩ 8 (by kernel_rfl) (by kernel_rfl) (by kernel_rfl) (by kernel_rfl)) ?_
  intro W base args ds gs before hval0 hW hcnd hsz0 _
  have hval : ∀ (j : Nat) t v, Try.f6.params[j]? = some t → args[j]? = some v → Value.okWide Try.prog W .any base t v := hval0
  have hW' := hW
  obtain ⟨p, q, hA0, hV, rfl, hfz, hnd⟩ := hW
  have hA : DataW.TrodAll enc Try.prog W 0 (fun _ => true) true Try.f6.params.toList args.toList ds p := hA0
  have hA1 := hA
  rw [Try.params6] at hA hval
  obtain ⟨v0, vs0, d0, ds0, p0, q0, hargs, rfl, rfl, h0, r0⟩ := trodAll_cons hA
  obtain ⟨v1, vs1, d1, ds1, p1, q1, rfl, rfl, rfl, h1, r1⟩ := trodAll_cons r0
  obtain ⟨v2, vs2, d2, ds2, p2, q2, rfl, rfl, rfl, h2, r2⟩ := trodAll_cons r1
  obtain ⟨v3, vs3, d3, ds3, p3, q3, rfl, rfl, rfl, h3, r3⟩ := trodAll_cons r2
  obtain ⟨v4, vs4, d4, ds4, p4, q4, rfl, rfl, rfl, h4, r4⟩ := trodAll_cons r3
  obtain ⟨rfl, rfl, rfl⟩ := trodAll_nil r4
  obtain rfl : args = #[v0, v1, v2, v3, v4] := by cases args; simp_all
  obtain ⟨rfl, rfl⟩ := trodVars_none hV
  obtain ⟨B, d, f, rfl, hc0, hfl, hf⟩ := Bl.open_bytes (hval 0 33 v0 rfl rfl) h0
  obtain ⟨A, c, l, rfl, hc1, hll, hl⟩ := Bl.open_acts (hval 1 22 v1 rfl rfl) h1
  obtain ⟨x, rfl, hd2, hp2, wx⟩ := open_int Try.underlying3 (hval 2 3 v2 rfl rfl) h2
  have bx : -9223372036854775808 ≤ x ∧ x ≤ 9223372036854775807 := by have := bounds_i64 wx; omega
  obtain ⟨y, rfl, hd3, hp3, wy⟩ := open_int Try.underlying3 (hval 3 3 v3 rfl rfl) h3
  have by1 : -9223372036854775808 ≤ y ∧ y ≤ 9223372036854775807 := by have := bounds_i64 wy; omega
  obtain ⟨z, rfl, hd4, hp4, wz⟩ := open_int Try.underlying3 (hval 4 3 v4 rfl rfl) h4
  have bz : -9223372036854775808 ≤ z ∧ z ≤ 9223372036854775807 := by have := bounds_i64 wz; omega
  clear hA0 hval0 hsz0
  refine (Bl.sure_a B d f A c l x y z W hf hfl hl hll bx by1 bz).mono fun e0 W' ⟨he, bel⟩ => ?_
  subst he
  exact ⟨_, rfl, _, _, _, [], _, [], hW', trodAll_mk1 (shut_bool Try.underlying4 _), Bl.below_trodAll Bl.laid_out bel _ _ _ _ (by kernel_rfl) hA1 (fun x hx => by have := hW'.lt x (by simpa using hx); simpa using this), rfl, bel.frame _, fun h => by cases h⟩
theorem over : Rows.blockSureRow.holds Try.pinned (OpenSpec.ofChange Rows.blockSureSpec) :=
  OpenClaim.holds_of_wide 6 Try.f6 rfl rfl rfl rfl rfl rfl rfl ⟨rfl, rfl, rfl, rfl, rfl⟩ rfl rfl rfl rfl rfl (by kernel_rfl) Try.func6 (by kernel_rfl)
    (of_decide_eq_true (by kernel_rfl)) (by unfold Func.isWrapper; first | (rw [if_pos (by decide +kernel)]; kernel_rfl) | (rw [if_neg (by decide +kernel)]; exact ⟨rfl, rfl⟩))
    (fun os started H enc _ => lifted os started H enc)
theorem proved : Rows.BlockSureSaid := over
#print axioms proved
end Go.Proofs.Ytfhnhkjbfaieiaa.blockSure
namespace Go.Proofs.Ytfhnhkjbfaieiaa
/-- The row, under a short name, for the claim. -/
theorem blockSure_holds : Rows.BlockSureSaid := blockSure.proved
end Go.Proofs.Ytfhnhkjbfaieiaa
