/- Whoever lent bytes writes over them (Spoil): nothing but their own block turns. Condition: the bytes are there, and may be written. -/
import Derived.Test.YtfhnhkjbfaieiaaB8
namespace Go.Proofs.Ytfhnhkjbfaieiaa.Bl
open Go.RowKit
set_option linter.unusedVariables false
set_option linter.unusedSimpArgs false
/-- Bytes that are there, and may be written. -/
def Wide (w : World) (g o n : Nat) : Prop := g < w.heap.size ∧ ∀ j, j < n → (∃ z, w.cell? ⟨g, o + j, none⟩ = some (.int .u8 z)) ∧ w.frozen? ⟨g, o + j, none⟩ = false
theorem Wide.set {w : World} {g o n : Nat} (h : Wide w g o n) (i : Nat) (z : Int) : Wide (w.setCell ⟨g, o + i, none⟩ (.int .u8 z)) g o n := by
  refine ⟨by simpa [World.setCell] using h.1, fun j hj => ?_⟩
  obtain ⟨⟨y, hy⟩, hf⟩ := h.2 j hj
  refine ⟨?_, by rw [World.frozen?_setCell]; exact hf⟩
  by_cases e : i = j
  · subst e; exact ⟨z, World.cell?_setCell_same _ _ _ hy⟩
  · exact ⟨y, by rw [World.cell?_setCell_other _ _ _ _ (fun e2 => e (by injection e2; omega))]; exact hy⟩
theorem spoil_a (g o n c : Nat) (W : World) (h : Wide W g o n) (hn : n ≤ 9223372036854775807) :
    Calls Try.prog 25 #[.slice (some ⟨g, o, none⟩) n c] W fun e W' => e = .returned (.tuple #[]) ∧ Frame (fun k => k = g) W W' := by
  have H := As.mk h
  clear h
  go_enter Try.func25, Try.ntmps25
  go_wp2_with fail
  go_loopg [2] n (fun gk v2 w' => ∃ i : Nat, v2 = .int .i64 i ∧ As (gk = n - i) ∧ As (i ≤ n) ∧ As (Wide w' g o n) ∧ As (Frame (fun k => k = g) W w'))
  case atStart => exact ⟨0, rfl, ⟨rfl⟩, ⟨Nat.zero_le _⟩, H, ⟨Frame.refl _ _⟩⟩
  case round =>
    obtain ⟨i, rfl, HK, HI, HW, HF⟩ := hrel
    by_cases hi : i < n
    · obtain ⟨⟨y, hy⟩, hf⟩ := HW.out.2 i hi
      go_wp2_with fail
      go_roundg (n - (i + 1))
      case measure => have := HK.out; omega
      case rel => exact ⟨i + 1, by go_num, ⟨rfl⟩, ⟨hi⟩, ⟨HW.out.set i _⟩, ⟨HF.out.setCell (p := ⟨g, o + i, none⟩) (.inl rfl) _⟩⟩
    · obtain rfl : i = n := by have := HI.out; omega
      go_wp2_with fail
      go_end0
      exact ⟨rfl, HF.out⟩
theorem spoil_nil (A : Option Addr) (c : Nat) (W : World) : Calls Try.prog 25 #[.slice A 0 c] W fun e W' => e = .returned (.tuple #[]) ∧ W = W' := by
  go_enter Try.func25, Try.ntmps25
  go_wp2_with fail
  refine wp_loop_rounds 1 ?_
  rw [rounds_succ]
  go_wp2_with fail
  go_end0
  exact ⟨rfl, rfl⟩
theorem wide_block {W : World} {g t : Nat} {y : List Int} (h : W.heap[g]? = some (.cells (bv y).toArray t (0, 0))) : Wide W g 0 y.length := by
  refine ⟨blk_lt h, fun j hj => ⟨⟨y[j], ?_⟩, blk_frozen h _⟩⟩
  rw [blk_cell h, List.getElem?_toArray, Nat.zero_add, bv_get, List.getElem?_eq_getElem hj]
  rfl
end Go.Proofs.Ytfhnhkjbfaieiaa.Bl
