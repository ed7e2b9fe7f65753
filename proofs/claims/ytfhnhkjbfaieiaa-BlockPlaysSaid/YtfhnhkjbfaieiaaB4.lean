/- What a block has (Read). Condition: the receiver is a disk in memory, or nil. -/
import Derived.Test.YtfhnhkjbfaieiaaB3
namespace Go.Proofs.Ytfhnhkjbfaieiaa.Bl
open Go.RowKit
set_option linter.unusedVariables false
set_option linter.unusedSimpArgs false
theorem size64 : (Try.prog.info? 64).map (·.size) = some 64 := by kernel_rfl
theorem there_block {W : World} {g t : Nat} {cs : Array Value} (h : W.heap[g]? = some (.cells cs t (0, 0))) (o k : Nat) (hk : o + k ≤ cs.size) : W.there g o k := fun j hj => by
  refine ⟨?_, blk_frozen h _⟩
  rw [blk_cell h, Array.getElem?_eq_getElem (by omega)]
  rfl
theorem putAt_whole (xs vs : List Value) (h : vs.length = xs.length) : putAt xs 0 vs = vs := by
  apply List.ext_getElem?
  intro j
  rw [putAt_get]
  by_cases hj : j < vs.length
  · rw [if_pos (by omega)]; rfl
  · rw [if_neg (by omega), List.getElem?_eq_none (by omega), List.getElem?_eq_none (by omega)]
theorem now_range {W : World} {own : Nat → Prop} {b n g1 c1 g2 c2 : Nat} {s : St} {v : Value} (h : DiskAt W own b n s g1 c1 g2 c2 v) (hok : s.Ok n) (i : Nat) (hi : i < s.now.length) : W.rangeAt g1 (i * 64) (bv s.now[i]) :=
  own_range h.now _ _ (fun j u hu => by
    have hl := hok.b1.1 _ (List.getElem_mem hi)
    have hj : j < 64 := by have := (List.getElem?_eq_some_iff.1 hu).1; rw [bv_len, hl] at this; exact this
    rw [flat_at hok.b1.1 i j hj, List.getElem?_eq_getElem hi]
    exact hu)
theorem read_dark {W : World} {own : Nat → Prop} {b n : Nat} {s : St} (h : Disk W own b n s) (k : Int) (hd : s.dark = true) :
    Calls Try.prog 13 #[.pointer (some ⟨b, 0, none⟩), .int .i64 k] W fun e W' => e = .returned (.tuple #[.slice none 0 0, .int .i64 6]) ∧ W = W' := by
  obtain ⟨hok, g1, c1, g2, c2, v, h⟩ := h
  obtain ⟨_, _, _, _, _, c⟩ := h.cells
  rw [hd] at c
  clear h hok
  go_enter Try.func13, Try.ntmps13
  go_wp2_with fail
  go_ret2
  exact ⟨rfl, rfl⟩
theorem read_nil (W : World) (k : Int) : Calls Try.prog 13 #[.pointer none, .int .i64 k] W fun e W' => e = .returned (.tuple #[.slice none 0 0, .int .i64 1]) ∧ W = W' := by
  go_enter Try.func13, Try.ntmps13
  go_wp2_with fail
  go_ret2
  exact ⟨rfl, rfl⟩
theorem read_out {W : World} {own : Nat → Prop} {b n : Nat} {s : St} (h : Disk W own b n s) (k : Int) (hd : s.dark = false) (hk : k < 0 ∨ n ≤ k) :
    Calls Try.prog 13 #[.pointer (some ⟨b, 0, none⟩), .int .i64 k] W fun e W' => e = .returned (.tuple #[.slice none 0 0, .int .i64 150]) ∧ W = W' := by
  obtain ⟨hok, g1, c1, g2, c2, v, h⟩ := h
  obtain ⟨c0, _, _, _, _, c⟩ := h.cells
  rw [hd] at c
  clear h hok hd
  by_cases h0 : k < 0
  · go_enter Try.func13, Try.ntmps13
    go_wp2_with fail
    go_ret2
    exact ⟨rfl, rfl⟩
  · have h1 : (n : Int) ≤ k := by omega
    go_enter Try.func13, Try.ntmps13
    go_wp2_with fail
    go_ret2
    exact ⟨rfl, rfl⟩
theorem read_at {W : World} {own : Nat → Prop} {b n : Nat} {s : St} (h : Disk W own b n s) (k : Nat) (hd : s.dark = false) (hk : k < s.now.length) :
    Calls Try.prog 13 #[.pointer (some ⟨b, 0, none⟩), .int .i64 (k : Int)] W fun e W' => ∃ g, e = .returned (.tuple #[.slice (some ⟨g, 0, none⟩) 64 64, .int .i64 0]) ∧ W'.heap[g]? = some (.cells (bv s.now[k]).toArray 64 (0, 0)) ∧ W.heap.size ≤ g ∧ Below W.heap.size W W' := by
  obtain ⟨hok, g1, c1, g2, c2, v, h⟩ := h
  obtain ⟨c0, _, _, _, _, c⟩ := h.cells
  rw [hd] at c
  have hr := As.mk (now_range h hok k hk)
  have hl : As ((bv s.now[k]).length = 64) := ⟨by rw [bv_len]; exact hok.b1.1 _ (List.getElem_mem hk)⟩
  have hk' : (k : Int) < n := by have := hok.now; omega
  have hn : (n : Int) ≤ 1024 := by have := hok.n2; omega
  generalize s.now[k] = x at *
  clear h hok hd hk
  have h0 : (0 : Int) ≤ (k : Int) := by omega
  go_enter Try.func13, Try.ntmps13
  go_wp2_with (first | (with_reducible refine wpList_load_mid rfl 64 (.tmp 32) rfl g1 (k * 64) rfl (bv x) _ hr.out Try.underlying64 rfl (by rw [hl.out]; exact size64) ?_) | (refine wpList_store_mid rfl 64 (.tmp 6) (.tmp 33) rfl W.heap.size 0 (bv x).toArray rfl rfl (there_block (blk_new W _) _ _ (by rw [List.size_toArray, hl.out]; exact Nat.le_refl _)) (by rw [List.size_toArray, hl.out]; exact size64) (all_oneCell_toArray (bv_one x)) ?_))
  go_ret2
  refine ⟨_, rfl, ?_, Nat.le_refl _, ?_⟩
  · rw [setCells_same (bv x) W.heap.size 0 _ _ (blk_new W _), putAt_whole _ _ (by rw [hl.out]; rfl)]
  · exact ((Below.refl _ _).alloc (Nat.le_refl _) _).trans (setCells_below _ (Nat.le_refl _))
end Go.Proofs.Ytfhnhkjbfaieiaa.Bl
