/- A new disk: noughts. Condition: none. -/
import Derived.Test.YtfhnhkjbfaieiaaB1
import Derived.RegionTactic
import Derived.BigRegion
namespace Go.Proofs.Ytfhnhkjbfaieiaa.Bl
open Go.RowKit
set_option linter.unusedVariables false
set_option linter.unusedSimpArgs false
def zero64 : List Int := List.replicate 64 0
theorem zero64_len : zero64.length = 64 := by simp [zero64]
/-- A new slice's cells. -/
def zs (n : Nat) : Array Value := (flat (List.replicate n zero64)).toArray
theorem info64 : (Try.prog.info? 64).map (fun i => (i.zero, i.size, i.bytes)) = some (some (.agg (bv zero64).toArray), 64, 64) := by kernel_rfl
theorem all64_rep (n : Nat) : All64 (List.replicate n zero64) := fun x hx => by
  rw [(List.mem_replicate.1 hx).2, zero64_len]
theorem zero_ok : ByteOk zero64 := fun y hy => by rw [(List.mem_replicate.1 hy).2]; omega
theorem allb_rep (n : Nat) : Allb (List.replicate n zero64) := fun x hx => by
  rw [(List.mem_replicate.1 hx).2]; exact zero_ok
theorem zs_made (n : Nat) : madeCells (Value.agg (bv zero64).toArray).cells (n * 64) = zs n := by
  apply Array.ext'
  apply List.ext_getElem?
  intro j
  show _ = (flat (List.replicate n zero64))[j]?
  rw [flat_get (all64_rep n)]
  have hc : (Value.agg (bv zero64).toArray).cells = Array.replicate 64 (Value.int .u8 0) := by rfl
  rw [hc]
  by_cases hj : j < n * 64
  · have h1 : j / 64 < n := by omega
    have h2 : j % 64 < 64 := by omega
    rw [List.getElem?_replicate, if_pos h1]
    have h3 : (bv zero64)[j % 64]? = some (.int .u8 0) := by rw [bv_get, zero64, List.getElem?_replicate, if_pos h2]; rfl
    simp only [Option.bind_some]
    rw [h3]
    simp [madeCells, hj]
    rw [getElem!_pos _ _ (by simp; omega)]
    simp
  · have h1 : ¬ j / 64 < n := by omega
    rw [List.getElem?_replicate, if_neg h1]
    simp [madeCells]
    omega
theorem mk58 (n : Nat) (h : n ≤ 1024) (w : World) : (Instr.makeSlice 58 (.int .i64 (n : Int)) (.int .i64 (n : Int))).run Try.prog w = .ok (.slice (some ⟨w.heap.size, 0, none⟩) n n) (w.alloc (.cells (zs n) 64 (0, 0))) := by
  obtain ⟨i, hi, hz, hs, hb⟩ := info_parts info64
  have hr := run_make (P := Try.prog) w 58 64 i _ Try.underlying58 hi hz .i64 .i64 n n (by omega) (Int.le_refl _) (by rw [hb]; omega) (by omega)
  simp only [Int.toNat_natCast] at hr
  rw [hr, hs, zs_made]
def newS (n : Nat) : St := ⟨List.replicate n zero64, List.replicate n zero64, [], n, -1, false⟩
theorem newS_ok (n : Nat) (h1 : 1 ≤ n) (h2 : n ≤ 1024) : (newS n).Ok n :=
  ⟨h1, h2, List.length_replicate, List.length_replicate, ⟨all64_rep n, allb_rep n⟩, ⟨all64_rep n, allb_rep n⟩, (fun x hx => by cases hx), (by simp [newS]), (by simp [newS])⟩
theorem new_no (k : Int) (h : k < 1 ∨ 1024 < k) (W : World) : Calls Try.prog 9 #[.int .i64 k] W fun e W' => e = .returned (.tuple #[.pointer none, .int .i64 2]) ∧ W = W' := by
  rcases h with h | h
  · go_enter Try.func9, Try.ntmps9
    go_wp2_with fail
    go_ret2
    exact ⟨rfl, rfl⟩
  · have h' : ¬ k < 1 := by omega
    go_enter Try.func9, Try.ntmps9
    go_wp2_with fail
    go_ret2
    exact ⟨rfl, rfl⟩
theorem zs_owned {W : World} {g n : Nat} (h : W.heap[g]? = some (.cells (zs n) 64 (0, 0))) (hn : n ≤ 1024) : W.ownsRow 0 64 64 (.slice (some ⟨g, 0, none⟩) n n) n (flat (List.replicate n zero64)) := by
  have hl : (flat (List.replicate n zero64)).length = n * 64 := by rw [flat_len (all64_rep n), List.length_replicate]
  refine ⟨hl, .inr ⟨g, n, zs n, rfl, Nat.zero_le _, h, Nat.le_refl _, by unfold maxLen; omega, by rw [zs, List.size_toArray, hl], ?_⟩⟩
  rw [zs, List.take_of_length_le (by rw [hl]; exact Nat.le_refl _)]
theorem new_at (n : Nat) (hn : n ≤ 1024) (W : World) (x y : Nat) (hxy : (x = W.heap.size ∧ y = W.heap.size + 1) ∨ (x = W.heap.size + 1 ∧ y = W.heap.size)) :
    DiskAt ((((W.alloc (.cells (zs n) 64 (0, 0))).alloc (.cells (zs n) 64 (0, 0))).alloc (.cells #[.slice (some ⟨x, 0, none⟩) n n, .slice (some ⟨y, 0, none⟩) n n, .slice none 0 0, .int .i64 n, .int .i64 (-1), .bool false] 61 (0, 0))).drew) (fun k => W.heap.size ≤ k) (W.heap.size + 1 + 1) n (newS n) x n y n (.slice none 0 0) := by
  have e0 := blk_old (blk_old (blk_new W (.cells (zs n) 64 (0, 0))) (.cells (zs n) 64 (0, 0))) (.cells #[.slice (some ⟨x, 0, none⟩) n n, .slice (some ⟨y, 0, none⟩) n n, .slice none 0 0, .int .i64 n, .int .i64 (-1), .bool false] 61 (0, 0))
  have e1 := blk_old (blk_new (W.alloc (.cells (zs n) 64 (0, 0))) (.cells (zs n) 64 (0, 0))) (.cells #[.slice (some ⟨x, 0, none⟩) n n, .slice (some ⟨y, 0, none⟩) n n, .slice none 0 0, .int .i64 n, .int .i64 (-1), .bool false] 61 (0, 0))
  have e2 := blk_new ((W.alloc (.cells (zs n) 64 (0, 0))).alloc (.cells (zs n) 64 (0, 0))) (.cells #[.slice (some ⟨x, 0, none⟩) n n, .slice (some ⟨y, 0, none⟩) n n, .slice none 0 0, .int .i64 n, .int .i64 (-1), .bool false] 61 (0, 0))
  have s1 : (W.alloc (.cells (zs n) 64 (0, 0))).heap.size = W.heap.size + 1 := by simp
  have s2 : ((W.alloc (.cells (zs n) 64 (0, 0))).alloc (.cells (zs n) 64 (0, 0))).heap.size = W.heap.size + 1 + 1 := by simp
  rw [s1] at e1
  rw [s2] at e2
  rcases hxy with ⟨rfl, rfl⟩ | ⟨rfl, rfl⟩
  · exact ⟨e2, zs_owned e0 hn, zs_owned e1 hn, World.ownsRow_nil _ _ _ _, by omega, by omega, by omega, by omega, fun g hg => by simp [Value.ownBlock] at hg⟩
  · exact ⟨e2, zs_owned e1 hn, zs_owned e0 hn, World.ownsRow_nil _ _ _ _, by omega, by omega, by omega, by omega, fun g hg => by simp [Value.ownBlock] at hg⟩
theorem below_three (W : World) (a b c : Obj) : Below W.heap.size W (((W.alloc a).alloc b).alloc c).drew :=
  ((((Below.refl _ _).alloc (Nat.le_refl _) a).alloc (by simp) b).alloc (by simp; omega) c).drew
theorem new_yes (n : Nat) (h1 : 1 ≤ n) (h2 : n ≤ 1024) (W : World) : Calls Try.prog 9 #[.int .i64 (n : Int)] W fun e W' => ∃ b, e = .returned (.tuple #[.pointer (some ⟨b, 0, none⟩), .int .i64 0]) ∧ Disk W' (fun k => W.heap.size ≤ k) b n (newS n) ∧ Below W.heap.size W W' ∧ W.heap.size ≤ b := by
  have hmk := mk58 n h2
  have i1 : ¬ (n : Int) < 1 := by omega
  have i2 : ¬ (1024 : Int) < n := by omega
  go_enter Try.func9, Try.ntmps9
  go_wp2_with fail
  go_region
  · go_wp2_with fail
    go_ret2
    exact ⟨_, rfl, ⟨newS_ok n h1 h2, _, _, _, _, _, new_at n h2 W _ _ (.inl ⟨rfl, rfl⟩)⟩, below_three _ _ _ _, by omega⟩
  · go_wp2_with fail
    go_ret2
    exact ⟨_, rfl, ⟨newS_ok n h1 h2, _, _, _, _, _, new_at n h2 W _ _ (.inr ⟨rfl, rfl⟩)⟩, below_three _ _ _ _, by omega⟩
end Go.Proofs.Ytfhnhkjbfaieiaa.Bl
