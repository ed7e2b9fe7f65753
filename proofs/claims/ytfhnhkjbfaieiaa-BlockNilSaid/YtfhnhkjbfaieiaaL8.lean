/- The function BlockNil of layer 15, over its callees: it returns true. Condition: the byte is a byte. -/
import Derived.Test.YtfhnhkjbfaieiaaB9
import Derived.Test.YtfhnhkjbfaieiaaL0
import Derived.OpenShut
namespace Go.Proofs.Ytfhnhkjbfaieiaa.Bl
open Go.RowKit
set_option linter.unusedVariables false
set_option linter.unusedSimpArgs false
set_option maxHeartbeats 4000000 in
set_option maxRecDepth 100000 in
theorem nil_a (a0 a1 a2 a3 : Int) (W : World) (h3 : 0 ≤ a3 ∧ a3 < 256) :
    Calls Try.prog 8 #[.agg #[.int .i64 a0, .int .i64 a1, .int .i64 a2, .int .u8 a3]] W fun e W' => e = .returned (.bool true) ∧ Below W.heap.size W W' := by
  go_enter Try.func8, Try.ntmps8
  go_wp2_with fail
  have HW : As (Below W.heap.size W (W.alloc (.cells #[.int .i64 a0, .int .i64 a1, .int .i64 a2, .int .u8 a3] 30 (0, 0)))) := ⟨(Below.refl _ _).alloc (Nat.le_refl _) _⟩
  have HX : As ((W.alloc (.cells #[.int .i64 a0, .int .i64 a1, .int .i64 a2, .int .u8 a3] 30 (0, 0))).heap[W.heap.size]? = some (.cells #[.int .i64 a0, .int .i64 a1, .int .i64 a2, .int .u8 a3] 30 (0, 0))) := ⟨blk_new W _⟩
  generalize W.alloc (.cells #[.int .i64 a0, .int .i64 a1, .int .i64 a2, .int .u8 a3] 30 (0, 0)) = w1 at *
  have hx1 := blk_lt HX.out
  have hs1 := HW.out.size
  refine (read_nil _ _).mono ?_
  rintro e0 w2 ⟨rfl, rfl⟩
  go_wp2_with fail
  refine (blocks_nil _).mono ?_
  rintro e0 w2 ⟨rfl, rfl⟩
  go_wp2_with fail
  refine (full_a 1 _ (by omega)).mono ?_
  rintro e0 w2 ⟨q, p, rfl, bx, hq, hb⟩
  have hs2 := hb.size
  replace HX := As.mk ((hb.block _ hx1).trans HX.out)
  replace HW := As.mk (HW.out.trans (hb.mono hs1))
  clear bx hb hq
  go_wp2_with fail
  refine (write_nil _ _ _).mono ?_
  rintro e0 w3 ⟨rfl, rfl⟩
  go_wp2_with fail
  refine (flush_nil _).mono ?_
  rintro e0 w3 ⟨rfl, rfl⟩
  go_wp2_with fail
  refine (waiting_nil _).mono ?_
  rintro e0 w3 ⟨rfl, rfl⟩
  go_wp2_with fail
  refine (lit_nil _).mono ?_
  rintro e0 w3 ⟨rfl, rfl⟩
  go_wp2_with fail
  refine (limit_nil _ _).mono ?_
  rintro e0 w3 ⟨rfl, rfl⟩
  go_wp2_with fail
  refine (dark_nil _ _).mono ?_
  rintro e0 w3 ⟨rfl, rfl⟩
  go_wp2_with fail
  refine (crash_nil _ _ _).mono ?_
  rintro e0 w3 ⟨rfl, rfl⟩
  go_wp2_with fail
  refine (new_yes 2 (by omega) (by omega) _).mono ?_
  rintro e0 w3 ⟨d, rfl, D3, B3, hd⟩
  have hs3 := B3.size
  replace HX := As.mk ((B3.block _ (by omega)).trans HX.out)
  replace HW := As.mk (HW.out.trans (B3.mono (by omega)))
  have DD := As.mk D3
  clear D3 B3
  go_wp2_with fail
  refine (new_yes 2 (by omega) (by omega) _).mono ?_
  rintro e0 w4 ⟨c, rfl, C4, B4, hc⟩
  have hs4 := B4.size
  replace HX := As.mk ((B4.block _ (by omega)).trans HX.out)
  replace HW := As.mk (HW.out.trans (B4.mono (by omega)))
  replace DD := As.mk ((DD.out.mono (own' := fun k => w2.heap.size ≤ k ∧ ¬ (w3.heap.size ≤ k ∧ k < w4.heap.size)) (fun k h hl => ⟨h, by omega⟩)).below B4 (Nat.le_refl _))
  have CC := As.mk (C4.mono (own' := fun k => w3.heap.size ≤ k ∧ k < w4.heap.size) (fun k h hl => ⟨h, hl⟩))
  clear C4 B4
  have x3 : w4.cell? ⟨W.heap.size, 3, none⟩ = some (.int .u8 a3) := (blk_cell HX.out 3).trans rfl
  go_wp2_with fail
  have hbt : 0 ≤ bits BinOp.or IntKind.u8 a3 1 ∧ bits BinOp.or IntKind.u8 a3 1 < 256 := by
    have := Go.bounds_u8 (wf_bits .or .u8 a3 1)
    omega
  generalize bits BinOp.or IntKind.u8 a3 1 = z at *
  refine (full_a z _ hbt).mono ?_
  rintro e0 w5 ⟨q, p, rfl, bx, hq, hb⟩
  have hs5 := hb.size
  replace HW := As.mk (HW.out.trans (hb.mono (by omega)))
  replace DD := As.mk (DD.out.below hb (Nat.le_refl _))
  replace CC := As.mk (CC.out.below hb (Nat.le_refl _))
  have BX := As.mk bx
  clear bx hb hq x3 HX
  have WR := As.mk (write_free (s := newS 2) rfl rfl (n := 2) (k := 1) (by omega) (Int.le_refl _) (full_len z))
  go_wp2_with fail
  refine (write_is (own' := fun k => w2.heap.size ≤ k ∧ ¬ (w3.heap.size ≤ k ∧ k < w4.heap.size)) DD.out 1 p BX.out (full_len _) (by decide) 0 _ WR.out (fun _ h => h) (fun k hk => ⟨by omega, by omega⟩)).mono ?_
  rintro e0 w6 ⟨rfl, d6, f6⟩
  have hs6 := f6.low.size
  replace HW := As.mk (HW.out.trans (f6.below (by omega) (fun k h => by omega)))
  replace DD := As.mk d6
  replace CC := As.mk (CC.out.frame f6 (fun k h h' => h'.2 h))
  clear d6 f6 BX WR
  go_wp2_with fail
  refine (dark_a DD.out 0 (by omega)).mono ?_
  rintro e0 w7 ⟨rfl, d7, f7⟩
  have hs7 := f7.low.size
  replace HW := As.mk (HW.out.trans (f7.below (by omega) (fun k h => by omega)))
  replace DD := As.mk d7
  replace CC := As.mk (CC.out.frame f7 (fun k h h' => h'.2 h))
  clear d7 f7
  go_wp2_with fail
  refine (flush_is (own' := fun k => w2.heap.size ≤ k ∧ ¬ (w3.heap.size ≤ k ∧ k < w4.heap.size)) DD.out 6 _ rfl (fun _ h => h) (fun k hk => ⟨by omega, by omega⟩)).mono ?_
  rintro e0 w8 ⟨rfl, d8, f8⟩
  have hs8 := f8.low.size
  replace HW := As.mk (HW.out.trans (f8.below (by omega) (fun k h => by omega)))
  replace DD := As.mk d8
  replace CC := As.mk (CC.out.frame f8 (fun k h h' => h'.2 h))
  clear d8 f8
  go_wp2_with fail
  refine (read_is CC.out 1 rfl zero64 rfl).mono ?_
  rintro e0 w9 ⟨r, rfl, hr, hrs, hb9⟩
  have hs9 := hb9.size
  have hrl := blk_lt hr
  replace HW := As.mk (HW.out.trans (hb9.mono (by omega)))
  replace DD := As.mk ((DD.out.mono (own' := fun k => k < w8.heap.size) (fun k h hl => hl)).below hb9 (Nat.le_refl _))
  replace CC := As.mk (CC.out.below hb9 (Nat.le_refl _))
  have WD := As.mk (wide_block hr)
  clear hb9 hr
  go_wp2_with fail
  refine (spoil_a r 0 64 64 _ WD.out (by omega)).mono ?_
  rintro e0 w10 ⟨rfl, f10⟩
  have hs10 := f10.low.size
  replace HW := As.mk (HW.out.trans (f10.below (by omega) (fun k h => by omega)))
  replace DD := As.mk (DD.out.frame f10 (fun k h h' => by omega))
  replace CC := As.mk (CC.out.frame f10 (fun k h h' => by omega))
  clear f10 WD
  go_wp2_with fail
  refine (read_is CC.out 1 rfl zero64 rfl).mono ?_
  rintro e0 w11 ⟨r2, rfl, hr2, hrs2, hb11⟩
  have hs11 := hb11.size
  have hrl2 := blk_lt hr2
  replace HW := As.mk (HW.out.trans (hb11.mono (by omega)))
  replace DD := As.mk (DD.out.below hb11 (Nat.le_refl _))
  replace CC := As.mk (CC.out.below hb11 (Nat.le_refl _))
  have R2 := As.mk hr2
  clear hb11 hr2
  go_wp2_with fail
  refine (full_a 0 _ (by omega)).mono ?_
  rintro e0 w12 ⟨q, p, rfl, bx, hq, hb⟩
  have hs12 := hb.size
  replace HW := As.mk (HW.out.trans (hb.mono (by omega)))
  replace DD := As.mk (DD.out.below hb (Nat.le_refl _))
  replace CC := As.mk (CC.out.below hb (Nat.le_refl _))
  replace R2 := As.mk ((hb.block r2 hrl2).trans R2.out)
  have BX := As.mk bx
  clear bx hb hq
  go_wp2_with fail
  refine (same_64 _ _ _ _ _ _ _ (bytes_of_block R2.out zero_ok) BX.out zero64_len (full_len _)).mono ?_
  rintro e0 w13 ⟨rfl, rfl⟩
  rw [show decide (zero64 = full64 0) = true from decide_eq_true rfl]
  go_wp2_with fail
  refine (lit_a CC.out).mono ?_
  rintro e0 w13 ⟨rfl, rfl⟩
  go_wp2_with fail
  refine (waiting_a CC.out).mono ?_
  rintro e0 w13 ⟨rfl, rfl⟩
  go_wp2_with fail
  refine (lit_a DD.out).mono ?_
  rintro e0 w13 ⟨rfl, rfl⟩
  go_wp2_with fail
  refine (known_calls _).mono ?_
  rintro e0 w13 ⟨rfl, hb13⟩
  go_wp2_with fail
  go_ret
  exact ⟨rfl, HW.out.trans (hb13.mono (by omega))⟩
end Go.Proofs.Ytfhnhkjbfaieiaa.Bl
