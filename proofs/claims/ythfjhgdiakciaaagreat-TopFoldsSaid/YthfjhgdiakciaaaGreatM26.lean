/- The document's answer: may an order's state be (Check of the saga's reference). Condition: it may. -/
import Derived.Test.YthfjhgdiakciaaaGreatM24
import Derived.Test.YthfjhgdiakciaaaGreatM25
namespace Go.Proofs.YthfjhgdiakciaaaGreat.Bl
open Go.RowKit
set_option linter.unusedVariables false
set_option linter.unusedSimpArgs false
set_option maxHeartbeats 2000000 in
set_option maxRecDepth 100000 in
theorem rscheck_over {W : World} {own : Nat → Prop} {v : Value} {p : List Stp} (h : PlanAt W own v p) (hp : PlanOk p) (c : Nat) (h1 : 1 ≤ c) (h3 : c ≤ 3) :
  Calls Tryz.prog 103 #[v, .agg #[.int .i64 3, .int .i64 0, .int .i64 0, .bool false, .int .i64 0, .bool false, .int .i64 c]] W fun e W' => e = .returned (.int .i64 0) ∧ Below W.heap.size W W' := by
 have HP : As (Calls Tryz.prog 56 #[v] (W.alloc (.cells #[.int .i64 3, .int .i64 0, .int .i64 0, .bool false, .int .i64 0, .bool false, .int .i64 c] 116 (0, 0))) fun e W1 => e = .returned (.int .i64 0) ∧ Below (W.alloc (.cells #[.int .i64 3, .int .i64 0, .int .i64 0, .bool false, .int .i64 0, .bool false, .int .i64 c] 116 (0, 0))).heap.size (W.alloc (.cells #[.int .i64 3, .int .i64 0, .int .i64 0, .bool false, .int .i64 0, .bool false, .int .i64 c] 116 (0, 0))) W1) := ⟨rpcheck_a (h.keep (fun k _ hk => Below.heap_alloc _ _ _ hk) (by simp)) hp⟩
 have hc1 : decide ((1 : Int) ≤ (c : Int)) = true := by simp; omega
 have hc3 : decide ((c : Int) ≤ 3) = true := by simp; omega
 clear h hp h1 h3
 go_enter Tryz.func103, Tryz.ntmps103
 go_wp2_with fail
 refine HP.out.mono ?_
 rintro e w1 ⟨rfl, q1⟩
 have hbk := (q1.block W.heap.size (by simp)).trans (heap_alloc_new W _)
 have B1 : As (Below W.heap.size W w1) := ⟨((Below.refl _ _).alloc (Nat.le_refl _) _).trans (q1.mono (by simp))⟩
 obtain ⟨k0, k1, k2, k3, k4, k5, k6⟩ := cells7 hbk
 have hs1 := B1.out.size
 have hlt := blk_lt hbk
 clear q1 hbk HP
 generalize hb : W.heap.size = b at *
 have HBe := As.mk hb
 clear hb
 go_wp2_with fail
 go_ret
 refine ⟨rfl, ?_⟩
 rw [HBe.out]
 exact B1.out
set_option maxHeartbeats 4000000 in
set_option maxRecDepth 100000 in
theorem rsc1f {W : World} {own : Nat → Prop} {v : Value} {p : List Stp} (h : PlanAt W own v p) (hp : PlanOk p) (st tr : Nat) (x : Stp) (hx : p[st]? = some x)  (ht : tr ≤ 1) :
  Calls Tryz.prog 103 #[v, .agg #[.int .i64 1, .int .i64 st, .int .i64 tr, .bool false, .int .i64 0, .bool false, .int .i64 0]] W fun e W' => e = .returned (.int .i64 0) ∧ Below W.heap.size W W' := by
 have HP : As (Calls Tryz.prog 56 #[v] (W.alloc (.cells #[.int .i64 1, .int .i64 st, .int .i64 tr, .bool false, .int .i64 0, .bool false, .int .i64 0] 116 (0, 0))) fun e W1 => e = .returned (.int .i64 0) ∧ Below (W.alloc (.cells #[.int .i64 1, .int .i64 st, .int .i64 tr, .bool false, .int .i64 0, .bool false, .int .i64 0] 116 (0, 0))).heap.size (W.alloc (.cells #[.int .i64 1, .int .i64 st, .int .i64 tr, .bool false, .int .i64 0, .bool false, .int .i64 0] 116 (0, 0))) W1) := ⟨rpcheck_a (h.keep (fun k _ hk => Below.heap_alloc _ _ _ hk) (by simp)) hp⟩
 obtain ⟨g, c, y, rfl, hgl, _, hy, hr⟩ := h.at hx
 have hst : st < p.length := (List.getElem?_eq_some_iff.1 hx).1
 have HC := As.mk (hy.c5 hr)
 have hl2 := hp.l2
 have hd1 : decide ((st : Int) < 0) = false := by simp
 have hd2 : decide (p.length ≤ st) = false := by simp; omega
 have hd5 : decide ((tr : Int) < 0) = false := by simp
 have hd6 : decide ((2 : Int) < (tr : Int)) = false := by simp; omega
 have hd7 : ((tr : Int) == 2) = false := beq_eq_false_iff_ne.2 (by omega)
 clear h hp hx hr hy
 go_enter Tryz.func103, Tryz.ntmps103
 go_wp2_with fail
 refine HP.out.mono ?_
 rintro e w1 ⟨rfl, q1⟩
 have hbk := (q1.block W.heap.size (by simp)).trans (heap_alloc_new W _)
 have B1 : As (Below W.heap.size W w1) := ⟨((Below.refl _ _).alloc (Nat.le_refl _) _).trans (q1.mono (by simp))⟩
 obtain ⟨k0, k1, k2, k3, k4, k5, k6⟩ := cells7 hbk
 have hs1 := B1.out.size
 have hlt := blk_lt hbk
 obtain ⟨o3, o4, o5⟩ := HC.out
 have p3 : w1.cell? ⟨g, st * 6 + 3, none⟩ = some (.int .i64 2) := by rw [World.cell?_of_block (w := W) (a := ⟨g, st * 6 + 3, none⟩) (B1.out.block g hgl)]; exact o3
 have p4 : w1.cell? ⟨g, st * 6 + 4, none⟩ = some (.int .i64 5) := by rw [World.cell?_of_block (w := W) (a := ⟨g, st * 6 + 4, none⟩) (B1.out.block g hgl)]; exact o4
 have p5 : w1.cell? ⟨g, st * 6 + 5, none⟩ = some (.bool x.back) := by rw [World.cell?_of_block (w := W) (a := ⟨g, st * 6 + 5, none⟩) (B1.out.block g hgl)]; exact o5
 clear q1 hbk HP HC o3 o4 o5
 generalize hb : W.heap.size = b at *
 have HBe := As.mk hb
 clear hb
 go_upto_region 11 with fail
 go_region
 go_upto_region 15 with fail
 go_region
 go_upto_region 17 with fail
 go_region
 go_wp2_with fail
 go_ret
 refine ⟨rfl, ?_⟩
 rw [HBe.out]
 exact B1.out.drew.drew.drew
set_option maxHeartbeats 4000000 in
set_option maxRecDepth 100000 in
theorem rsc1t {W : World} {own : Nat → Prop} {v : Value} {p : List Stp} (h : PlanAt W own v p) (hp : PlanOk p) (st tr : Nat) (x : Stp) (hx : p[st]? = some x)  (ht1 : 1 ≤ tr) (ht2 : tr ≤ 2) :
  Calls Tryz.prog 103 #[v, .agg #[.int .i64 1, .int .i64 st, .int .i64 tr, .bool true, .int .i64 5, .bool false, .int .i64 0]] W fun e W' => e = .returned (.int .i64 0) ∧ Below W.heap.size W W' := by
 have HP : As (Calls Tryz.prog 56 #[v] (W.alloc (.cells #[.int .i64 1, .int .i64 st, .int .i64 tr, .bool true, .int .i64 5, .bool false, .int .i64 0] 116 (0, 0))) fun e W1 => e = .returned (.int .i64 0) ∧ Below (W.alloc (.cells #[.int .i64 1, .int .i64 st, .int .i64 tr, .bool true, .int .i64 5, .bool false, .int .i64 0] 116 (0, 0))).heap.size (W.alloc (.cells #[.int .i64 1, .int .i64 st, .int .i64 tr, .bool true, .int .i64 5, .bool false, .int .i64 0] 116 (0, 0))) W1) := ⟨rpcheck_a (h.keep (fun k _ hk => Below.heap_alloc _ _ _ hk) (by simp)) hp⟩
 obtain ⟨g, c, y, rfl, hgl, _, hy, hr⟩ := h.at hx
 have hst : st < p.length := (List.getElem?_eq_some_iff.1 hx).1
 have HC := As.mk (hy.c5 hr)
 have hl2 := hp.l2
 have hd1 : decide ((st : Int) < 0) = false := by simp
 have hd2 : decide (p.length ≤ st) = false := by simp; omega
 have hd5 : decide ((tr : Int) < 0) = false := by simp
 have hd6 : decide ((2 : Int) < (tr : Int)) = false := by simp; omega
 have hd7 : ((tr : Int) == 0) = false := beq_eq_false_iff_ne.2 (by omega)
 clear h hp hx hr hy
 go_enter Tryz.func103, Tryz.ntmps103
 go_wp2_with fail
 refine HP.out.mono ?_
 rintro e w1 ⟨rfl, q1⟩
 have hbk := (q1.block W.heap.size (by simp)).trans (heap_alloc_new W _)
 have B1 : As (Below W.heap.size W w1) := ⟨((Below.refl _ _).alloc (Nat.le_refl _) _).trans (q1.mono (by simp))⟩
 obtain ⟨k0, k1, k2, k3, k4, k5, k6⟩ := cells7 hbk
 have hs1 := B1.out.size
 have hlt := blk_lt hbk
 obtain ⟨o3, o4, o5⟩ := HC.out
 have p3 : w1.cell? ⟨g, st * 6 + 3, none⟩ = some (.int .i64 2) := by rw [World.cell?_of_block (w := W) (a := ⟨g, st * 6 + 3, none⟩) (B1.out.block g hgl)]; exact o3
 have p4 : w1.cell? ⟨g, st * 6 + 4, none⟩ = some (.int .i64 5) := by rw [World.cell?_of_block (w := W) (a := ⟨g, st * 6 + 4, none⟩) (B1.out.block g hgl)]; exact o4
 have p5 : w1.cell? ⟨g, st * 6 + 5, none⟩ = some (.bool x.back) := by rw [World.cell?_of_block (w := W) (a := ⟨g, st * 6 + 5, none⟩) (B1.out.block g hgl)]; exact o5
 clear q1 hbk HP HC o3 o4 o5
 generalize hb : W.heap.size = b at *
 have HBe := As.mk hb
 clear hb
 go_upto_region 11 with fail
 go_region
 go_upto_region 15 with fail
 go_region
 go_upto_region 17 with fail
 go_region
 go_wp2_with fail
 go_ret
 refine ⟨rfl, ?_⟩
 rw [HBe.out]
 exact B1.out.drew.drew.drew
set_option maxHeartbeats 4000000 in
set_option maxRecDepth 100000 in
theorem rsc2f {W : World} {own : Nat → Prop} {v : Value} {p : List Stp} (h : PlanAt W own v p) (hp : PlanOk p) (st tr : Nat) (x : Stp) (hx : p[st]? = some x) (hb : x.back = true) (ht : tr ≤ 1) :
  Calls Tryz.prog 103 #[v, .agg #[.int .i64 2, .int .i64 st, .int .i64 tr, .bool false, .int .i64 0, .bool false, .int .i64 0]] W fun e W' => e = .returned (.int .i64 0) ∧ Below W.heap.size W W' := by
 have HP : As (Calls Tryz.prog 56 #[v] (W.alloc (.cells #[.int .i64 2, .int .i64 st, .int .i64 tr, .bool false, .int .i64 0, .bool false, .int .i64 0] 116 (0, 0))) fun e W1 => e = .returned (.int .i64 0) ∧ Below (W.alloc (.cells #[.int .i64 2, .int .i64 st, .int .i64 tr, .bool false, .int .i64 0, .bool false, .int .i64 0] 116 (0, 0))).heap.size (W.alloc (.cells #[.int .i64 2, .int .i64 st, .int .i64 tr, .bool false, .int .i64 0, .bool false, .int .i64 0] 116 (0, 0))) W1) := ⟨rpcheck_a (h.keep (fun k _ hk => Below.heap_alloc _ _ _ hk) (by simp)) hp⟩
 obtain ⟨g, c, y, rfl, hgl, _, hy, hr⟩ := h.at hx
 have hst : st < p.length := (List.getElem?_eq_some_iff.1 hx).1
 have HC := As.mk (hy.c5 hr)
 have hl2 := hp.l2
 have hd1 : decide ((st : Int) < 0) = false := by simp
 have hd2 : decide (p.length ≤ st) = false := by simp; omega
 have hd5 : decide ((tr : Int) < 0) = false := by simp
 have hd6 : decide ((2 : Int) < (tr : Int)) = false := by simp; omega
 have hd7 : ((tr : Int) == 2) = false := beq_eq_false_iff_ne.2 (by omega)
 clear h hp hx hr hy
 go_enter Tryz.func103, Tryz.ntmps103
 go_wp2_with fail
 refine HP.out.mono ?_
 rintro e w1 ⟨rfl, q1⟩
 have hbk := (q1.block W.heap.size (by simp)).trans (heap_alloc_new W _)
 have B1 : As (Below W.heap.size W w1) := ⟨((Below.refl _ _).alloc (Nat.le_refl _) _).trans (q1.mono (by simp))⟩
 obtain ⟨k0, k1, k2, k3, k4, k5, k6⟩ := cells7 hbk
 have hs1 := B1.out.size
 have hlt := blk_lt hbk
 obtain ⟨o3, o4, o5⟩ := HC.out
 have p3 : w1.cell? ⟨g, st * 6 + 3, none⟩ = some (.int .i64 2) := by rw [World.cell?_of_block (w := W) (a := ⟨g, st * 6 + 3, none⟩) (B1.out.block g hgl)]; exact o3
 have p4 : w1.cell? ⟨g, st * 6 + 4, none⟩ = some (.int .i64 5) := by rw [World.cell?_of_block (w := W) (a := ⟨g, st * 6 + 4, none⟩) (B1.out.block g hgl)]; exact o4
 have p5 : w1.cell? ⟨g, st * 6 + 5, none⟩ = some (.bool true) := by rw [World.cell?_of_block (w := W) (a := ⟨g, st * 6 + 5, none⟩) (B1.out.block g hgl)]; rw [← hb]; exact o5
 clear q1 hbk HP HC o3 o4 o5
 generalize hb : W.heap.size = b at *
 have HBe := As.mk hb
 clear hb
 go_upto_region 11 with fail
 go_region
 go_upto_region 15 with fail
 go_region
 go_upto_region 17 with fail
 go_region
 go_wp2_with fail
 go_ret
 refine ⟨rfl, ?_⟩
 rw [HBe.out]
 exact B1.out.drew.drew.drew
set_option maxHeartbeats 4000000 in
set_option maxRecDepth 100000 in
theorem rsc2t {W : World} {own : Nat → Prop} {v : Value} {p : List Stp} (h : PlanAt W own v p) (hp : PlanOk p) (st tr : Nat) (x : Stp) (hx : p[st]? = some x) (hb : x.back = true) (ht1 : 1 ≤ tr) (ht2 : tr ≤ 2) :
  Calls Tryz.prog 103 #[v, .agg #[.int .i64 2, .int .i64 st, .int .i64 tr, .bool true, .int .i64 5, .bool false, .int .i64 0]] W fun e W' => e = .returned (.int .i64 0) ∧ Below W.heap.size W W' := by
 have HP : As (Calls Tryz.prog 56 #[v] (W.alloc (.cells #[.int .i64 2, .int .i64 st, .int .i64 tr, .bool true, .int .i64 5, .bool false, .int .i64 0] 116 (0, 0))) fun e W1 => e = .returned (.int .i64 0) ∧ Below (W.alloc (.cells #[.int .i64 2, .int .i64 st, .int .i64 tr, .bool true, .int .i64 5, .bool false, .int .i64 0] 116 (0, 0))).heap.size (W.alloc (.cells #[.int .i64 2, .int .i64 st, .int .i64 tr, .bool true, .int .i64 5, .bool false, .int .i64 0] 116 (0, 0))) W1) := ⟨rpcheck_a (h.keep (fun k _ hk => Below.heap_alloc _ _ _ hk) (by simp)) hp⟩
 obtain ⟨g, c, y, rfl, hgl, _, hy, hr⟩ := h.at hx
 have hst : st < p.length := (List.getElem?_eq_some_iff.1 hx).1
 have HC := As.mk (hy.c5 hr)
 have hl2 := hp.l2
 have hd1 : decide ((st : Int) < 0) = false := by simp
 have hd2 : decide (p.length ≤ st) = false := by simp; omega
 have hd5 : decide ((tr : Int) < 0) = false := by simp
 have hd6 : decide ((2 : Int) < (tr : Int)) = false := by simp; omega
 have hd7 : ((tr : Int) == 0) = false := beq_eq_false_iff_ne.2 (by omega)
 clear h hp hx hr hy
 go_enter Tryz.func103, Tryz.ntmps103
 go_wp2_with fail
 refine HP.out.mono ?_
 rintro e w1 ⟨rfl, q1⟩
 have hbk := (q1.block W.heap.size (by simp)).trans (heap_alloc_new W _)
 have B1 : As (Below W.heap.size W w1) := ⟨((Below.refl _ _).alloc (Nat.le_refl _) _).trans (q1.mono (by simp))⟩
 obtain ⟨k0, k1, k2, k3, k4, k5, k6⟩ := cells7 hbk
 have hs1 := B1.out.size
 have hlt := blk_lt hbk
 obtain ⟨o3, o4, o5⟩ := HC.out
 have p3 : w1.cell? ⟨g, st * 6 + 3, none⟩ = some (.int .i64 2) := by rw [World.cell?_of_block (w := W) (a := ⟨g, st * 6 + 3, none⟩) (B1.out.block g hgl)]; exact o3
 have p4 : w1.cell? ⟨g, st * 6 + 4, none⟩ = some (.int .i64 5) := by rw [World.cell?_of_block (w := W) (a := ⟨g, st * 6 + 4, none⟩) (B1.out.block g hgl)]; exact o4
 have p5 : w1.cell? ⟨g, st * 6 + 5, none⟩ = some (.bool true) := by rw [World.cell?_of_block (w := W) (a := ⟨g, st * 6 + 5, none⟩) (B1.out.block g hgl)]; rw [← hb]; exact o5
 clear q1 hbk HP HC o3 o4 o5
 generalize hb : W.heap.size = b at *
 have HBe := As.mk hb
 clear hb
 go_upto_region 11 with fail
 go_region
 go_upto_region 15 with fail
 go_region
 go_upto_region 17 with fail
 go_region
 go_wp2_with fail
 go_ret
 refine ⟨rfl, ?_⟩
 rw [HBe.out]
 exact B1.out.drew.drew.drew
theorem rscheck_live {W : World} {own : Nat → Prop} {v : Value} {p : List Stp} (h : PlanAt W own v p) (hp : PlanOk p) (ph st tr : Nat) (asked : Bool) (x : Stp) (hx : p[st]? = some x) (hph : ph = 1 ∨ ph = 2 ∧ x.back = true) (ht : (asked = false ∧ tr ≤ 1) ∨ (asked = true ∧ 1 ≤ tr ∧ tr ≤ 2)) :
  Calls Tryz.prog 103 #[v, .agg (sgC ⟨ph, st, tr, asked, 0⟩).toArray] W fun e W' => e = .returned (.int .i64 0) ∧ Below W.heap.size W W' := by
 rcases hph with rfl | ⟨rfl, hb⟩ <;> rcases ht with ⟨rfl, ht⟩ | ⟨rfl, ht1, ht2⟩
 ·exact rsc1f h hp st tr x hx ht
 ·exact rsc1t h hp st tr x hx ht1 ht2
 ·exact rsc2f h hp st tr x hx hb ht
 ·exact rsc2t h hp st tr x hx hb ht1 ht2
end Go.Proofs.YthfjhgdiakciaaaGreat.Bl
/- The document's answer: what is to be done for an order (Next), it is being done (Ask). Condition: the state is one that may be; for Ask: there is something to be done. -/
namespace Go.Proofs.YthfjhgdiakciaaaGreat.Bl
open Go.RowKit
set_option linter.unusedVariables false
set_option linter.unusedSimpArgs false
set_option maxHeartbeats 1000000 in
set_option maxRecDepth 100000 in
theorem rnext_over {W : World} {own : Nat → Prop} {v : Value} {p : List Stp} (h : PlanAt W own v p) (hp : PlanOk p) (c : Nat) (h1 : 1 ≤ c) (h2 : c ≤ 3) :
  Calls Tryz.prog 63 #[v, .agg #[.int .i64 3, .int .i64 0, .int .i64 0, .bool false, .int .i64 0, .bool false, .int .i64 c]] W fun e W' => e = .returned (nextV none) ∧ Below W.heap.size W W' := by
 have HP : As (∀ w', Below W.heap.size W w' → Calls Tryz.prog 103 #[v, .agg #[.int .i64 3, .int .i64 0, .int .i64 0, .bool false, .int .i64 0, .bool false, .int .i64 c]] w' fun e W' => e = .returned (.int .i64 0) ∧ Below w'.heap.size w' W') := ⟨fun w' hw => rscheck_over (h.keep (W' := w') (fun k _ hk => hw.block k hk) hw.size) hp c h1 h2⟩
 clear h hp
 go_enter Tryz.func63, Tryz.ntmps63
 go_wp2_with fail
 refine (HP.out _ (((Below.refl _ _).alloc (Nat.le_refl _) _).alloc (by simp) _)).mono ?_
 rintro e w1 ⟨rfl, q1⟩
 have hbk := (q1.block W.heap.size (by simp; omega)).trans (heap_alloc2_old W _ _)
 have hbk2 := As.mk ((q1.block (W.heap.size + 1) (by simp)).trans (heap_alloc2_new W _ _))
 have B1 : As (Below W.heap.size W w1) := ⟨(((Below.refl _ _).alloc (Nat.le_refl _) _).alloc (by simp) _).trans (q1.mono (by simp; omega))⟩
 obtain ⟨k0, k1, k2, k3, k4, k5, k6⟩ := cells7 hbk
 have hs1 := B1.out.size
 have hlt := blk_lt hbk
 clear q1 hbk
 go_upto_region 3 with fail
 go_wp2_with (refine wpList_storeC rfl 49 (.tmp 4) (.tmp 21) rfl (W.heap.size + 1) 49 [.int .i64 0, .bool false, .int .i64 0] _ rfl rfl hbk2.out rfl size49 (dnC_one ⟨0, false, 0⟩) ?_; intro w2 q1 q2 q3 q4)
 refine bodyPost_ret (results_cell_tmp_row rfl _ _ (W.heap.size + 1) 49 [.int .i64 0, .bool false, .int .i64 0].toArray (0, 0) _ rfl q1 Tryz.underlying49 rfl size49) rfl ⟨rfl, B1.out.trans (q2 _ (by omega))⟩
set_option maxHeartbeats 1000000 in
set_option maxRecDepth 100000 in
theorem rnext_wait1 {W : World} {own : Nat → Prop} {v : Value} {p : List Stp} (h : PlanAt W own v p) (hp : PlanOk p) (st tr : Nat) (x : Stp) (hx : p[st]? = some x)  (h1 : 1 ≤ tr) (h2 : tr ≤ 2) :
  Calls Tryz.prog 63 #[v, .agg #[.int .i64 1, .int .i64 st, .int .i64 tr, .bool true, .int .i64 5, .bool false, .int .i64 0]] W fun e W' => e = .returned (nextV none) ∧ Below W.heap.size W W' := by
 have HP : As (∀ w', Below W.heap.size W w' → Calls Tryz.prog 103 #[v, .agg #[.int .i64 1, .int .i64 st, .int .i64 tr, .bool true, .int .i64 5, .bool false, .int .i64 0]] w' fun e W' => e = .returned (.int .i64 0) ∧ Below w'.heap.size w' W') := ⟨fun w' hw => rscheck_live (h.keep (W' := w') (fun k _ hk => hw.block k hk) hw.size) hp 1 st tr true x hx (.inl rfl) (.inr ⟨rfl, h1, h2⟩)⟩
 clear h hp
 go_enter Tryz.func63, Tryz.ntmps63
 go_wp2_with fail
 refine (HP.out _ (((Below.refl _ _).alloc (Nat.le_refl _) _).alloc (by simp) _)).mono ?_
 rintro e w1 ⟨rfl, q1⟩
 have hbk := (q1.block W.heap.size (by simp; omega)).trans (heap_alloc2_old W _ _)
 have hbk2 := As.mk ((q1.block (W.heap.size + 1) (by simp)).trans (heap_alloc2_new W _ _))
 have B1 : As (Below W.heap.size W w1) := ⟨(((Below.refl _ _).alloc (Nat.le_refl _) _).alloc (by simp) _).trans (q1.mono (by simp; omega))⟩
 obtain ⟨k0, k1, k2, k3, k4, k5, k6⟩ := cells7 hbk
 have hs1 := B1.out.size
 have hlt := blk_lt hbk
 clear q1 hbk
 go_upto_region 3 with fail
 go_wp2_with (refine wpList_storeC rfl 49 (.tmp 4) (.tmp 21) rfl (W.heap.size + 1) 49 [.int .i64 0, .bool false, .int .i64 0] _ rfl rfl hbk2.out rfl size49 (dnC_one ⟨0, false, 0⟩) ?_; intro w2 q1 q2 q3 q4)
 refine bodyPost_ret (results_cell_tmp_row rfl _ _ (W.heap.size + 1) 49 [.int .i64 0, .bool false, .int .i64 0].toArray (0, 0) _ rfl q1 Tryz.underlying49 rfl size49) rfl ⟨rfl, B1.out.trans (q2 _ (by omega))⟩
set_option maxHeartbeats 1000000 in
set_option maxRecDepth 100000 in
theorem rnext_idle1 {W : World} {own : Nat → Prop} {v : Value} {p : List Stp} (h : PlanAt W own v p) (hp : PlanOk p) (st tr : Nat) (x : Stp) (hx : p[st]? = some x)  (h2 : tr ≤ 1) :
  Calls Tryz.prog 63 #[v, .agg #[.int .i64 1, .int .i64 st, .int .i64 tr, .bool false, .int .i64 0, .bool false, .int .i64 0]] W fun e W' => e = .returned (nextV (some ⟨st, false, tr + 1⟩)) ∧ Below W.heap.size W W' := by
 have HP : As (∀ w', Below W.heap.size W w' → Calls Tryz.prog 103 #[v, .agg #[.int .i64 1, .int .i64 st, .int .i64 tr, .bool false, .int .i64 0, .bool false, .int .i64 0]] w' fun e W' => e = .returned (.int .i64 0) ∧ Below w'.heap.size w' W') := ⟨fun w' hw => rscheck_live (h.keep (W' := w') (fun k _ hk => hw.block k hk) hw.size) hp 1 st tr false x hx (.inl rfl) (.inl ⟨rfl, h2⟩)⟩
 clear h hp
 go_enter Tryz.func63, Tryz.ntmps63
 go_wp2_with fail
 refine (HP.out _ (((Below.refl _ _).alloc (Nat.le_refl _) _).alloc (by simp) _)).mono ?_
 rintro e w1 ⟨rfl, q1⟩
 have hbk := (q1.block W.heap.size (by simp; omega)).trans (heap_alloc2_old W _ _)
 have hbk2 := As.mk ((q1.block (W.heap.size + 1) (by simp)).trans (heap_alloc2_new W _ _))
 have B1 : As (Below W.heap.size W w1) := ⟨(((Below.refl _ _).alloc (Nat.le_refl _) _).alloc (by simp) _).trans (q1.mono (by simp; omega))⟩
 obtain ⟨k0, k1, k2, k3, k4, k5, k6⟩ := cells7 hbk
 have hs1 := B1.out.size
 have hlt := blk_lt hbk
 clear q1 hbk
 go_upto_region 4 with fail
 go_wp2_with (refine wpList_storeC rfl 49 (.tmp 4) (.tmp 30) rfl (W.heap.size + 1) 49 (dnC ⟨st, false, tr + 1⟩) _ rfl rfl hbk2.out rfl size49 (dnC_one _) ?_; intro w2 q1 q2 q3 q4)
 refine bodyPost_ret (results_cell_tmp_row rfl _ _ (W.heap.size + 1) 49 (dnC ⟨st, false, tr + 1⟩).toArray (0, 0) _ rfl q1 Tryz.underlying49 rfl size49) rfl ⟨rfl, B1.out.trans (q2 _ (by omega))⟩
set_option maxHeartbeats 1000000 in
set_option maxRecDepth 100000 in
theorem rnext_wait2 {W : World} {own : Nat → Prop} {v : Value} {p : List Stp} (h : PlanAt W own v p) (hp : PlanOk p) (st tr : Nat) (x : Stp) (hx : p[st]? = some x) (hb : x.back = true) (h1 : 1 ≤ tr) (h2 : tr ≤ 2) :
  Calls Tryz.prog 63 #[v, .agg #[.int .i64 2, .int .i64 st, .int .i64 tr, .bool true, .int .i64 5, .bool false, .int .i64 0]] W fun e W' => e = .returned (nextV none) ∧ Below W.heap.size W W' := by
 have HP : As (∀ w', Below W.heap.size W w' → Calls Tryz.prog 103 #[v, .agg #[.int .i64 2, .int .i64 st, .int .i64 tr, .bool true, .int .i64 5, .bool false, .int .i64 0]] w' fun e W' => e = .returned (.int .i64 0) ∧ Below w'.heap.size w' W') := ⟨fun w' hw => rscheck_live (h.keep (W' := w') (fun k _ hk => hw.block k hk) hw.size) hp 2 st tr true x hx (.inr ⟨rfl, hb⟩) (.inr ⟨rfl, h1, h2⟩)⟩
 clear h hp
 go_enter Tryz.func63, Tryz.ntmps63
 go_wp2_with fail
 refine (HP.out _ (((Below.refl _ _).alloc (Nat.le_refl _) _).alloc (by simp) _)).mono ?_
 rintro e w1 ⟨rfl, q1⟩
 have hbk := (q1.block W.heap.size (by simp; omega)).trans (heap_alloc2_old W _ _)
 have hbk2 := As.mk ((q1.block (W.heap.size + 1) (by simp)).trans (heap_alloc2_new W _ _))
 have B1 : As (Below W.heap.size W w1) := ⟨(((Below.refl _ _).alloc (Nat.le_refl _) _).alloc (by simp) _).trans (q1.mono (by simp; omega))⟩
 obtain ⟨k0, k1, k2, k3, k4, k5, k6⟩ := cells7 hbk
 have hs1 := B1.out.size
 have hlt := blk_lt hbk
 clear q1 hbk
 go_upto_region 3 with fail
 go_wp2_with (refine wpList_storeC rfl 49 (.tmp 4) (.tmp 21) rfl (W.heap.size + 1) 49 [.int .i64 0, .bool false, .int .i64 0] _ rfl rfl hbk2.out rfl size49 (dnC_one ⟨0, false, 0⟩) ?_; intro w2 q1 q2 q3 q4)
 refine bodyPost_ret (results_cell_tmp_row rfl _ _ (W.heap.size + 1) 49 [.int .i64 0, .bool false, .int .i64 0].toArray (0, 0) _ rfl q1 Tryz.underlying49 rfl size49) rfl ⟨rfl, B1.out.trans (q2 _ (by omega))⟩
set_option maxHeartbeats 1000000 in
set_option maxRecDepth 100000 in
theorem rnext_idle2 {W : World} {own : Nat → Prop} {v : Value} {p : List Stp} (h : PlanAt W own v p) (hp : PlanOk p) (st tr : Nat) (x : Stp) (hx : p[st]? = some x) (hb : x.back = true) (h2 : tr ≤ 1) :
  Calls Tryz.prog 63 #[v, .agg #[.int .i64 2, .int .i64 st, .int .i64 tr, .bool false, .int .i64 0, .bool false, .int .i64 0]] W fun e W' => e = .returned (nextV (some ⟨st, true, tr + 1⟩)) ∧ Below W.heap.size W W' := by
 have HP : As (∀ w', Below W.heap.size W w' → Calls Tryz.prog 103 #[v, .agg #[.int .i64 2, .int .i64 st, .int .i64 tr, .bool false, .int .i64 0, .bool false, .int .i64 0]] w' fun e W' => e = .returned (.int .i64 0) ∧ Below w'.heap.size w' W') := ⟨fun w' hw => rscheck_live (h.keep (W' := w') (fun k _ hk => hw.block k hk) hw.size) hp 2 st tr false x hx (.inr ⟨rfl, hb⟩) (.inl ⟨rfl, h2⟩)⟩
 clear h hp
 go_enter Tryz.func63, Tryz.ntmps63
 go_wp2_with fail
 refine (HP.out _ (((Below.refl _ _).alloc (Nat.le_refl _) _).alloc (by simp) _)).mono ?_
 rintro e w1 ⟨rfl, q1⟩
 have hbk := (q1.block W.heap.size (by simp; omega)).trans (heap_alloc2_old W _ _)
 have hbk2 := As.mk ((q1.block (W.heap.size + 1) (by simp)).trans (heap_alloc2_new W _ _))
 have B1 : As (Below W.heap.size W w1) := ⟨(((Below.refl _ _).alloc (Nat.le_refl _) _).alloc (by simp) _).trans (q1.mono (by simp; omega))⟩
 obtain ⟨k0, k1, k2, k3, k4, k5, k6⟩ := cells7 hbk
 have hs1 := B1.out.size
 have hlt := blk_lt hbk
 clear q1 hbk
 go_upto_region 4 with fail
 go_wp2_with (refine wpList_storeC rfl 49 (.tmp 4) (.tmp 30) rfl (W.heap.size + 1) 49 (dnC ⟨st, true, tr + 1⟩) _ rfl rfl hbk2.out rfl size49 (dnC_one _) ?_; intro w2 q1 q2 q3 q4)
 refine bodyPost_ret (results_cell_tmp_row rfl _ _ (W.heap.size + 1) 49 (dnC ⟨st, true, tr + 1⟩).toArray (0, 0) _ rfl q1 Tryz.underlying49 rfl size49) rfl ⟨rfl, B1.out.trans (q2 _ (by omega))⟩
theorem rnext_a {W : World} {own : Nat → Prop} {v : Value} {p : List Stp} (h : PlanAt W own v p) (hp : PlanOk p) {s : Sg} (hs : SgOk p s) :
  Calls Tryz.prog 63 #[v, .agg (sgC s).toArray] W fun e W' => e = .returned (nextV (nextS s)) ∧ Below W.heap.size W W' := by
 cases hs with
 | over c h1 h2 => exact rnext_over h hp c h1 h2
 | idle ph st tr x hx hph ht =>
  rcases hph with rfl | ⟨rfl, hb⟩
  ·exact rnext_idle1 h hp st tr x hx ht
  ·exact rnext_idle2 h hp st tr x hx hb ht
 | wait ph st tr x hx hph h1 h2 =>
  rcases hph with rfl | ⟨rfl, hb⟩
  ·exact rnext_wait1 h hp st tr x hx h1 h2
  ·exact rnext_wait2 h hp st tr x hx hb h1 h2
set_option maxHeartbeats 1000000 in
set_option maxRecDepth 100000 in
theorem rask_1 {W : World} {own : Nat → Prop} {v : Value} {p : List Stp} (h : PlanAt W own v p) (hp : PlanOk p) (st tr : Nat) (x : Stp) (hx : p[st]? = some x)  (h2 : tr ≤ 1) :
  Calls Tryz.prog 59 #[v, .agg #[.int .i64 1, .int .i64 st, .int .i64 tr, .bool false, .int .i64 0, .bool false, .int .i64 0]] W fun e W' => e = .returned (.tuple #[.agg (sgC ⟨1, st, tr + 1, true, 0⟩).toArray, .int .i64 0]) ∧ Below W.heap.size W W' := by
 have HP : As (∀ w', Below W.heap.size W w' → Calls Tryz.prog 103 #[v, .agg #[.int .i64 1, .int .i64 st, .int .i64 tr, .bool false, .int .i64 0, .bool false, .int .i64 0]] w' fun e W' => e = .returned (.int .i64 0) ∧ Below w'.heap.size w' W') := ⟨fun w' hw => rscheck_live (h.keep (W' := w') (fun k _ hk => hw.block k hk) hw.size) hp 1 st tr false x hx (.inl rfl) (.inl ⟨rfl, h2⟩)⟩
 obtain ⟨g, c, y, rfl, hgl, _, hy, hr⟩ := h.at hx
 have hst : st < p.length := (List.getElem?_eq_some_iff.1 hx).1
 have HC := As.mk (hy.c5 hr)
 have hl2 := hp.l2
 clear h hp hx hr hy
 go_enter Tryz.func59, Tryz.ntmps59
 go_wp2_with fail
 refine (HP.out _ (((Below.refl _ _).alloc (Nat.le_refl _) _).alloc (by simp) _)).mono ?_
 rintro e w1 ⟨rfl, q1⟩
 have hbk := As.mk ((q1.block W.heap.size (by simp; omega)).trans (heap_alloc2_old W _ _))
 have hbk2 := As.mk ((q1.block (W.heap.size + 1) (by simp)).trans (heap_alloc2_new W _ _))
 have B1 : As (Below W.heap.size W w1) := ⟨(((Below.refl _ _).alloc (Nat.le_refl _) _).alloc (by simp) _).trans (q1.mono (by simp; omega))⟩
 have o4 : w1.cell? ⟨g, st * 6 + 4, none⟩ = some (.int .i64 5) := by rw [World.cell?_of_block (w := W) (a := ⟨g, st * 6 + 4, none⟩) (B1.out.block g hgl)]; exact HC.out.2.1
 obtain ⟨k0, k1, k2, k3, k4, k5, k6⟩ := cells7 hbk.out
 have f2 := blk_frozen hbk.out 2
 have f3 := blk_frozen hbk.out 3
 have f4 := blk_frozen hbk.out 4
 have hs1 := B1.out.size
 have hlt := blk_lt hbk.out
 have hlt2 := blk_lt hbk2.out
 generalize hb' : W.heap.size = b at *
 have HBe := As.mk hb'
 have hgb : ¬ g = b := by omega
 clear q1 hb' HP HC
 go_upto_region 9 with fail
 have H5 : As ((((w1.setCell ⟨b, 2, none⟩ (.int .i64 ((tr : Int) + 1))).setCell ⟨b, 3, none⟩ (.bool true)).setCell ⟨b, 4, none⟩ (.int .i64 5)).heap[b]? = some (.cells (sgC ⟨1, st, tr + 1, true, 0⟩).toArray 116 (0, 0))) := ⟨by
  rw [blk_put (blk_put (blk_put hbk.out 2 _) 3 _) 4 _]
  rfl⟩
 have H6 : As ((((w1.setCell ⟨b, 2, none⟩ (.int .i64 ((tr : Int) + 1))).setCell ⟨b, 3, none⟩ (.bool true)).setCell ⟨b, 4, none⟩ (.int .i64 5)).heap[b + 1]? = _) := ⟨blk_far (blk_far (blk_far hbk2.out (by omega) _) (by omega) _) (by omega) _⟩
 have B5 : As (Below b W (((w1.setCell ⟨b, 2, none⟩ (.int .i64 ((tr : Int) + 1))).setCell ⟨b, 3, none⟩ (.bool true)).setCell ⟨b, 4, none⟩ (.int .i64 5))) := ⟨((B1.out.setCell (p := ⟨b, 2, none⟩) (Nat.le_refl _) _).setCell (p := ⟨b, 3, none⟩) (Nat.le_refl _) _).setCell (p := ⟨b, 4, none⟩) (Nat.le_refl _) _⟩
 generalize ((w1.setCell ⟨b, 2, none⟩ (.int .i64 ((tr : Int) + 1))).setCell ⟨b, 3, none⟩ (.bool true)).setCell ⟨b, 4, none⟩ (.int .i64 5) = w4 at *
 clear k0 k1 k2 k3 k4 k5 k6 f2 f3 f4 hbk hbk2 o4 B1
 go_wp2_with (first | (refine wpList_load_row rfl 116 (.tmp 3) rfl b rfl 116 _ _ _ H5.out Tryz.underlying116 rfl size116 ?_) | (refine wpList_storeC rfl 116 (.tmp 4) (.tmp 34) rfl (b + 1) 116 (sgC ⟨1, st, tr + 1, true, 0⟩) _ rfl rfl H6.out rfl size116 (sgC_one _) ?_; intro w5 q1 q2 q3 q4))
 refine bodyPost_ret (results_cell_tmp_row rfl _ _ (b + 1) 116 (sgC ⟨1, st, tr + 1, true, 0⟩).toArray (0, 0) _ rfl q1 Tryz.underlying116 rfl size116) rfl ⟨rfl, ?_⟩
 rw [HBe.out]
 exact B5.out.trans (q2 _ (by omega))
set_option maxHeartbeats 1000000 in
set_option maxRecDepth 100000 in
theorem rask_2 {W : World} {own : Nat → Prop} {v : Value} {p : List Stp} (h : PlanAt W own v p) (hp : PlanOk p) (st tr : Nat) (x : Stp) (hx : p[st]? = some x) (hb : x.back = true) (h2 : tr ≤ 1) :
  Calls Tryz.prog 59 #[v, .agg #[.int .i64 2, .int .i64 st, .int .i64 tr, .bool false, .int .i64 0, .bool false, .int .i64 0]] W fun e W' => e = .returned (.tuple #[.agg (sgC ⟨2, st, tr + 1, true, 0⟩).toArray, .int .i64 0]) ∧ Below W.heap.size W W' := by
 have HP : As (∀ w', Below W.heap.size W w' → Calls Tryz.prog 103 #[v, .agg #[.int .i64 2, .int .i64 st, .int .i64 tr, .bool false, .int .i64 0, .bool false, .int .i64 0]] w' fun e W' => e = .returned (.int .i64 0) ∧ Below w'.heap.size w' W') := ⟨fun w' hw => rscheck_live (h.keep (W' := w') (fun k _ hk => hw.block k hk) hw.size) hp 2 st tr false x hx (.inr ⟨rfl, hb⟩) (.inl ⟨rfl, h2⟩)⟩
 obtain ⟨g, c, y, rfl, hgl, _, hy, hr⟩ := h.at hx
 have hst : st < p.length := (List.getElem?_eq_some_iff.1 hx).1
 have HC := As.mk (hy.c5 hr)
 have hl2 := hp.l2
 clear h hp hx hr hy
 go_enter Tryz.func59, Tryz.ntmps59
 go_wp2_with fail
 refine (HP.out _ (((Below.refl _ _).alloc (Nat.le_refl _) _).alloc (by simp) _)).mono ?_
 rintro e w1 ⟨rfl, q1⟩
 have hbk := As.mk ((q1.block W.heap.size (by simp; omega)).trans (heap_alloc2_old W _ _))
 have hbk2 := As.mk ((q1.block (W.heap.size + 1) (by simp)).trans (heap_alloc2_new W _ _))
 have B1 : As (Below W.heap.size W w1) := ⟨(((Below.refl _ _).alloc (Nat.le_refl _) _).alloc (by simp) _).trans (q1.mono (by simp; omega))⟩
 have o4 : w1.cell? ⟨g, st * 6 + 4, none⟩ = some (.int .i64 5) := by rw [World.cell?_of_block (w := W) (a := ⟨g, st * 6 + 4, none⟩) (B1.out.block g hgl)]; exact HC.out.2.1
 obtain ⟨k0, k1, k2, k3, k4, k5, k6⟩ := cells7 hbk.out
 have f2 := blk_frozen hbk.out 2
 have f3 := blk_frozen hbk.out 3
 have f4 := blk_frozen hbk.out 4
 have hs1 := B1.out.size
 have hlt := blk_lt hbk.out
 have hlt2 := blk_lt hbk2.out
 generalize hb' : W.heap.size = b at *
 have HBe := As.mk hb'
 have hgb : ¬ g = b := by omega
 clear q1 hb' HP HC
 go_upto_region 9 with fail
 have H5 : As ((((w1.setCell ⟨b, 2, none⟩ (.int .i64 ((tr : Int) + 1))).setCell ⟨b, 3, none⟩ (.bool true)).setCell ⟨b, 4, none⟩ (.int .i64 5)).heap[b]? = some (.cells (sgC ⟨2, st, tr + 1, true, 0⟩).toArray 116 (0, 0))) := ⟨by
  rw [blk_put (blk_put (blk_put hbk.out 2 _) 3 _) 4 _]
  rfl⟩
 have H6 : As ((((w1.setCell ⟨b, 2, none⟩ (.int .i64 ((tr : Int) + 1))).setCell ⟨b, 3, none⟩ (.bool true)).setCell ⟨b, 4, none⟩ (.int .i64 5)).heap[b + 1]? = _) := ⟨blk_far (blk_far (blk_far hbk2.out (by omega) _) (by omega) _) (by omega) _⟩
 have B5 : As (Below b W (((w1.setCell ⟨b, 2, none⟩ (.int .i64 ((tr : Int) + 1))).setCell ⟨b, 3, none⟩ (.bool true)).setCell ⟨b, 4, none⟩ (.int .i64 5))) := ⟨((B1.out.setCell (p := ⟨b, 2, none⟩) (Nat.le_refl _) _).setCell (p := ⟨b, 3, none⟩) (Nat.le_refl _) _).setCell (p := ⟨b, 4, none⟩) (Nat.le_refl _) _⟩
 generalize ((w1.setCell ⟨b, 2, none⟩ (.int .i64 ((tr : Int) + 1))).setCell ⟨b, 3, none⟩ (.bool true)).setCell ⟨b, 4, none⟩ (.int .i64 5) = w4 at *
 clear k0 k1 k2 k3 k4 k5 k6 f2 f3 f4 hbk hbk2 o4 B1
 go_wp2_with (first | (refine wpList_load_row rfl 116 (.tmp 3) rfl b rfl 116 _ _ _ H5.out Tryz.underlying116 rfl size116 ?_) | (refine wpList_storeC rfl 116 (.tmp 4) (.tmp 34) rfl (b + 1) 116 (sgC ⟨2, st, tr + 1, true, 0⟩) _ rfl rfl H6.out rfl size116 (sgC_one _) ?_; intro w5 q1 q2 q3 q4))
 refine bodyPost_ret (results_cell_tmp_row rfl _ _ (b + 1) 116 (sgC ⟨2, st, tr + 1, true, 0⟩).toArray (0, 0) _ rfl q1 Tryz.underlying116 rfl size116) rfl ⟨rfl, ?_⟩
 rw [HBe.out]
 exact B5.out.trans (q2 _ (by omega))
theorem rask_a {W : World} {own : Nat → Prop} {v : Value} {p : List Stp} (h : PlanAt W own v p) (hp : PlanOk p) {s : Sg} (hs : SgOk p s) {d : Dn} (hn : nextS s = some d) :
  Calls Tryz.prog 59 #[v, .agg (sgC s).toArray] W fun e W' => e = .returned (.tuple #[.agg (sgC (askS s)).toArray, .int .i64 0]) ∧ Below W.heap.size W W' := by
 cases hs with
 | over c h1 h2 => cases hn
 | idle ph st tr x hx hph ht =>
  rcases hph with rfl | ⟨rfl, hb⟩
  ·exact rask_1 h hp st tr x hx ht
  ·exact rask_2 h hp st tr x hx hb ht
 | wait ph st tr x hx hph h1 h2 =>
  unfold nextS at hn
  rw [if_pos (.inr rfl)] at hn
  cases hn
end Go.Proofs.YthfjhgdiakciaaaGreat.Bl
/- What is to be done, of the reference's ledger (Due). Condition: the ledger lies in memory as it is told. -/
namespace Go.Proofs.YthfjhgdiakciaaaGreat.Bl
open Go.RowKit Go.Maps
set_option linter.unusedVariables false
set_option linter.unusedSimpArgs false
def nxC : Option Dn → List Value
 | none => [.int .i64 0, .bool false, .int .i64 0]
 | some d => dnC d
theorem nextV_nx (o : Option Dn) : nextV o = .tuple #[.agg (nxC o).toArray, .bool o.isSome] := by cases o <;> rfl
theorem nxC_len (o : Option Dn) : (nxC o).length = 3 := by cases o <;> rfl
theorem nxC_one (o : Option Dn) : ∀ v ∈ nxC o, v.oneCell' = true := by
 cases o with
 | none => exact dnC_one ⟨0, false, 0⟩
 | some d => exact dnC_one d
/-- The reference's block's list, an order's state. -/
def RS (lb g o : Nat) (lv : Value) (s : Sg) (w : World) : Prop := w.cell? ⟨lb, 1, none⟩ = some lv ∧ w.rangeAt g o (sgC s) ∧ lb < w.heap.size ∧ g < w.heap.size
theorem RS.keep {lb g o : Nat} {lv : Value} {s : Sg} {w w' : World} (h : RS lb g o lv s w) (hb : Below w.heap.size w w') : RS lb g o lv s w' :=
 ⟨by rw [World.cell?_of_block (w := w) (a := ⟨lb, 1, none⟩) (hb.block lb h.2.2.1)]; exact h.1, range_heap h.2.1 (hb.block g h.2.2.2), Nat.lt_of_lt_of_le h.2.2.1 hb.size, Nat.lt_of_lt_of_le h.2.2.2 hb.size⟩
theorem RS.far {lb g o b : Nat} {lv : Value} {s : Sg} {w w' : World} (h : RS lb g o lv s w) (hs : w'.heap.size = w.heap.size) (hk : ∀ k, k ≠ b → w'.heap[k]? = w.heap[k]?) (h1 : lb ≠ b) (h2 : g ≠ b) : RS lb g o lv s w' :=
 ⟨by rw [World.cell?_of_block (w := w) (a := ⟨lb, 1, none⟩) (hk lb h1)]; exact h.1, range_heap h.2.1 (hk g h2), by rw [hs]; exact h.2.2.1, by rw [hs]; exact h.2.2.2⟩
set_option maxHeartbeats 8000000 in
set_option maxRecDepth 100000 in
theorem rdue_a {W : World} {OP OL : Nat → Prop} {lb : Nat} {pv lv tv : Value} {ps : List (List Stp)} {l : List Or} {bs : List Bool} {last : Nat} {tk nt : Int} (h : RLedAt W OP OL lb pv lv tv ps l bs last tk nt) (hps : PsOk ps) (hlo : LOk ps l) :
  Calls Tryz.prog 22 #[.pointer (some ⟨lb, 0, none⟩)] W fun e W' => SomeDue W W' e (colL nextS 1 l) := by
 obtain ⟨A, c, rfl⟩ := h.slice
 have hbk := h.blk
 have hlbl := blk_lt hbk
 obtain ⟨i1, hi1, hz0, hz1, hz2⟩ := info_parts info51
 have HO := As.mk h.ors
 have HL := As.mk h
 have HLO := As.mk hlo
 have HPS := As.mk hps
 have hl5 := hlo.len
 clear h hlo hps
 generalize hep : epF last = ep at hbk
 have HBK := As.mk hbk
 clear hbk hep
 go_enter Tryz.func22, Tryz.ntmps22
 go_wp2_with fail
 go_loopg [3, 4] l.length (fun gk v3 v4 w' => ∃ (i : Nat) (v : Value), v4 = .int .i64 i ∧ v3 = v ∧ As (gk = l.length - i) ∧ As (i ≤ l.length) ∧ As (DueRow w' W.heap.size v (colL nextS 1 (l.take i))) ∧ As (Below W.heap.size W w'))
 case atStart => exact ⟨0, _, rfl, rfl, ⟨rfl⟩, ⟨Nat.zero_le _⟩, ⟨World.ownsRow_nil _ _ _ _⟩, ⟨Below.refl _ _⟩⟩
 case round =>
  obtain ⟨i, v, rfl, hv3, HK, HI, HR, HB⟩ := hrel
  have hv3 := hv3.symm
  subst hv3
  have hs := HB.out.size
  have hbr := (HB.out.block lb hlbl).trans HBK.out
  have c1 : wr.cell? ⟨lb, 1, none⟩ = some (.slice A l.length c) := (blk_cell hbr 1).trans rfl
  have hlr : lb < wr.heap.size := by omega
  by_cases hlt : i < l.length
  ·obtain ⟨g, c', x, hv, hgl, _, hx, hr⟩ := HO.out.at rfl (List.getElem?_eq_getElem hlt)
   injection hv with e1 _ e2
   subst e1 e2
   obtain ⟨k1, k2⟩ := hx.num hr
   have HK1 := As.mk k1
   have hgr := HB.out.block g hgl
   have hr1 := range_heap k2 hgr
   have hglr : g < wr.heap.size := by omega
   have HT : As (colL nextS 1 (l.take (i + 1)) = colL nextS 1 (l.take i) ++ oneL nextS (i + 1) l[i]) := ⟨by rw [colL_take _ _ _ _ hlt, Nat.add_comm 1 i]⟩
   obtain ⟨p, hp, hsg⟩ := HLO.out.at (List.getElem?_eq_getElem hlt)
   have HPO := As.mk (HPS.out.ok p (List.mem_of_getElem? hp))
   have HRP : As (∀ w, Below W.heap.size W w → Calls Tryz.prog 60 #[.pointer (some ⟨lb, 0, none⟩), .int .i64 i] w fun e W' => ∃ sv, e = .returned sv ∧ PlanAt W' OP sv p ∧ Below w.heap.size w W') := ⟨fun w hw => rplan_a (HL.out.keep (fun k _ hk => hw.block k hk) hw.size) (List.getElem?_eq_getElem hlt) hp HPS.out.len (by omega)⟩
   have HSG := As.mk hsg
   have hlen := colL_len nextS (l.take i) 1
   rw [List.length_take] at hlen
   clear hr hx k1 k2 hsg hp
   generalize colL nextS 1 (l.take i) = L at *
   obtain ⟨L', hL'⟩ : ∃ L', L' = colL nextS 1 (l.take (i + 1)) := ⟨_, rfl⟩
   rw [← hL'] at HT
   have HL' := As.mk hL'
   clear hL'
   unfold oneL at HT
   generalize l[i] = o at *
   obtain ⟨okey, opl, s⟩ := o
   simp only at hr1 HT HSG
   obtain ⟨A1, c1', rfl⟩ := HR.out.form
   have X0 : As (RS lb g (i * 10 + 3) (.slice (some ⟨g, 0, none⟩) l.length c) s wr) := ⟨c1, hr1, hlr, hglr⟩
   have HNV : As (nextV (nextS s) = .tuple #[.agg (nxC (nextS s)).toArray, .bool (nextS s).isSome]) := ⟨nextV_nx _⟩
   have HN1 : As ((nxC (nextS s)).length = 3 ∧ ∀ v ∈ nxC (nextS s), v.oneCell' = true) := ⟨nxC_len _, nxC_one _⟩
   clear hr1
   go_upto_region 5 with fail
   go_cut [5, 6] from 7 to 44 (fun v5 v6 wc => ∃ b5 : Nat, v5 = .pointer (some ⟨b5, 0, none⟩) ∧ v6 = .bool (nextS s).isSome ∧ As (wc.heap[b5]? = some (.cells (nxC (nextS s)).toArray 49 (0, 0))) ∧ As (wr.heap.size ≤ b5) ∧ As (Below wr.heap.size wr wc))
   case first =>
    generalize hdd : nxC (nextS s) = dd at *
    have HDD := As.mk hdd
    clear hdd c1
    refine wp_region_plan_tree (RS lb g (i * 10 + 3) (.slice (some ⟨g, 0, none⟩) l.length c) s) (.cons 1 0 (.cons 1 1 (.cons 1 3 (.cons 1 4 (.cons 1 5 (.cons 0 6 (.cons 1 7 (.cons 1 8 (.cons 1 9 (.cons 0 10 (.two 2 15 (.two 11 15 (.cons 1 12 (.cons 1 13 (.cons 1 14 (.cons 2 15 (.cons 2 16 (.cons 2 17 .nil)))))) (.cons 2 11 (.cons 1 12 (.cons 1 13 (.cons 1 14 (.cons 2 16 (.cons 2 17 .nil))))))) (.cons 2 2 (.cons 2 11 (.cons 1 12 (.cons 1 13 (.cons 1 14 (.cons 2 16 (.cons 2 17 .nil)))))))))))))))))) (by kernel_rfl) (by kernel_rfl) (by kernel_rfl) (by kernel_rfl) (fun _ _ _ _ _ h => h) (X0.out.keep (w' := wr.drew) ((Below.refl _ wr).drew)) ?_
    simp only [PT.tag, List.getElem?_toArray, List.getElem?_cons_succ, List.getElem?_cons_zero]
    iterate 5 (with_reducible refine wpT_sure (fun K hK => ?_); go_simp; with_reducible refine hK _ ?_; clear hK K)
    refine wpT_take (fun K hK => ?_)
    rw [if_pos (by rfl)]
    apply Exists.intro
    refine ⟨fun w' hw' => ?_, hK _ ?_⟩
    ·have j0 := hw'.1
     go_simp
     rfl
    clear hK K
    iterate 3 (with_reducible refine wpT_sure (fun K hK => ?_); go_simp; with_reducible refine hK _ ?_; clear hK K)
    refine wpT_take (fun K hK => ?_)
    rw [if_pos (by rfl)]
    refine ⟨.agg (sgC s).toArray, fun w' hw' => exec_load_mid _ _ _ 116 (.tmp 26) rfl g (i * 10 + 3) rfl (sgC s) _ hw'.2.1 Tryz.underlying116 rfl size116, hK _ ?_⟩
    clear hK K
    have Bd : As (Below wr.heap.size wr wr.drew) := ⟨(Below.refl _ wr).drew⟩
    have Xd := As.mk (X0.out.keep (w' := wr.drew) ((Below.refl _ wr).drew))
    have hsd : wr.heap.size ≤ wr.drew.heap.size := Nat.le_refl _
    generalize wr.drew = wd at *
    refine wpT_two ?_ ?_
    ·with_reducible refine wpT_next (fun K hK => ?_)
     go_simp
     refine (HRP.out _ (HB.out.trans (Bd.out.mono hs))).mono ?_
     rintro e w1 ⟨pw, rfl, g1, q1⟩
     have B1 : As (Below wr.heap.size wr w1) := ⟨Bd.out.trans (q1.mono hsd)⟩
     have X1 := As.mk (Xd.out.keep q1)
     have hs1 := B1.out.size
     have HV := As.mk g1
     refine hK _ _ X1.out ?_
     clear hK K q1 g1
     refine wpT_two ?_ ?_
     ·with_reducible refine wpT_next (fun K hK => ?_)
      go_simp
      have HSN := rnext_a HV.out HPO.out HSG.out
      rw [HNV.out] at HSN
      refine HSN.mono ?_
      clear HSN
      rintro e w2 ⟨rfl, q1⟩
      have B2 : As (Below wr.heap.size wr w2) := ⟨B1.out.trans (q1.mono hs1)⟩
      have X2 := As.mk (X1.out.keep q1)
      have hs2 := B2.out.size
      refine hK _ _ X2.out ?_
      clear hK K q1
      iterate 3 (with_reducible refine wpT_sure (fun K hK => ?_); go_simp; with_reducible refine hK _ ?_; clear hK K)
      with_reducible refine wpT_next (fun K hK => ?_)
      go_simp
      have q1 : Below w2.heap.size w2 (w2.alloc (.cells #[.int .i64 0, .bool false, .int .i64 0] 49)) := (Below.refl _ _).alloc (Nat.le_refl _) _
      obtain ⟨b6, hb6⟩ : ∃ b6, b6 = w2.heap.size := ⟨_, rfl⟩
      have A3 : As ((w2.alloc (.cells #[.int .i64 0, .bool false, .int .i64 0] 49)).heap[b6]? = some (.cells #[.int .i64 0, .bool false, .int .i64 0] 49 (0, 0))) := ⟨by rw [hb6]; exact blk_new w2 _⟩
      have O6 : As (wr.heap.size ≤ b6) := ⟨by omega⟩
      rw [← hb6]
      clear hb6
      generalize w2.alloc (.cells #[.int .i64 0, .bool false, .int .i64 0] 49) = w3 at *
      have B3 : As (Below wr.heap.size wr w3) := ⟨B2.out.trans (q1.mono hs2)⟩
      have X3 := As.mk (X2.out.keep q1)
      have hs3 := B3.out.size
      refine hK _ _ X3.out ?_
      clear hK K q1
      with_reducible refine wpT_next (fun K hK => ?_)
      rw [if_pos (by rfl)]
      refine wp_storeC 49 (.tmp 5) (.tmp 29) rfl b6 49 dd _ rfl rfl A3.out (by rw [HN1.out.1]; rfl) (by rw [HN1.out.1]; exact size49) HN1.out.2 ?_
      intro wf q1 q2 q3 q4
      have BF : As (Below wr.heap.size wr wf) := ⟨B3.out.trans (q2 _ O6.out)⟩
      have AF := As.mk q1
      have XF := As.mk (X3.out.far q3 q4 (by have := X0.out.2.2; have := O6.out; omega) (by have := X0.out.2.2; have := O6.out; omega))
      refine hK _ _ XF.out ?_
      clear hK K q1 q2 q3 q4
      with_reducible refine wpT_next (fun K hK => ?_)
      go_simp
      refine hK _ _ XF.out ?_
      clear hK K
      refine wpT_nil ?_
      go_wp2_with fail
      go_meet
      case rel => exact ⟨b6, rfl, rfl, AF, O6, BF⟩
     ·with_reducible refine wpT_next (fun K hK => ?_)
      go_simp
      have q1 : Below w1.heap.size w1 (w1.alloc (.cells #[.int .i64 0, .bool false, .int .i64 0] 49)) := (Below.refl _ _).alloc (Nat.le_refl _) _
      obtain ⟨b6, hb6⟩ : ∃ b6, b6 = w1.heap.size := ⟨_, rfl⟩
      have A5 : As ((w1.alloc (.cells #[.int .i64 0, .bool false, .int .i64 0] 49)).heap[b6]? = some (.cells #[.int .i64 0, .bool false, .int .i64 0] 49 (0, 0))) := ⟨by rw [hb6]; exact blk_new w1 _⟩
      have O6 : As (wr.heap.size ≤ b6) := ⟨by omega⟩
      rw [← hb6]
      clear hb6
      generalize w1.alloc (.cells #[.int .i64 0, .bool false, .int .i64 0] 49) = w5 at *
      have B5 : As (Below wr.heap.size wr w5) := ⟨B1.out.trans (q1.mono hs1)⟩
      have X5 := As.mk (X1.out.keep q1)
      have hs5 := B5.out.size
      have HV := As.mk (HV.out.keep (W' := w5) (fun k _ hk => q1.block k hk) q1.size)
      refine hK _ _ X5.out ?_
      clear hK K q1
      with_reducible refine wpT_next (fun K hK => ?_)
      go_simp
      have HSN := rnext_a HV.out HPO.out HSG.out
      rw [HNV.out] at HSN
      refine HSN.mono ?_
      clear HSN
      rintro e w6 ⟨rfl, q1⟩
      have B6 : As (Below wr.heap.size wr w6) := ⟨B5.out.trans (q1.mono hs5)⟩
      have X6 := As.mk (X5.out.keep q1)
      have hs6 := B6.out.size
      have A6 := As.mk ((q1.block b6 (blk_lt A5.out)).trans A5.out)
      refine hK _ _ X6.out ?_
      clear hK K q1
      iterate 3 (with_reducible refine wpT_sure (fun K hK => ?_); go_simp; with_reducible refine hK _ ?_; clear hK K)
      with_reducible refine wpT_next (fun K hK => ?_)
      rw [if_pos (by rfl)]
      refine wp_storeC 49 (.tmp 5) (.tmp 29) rfl b6 49 dd _ rfl rfl A6.out (by rw [HN1.out.1]; rfl) (by rw [HN1.out.1]; exact size49) HN1.out.2 ?_
      intro wf q1 q2 q3 q4
      have BF : As (Below wr.heap.size wr wf) := ⟨B6.out.trans (q2 _ O6.out)⟩
      have AF := As.mk q1
      have XF := As.mk (X6.out.far q3 q4 (by have := X0.out.2.2; have := O6.out; omega) (by have := X0.out.2.2; have := O6.out; omega))
      refine hK _ _ XF.out ?_
      clear hK K q1 q2 q3 q4
      with_reducible refine wpT_next (fun K hK => ?_)
      go_simp
      refine hK _ _ XF.out ?_
      clear hK K
      refine wpT_nil ?_
      go_wp2_with fail
      go_meet
      case rel => exact ⟨b6, rfl, rfl, AF, O6, BF⟩
    ·with_reducible refine wpT_next (fun K hK => ?_)
     go_simp
     have q1 : Below wd.heap.size wd (wd.alloc (.cells #[.int .i64 0, .bool false, .int .i64 0] 49)) := (Below.refl _ _).alloc (Nat.le_refl _) _
     obtain ⟨b6, hb6⟩ : ∃ b6, b6 = wd.heap.size := ⟨_, rfl⟩
     have A8 : As ((wd.alloc (.cells #[.int .i64 0, .bool false, .int .i64 0] 49)).heap[b6]? = some (.cells #[.int .i64 0, .bool false, .int .i64 0] 49 (0, 0))) := ⟨by rw [hb6]; exact blk_new wd _⟩
     have O6 : As (wr.heap.size ≤ b6) := ⟨by omega⟩
     rw [← hb6]
     clear hb6
     generalize wd.alloc (.cells #[.int .i64 0, .bool false, .int .i64 0] 49) = w8 at *
     have B8 : As (Below wr.heap.size wr w8) := ⟨Bd.out.trans (q1.mono hsd)⟩
     have X8 := As.mk (Xd.out.keep q1)
     have hs8 := B8.out.size
     refine hK _ _ X8.out ?_
     clear hK K q1
     with_reducible refine wpT_next (fun K hK => ?_)
     go_simp
     refine (HRP.out _ (HB.out.trans (B8.out.mono hs))).mono ?_
     rintro e w9 ⟨pw, rfl, g1, q1⟩
     have B9 : As (Below wr.heap.size wr w9) := ⟨B8.out.trans (q1.mono hs8)⟩
     have X9 := As.mk (X8.out.keep q1)
     have hs9 := B9.out.size
     have A9 := As.mk ((q1.block b6 (blk_lt A8.out)).trans A8.out)
     have HV := As.mk g1
     refine hK _ _ X9.out ?_
     clear hK K q1 g1
     with_reducible refine wpT_next (fun K hK => ?_)
     go_simp
     have HSN := rnext_a HV.out HPO.out HSG.out
     rw [HNV.out] at HSN
     refine HSN.mono ?_
     clear HSN
     rintro e w10 ⟨rfl, q1⟩
     have B10 : As (Below wr.heap.size wr w10) := ⟨B9.out.trans (q1.mono hs9)⟩
     have X10 := As.mk (X9.out.keep q1)
     have hs10 := B10.out.size
     have A10 := As.mk ((q1.block b6 (blk_lt A9.out)).trans A9.out)
     refine hK _ _ X10.out ?_
     clear hK K q1
     iterate 3 (with_reducible refine wpT_sure (fun K hK => ?_); go_simp; with_reducible refine hK _ ?_; clear hK K)
     with_reducible refine wpT_next (fun K hK => ?_)
     rw [if_pos (by rfl)]
     refine wp_storeC 49 (.tmp 5) (.tmp 29) rfl b6 49 dd _ rfl rfl A10.out (by rw [HN1.out.1]; rfl) (by rw [HN1.out.1]; exact size49) HN1.out.2 ?_
     intro wf q1 q2 q3 q4
     have BF : As (Below wr.heap.size wr wf) := ⟨B10.out.trans (q2 _ O6.out)⟩
     have AF := As.mk q1
     have XF := As.mk (X10.out.far q3 q4 (by have := X0.out.2.2; have := O6.out; omega) (by have := X0.out.2.2; have := O6.out; omega))
     refine hK _ _ XF.out ?_
     clear hK K q1 q2 q3 q4
     with_reducible refine wpT_next (fun K hK => ?_)
     go_simp
     refine hK _ _ XF.out ?_
     clear hK K
     refine wpT_nil ?_
     go_wp2_with fail
     go_meet
     case rel => exact ⟨b6, rfl, rfl, AF, O6, BF⟩
   case rest =>
    obtain ⟨b5, rfl, rfl, HB5, HBL, HBC⟩ := hcut
    have BW : As (Below W.heap.size W wc) := ⟨HB.out.trans (HBC.out.mono hs)⟩
    have R2 : As (wc.ownsRow W.heap.size 51 4 (.slice A1 L.length c1') L.length (L.flatMap duC)) := ⟨own_keep HR.out (fun q _ hq => HBC.out.block q hq)⟩
    have k1 : wc.cell? ⟨g, i * 10, none⟩ = some (.int .u32 ((i : Int) + 1)) := (World.cell?_of_block (w := W) (a := ⟨g, i * 10, none⟩) (BW.out.block g hgl)).trans HK1.out
    have c1 : wc.cell? ⟨lb, 1, none⟩ = some (.slice (some ⟨g, 0, none⟩) l.length c) := (X0.out.keep HBC.out).1
    have hsc := BW.out.size
    have hlc := HBC.out.size
    cases hn : nextS s with
    | none =>
     have HT' : As (L' = L) := ⟨by rw [HT.out, hn]; simp⟩
     clear hn HT
     go_wp2_with fail
     go_roundg (l.length - (i + 1))
     case measure => have := HK.out; omega
     case rel => exact ⟨i + 1, _, by go_num, rfl, ⟨rfl⟩, ⟨by omega⟩, ⟨by rw [← HL'.out, HT'.out]; exact R2.out⟩, BW⟩
    | some dd =>
     have HT' : As (L' = L ++ [⟨i + 1, dd⟩]) := ⟨by rw [HT.out, hn]⟩
     rw [hn] at HB5
     have h5 : wc.heap[b5]? = some (.cells #[.int .i64 dd.st, .bool dd.undo, .int .i64 dd.tr] 49 (0, 0)) := HB5.out
     clear hn HT
     go_upto_region 7 with fail
     have HNE : As (∀ q, (Value.slice A1 L.length c1').ownBlock = some q → q ≠ b5) := ⟨fun q hq => by have := (World.ownsRow.lt HR.out q hq).2; have := HBL.out; omega⟩
     have hown5 : As (wc.heap[b5]? = some (.cells #[.int .i64 dd.st, .bool dd.undo, .int .i64 dd.tr] 49 (0, 0)) ∧ b5 < wc.heap.size ∧ lb < wc.heap.size ∧ g < wc.heap.size) := ⟨h5, blk_lt h5, by omega, by omega⟩
     refine wp_region_plan_kept (fun w' => w'.cell? ⟨lb, 1, none⟩ = some (.slice (some ⟨g, 0, none⟩) l.length c) ∧ w'.cell? ⟨g, i * 10, none⟩ = some (.int .u32 ((i : Int) + 1)) ∧ w'.heap[b5]? = some (.cells #[.int .i64 dd.st, .bool dd.undo, .int .i64 dd.tr] 49 (0, 0))) [(1,0),(1,1),(1,2),(1,3),(0,4),(1,5),(1,6),(1,7),(0,8),(0,9),(1,10),(2,11),(2,12),(1,13)] (by kernel_rfl) (by kernel_rfl) (by kernel_rfl) (by kernel_rfl) (fun _ _ _ _ _ h => h) ⟨c1, k1, h5⟩ ?_
     simp only [tagged, List.filterMap_cons, List.filterMap_nil, List.getElem?_toArray, List.getElem?_cons_succ, List.getElem?_cons_zero, Option.map_some]
     iterate 4 (with_reducible refine wpKept_sure (fun K hK => ?_); go_simp; with_reducible refine hK _ ?_; clear hK K)
     refine wpKept_take (fun K hK => ?_)
     rw [if_pos (by rfl)]
     apply Exists.intro
     refine ⟨fun w' hw' => ?_, hK _ ?_⟩
     ·have j0 := hw'.1
      go_simp
      rfl
     clear hK K
     iterate 3 (with_reducible refine wpKept_sure (fun K hK => ?_); go_simp; with_reducible refine hK _ ?_; clear hK K)
     refine wpKept_take (fun K hK => ?_)
     rw [if_pos (by rfl)]
     apply Exists.intro
     refine ⟨fun w' hw' => ?_, hK _ ?_⟩
     ·have j0 := hw'.2.1
      go_simp
      rfl
     clear hK K
     refine wpKept_take (fun K hK => ?_)
     rw [if_pos (by rfl)]
     refine ⟨.agg #[.int .i64 dd.st, .bool dd.undo, .int .i64 dd.tr], fun w' hw' => exec_load_mid _ _ _ 49 (.tmp 5) rfl b5 0 rfl [.int .i64 dd.st, .bool dd.undo, .int .i64 dd.tr] _ (fun j v hv => by rw [Nat.zero_add, blk_cell hw'.2.2]; simpa using hv) Tryz.underlying49 rfl size49, hK _ ?_⟩
     clear hK K
     iterate 1 (with_reducible refine wpKept_sure (fun K hK => ?_); go_simp; with_reducible refine hK _ ?_; clear hK K)
     with_reducible refine wpKept_next (fun K hK => ?_)
     rw [if_pos (by rfl)]
     refine wp_build42 (.tmp 42) rfl [.int .u32 ((i : Int) + 1), .int .i64 dd.st, .bool dd.undo, .int .i64 dd.tr] rfl rfl ?_
     have R3 : As ((wc.drew.alloc (.cells ([.int .u32 ((i : Int) + 1), .int .i64 dd.st, .bool dd.undo, .int .i64 dd.tr] : List Value).toArray 51 (0, 0))).ownsRow W.heap.size 51 4 (.slice A1 L.length c1') L.length (L.flatMap duC)) := ⟨World.ownsRow.alloc (World.ownsRow.drew R2.out) _⟩
     refine hK _ _ ⟨by rw [World.cell?_of_block (w := wc) (a := ⟨lb, 1, none⟩) (Below.heap_alloc wc.drew _ _ hown5.out.2.2.1)]; exact c1, by rw [World.cell?_of_block (w := wc) (a := ⟨g, i * 10, none⟩) (Below.heap_alloc wc.drew _ _ hown5.out.2.2.2)]; exact k1, (Below.heap_alloc wc.drew _ _ hown5.out.2.1).trans h5⟩ ?_
     clear hK K
     with_reducible refine wpKept_next (fun K hK => ?_)
     refine step_append_lies (wc.drew.alloc (.cells ([.int .u32 ((i : Int) + 1), .int .i64 dd.st, .bool dd.undo, .int .i64 dd.tr] : List Value).toArray 51 (0, 0))) (by rfl) _ _ _ (by rfl) W.heap.size 51 i1 _ 4 32 Tryz.underlying42 hi1 hz0 hz1 hz2 (by rfl) (by omega) (.slice A1 L.length c1') L.length (L.flatMap duC) (by rfl) R3.out
      ⟨wc.heap.size, 0, none⟩ 1 1 [.int .u32 ((i : Int) + 1), .int .i64 dd.st, .bool dd.undo, .int .i64 dd.tr] (by rfl) rfl (World.news_of_block (blk_new wc.drew _)) (duC_one _ _ _ _) (by omega) (by unfold maxLen; omega) (by omega) (by simp; omega) _ rfl ?_
     intro gg cap w4 q1 q2 q3 q4
     have B4 : As (Below W.heap.size W w4) := ⟨(BW.out.drew.alloc hsc _).grown q2 (by simp; omega) (fun q hq => (R2.out.lt q hq).1)⟩
     have R4 : As (DueRow w4 W.heap.size (.slice (some ⟨gg, 0, none⟩) (L.length + 1) cap) L') := ⟨by
      rw [HT'.out]
      unfold DueRow
      rw [List.length_append, List.flatMap_append]
      simpa [duC] using q1⟩
     refine hK _ _ ⟨by rw [World.cell?_of_block (w := W) (a := ⟨lb, 1, none⟩) (B4.out.block lb hlbl)]; exact (blk_cell HBK.out 1).trans rfl, by rw [World.cell?_of_block (w := W) (a := ⟨g, i * 10, none⟩) (B4.out.block g hgl)]; exact HK1.out, (q2.block b5 (by have := hown5.out.2.1; simp; omega) (fun e => HNE.out b5 e.symm rfl)).trans ((Below.heap_alloc wc.drew _ _ hown5.out.2.1).trans h5)⟩ ?_
     clear hK K q1 q2 q3 q4
     iterate 1 (with_reducible refine wpKept_sure (fun K hK => ?_); go_simp; with_reducible refine hK _ ?_; clear hK K)
     refine wpKept_nil ?_
     go_wp2_with fail
     go_roundg (l.length - (i + 1))
     case measure => have := HK.out; omega
     case rel => exact ⟨i + 1, _, by go_num, rfl, ⟨rfl⟩, ⟨by omega⟩, ⟨by rw [← HL'.out]; exact R4.out⟩, B4⟩
  ·have hi : i = l.length := by have := HI.out; omega
   subst hi
   go_wp2_with fail
   go_ret
   refine ⟨_, rfl, ?_, HB.out⟩
   have := HR.out
   rw [List.take_length] at this
   exact this
end Go.Proofs.YthfjhgdiakciaaaGreat.Bl
