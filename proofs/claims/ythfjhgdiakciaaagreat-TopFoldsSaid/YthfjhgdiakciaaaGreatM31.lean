/- An entry comes (drayageref20's Apply): an intent, a result. Condition: Check says yes; the ledger lies in memory as it is told. -/
import Derived.Test.YthfjhgdiakciaaaGreatM24
import Derived.Test.YthfjhgdiakciaaaGreatM29
import Derived.Test.YthfjhgdiakciaaaGreatM30
namespace Go.Proofs.YthfjhgdiakciaaaGreat.Bl
open Go.RowKit Go.Maps
set_option linter.unusedVariables false
set_option linter.unusedSimpArgs false
set_option maxHeartbeats 4000000 in
set_option maxRecDepth 100000 in
theorem rapply_intent {W : World} {OP OL : Nat → Prop} {lb : Nat} {pv lv tv : Value} {ps : List (List Stp)} {l : List Or} {bs : List Bool} {last : Nat} {tk nt : Int} (h : RLedAt W OP OL lb pv lv tv ps l bs last tk nt) (hps : PsOk ps) (hn : l.length < 500) {i : Nat} {o : Or} (ho : l[i]? = some o) {p : List Stp} (hp : ps[o.pl]? = some p) (hs : SgOk p o.sg) {d : Dn} (hnx : nextS o.sg = some d) {ak ad : Option Addr} {ck cd : Nat} {est etr : Int} {eu : Bool}
  (hC : ∀ w, Below W.heap.size W w → Calls Tryz.prog 57 #[.pointer (some ⟨lb, 0, none⟩), .agg #[.int .i64 3, .int .u64 ((last : Int) + 1), .int .u32 1, .int .u32 ((i : Int) + 1), .int .i64 est, .bool eu, .int .i64 etr, .int .i64 0, .int .u64 0, .slice ak 0 ck, .slice ad 0 cd]] w fun e W' => e = .returned (.int .i64 0) ∧ Below w.heap.size w W') :
  Calls Tryz.prog 19 #[.pointer (some ⟨lb, 0, none⟩), .agg #[.int .i64 3, .int .u64 ((last : Int) + 1), .int .u32 1, .int .u32 ((i : Int) + 1), .int .i64 est, .bool eu, .int .i64 etr, .int .i64 0, .int .u64 0, .slice ak 0 ck, .slice ad 0 cd]] W fun e W' => e = .returned (.int .i64 0) ∧ RLedNext W W' OP OL lb pv ps (l.set i { o with sg := askS o.sg }) (last + 1) := by
 obtain ⟨A, c, rfl⟩ := h.slice
 have hil := (List.getElem?_eq_some_iff.1 ho).1
 obtain ⟨g, c', x, hv, hgl, hog, hx, hr⟩ := h.ors.at rfl ho
 injection hv with e1 _ e2
 subst e1 e2
 have hbk := h.blk
 have hlb := blk_lt hbk
 have hgne : g ≠ lb := fun e => h.s1.1 (e ▸ hog.1)
 have hr1 := As.mk (hx.num hr).2
 have HR := As.mk h
 have HC : As (∀ w, Below W.heap.size W w → Calls Tryz.prog 57 #[.pointer (some ⟨lb, 0, none⟩), .agg #[.int .i64 3, .int .u64 ((last : Int) + 1), .int .u32 1, .int .u32 ((i : Int) + 1), .int .i64 est, .bool eu, .int .i64 etr, .int .i64 0, .int .u64 0, .slice ak 0 ck, .slice ad 0 cd]] w fun e W' => e = .returned (.int .i64 0) ∧ Below w.heap.size w W') := ⟨hC⟩
 generalize hep : epF last = ep at hbk
 have HB := As.mk hbk
 have hwi : IntKind.i64.wrap ((i : Int) + 1) = (i : Int) + 1 := by simp [IntKind.wrap, IntKind.bits, IntKind.signed]; omega
 have hw1 : wrap64 ((i : Int) + 1 - 1) = i := by simp [wrap64, IntKind.wrap, IntKind.bits, IntKind.signed]; omega
 have HO := As.mk ho
 have HP := As.mk hp
 have HS := As.mk hs
 have HNX := As.mk hnx
 have HPO := As.mk (hps.ok p (List.mem_of_getElem? hp))
 have HPL := As.mk hps.len
 clear hnx
 have hli : i < l.length ∧ l.length < 500 := ⟨hil, hn⟩
 clear h ho hp hs hps hr hx hog hbk hep hC hil hn
 generalize hln : l.length = n at *
 have HLN := As.mk hln
 clear hln
 go_enter Tryz.func19, Tryz.ntmps19
 go_wp2_with fail
 refine (HC.out _ ((Below.refl _ W).alloc (Nat.le_refl _) _)).mono ?_
 rintro e w1 ⟨rfl, q1⟩
 have hbox1 := As.mk ((q1.block W.heap.size (by simp)).trans (heap_alloc_new W _))
 have B1 : As (Below W.heap.size W w1) := ⟨((Below.refl _ W).alloc (Nat.le_refl _) _).trans (q1.mono (by simp))⟩
 have hb1 := As.mk ((B1.out.block lb hlb).trans HB.out)
 have hs1 := B1.out.size
 obtain ⟨k0, k1, k2, k3, k4, k5, k6, k7, k8, k9, k10⟩ := cells11 hbox1.out
 have c6 := (blk_cell hb1.out 6).trans rfl
 have f6 := blk_frozen hb1.out 6
 have c3 := (blk_cell hb1.out 3).trans rfl
 have f3 := blk_frozen hb1.out 3
 have c4 := (blk_cell hb1.out 4).trans rfl
 have f4 := blk_frozen hb1.out 4
 clear q1 HC
 obtain ⟨b3, hb3⟩ : ∃ b3, b3 = W.heap.size := ⟨_, rfl⟩
 have hb3l : lb < b3 := by omega
 have hb3n : ¬ b3 = lb := by omega
 have hb3m : ¬ lb = b3 := by omega
 rw [← hb3] at hbox1 k0 k1 k2 k3 k4 k5 k6 k7 k8 k9 k10 ⊢
 have HB3 := As.mk hb3
 clear hb3
 go_upto_region 14 with fail
 have F3 : As (Frame (fun k => k = lb) W (((w1.setCell ⟨lb, 6, none⟩ (.int .i64 (wrap64 (tk + 1)))).setCell ⟨lb, 3, none⟩ (.int .u64 ((last : Int) + 1))).setCell ⟨lb, 4, none⟩ (.int .u32 1))) := ⟨(((Frame.of_below (own := fun k => k = lb) B1.out (Nat.le_refl _)).setCell (p := ⟨lb, 6, none⟩) (.inl rfl) _).setCell (p := ⟨lb, 3, none⟩) (.inl rfl) _).setCell (p := ⟨lb, 4, none⟩) (.inl rfl) _⟩
 have hb3w : (((w1.setCell ⟨lb, 6, none⟩ (.int .i64 (wrap64 (tk + 1)))).setCell ⟨lb, 3, none⟩ (.int .u64 ((last : Int) + 1))).setCell ⟨lb, 4, none⟩ (.int .u32 1)).heap[lb]? = some (.cells #[pv, (.slice (some ⟨g, 0, none⟩) n c), tv, .int .u64 ((last : Int) + 1), .int .u32 1, .int .i64 1, .int .i64 (wrap64 (tk + 1)), .int .i64 nt] 64 (0, 0)) := by
  rw [blk_put (blk_put (blk_put hb1.out 6 _) 3 _) 4 _]
  rfl
 have HL3 := As.mk (HR.out.bump F3.out hb3w)
 have hx3 : (((w1.setCell ⟨lb, 6, none⟩ (.int .i64 (wrap64 (tk + 1)))).setCell ⟨lb, 3, none⟩ (.int .u64 ((last : Int) + 1))).setCell ⟨lb, 4, none⟩ (.int .u32 1)).heap[b3]? = some (.cells #[.int .i64 3, .int .u64 ((last : Int) + 1), .int .u32 1, .int .u32 ((i : Int) + 1), .int .i64 est, .bool eu, .int .i64 etr, .int .i64 0, .int .u64 0, .slice ak 0 ck, .slice ad 0 cd] 41 (0, 0)) := blk_far (blk_far (blk_far hbox1.out (by omega) _) (by omega) _) (by omega) _
 have hr3 : (((w1.setCell ⟨lb, 6, none⟩ (.int .i64 (wrap64 (tk + 1)))).setCell ⟨lb, 3, none⟩ (.int .u64 ((last : Int) + 1))).setCell ⟨lb, 4, none⟩ (.int .u32 1)).rangeAt g (i * 10 + 3) (sgC o.sg) := range_heap hr1.out (F3.out.block g hgl hgne)
 have hlb3 := blk_lt hb3w
 have hgl3 : g < (((w1.setCell ⟨lb, 6, none⟩ (.int .i64 (wrap64 (tk + 1)))).setCell ⟨lb, 3, none⟩ (.int .u64 ((last : Int) + 1))).setCell ⟨lb, 4, none⟩ (.int .u32 1)).heap.size := Nat.lt_of_lt_of_le hgl F3.out.low.size
 have hc3 := (blk_cell hb3w 1).trans rfl
 generalize (((w1.setCell ⟨lb, 6, none⟩ (.int .i64 (wrap64 (tk + 1)))).setCell ⟨lb, 3, none⟩ (.int .u64 ((last : Int) + 1))).setCell ⟨lb, 4, none⟩ (.int .u32 1)) = w3 at *
 clear c3 c4 c6 f3 f4 f6 k0 k1 k2 k3 k4 k5 k6 k7 k8 k9 k10 hbox1 hb1 B1 hs1 hwi hw1 hb3w hb3l hb3n hb3m
 have HRP : As (∀ w, Below w3.heap.size w3 w → Calls Tryz.prog 60 #[.pointer (some ⟨lb, 0, none⟩), .int .i64 i] w fun e W' => ∃ sv, e = .returned sv ∧ PlanAt W' OP sv p ∧ Below w.heap.size w W') := ⟨fun w hw => rplan_a (HL3.out.keep (fun k _ hk => hw.block k hk) hw.size) HO.out HP.out HPL.out (by have := HLN.out; omega)⟩
 obtain ⟨key, pl, s⟩ := o
 simp only at HS hr3 HNX
 have X0 : As (RS lb g (i * 10 + 3) (.slice (some ⟨g, 0, none⟩) n c) s w3 ∧ w3.heap[b3]? = some (.cells #[.int .i64 3, .int .u64 ((last : Int) + 1), .int .u32 1, .int .u32 ((i : Int) + 1), .int .i64 est, .bool eu, .int .i64 etr, .int .i64 0, .int .u64 0, .slice ak 0 ck, .slice ad 0 cd] 41 (0, 0))) := ⟨⟨hc3, hr3, hlb3, hgl3⟩, hx3⟩
 clear hc3 hr3 hx3
 obtain ⟨s2, hs2⟩ : ∃ s2, s2 = askS s := ⟨_, rfl⟩
 have HS2 : As (askS s = s2) := ⟨hs2.symm⟩
 clear hs2
 go_cut [7, 8] from 79 to 94 (fun v7 v8 wc => ∃ b7 : Nat, v7 = .pointer (some ⟨b7, 0, none⟩) ∧ As (wc.heap[b7]? = some (.cells (sgC s2).toArray 116 (0, 0))) ∧ As (w3.heap.size ≤ b7) ∧ As (Below w3.heap.size w3 wc))
 case first =>
  refine wp_region_plan_tree (fun w' => RS lb g (i * 10 + 3) (.slice (some ⟨g, 0, none⟩) n c) s w' ∧ w'.heap[b3]? = some (.cells #[.int .i64 3, .int .u64 ((last : Int) + 1), .int .u32 1, .int .u32 ((i : Int) + 1), .int .i64 est, .bool eu, .int .i64 etr, .int .i64 0, .int .u64 0, .slice ak 0 ck, .slice ad 0 cd] 41 (0, 0))) (.cons 1 0 (.cons 1 1 (.cons 1 3 (.cons 1 4 (.cons 1 5 (.cons 0 6 (.cons 1 7 (.cons 1 8 (.cons 1 9 (.cons 0 10 (.two 2 15 (.two 11 15 (.cons 1 12 (.cons 1 13 (.cons 1 14 (.cons 2 15 (.cons 2 16 (.cons 2 17 .nil)))))) (.cons 2 11 (.cons 1 12 (.cons 1 13 (.cons 1 14 (.cons 2 16 (.cons 2 17 .nil))))))) (.cons 2 2 (.cons 2 11 (.cons 1 12 (.cons 1 13 (.cons 1 14 (.cons 2 16 (.cons 2 17 .nil)))))))))))))))))) (by kernel_rfl) (by kernel_rfl) (by kernel_rfl) (by kernel_rfl) (fun _ _ _ _ _ h => h) ⟨X0.out.1.keep (w' := w3.drew) ((Below.refl _ w3).drew), X0.out.2⟩ ?_
  simp only [PT.tag, List.getElem?_toArray, List.getElem?_cons_succ, List.getElem?_cons_zero]
  iterate 5 (with_reducible refine wpT_sure (fun K hK => ?_); go_simp; with_reducible refine hK _ ?_; clear hK K)
  refine wpT_take (fun K hK => ?_)
  rw [if_pos (by rfl)]
  apply Exists.intro
  refine ⟨fun w' hw' => ?_, hK _ ?_⟩
  ·have j0 := hw'.1.1
   go_simp
   rfl
  clear hK K
  iterate 3 (with_reducible refine wpT_sure (fun K hK => ?_); go_simp; with_reducible refine hK _ ?_; clear hK K)
  refine wpT_take (fun K hK => ?_)
  rw [if_pos (by rfl)]
  refine ⟨.agg (sgC s).toArray, fun w' hw' => exec_load_mid _ _ _ 116 (.tmp 89) rfl g (i * 10 + 3) rfl (sgC s) _ hw'.1.2.1 Tryz.underlying116 rfl size116, hK _ ?_⟩
  clear hK K
  have Bd : As (Below w3.heap.size w3 w3.drew) := ⟨(Below.refl _ w3).drew⟩
  have Xd := As.mk (And.intro (X0.out.1.keep (w' := w3.drew) ((Below.refl _ w3).drew)) (show w3.drew.heap[b3]? = _ from X0.out.2))
  have hsd : w3.heap.size ≤ w3.drew.heap.size := Nat.le_refl _
  generalize w3.drew = wd at *
  refine wpT_two ?_ ?_
  ·with_reducible refine wpT_next (fun K hK => ?_)
   go_simp
   refine (HRP.out _ Bd.out).mono ?_
   rintro e w11 ⟨pw, rfl, g1, q1⟩
   have B11 : As (Below w3.heap.size w3 w11) := ⟨Bd.out.trans (q1.mono hsd)⟩
   have X11 := As.mk (And.intro (Xd.out.1.keep q1) ((q1.block b3 (blk_lt Xd.out.2)).trans Xd.out.2))
   have hs11 := B11.out.size
   have HV := As.mk g1
   refine hK _ _ X11.out ?_
   clear hK K q1 g1
   refine wpT_two ?_ ?_
   ·with_reducible refine wpT_next (fun K hK => ?_)
    go_simp
    have HSN := rask_a HV.out HPO.out HS.out HNX.out
    rw [HS2.out] at HSN
    refine HSN.mono ?_
    clear HSN
    rintro e w12 ⟨rfl, q1⟩
    have B12 : As (Below w3.heap.size w3 w12) := ⟨B11.out.trans (q1.mono hs11)⟩
    have X12 := As.mk (And.intro (X11.out.1.keep q1) ((q1.block b3 (blk_lt X11.out.2)).trans X11.out.2))
    have hs12 := B12.out.size
    refine hK _ _ X12.out ?_
    clear hK K q1
    iterate 3 (with_reducible refine wpT_sure (fun K hK => ?_); go_simp; with_reducible refine hK _ ?_; clear hK K)
    with_reducible refine wpT_next (fun K hK => ?_)
    go_simp
    have q1 : Below w12.heap.size w12 (w12.alloc (.cells #[.int .i64 0, .int .i64 0, .int .i64 0, .bool false, .int .i64 0, .bool false, .int .i64 0] 116)) := (Below.refl _ _).alloc (Nat.le_refl _) _
    obtain ⟨b7, hb7⟩ : ∃ b7, b7 = w12.heap.size := ⟨_, rfl⟩
    have A13 : As ((w12.alloc (.cells #[.int .i64 0, .int .i64 0, .int .i64 0, .bool false, .int .i64 0, .bool false, .int .i64 0] 116)).heap[b7]? = some (.cells #[.int .i64 0, .int .i64 0, .int .i64 0, .bool false, .int .i64 0, .bool false, .int .i64 0] 116 (0, 0))) := ⟨by rw [hb7]; exact blk_new w12 _⟩
    have O7 : As (w3.heap.size ≤ b7 ∧ lb ≠ b7 ∧ g ≠ b7 ∧ b3 ≠ b7) := ⟨by omega, by have := X12.out.1.2.2.1; omega, by have := X12.out.1.2.2.2; omega, by have := blk_lt X12.out.2; omega⟩
    rw [← hb7]
    clear hb7
    generalize w12.alloc (.cells #[.int .i64 0, .int .i64 0, .int .i64 0, .bool false, .int .i64 0, .bool false, .int .i64 0] 116) = w13 at *
    have B13 : As (Below w3.heap.size w3 w13) := ⟨B12.out.trans (q1.mono hs12)⟩
    have X13 := As.mk (And.intro (X12.out.1.keep q1) ((q1.block b3 (blk_lt X12.out.2)).trans X12.out.2))
    have hs13 := B13.out.size
    refine hK _ _ X13.out ?_
    clear hK K q1
    with_reducible refine wpT_next (fun K hK => ?_)
    rw [if_pos (by rfl)]
    refine wp_storeC 116 (.tmp 7) (.tmp 92) rfl b7 116 (sgC s2) _ rfl rfl A13.out rfl size116 (sgC_one _) ?_
    intro wf q1 q2 q3 q4
    have BF : As (Below w3.heap.size w3 wf) := ⟨B13.out.trans (q2 _ O7.out.1)⟩
    have XF := As.mk (And.intro (X13.out.1.far q3 q4 O7.out.2.1 O7.out.2.2.1) ((q4 b3 O7.out.2.2.2).trans X13.out.2))
    have AF := As.mk q1
    refine hK _ _ XF.out ?_
    clear hK K q1 q2 q3 q4
    with_reducible refine wpT_next (fun K hK => ?_)
    go_simp
    refine hK _ _ XF.out ?_
    clear hK K
    refine wpT_nil ?_
    go_wp2_with fail
    go_meet
    case rel => exact ⟨b7, rfl, AF, ⟨O7.out.1⟩, BF⟩
   ·with_reducible refine wpT_next (fun K hK => ?_)
    go_simp
    have q1 : Below w11.heap.size w11 (w11.alloc (.cells #[.int .i64 0, .int .i64 0, .int .i64 0, .bool false, .int .i64 0, .bool false, .int .i64 0] 116)) := (Below.refl _ _).alloc (Nat.le_refl _) _
    obtain ⟨b7, hb7⟩ : ∃ b7, b7 = w11.heap.size := ⟨_, rfl⟩
    have A15 : As ((w11.alloc (.cells #[.int .i64 0, .int .i64 0, .int .i64 0, .bool false, .int .i64 0, .bool false, .int .i64 0] 116)).heap[b7]? = some (.cells #[.int .i64 0, .int .i64 0, .int .i64 0, .bool false, .int .i64 0, .bool false, .int .i64 0] 116 (0, 0))) := ⟨by rw [hb7]; exact blk_new w11 _⟩
    have O7 : As (w3.heap.size ≤ b7 ∧ lb ≠ b7 ∧ g ≠ b7 ∧ b3 ≠ b7) := ⟨by omega, by have := X11.out.1.2.2.1; omega, by have := X11.out.1.2.2.2; omega, by have := blk_lt X11.out.2; omega⟩
    rw [← hb7]
    clear hb7
    generalize w11.alloc (.cells #[.int .i64 0, .int .i64 0, .int .i64 0, .bool false, .int .i64 0, .bool false, .int .i64 0] 116) = w15 at *
    have B15 : As (Below w3.heap.size w3 w15) := ⟨B11.out.trans (q1.mono hs11)⟩
    have X15 := As.mk (And.intro (X11.out.1.keep q1) ((q1.block b3 (blk_lt X11.out.2)).trans X11.out.2))
    have hs15 := B15.out.size
    have HV := As.mk (HV.out.keep (W' := w15) (fun k _ hk => q1.block k hk) q1.size)
    refine hK _ _ X15.out ?_
    clear hK K q1
    with_reducible refine wpT_next (fun K hK => ?_)
    go_simp
    have HSN := rask_a HV.out HPO.out HS.out HNX.out
    rw [HS2.out] at HSN
    refine HSN.mono ?_
    clear HSN
    rintro e w16 ⟨rfl, q1⟩
    have B16 : As (Below w3.heap.size w3 w16) := ⟨B15.out.trans (q1.mono hs15)⟩
    have X16 := As.mk (And.intro (X15.out.1.keep q1) ((q1.block b3 (blk_lt X15.out.2)).trans X15.out.2))
    have hs16 := B16.out.size
    have A16 := As.mk ((q1.block b7 (blk_lt A15.out)).trans A15.out)
    refine hK _ _ X16.out ?_
    clear hK K q1
    iterate 3 (with_reducible refine wpT_sure (fun K hK => ?_); go_simp; with_reducible refine hK _ ?_; clear hK K)
    with_reducible refine wpT_next (fun K hK => ?_)
    rw [if_pos (by rfl)]
    refine wp_storeC 116 (.tmp 7) (.tmp 92) rfl b7 116 (sgC s2) _ rfl rfl A16.out rfl size116 (sgC_one _) ?_
    intro wf q1 q2 q3 q4
    have BF : As (Below w3.heap.size w3 wf) := ⟨B16.out.trans (q2 _ O7.out.1)⟩
    have XF := As.mk (And.intro (X16.out.1.far q3 q4 O7.out.2.1 O7.out.2.2.1) ((q4 b3 O7.out.2.2.2).trans X16.out.2))
    have AF := As.mk q1
    refine hK _ _ XF.out ?_
    clear hK K q1 q2 q3 q4
    with_reducible refine wpT_next (fun K hK => ?_)
    go_simp
    refine hK _ _ XF.out ?_
    clear hK K
    refine wpT_nil ?_
    go_wp2_with fail
    go_meet
    case rel => exact ⟨b7, rfl, AF, ⟨O7.out.1⟩, BF⟩
  ·with_reducible refine wpT_next (fun K hK => ?_)
   go_simp
   have q1 : Below wd.heap.size wd (wd.alloc (.cells #[.int .i64 0, .int .i64 0, .int .i64 0, .bool false, .int .i64 0, .bool false, .int .i64 0] 116)) := (Below.refl _ _).alloc (Nat.le_refl _) _
   obtain ⟨b7, hb7⟩ : ∃ b7, b7 = wd.heap.size := ⟨_, rfl⟩
   have A18 : As ((wd.alloc (.cells #[.int .i64 0, .int .i64 0, .int .i64 0, .bool false, .int .i64 0, .bool false, .int .i64 0] 116)).heap[b7]? = some (.cells #[.int .i64 0, .int .i64 0, .int .i64 0, .bool false, .int .i64 0, .bool false, .int .i64 0] 116 (0, 0))) := ⟨by rw [hb7]; exact blk_new wd _⟩
   have O7 : As (w3.heap.size ≤ b7 ∧ lb ≠ b7 ∧ g ≠ b7 ∧ b3 ≠ b7) := ⟨by omega, by have := Xd.out.1.2.2.1; omega, by have := Xd.out.1.2.2.2; omega, by have := blk_lt Xd.out.2; omega⟩
   rw [← hb7]
   clear hb7
   generalize wd.alloc (.cells #[.int .i64 0, .int .i64 0, .int .i64 0, .bool false, .int .i64 0, .bool false, .int .i64 0] 116) = w18 at *
   have B18 : As (Below w3.heap.size w3 w18) := ⟨Bd.out.trans (q1.mono hsd)⟩
   have X18 := As.mk (And.intro (Xd.out.1.keep q1) ((q1.block b3 (blk_lt Xd.out.2)).trans Xd.out.2))
   have hs18 := B18.out.size
   refine hK _ _ X18.out ?_
   clear hK K q1
   with_reducible refine wpT_next (fun K hK => ?_)
   go_simp
   refine (HRP.out _ B18.out).mono ?_
   rintro e w19 ⟨pw, rfl, g1, q1⟩
   have B19 : As (Below w3.heap.size w3 w19) := ⟨B18.out.trans (q1.mono hs18)⟩
   have X19 := As.mk (And.intro (X18.out.1.keep q1) ((q1.block b3 (blk_lt X18.out.2)).trans X18.out.2))
   have hs19 := B19.out.size
   have A19 := As.mk ((q1.block b7 (blk_lt A18.out)).trans A18.out)
   have HV := As.mk g1
   refine hK _ _ X19.out ?_
   clear hK K q1 g1
   with_reducible refine wpT_next (fun K hK => ?_)
   go_simp
   have HSN := rask_a HV.out HPO.out HS.out HNX.out
   rw [HS2.out] at HSN
   refine HSN.mono ?_
   clear HSN
   rintro e w20 ⟨rfl, q1⟩
   have B20 : As (Below w3.heap.size w3 w20) := ⟨B19.out.trans (q1.mono hs19)⟩
   have X20 := As.mk (And.intro (X19.out.1.keep q1) ((q1.block b3 (blk_lt X19.out.2)).trans X19.out.2))
   have hs20 := B20.out.size
   have A20 := As.mk ((q1.block b7 (blk_lt A19.out)).trans A19.out)
   refine hK _ _ X20.out ?_
   clear hK K q1
   iterate 3 (with_reducible refine wpT_sure (fun K hK => ?_); go_simp; with_reducible refine hK _ ?_; clear hK K)
   with_reducible refine wpT_next (fun K hK => ?_)
   rw [if_pos (by rfl)]
   refine wp_storeC 116 (.tmp 7) (.tmp 92) rfl b7 116 (sgC s2) _ rfl rfl A20.out rfl size116 (sgC_one _) ?_
   intro wf q1 q2 q3 q4
   have BF : As (Below w3.heap.size w3 wf) := ⟨B20.out.trans (q2 _ O7.out.1)⟩
   have XF := As.mk (And.intro (X20.out.1.far q3 q4 O7.out.2.1 O7.out.2.2.1) ((q4 b3 O7.out.2.2.2).trans X20.out.2))
   have AF := As.mk q1
   refine hK _ _ XF.out ?_
   clear hK K q1 q2 q3 q4
   with_reducible refine wpT_next (fun K hK => ?_)
   go_simp
   refine hK _ _ XF.out ?_
   clear hK K
   refine wpT_nil ?_
   go_wp2_with fail
   go_meet
   case rel => exact ⟨b7, rfl, AF, ⟨O7.out.1⟩, BF⟩
 case rest =>
  obtain ⟨b7, rfl, HB7, HBL, HBC⟩ := hcut
  have FC : As (Frame (fun k => k = lb) W wc) := ⟨F3.out.trans (Frame.of_below (own := fun k => k = lb) HBC.out (Nat.le_refl _)) (fun k _ h => h)⟩
  have HLC := As.mk (HL3.out.keep (W' := wc) (fun k _ hk => HBC.out.block k hk) HBC.out.size)
  have XC := As.mk (X0.out.1.keep HBC.out)
  have hcc := XC.out.1
  have h7 := HB7.out
  go_upto_region 15 with fail
  refine wp_region_plan_kept (fun w' => w'.cell? ⟨lb, 1, none⟩ = some (.slice (some ⟨g, 0, none⟩) n c) ∧ w'.heap[b7]? = some (.cells (sgC s2).toArray 116 (0, 0))) [(1,0),(1,1),(1,2),(0,3),(1,4),(0,5),(1,6),(1,7),(2,8)] (by kernel_rfl) (by kernel_rfl) (by kernel_rfl) (by kernel_rfl) (fun _ _ _ _ _ h => h) ⟨hcc, h7⟩ ?_
  simp only [tagged, List.filterMap_cons, List.filterMap_nil, List.getElem?_toArray, List.getElem?_cons_succ, List.getElem?_cons_zero, Option.map_some]
  iterate 3 (with_reducible refine wpKept_sure (fun K hK => ?_); go_simp; with_reducible refine hK _ ?_; clear hK K)
  refine wpKept_take (fun K hK => ?_)
  rw [if_pos (by rfl)]
  apply Exists.intro
  refine ⟨fun w' hw' => ?_, hK _ ?_⟩
  ·have j0 := hw'.1
   go_simp
   rfl
  clear hK K
  iterate 1 (with_reducible refine wpKept_sure (fun K hK => ?_); go_simp; with_reducible refine hK _ ?_; clear hK K)
  refine wpKept_take (fun K hK => ?_)
  rw [if_pos (by rfl)]
  refine ⟨.agg (sgC s2).toArray, fun w' hw' => exec_load_mid _ _ _ 116 (.tmp 7) rfl b7 0 rfl (sgC s2) _ (fun j v hv => by rw [Nat.zero_add, blk_cell hw'.2]; simpa using hv) Tryz.underlying116 rfl size116, hK _ ?_⟩
  clear hK K
  iterate 2 (with_reducible refine wpKept_sure (fun K hK => ?_); go_simp; with_reducible refine hK _ ?_; clear hK K)
  have hor : wc.drew.there g (i * 10 + 3) 7 := by
   obtain ⟨cs, r1, r2, _⟩ := HLC.out.ors
   rw [HLN.out] at r2
   exact own_there r2 (i * 10 + 3) 7 (by omega)
  have hne1 : lb ≠ g := fun e => hgne e.symm
  have hne7 : b7 ≠ g := by have := HBL.out; omega
  with_reducible refine wpKept_next (fun K hK => ?_)
  rw [if_pos (by rfl)]
  refine wp_store_mid 116 (.tmp 101) (.tmp 99) rfl g (i * 10 + 3) (sgC s2).toArray rfl rfl hor size116 (all_oneCell_toArray (sgC_one _)) ?_
  refine hK _ _ ⟨by rw [World.cell?_of_block (w := wc) (a := ⟨lb, 1, none⟩) (setCells_far (W := wc.drew) _ _ _ hne1)]; exact hcc, (setCells_far (W := wc.drew) _ _ _ hne7).trans h7⟩ ?_
  clear hK K
  refine wpKept_nil ?_
  have HLD : As (RLedAt wc.drew OP OL lb pv (.slice (some ⟨g, 0, none⟩) n c) tv ps l bs (last + 1) (wrap64 (tk + 1)) nt) := ⟨HLC.out.keep (fun k _ _ => rfl) (Nat.le_refl _)⟩
  have HN := As.mk (HLD.out.setSg HLN.out HO.out s2)
  have FN : As (Frame (fun k => OL k ∨ k = lb) W (wc.drew.setCells g (i * 10 + 3) (sgC s2))) := ⟨(FC.out.drew.mono (fun k h => Or.inr h)).setCells (.inl (.inl HN.out.2)) _ _⟩
  clear hor h7 hcc
  generalize hw6 : wc.drew.setCells g (i * 10 + 3) (sgC s2) = w6 at *
  have e6 : wc.drew.setCells g (i * 10 + 3) (sgC s2).toArray.toList = w6 := hw6
  try rw [e6]
  clear hw6 e6
  go_wp2_with fail
  go_ret
  exact ⟨rfl, _, tv, bs, _, nt, OL, by rw [HS2.out]; exact HN.out.1, fun k hk => .inl hk, FN.out⟩
set_option maxHeartbeats 4000000 in
set_option maxRecDepth 100000 in
theorem rapply_result {W : World} {OP OL : Nat → Prop} {lb : Nat} {pv lv tv : Value} {ps : List (List Stp)} {l : List Or} {bs : List Bool} {last : Nat} {tk nt : Int} (h : RLedAt W OP OL lb pv lv tv ps l bs last tk nt) (hps : PsOk ps) (hn : l.length < 500) {i : Nat} {o : Or} (ho : l[i]? = some o) {p : List Stp} (hp : ps[o.pl]? = some p) (hs : SgOk p o.sg) (ha : o.sg.asked = true) {code : Nat} (hc : code = 1 ∨ code = 2 ∨ code = 3) {eu : Bool} (hu : eu = (o.sg.ph == 2)) {ak ad : Option Addr} {ck cd : Nat}
  (hC : ∀ w, Below W.heap.size W w → Calls Tryz.prog 57 #[.pointer (some ⟨lb, 0, none⟩), .agg #[.int .i64 4, .int .u64 ((last : Int) + 1), .int .u32 1, .int .u32 ((i : Int) + 1), .int .i64 o.sg.st, .bool eu, .int .i64 o.sg.tr, .int .i64 code, .int .u64 0, .slice ak 0 ck, .slice ad 0 cd]] w fun e W' => e = .returned (.int .i64 0) ∧ Below w.heap.size w W') :
  Calls Tryz.prog 19 #[.pointer (some ⟨lb, 0, none⟩), .agg #[.int .i64 4, .int .u64 ((last : Int) + 1), .int .u32 1, .int .u32 ((i : Int) + 1), .int .i64 o.sg.st, .bool eu, .int .i64 o.sg.tr, .int .i64 code, .int .u64 0, .slice ak 0 ck, .slice ad 0 cd]] W fun e W' => e = .returned (.int .i64 0) ∧ RLedNext W W' OP OL lb pv ps (l.set i { o with sg := tellS p o.sg code }) (last + 1) := by
 obtain ⟨A, c, rfl⟩ := h.slice
 have hil := (List.getElem?_eq_some_iff.1 ho).1
 obtain ⟨g, c', x, hv, hgl, hog, hx, hr⟩ := h.ors.at rfl ho
 injection hv with e1 _ e2
 subst e1 e2
 have hbk := h.blk
 have hlb := blk_lt hbk
 have hgne : g ≠ lb := fun e => h.s1.1 (e ▸ hog.1)
 have hr1 := As.mk (hx.num hr).2
 have HR := As.mk h
 have HC : As (∀ w, Below W.heap.size W w → Calls Tryz.prog 57 #[.pointer (some ⟨lb, 0, none⟩), .agg #[.int .i64 4, .int .u64 ((last : Int) + 1), .int .u32 1, .int .u32 ((i : Int) + 1), .int .i64 o.sg.st, .bool eu, .int .i64 o.sg.tr, .int .i64 code, .int .u64 0, .slice ak 0 ck, .slice ad 0 cd]] w fun e W' => e = .returned (.int .i64 0) ∧ Below w.heap.size w W') := ⟨hC⟩
 generalize hep : epF last = ep at hbk
 have HB := As.mk hbk
 have hwi : IntKind.i64.wrap ((i : Int) + 1) = (i : Int) + 1 := by simp [IntKind.wrap, IntKind.bits, IntKind.signed]; omega
 have hw1 : wrap64 ((i : Int) + 1 - 1) = i := by simp [wrap64, IntKind.wrap, IntKind.bits, IntKind.signed]; omega
 have HO := As.mk ho
 have HP := As.mk hp
 have HS := As.mk hs
 have HTL : As (∀ W v, PlanAt W OP v p → Calls Tryz.prog 61 #[v, .agg (sgC o.sg).toArray, .int .i64 o.sg.st, .bool eu, .int .i64 code] W fun e W' => e = .returned (.tuple #[.agg (sgC (tellS p o.sg code)).toArray, .int .i64 0]) ∧ Below W.heap.size W W') := ⟨fun W v h => rtell_a h (hps.ok p (List.mem_of_getElem? hp)) hs ha code hc eu hu⟩
 have HPL := As.mk hps.len
 clear ha hc hu
 have hli : i < l.length ∧ l.length < 500 := ⟨hil, hn⟩
 clear h ho hp hs hps hr hx hog hbk hep hC hil hn
 generalize hln : l.length = n at *
 have HLN := As.mk hln
 clear hln
 go_enter Tryz.func19, Tryz.ntmps19
 go_wp2_with fail
 refine (HC.out _ ((Below.refl _ W).alloc (Nat.le_refl _) _)).mono ?_
 rintro e w1 ⟨rfl, q1⟩
 have hbox1 := As.mk ((q1.block W.heap.size (by simp)).trans (heap_alloc_new W _))
 have B1 : As (Below W.heap.size W w1) := ⟨((Below.refl _ W).alloc (Nat.le_refl _) _).trans (q1.mono (by simp))⟩
 have hb1 := As.mk ((B1.out.block lb hlb).trans HB.out)
 have hs1 := B1.out.size
 obtain ⟨k0, k1, k2, k3, k4, k5, k6, k7, k8, k9, k10⟩ := cells11 hbox1.out
 have c6 := (blk_cell hb1.out 6).trans rfl
 have f6 := blk_frozen hb1.out 6
 have c3 := (blk_cell hb1.out 3).trans rfl
 have f3 := blk_frozen hb1.out 3
 have c4 := (blk_cell hb1.out 4).trans rfl
 have f4 := blk_frozen hb1.out 4
 clear q1 HC
 obtain ⟨b3, hb3⟩ : ∃ b3, b3 = W.heap.size := ⟨_, rfl⟩
 have hb3l : lb < b3 := by omega
 have hb3n : ¬ b3 = lb := by omega
 have hb3m : ¬ lb = b3 := by omega
 rw [← hb3] at hbox1 k0 k1 k2 k3 k4 k5 k6 k7 k8 k9 k10 ⊢
 have HB3 := As.mk hb3
 clear hb3
 go_upto_region 17 with fail
 have F3 : As (Frame (fun k => k = lb) W (((w1.setCell ⟨lb, 6, none⟩ (.int .i64 (wrap64 (tk + 1)))).setCell ⟨lb, 3, none⟩ (.int .u64 ((last : Int) + 1))).setCell ⟨lb, 4, none⟩ (.int .u32 1))) := ⟨(((Frame.of_below (own := fun k => k = lb) B1.out (Nat.le_refl _)).setCell (p := ⟨lb, 6, none⟩) (.inl rfl) _).setCell (p := ⟨lb, 3, none⟩) (.inl rfl) _).setCell (p := ⟨lb, 4, none⟩) (.inl rfl) _⟩
 have hb3w : (((w1.setCell ⟨lb, 6, none⟩ (.int .i64 (wrap64 (tk + 1)))).setCell ⟨lb, 3, none⟩ (.int .u64 ((last : Int) + 1))).setCell ⟨lb, 4, none⟩ (.int .u32 1)).heap[lb]? = some (.cells #[pv, (.slice (some ⟨g, 0, none⟩) n c), tv, .int .u64 ((last : Int) + 1), .int .u32 1, .int .i64 1, .int .i64 (wrap64 (tk + 1)), .int .i64 nt] 64 (0, 0)) := by
  rw [blk_put (blk_put (blk_put hb1.out 6 _) 3 _) 4 _]
  rfl
 have HL3 := As.mk (HR.out.bump F3.out hb3w)
 have hx3 : (((w1.setCell ⟨lb, 6, none⟩ (.int .i64 (wrap64 (tk + 1)))).setCell ⟨lb, 3, none⟩ (.int .u64 ((last : Int) + 1))).setCell ⟨lb, 4, none⟩ (.int .u32 1)).heap[b3]? = some (.cells #[.int .i64 4, .int .u64 ((last : Int) + 1), .int .u32 1, .int .u32 ((i : Int) + 1), .int .i64 o.sg.st, .bool eu, .int .i64 o.sg.tr, .int .i64 code, .int .u64 0, .slice ak 0 ck, .slice ad 0 cd] 41 (0, 0)) := blk_far (blk_far (blk_far hbox1.out (by omega) _) (by omega) _) (by omega) _
 have hr3 : (((w1.setCell ⟨lb, 6, none⟩ (.int .i64 (wrap64 (tk + 1)))).setCell ⟨lb, 3, none⟩ (.int .u64 ((last : Int) + 1))).setCell ⟨lb, 4, none⟩ (.int .u32 1)).rangeAt g (i * 10 + 3) (sgC o.sg) := range_heap hr1.out (F3.out.block g hgl hgne)
 have hlb3 := blk_lt hb3w
 have hgl3 : g < (((w1.setCell ⟨lb, 6, none⟩ (.int .i64 (wrap64 (tk + 1)))).setCell ⟨lb, 3, none⟩ (.int .u64 ((last : Int) + 1))).setCell ⟨lb, 4, none⟩ (.int .u32 1)).heap.size := Nat.lt_of_lt_of_le hgl F3.out.low.size
 have hc3 := (blk_cell hb3w 1).trans rfl
 generalize (((w1.setCell ⟨lb, 6, none⟩ (.int .i64 (wrap64 (tk + 1)))).setCell ⟨lb, 3, none⟩ (.int .u64 ((last : Int) + 1))).setCell ⟨lb, 4, none⟩ (.int .u32 1)) = w3 at *
 clear c3 c4 c6 f3 f4 f6 k0 k1 k2 k3 k4 k5 k6 k7 k8 k9 k10 hbox1 hb1 B1 hs1 hwi hw1 hb3w hb3l hb3n hb3m
 have HRP : As (∀ w, Below w3.heap.size w3 w → Calls Tryz.prog 60 #[.pointer (some ⟨lb, 0, none⟩), .int .i64 i] w fun e W' => ∃ sv, e = .returned sv ∧ PlanAt W' OP sv p ∧ Below w.heap.size w W') := ⟨fun w hw => rplan_a (HL3.out.keep (fun k _ hk => hw.block k hk) hw.size) HO.out HP.out HPL.out (by have := HLN.out; omega)⟩
 obtain ⟨key, pl, s⟩ := o
 simp only at HS hr3 HTL
 have X0 : As (RS lb g (i * 10 + 3) (.slice (some ⟨g, 0, none⟩) n c) s w3 ∧ w3.heap[b3]? = some (.cells #[.int .i64 4, .int .u64 ((last : Int) + 1), .int .u32 1, .int .u32 ((i : Int) + 1), .int .i64 s.st, .bool eu, .int .i64 s.tr, .int .i64 code, .int .u64 0, .slice ak 0 ck, .slice ad 0 cd] 41 (0, 0))) := ⟨⟨hc3, hr3, hlb3, hgl3⟩, hx3⟩
 clear hc3 hr3 hx3
 obtain ⟨s2, hs2⟩ : ∃ s2, s2 = tellS p s code := ⟨_, rfl⟩
 have HS2 : As (tellS p s code = s2) := ⟨hs2.symm⟩
 clear hs2
 go_cut [9, 10] from 104 to 125 (fun v9 v10 wc => ∃ b7 : Nat, v9 = .pointer (some ⟨b7, 0, none⟩) ∧ As (wc.heap[b7]? = some (.cells (sgC s2).toArray 116 (0, 0))) ∧ As (w3.heap.size ≤ b7) ∧ As (Below w3.heap.size w3 wc))
 case first =>
  refine wp_region_plan_tree (fun w' => RS lb g (i * 10 + 3) (.slice (some ⟨g, 0, none⟩) n c) s w' ∧ w'.heap[b3]? = some (.cells #[.int .i64 4, .int .u64 ((last : Int) + 1), .int .u32 1, .int .u32 ((i : Int) + 1), .int .i64 s.st, .bool eu, .int .i64 s.tr, .int .i64 code, .int .u64 0, .slice ak 0 ck, .slice ad 0 cd] 41 (0, 0))) (.cons 1 0 (.cons 1 1 (.cons 1 3 (.cons 1 4 (.cons 1 5 (.cons 0 6 (.cons 1 7 (.cons 1 8 (.cons 1 9 (.cons 0 10 (.cons 1 11 (.cons 0 12 (.cons 1 13 (.cons 0 14 (.cons 1 15 (.cons 0 16 (.two 2 21 (.two 17 21 (.cons 1 18 (.cons 1 19 (.cons 1 20 (.cons 2 21 (.cons 2 22 (.cons 2 23 .nil)))))) (.cons 2 17 (.cons 1 18 (.cons 1 19 (.cons 1 20 (.cons 2 22 (.cons 2 23 .nil))))))) (.cons 2 2 (.cons 2 17 (.cons 1 18 (.cons 1 19 (.cons 1 20 (.cons 2 22 (.cons 2 23 .nil)))))))))))))))))))))))) (by kernel_rfl) (by kernel_rfl) (by kernel_rfl) (by kernel_rfl) (fun _ _ _ _ _ h => h) ⟨X0.out.1.keep (w' := w3.drew) ((Below.refl _ w3).drew), X0.out.2⟩ ?_
  simp only [PT.tag, List.getElem?_toArray, List.getElem?_cons_succ, List.getElem?_cons_zero]
  iterate 5 (with_reducible refine wpT_sure (fun K hK => ?_); go_simp; with_reducible refine hK _ ?_; clear hK K)
  refine wpT_take (fun K hK => ?_)
  rw [if_pos (by rfl)]
  apply Exists.intro
  refine ⟨fun w' hw' => ?_, hK _ ?_⟩
  ·have j0 := hw'.1.1
   go_simp
   rfl
  clear hK K
  iterate 3 (with_reducible refine wpT_sure (fun K hK => ?_); go_simp; with_reducible refine hK _ ?_; clear hK K)
  refine wpT_take (fun K hK => ?_)
  rw [if_pos (by rfl)]
  refine ⟨.agg (sgC s).toArray, fun w' hw' => exec_load_mid _ _ _ 116 (.tmp 114) rfl g (i * 10 + 3) rfl (sgC s) _ hw'.1.2.1 Tryz.underlying116 rfl size116, hK _ ?_⟩
  clear hK K
  iterate 1 (with_reducible refine wpT_sure (fun K hK => ?_); go_simp; with_reducible refine hK _ ?_; clear hK K)
  refine wpT_take (fun K hK => ?_)
  rw [if_pos (by rfl)]
  apply Exists.intro
  refine ⟨fun w' hw' => ?_, hK _ ?_⟩
  ·have j0 := (blk_cell hw'.2 4).trans rfl
   go_simp
   rfl
  clear hK K
  iterate 1 (with_reducible refine wpT_sure (fun K hK => ?_); go_simp; with_reducible refine hK _ ?_; clear hK K)
  refine wpT_take (fun K hK => ?_)
  rw [if_pos (by rfl)]
  apply Exists.intro
  refine ⟨fun w' hw' => ?_, hK _ ?_⟩
  ·have j0 := (blk_cell hw'.2 5).trans rfl
   go_simp
   rfl
  clear hK K
  iterate 1 (with_reducible refine wpT_sure (fun K hK => ?_); go_simp; with_reducible refine hK _ ?_; clear hK K)
  refine wpT_take (fun K hK => ?_)
  rw [if_pos (by rfl)]
  apply Exists.intro
  refine ⟨fun w' hw' => ?_, hK _ ?_⟩
  ·have j0 := (blk_cell hw'.2 7).trans rfl
   go_simp
   rfl
  clear hK K
  have Bd : As (Below w3.heap.size w3 w3.drew) := ⟨(Below.refl _ w3).drew⟩
  have Xd := As.mk (And.intro (X0.out.1.keep (w' := w3.drew) ((Below.refl _ w3).drew)) (show w3.drew.heap[b3]? = _ from X0.out.2))
  have hsd : w3.heap.size ≤ w3.drew.heap.size := Nat.le_refl _
  generalize w3.drew = wd at *
  refine wpT_two ?_ ?_
  ·with_reducible refine wpT_next (fun K hK => ?_)
   go_simp
   refine (HRP.out _ Bd.out).mono ?_
   rintro e w22 ⟨pw, rfl, g1, q1⟩
   have B22 : As (Below w3.heap.size w3 w22) := ⟨Bd.out.trans (q1.mono hsd)⟩
   have X22 := As.mk (And.intro (Xd.out.1.keep q1) ((q1.block b3 (blk_lt Xd.out.2)).trans Xd.out.2))
   have hs22 := B22.out.size
   have HV := As.mk g1
   refine hK _ _ X22.out ?_
   clear hK K q1 g1
   refine wpT_two ?_ ?_
   ·with_reducible refine wpT_next (fun K hK => ?_)
    go_simp
    have HSN := HTL.out _ _ HV.out
    rw [HS2.out] at HSN
    refine HSN.mono ?_
    clear HSN
    rintro e w23 ⟨rfl, q1⟩
    have B23 : As (Below w3.heap.size w3 w23) := ⟨B22.out.trans (q1.mono hs22)⟩
    have X23 := As.mk (And.intro (X22.out.1.keep q1) ((q1.block b3 (blk_lt X22.out.2)).trans X22.out.2))
    have hs23 := B23.out.size
    refine hK _ _ X23.out ?_
    clear hK K q1
    iterate 3 (with_reducible refine wpT_sure (fun K hK => ?_); go_simp; with_reducible refine hK _ ?_; clear hK K)
    with_reducible refine wpT_next (fun K hK => ?_)
    go_simp
    have q1 : Below w23.heap.size w23 (w23.alloc (.cells #[.int .i64 0, .int .i64 0, .int .i64 0, .bool false, .int .i64 0, .bool false, .int .i64 0] 116)) := (Below.refl _ _).alloc (Nat.le_refl _) _
    obtain ⟨b7, hb7⟩ : ∃ b7, b7 = w23.heap.size := ⟨_, rfl⟩
    have A24 : As ((w23.alloc (.cells #[.int .i64 0, .int .i64 0, .int .i64 0, .bool false, .int .i64 0, .bool false, .int .i64 0] 116)).heap[b7]? = some (.cells #[.int .i64 0, .int .i64 0, .int .i64 0, .bool false, .int .i64 0, .bool false, .int .i64 0] 116 (0, 0))) := ⟨by rw [hb7]; exact blk_new w23 _⟩
    have O7 : As (w3.heap.size ≤ b7 ∧ lb ≠ b7 ∧ g ≠ b7 ∧ b3 ≠ b7) := ⟨by omega, by have := X23.out.1.2.2.1; omega, by have := X23.out.1.2.2.2; omega, by have := blk_lt X23.out.2; omega⟩
    rw [← hb7]
    clear hb7
    generalize w23.alloc (.cells #[.int .i64 0, .int .i64 0, .int .i64 0, .bool false, .int .i64 0, .bool false, .int .i64 0] 116) = w24 at *
    have B24 : As (Below w3.heap.size w3 w24) := ⟨B23.out.trans (q1.mono hs23)⟩
    have X24 := As.mk (And.intro (X23.out.1.keep q1) ((q1.block b3 (blk_lt X23.out.2)).trans X23.out.2))
    have hs24 := B24.out.size
    refine hK _ _ X24.out ?_
    clear hK K q1
    with_reducible refine wpT_next (fun K hK => ?_)
    rw [if_pos (by rfl)]
    refine wp_storeC 116 (.tmp 9) (.tmp 123) rfl b7 116 (sgC s2) _ rfl rfl A24.out rfl size116 (sgC_one _) ?_
    intro wf q1 q2 q3 q4
    have BF : As (Below w3.heap.size w3 wf) := ⟨B24.out.trans (q2 _ O7.out.1)⟩
    have XF := As.mk (And.intro (X24.out.1.far q3 q4 O7.out.2.1 O7.out.2.2.1) ((q4 b3 O7.out.2.2.2).trans X24.out.2))
    have AF := As.mk q1
    refine hK _ _ XF.out ?_
    clear hK K q1 q2 q3 q4
    with_reducible refine wpT_next (fun K hK => ?_)
    go_simp
    refine hK _ _ XF.out ?_
    clear hK K
    refine wpT_nil ?_
    go_wp2_with fail
    go_meet
    case rel => exact ⟨b7, rfl, AF, ⟨O7.out.1⟩, BF⟩
   ·with_reducible refine wpT_next (fun K hK => ?_)
    go_simp
    have q1 : Below w22.heap.size w22 (w22.alloc (.cells #[.int .i64 0, .int .i64 0, .int .i64 0, .bool false, .int .i64 0, .bool false, .int .i64 0] 116)) := (Below.refl _ _).alloc (Nat.le_refl _) _
    obtain ⟨b7, hb7⟩ : ∃ b7, b7 = w22.heap.size := ⟨_, rfl⟩
    have A26 : As ((w22.alloc (.cells #[.int .i64 0, .int .i64 0, .int .i64 0, .bool false, .int .i64 0, .bool false, .int .i64 0] 116)).heap[b7]? = some (.cells #[.int .i64 0, .int .i64 0, .int .i64 0, .bool false, .int .i64 0, .bool false, .int .i64 0] 116 (0, 0))) := ⟨by rw [hb7]; exact blk_new w22 _⟩
    have O7 : As (w3.heap.size ≤ b7 ∧ lb ≠ b7 ∧ g ≠ b7 ∧ b3 ≠ b7) := ⟨by omega, by have := X22.out.1.2.2.1; omega, by have := X22.out.1.2.2.2; omega, by have := blk_lt X22.out.2; omega⟩
    rw [← hb7]
    clear hb7
    generalize w22.alloc (.cells #[.int .i64 0, .int .i64 0, .int .i64 0, .bool false, .int .i64 0, .bool false, .int .i64 0] 116) = w26 at *
    have B26 : As (Below w3.heap.size w3 w26) := ⟨B22.out.trans (q1.mono hs22)⟩
    have X26 := As.mk (And.intro (X22.out.1.keep q1) ((q1.block b3 (blk_lt X22.out.2)).trans X22.out.2))
    have hs26 := B26.out.size
    have HV := As.mk (HV.out.keep (W' := w26) (fun k _ hk => q1.block k hk) q1.size)
    refine hK _ _ X26.out ?_
    clear hK K q1
    with_reducible refine wpT_next (fun K hK => ?_)
    go_simp
    have HSN := HTL.out _ _ HV.out
    rw [HS2.out] at HSN
    refine HSN.mono ?_
    clear HSN
    rintro e w27 ⟨rfl, q1⟩
    have B27 : As (Below w3.heap.size w3 w27) := ⟨B26.out.trans (q1.mono hs26)⟩
    have X27 := As.mk (And.intro (X26.out.1.keep q1) ((q1.block b3 (blk_lt X26.out.2)).trans X26.out.2))
    have hs27 := B27.out.size
    have A27 := As.mk ((q1.block b7 (blk_lt A26.out)).trans A26.out)
    refine hK _ _ X27.out ?_
    clear hK K q1
    iterate 3 (with_reducible refine wpT_sure (fun K hK => ?_); go_simp; with_reducible refine hK _ ?_; clear hK K)
    with_reducible refine wpT_next (fun K hK => ?_)
    rw [if_pos (by rfl)]
    refine wp_storeC 116 (.tmp 9) (.tmp 123) rfl b7 116 (sgC s2) _ rfl rfl A27.out rfl size116 (sgC_one _) ?_
    intro wf q1 q2 q3 q4
    have BF : As (Below w3.heap.size w3 wf) := ⟨B27.out.trans (q2 _ O7.out.1)⟩
    have XF := As.mk (And.intro (X27.out.1.far q3 q4 O7.out.2.1 O7.out.2.2.1) ((q4 b3 O7.out.2.2.2).trans X27.out.2))
    have AF := As.mk q1
    refine hK _ _ XF.out ?_
    clear hK K q1 q2 q3 q4
    with_reducible refine wpT_next (fun K hK => ?_)
    go_simp
    refine hK _ _ XF.out ?_
    clear hK K
    refine wpT_nil ?_
    go_wp2_with fail
    go_meet
    case rel => exact ⟨b7, rfl, AF, ⟨O7.out.1⟩, BF⟩
  ·with_reducible refine wpT_next (fun K hK => ?_)
   go_simp
   have q1 : Below wd.heap.size wd (wd.alloc (.cells #[.int .i64 0, .int .i64 0, .int .i64 0, .bool false, .int .i64 0, .bool false, .int .i64 0] 116)) := (Below.refl _ _).alloc (Nat.le_refl _) _
   obtain ⟨b7, hb7⟩ : ∃ b7, b7 = wd.heap.size := ⟨_, rfl⟩
   have A29 : As ((wd.alloc (.cells #[.int .i64 0, .int .i64 0, .int .i64 0, .bool false, .int .i64 0, .bool false, .int .i64 0] 116)).heap[b7]? = some (.cells #[.int .i64 0, .int .i64 0, .int .i64 0, .bool false, .int .i64 0, .bool false, .int .i64 0] 116 (0, 0))) := ⟨by rw [hb7]; exact blk_new wd _⟩
   have O7 : As (w3.heap.size ≤ b7 ∧ lb ≠ b7 ∧ g ≠ b7 ∧ b3 ≠ b7) := ⟨by omega, by have := Xd.out.1.2.2.1; omega, by have := Xd.out.1.2.2.2; omega, by have := blk_lt Xd.out.2; omega⟩
   rw [← hb7]
   clear hb7
   generalize wd.alloc (.cells #[.int .i64 0, .int .i64 0, .int .i64 0, .bool false, .int .i64 0, .bool false, .int .i64 0] 116) = w29 at *
   have B29 : As (Below w3.heap.size w3 w29) := ⟨Bd.out.trans (q1.mono hsd)⟩
   have X29 := As.mk (And.intro (Xd.out.1.keep q1) ((q1.block b3 (blk_lt Xd.out.2)).trans Xd.out.2))
   have hs29 := B29.out.size
   refine hK _ _ X29.out ?_
   clear hK K q1
   with_reducible refine wpT_next (fun K hK => ?_)
   go_simp
   refine (HRP.out _ B29.out).mono ?_
   rintro e w30 ⟨pw, rfl, g1, q1⟩
   have B30 : As (Below w3.heap.size w3 w30) := ⟨B29.out.trans (q1.mono hs29)⟩
   have X30 := As.mk (And.intro (X29.out.1.keep q1) ((q1.block b3 (blk_lt X29.out.2)).trans X29.out.2))
   have hs30 := B30.out.size
   have A30 := As.mk ((q1.block b7 (blk_lt A29.out)).trans A29.out)
   have HV := As.mk g1
   refine hK _ _ X30.out ?_
   clear hK K q1 g1
   with_reducible refine wpT_next (fun K hK => ?_)
   go_simp
   have HSN := HTL.out _ _ HV.out
   rw [HS2.out] at HSN
   refine HSN.mono ?_
   clear HSN
   rintro e w31 ⟨rfl, q1⟩
   have B31 : As (Below w3.heap.size w3 w31) := ⟨B30.out.trans (q1.mono hs30)⟩
   have X31 := As.mk (And.intro (X30.out.1.keep q1) ((q1.block b3 (blk_lt X30.out.2)).trans X30.out.2))
   have hs31 := B31.out.size
   have A31 := As.mk ((q1.block b7 (blk_lt A30.out)).trans A30.out)
   refine hK _ _ X31.out ?_
   clear hK K q1
   iterate 3 (with_reducible refine wpT_sure (fun K hK => ?_); go_simp; with_reducible refine hK _ ?_; clear hK K)
   with_reducible refine wpT_next (fun K hK => ?_)
   rw [if_pos (by rfl)]
   refine wp_storeC 116 (.tmp 9) (.tmp 123) rfl b7 116 (sgC s2) _ rfl rfl A31.out rfl size116 (sgC_one _) ?_
   intro wf q1 q2 q3 q4
   have BF : As (Below w3.heap.size w3 wf) := ⟨B31.out.trans (q2 _ O7.out.1)⟩
   have XF := As.mk (And.intro (X31.out.1.far q3 q4 O7.out.2.1 O7.out.2.2.1) ((q4 b3 O7.out.2.2.2).trans X31.out.2))
   have AF := As.mk q1
   refine hK _ _ XF.out ?_
   clear hK K q1 q2 q3 q4
   with_reducible refine wpT_next (fun K hK => ?_)
   go_simp
   refine hK _ _ XF.out ?_
   clear hK K
   refine wpT_nil ?_
   go_wp2_with fail
   go_meet
   case rel => exact ⟨b7, rfl, AF, ⟨O7.out.1⟩, BF⟩
 case rest =>
  obtain ⟨b7, rfl, HB7, HBL, HBC⟩ := hcut
  have FC : As (Frame (fun k => k = lb) W wc) := ⟨F3.out.trans (Frame.of_below (own := fun k => k = lb) HBC.out (Nat.le_refl _)) (fun k _ h => h)⟩
  have HLC := As.mk (HL3.out.keep (W' := wc) (fun k _ hk => HBC.out.block k hk) HBC.out.size)
  have XC := As.mk (X0.out.1.keep HBC.out)
  have hcc := XC.out.1
  have h7 := HB7.out
  go_upto_region 18 with fail
  refine wp_region_plan_kept (fun w' => w'.cell? ⟨lb, 1, none⟩ = some (.slice (some ⟨g, 0, none⟩) n c) ∧ w'.heap[b7]? = some (.cells (sgC s2).toArray 116 (0, 0))) [(1,0),(1,1),(1,2),(0,3),(1,4),(0,5),(1,6),(1,7),(2,8)] (by kernel_rfl) (by kernel_rfl) (by kernel_rfl) (by kernel_rfl) (fun _ _ _ _ _ h => h) ⟨hcc, h7⟩ ?_
  simp only [tagged, List.filterMap_cons, List.filterMap_nil, List.getElem?_toArray, List.getElem?_cons_succ, List.getElem?_cons_zero, Option.map_some]
  iterate 3 (with_reducible refine wpKept_sure (fun K hK => ?_); go_simp; with_reducible refine hK _ ?_; clear hK K)
  refine wpKept_take (fun K hK => ?_)
  rw [if_pos (by rfl)]
  apply Exists.intro
  refine ⟨fun w' hw' => ?_, hK _ ?_⟩
  ·have j0 := hw'.1
   go_simp
   rfl
  clear hK K
  iterate 1 (with_reducible refine wpKept_sure (fun K hK => ?_); go_simp; with_reducible refine hK _ ?_; clear hK K)
  refine wpKept_take (fun K hK => ?_)
  rw [if_pos (by rfl)]
  refine ⟨.agg (sgC s2).toArray, fun w' hw' => exec_load_mid _ _ _ 116 (.tmp 9) rfl b7 0 rfl (sgC s2) _ (fun j v hv => by rw [Nat.zero_add, blk_cell hw'.2]; simpa using hv) Tryz.underlying116 rfl size116, hK _ ?_⟩
  clear hK K
  iterate 2 (with_reducible refine wpKept_sure (fun K hK => ?_); go_simp; with_reducible refine hK _ ?_; clear hK K)
  have hor : wc.drew.there g (i * 10 + 3) 7 := by
   obtain ⟨cs, r1, r2, _⟩ := HLC.out.ors
   rw [HLN.out] at r2
   exact own_there r2 (i * 10 + 3) 7 (by omega)
  have hne1 : lb ≠ g := fun e => hgne e.symm
  have hne7 : b7 ≠ g := by have := HBL.out; omega
  with_reducible refine wpKept_next (fun K hK => ?_)
  rw [if_pos (by rfl)]
  refine wp_store_mid 116 (.tmp 132) (.tmp 130) rfl g (i * 10 + 3) (sgC s2).toArray rfl rfl hor size116 (all_oneCell_toArray (sgC_one _)) ?_
  refine hK _ _ ⟨by rw [World.cell?_of_block (w := wc) (a := ⟨lb, 1, none⟩) (setCells_far (W := wc.drew) _ _ _ hne1)]; exact hcc, (setCells_far (W := wc.drew) _ _ _ hne7).trans h7⟩ ?_
  clear hK K
  refine wpKept_nil ?_
  have HLD : As (RLedAt wc.drew OP OL lb pv (.slice (some ⟨g, 0, none⟩) n c) tv ps l bs (last + 1) (wrap64 (tk + 1)) nt) := ⟨HLC.out.keep (fun k _ _ => rfl) (Nat.le_refl _)⟩
  have HN := As.mk (HLD.out.setSg HLN.out HO.out s2)
  have FN : As (Frame (fun k => OL k ∨ k = lb) W (wc.drew.setCells g (i * 10 + 3) (sgC s2))) := ⟨(FC.out.drew.mono (fun k h => Or.inr h)).setCells (.inl (.inl HN.out.2)) _ _⟩
  clear hor h7 hcc
  generalize hw6 : wc.drew.setCells g (i * 10 + 3) (sgC s2) = w6 at *
  have e6 : wc.drew.setCells g (i * 10 + 3) (sgC s2).toArray.toList = w6 := hw6
  try rw [e6]
  clear hw6 e6
  go_wp2_with fail
  go_ret
  exact ⟨rfl, _, tv, bs, _, nt, OL, by rw [HS2.out]; exact HN.out.1, fun k hk => .inl hk, FN.out⟩
end Go.Proofs.YthfjhgdiakciaaaGreat.Bl
/- Bytes copied (drayageref00.Copy). Condition: there is one at least. -/
namespace Go.Proofs.YthfjhgdiakciaaaGreat.Bl
open Go.RowKit
set_option linter.unusedVariables false
set_option linter.unusedSimpArgs false
/-- 'append([]byte(nil), y...)', y not empty. -/
theorem wpList_append_nil5 {ops : Array Oper} {rest : List Oper} {o : Oper} {a : Act} {w : World} {Q : Exit → Act → World → Prop} (hgd : o.guard = none) (s x : Operand)
  (ho : o.op = .call { callee := .builtin .append, args := #[s, x], argTypes := #[39, 39] }) (hs : a.eval s = .slice none 0 0)
  (q off m c : Nat) (y : List Int) (hx : a.eval x = .slice (some ⟨q, off, none⟩) m c) (hl : y.length = m) (hr : w.rangeAt q off (bv y)) (h0 : 0 < m) (hm : m ≤ 1000000) (H : Nat) (hH : w.heap.size = H)
  (h : ∀ g cap w', w'.ownsRow H 5 1 (.slice (some ⟨g, 0, none⟩) m cap) m (bv y) → w.grownBy w' none → g = H → m ≤ cap → wpList Tryz.prog ops Q rest (a.put o.dst (.slice (some ⟨g, 0, none⟩) m cap)) w') :
  wpList Tryz.prog ops Q (o :: rest) a w := by
 obtain ⟨i0, hi0, hz0, hz1, hz2⟩ := info_parts info5
 refine wpList_append_lies _ hgd s x 39 ho H 5 i0 (.int .u8 0) 1 1 Tryz.underlying39 hi0 hz0 hz1 hz2 rfl (by omega) _ _ _ hs (World.ownsRow_nil w H 5 1) ⟨q, off, none⟩ m c (bv y) hx (by rw [bv_len, Nat.mul_one]; exact hl) (fun j u hu => by rw [Addr.add_mid]; exact hr j u hu) (bv_one y) (by omega) (by unfold maxLen; omega) (by omega) (by omega) H hH ?_
 intro g cap w' h1 h2 h3 h4
 rw [Nat.zero_add, List.nil_append] at h1
 rw [Nat.zero_add]
 have hcp : m ≤ cap := by obtain ⟨_, _, _, h, _⟩ := own_block h1; exact h
 refine h g cap w' h1 (by have := h2; rwa [show (Value.slice none 0 0).ownBlock = none by simp [Value.ownBlock]] at this) ?_ hcp
 rcases h3 with h3 | h3
 ·simp [Value.ownBlock] at h3
 ·exact h3
theorem rcopy_a {W : World} {A : Option Addr} {x : List Int} (hx : Bytes W A x) (h0 : 0 < x.length) (hl : x.length ≤ 100000) (c : Nat) :
  Calls Tryz.prog 58 #[.slice A x.length c] W fun e W' => (∃ g k, e = .returned (.slice (some ⟨g, 0, none⟩) x.length k) ∧ W.heap.size ≤ g ∧ g < W'.heap.size ∧ Bytes W' (some ⟨g, 0, none⟩) x ∧ x.length ≤ k) ∧ Below W.heap.size W W' := by
 obtain ⟨q, o, rfl, hq, hr⟩ := hx.2 (by intro h; rw [h] at h0; exact absurd h0 (Nat.lt_irrefl 0))
 have HR := As.mk hr
 have HB := As.mk hx.1
 clear hx hr
 go_enter Tryz.func58, Tryz.ntmps58
 go_wp2_with ((at_builtin; refine wpList_append_nil5 rfl _ _ rfl rfl q o x.length _ x rfl rfl HR.out (by omega) (by omega) W.heap.size rfl ?_))
 intro g k w1 q1 q2 q3 q4
 have G := As.mk (own_bytes q1 HB.out)
 have B1 : As (Below W.heap.size W w1) := ⟨(Below.refl _ W).grown q2 (Nat.le_refl _) (fun k hk => by cases hk)⟩
 have hgl : W.heap.size ≤ g ∧ g < w1.heap.size := ⟨by omega, G.out.2.2.2.2⟩
 clear q1 q2 q3
 go_wp2_with fail
 go_ret
 exact ⟨⟨g, k, rfl, hgl.1, hgl.2, G.out.1, q4⟩, B1.out⟩
end Go.Proofs.YthfjhgdiakciaaaGreat.Bl
