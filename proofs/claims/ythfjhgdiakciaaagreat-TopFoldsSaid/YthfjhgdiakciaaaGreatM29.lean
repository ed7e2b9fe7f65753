/- May an intent, a result come now, by its kind (drayageref20's fits)? Condition: the ledger lies in memory as it is told; the entry is the order's next one. -/
import Derived.Test.YthfjhgdiakciaaaGreatM25
import Derived.Test.YthfjhgdiakciaaaGreatM26
import Derived.Test.YthfjhgdiakciaaaGreatM28
namespace Go.Proofs.YthfjhgdiakciaaaGreat.Bl
open Go.RowKit Go.Maps
set_option linter.unusedVariables false
set_option linter.unusedSimpArgs false
set_option maxHeartbeats 4000000 in
set_option maxRecDepth 100000 in
theorem rfits_intent {W : World} {OP OL : Nat → Prop} {lb : Nat} {pv lv tv : Value} {ps : List (List Stp)} {l : List Or} {bs : List Bool} {last : Nat} {tk nt : Int} (h : RLedAt W OP OL lb pv lv tv ps l bs last tk nt) (hps : PsOk ps) (hn : l.length < 500) {i : Nat} {o : Or} (ho : l[i]? = some o) {p : List Stp} (hp : ps[o.pl]? = some p) (hs : SgOk p o.sg) {d : Dn} (hnx : nextS o.sg = some d) {ak ad : Option Addr} {ck cd : Nat} {lsn : Int} :
  Calls Tryz.prog 102 #[.pointer (some ⟨lb, 0, none⟩), .agg #[.int .i64 3, .int .u64 lsn, .int .u32 1, .int .u32 ((i : Int) + 1), .int .i64 d.st, .bool d.undo, .int .i64 d.tr, .int .i64 0, .int .u64 0, .slice ak 0 ck, .slice ad 0 cd]] W fun e W' => e = .returned (.bool true) ∧ Below W.heap.size W W' := by
 obtain ⟨A, c, rfl⟩ := h.slice
 have hbk := h.blk
 have hlb := blk_lt hbk
 have hil := (List.getElem?_eq_some_iff.1 ho).1
 obtain ⟨g, c', x, hv, hgl, hog, hx, hr⟩ := h.ors.at rfl ho
 injection hv with e1 _ e2
 subst e1 e2
 have hr1 := As.mk (hx.num hr).2
 have HR := As.mk h
 generalize epF last = ep at hbk
 have hbox : (W.alloc (.cells #[.int .i64 3, .int .u64 lsn, .int .u32 1, .int .u32 ((i : Int) + 1), .int .i64 d.st, .bool d.undo, .int .i64 d.tr, .int .i64 0, .int .u64 0, .slice ak 0 ck, .slice ad 0 cd] 41)).heap[W.heap.size]? = some (.cells #[.int .i64 3, .int .u64 lsn, .int .u32 1, .int .u32 ((i : Int) + 1), .int .i64 d.st, .bool d.undo, .int .i64 d.tr, .int .i64 0, .int .u64 0, .slice ak 0 ck, .slice ad 0 cd] 41 (0, 0)) := blk_new W _
 have k0 := (blk_cell hbox 0).trans rfl
 have k3 := (blk_cell hbox 3).trans rfl
 have HBX := As.mk hbox
 have hwi : IntKind.i64.wrap ((i : Int) + 1) = (i : Int) + 1 := by simp [IntKind.wrap, IntKind.bits, IntKind.signed]; omega
 have hw1 : wrap64 ((i : Int) + 1 - 1) = i := by simp [wrap64, IntKind.wrap, IntKind.bits, IntKind.signed]; omega
 have hd2 : decide ((l.length : Int) < (i : Int) + 1) = false := by simp; omega
 have HRP : As (∀ w, Below W.heap.size W w → Calls Tryz.prog 60 #[.pointer (some ⟨lb, 0, none⟩), .int .i64 i] w fun e W' => ∃ sv, e = .returned sv ∧ PlanAt W' OP sv p ∧ Below w.heap.size w W') := ⟨fun w hw => rplan_a (HR.out.keep (fun k _ hk => hw.block k hk) hw.size) ho hp hps.len (by omega)⟩
 have HPO := As.mk (hps.ok p (List.mem_of_getElem? hp))
 have HS := As.mk hs
 have HNX := As.mk hnx
 generalize o.sg = s at *
 have c1 : (W.alloc (.cells #[.int .i64 3, .int .u64 lsn, .int .u32 1, .int .u32 ((i : Int) + 1), .int .i64 d.st, .bool d.undo, .int .i64 d.tr, .int .i64 0, .int .u64 0, .slice ak 0 ck, .slice ad 0 cd] 41)).cell? ⟨lb, 1, none⟩ = some (.slice (some ⟨g, 0, none⟩) l.length c) := (blk_cell (blk_old hbk _) 1).trans rfl
 have HR1 : As ((W.alloc (.cells #[.int .i64 3, .int .u64 lsn, .int .u32 1, .int .u32 ((i : Int) + 1), .int .i64 d.st, .bool d.undo, .int .i64 d.tr, .int .i64 0, .int .u64 0, .slice ak 0 ck, .slice ad 0 cd] 41)).rangeAt g (i * 10 + 3) [.int .i64 s.ph, .int .i64 s.st, .int .i64 s.tr, .bool s.asked, .int .i64 (leftF s.asked), .bool false, .int .i64 s.code]) := ⟨range_heap hr1.out (Below.heap_alloc _ _ _ hgl)⟩
 have HLT : As (lb < W.heap.size ∧ g < W.heap.size) := ⟨hlb, hgl⟩
 clear h ho hp hs hnx hps hr hx hog hr1 HR hbk hbox
 generalize l.length = n at *
 go_enter Tryz.func102, Tryz.ntmps102
 go_upto_region 17 with ((refine wpList_load_mid rfl 116 (.tmp 89) rfl g (i * 10 + 3) rfl _ _ HR1.out Tryz.underlying116 rfl size116 ?_))
 have B0 : As (Below W.heap.size W ((W.alloc (.cells #[.int .i64 3, .int .u64 lsn, .int .u32 1, .int .u32 ((i : Int) + 1), .int .i64 d.st, .bool d.undo, .int .i64 d.tr, .int .i64 0, .int .u64 0, .slice ak 0 ck, .slice ad 0 cd] 41)).alloc (.cells #[.int .i64 s.ph, .int .i64 s.st, .int .i64 s.tr, .bool s.asked, .int .i64 (leftF s.asked), .bool false, .int .i64 s.code] 116))) := ⟨((Below.refl _ W).alloc (Nat.le_refl _) _).alloc (by simp) _⟩
 have h8 : ((W.alloc (.cells #[.int .i64 3, .int .u64 lsn, .int .u32 1, .int .u32 ((i : Int) + 1), .int .i64 d.st, .bool d.undo, .int .i64 d.tr, .int .i64 0, .int .u64 0, .slice ak 0 ck, .slice ad 0 cd] 41)).alloc (.cells #[.int .i64 s.ph, .int .i64 s.st, .int .i64 s.tr, .bool s.asked, .int .i64 (leftF s.asked), .bool false, .int .i64 s.code] 116)).heap[W.heap.size + 1]? = some (.cells #[.int .i64 s.ph, .int .i64 s.st, .int .i64 s.tr, .bool s.asked, .int .i64 (leftF s.asked), .bool false, .int .i64 s.code] 116 (0, 0)) := blk_at _ _ _ (by simp)
 have h3 : ((W.alloc (.cells #[.int .i64 3, .int .u64 lsn, .int .u32 1, .int .u32 ((i : Int) + 1), .int .i64 d.st, .bool d.undo, .int .i64 d.tr, .int .i64 0, .int .u64 0, .slice ak 0 ck, .slice ad 0 cd] 41)).alloc (.cells #[.int .i64 s.ph, .int .i64 s.st, .int .i64 s.tr, .bool s.asked, .int .i64 (leftF s.asked), .bool false, .int .i64 s.code] 116)).heap[W.heap.size]? = some (.cells #[.int .i64 3, .int .u64 lsn, .int .u32 1, .int .u32 ((i : Int) + 1), .int .i64 d.st, .bool d.undo, .int .i64 d.tr, .int .i64 0, .int .u64 0, .slice ak 0 ck, .slice ad 0 cd] 41 (0, 0)) := blk_old HBX.out _
 have HSZ : As (W.heap.size = W.heap.size ∧ W.heap.size + 1 = W.heap.size + 1) := ⟨rfl, rfl⟩
 obtain ⟨b8, hb8⟩ : ∃ b8, b8 = W.heap.size + 1 := ⟨_, rfl⟩
 obtain ⟨b3, hb3⟩ : ∃ b3, b3 = W.heap.size := ⟨_, rfl⟩
 rw [← hb8] at h8 ⊢
 rw [← hb3] at h3 ⊢
 generalize (W.alloc (.cells #[.int .i64 3, .int .u64 lsn, .int .u32 1, .int .u32 ((i : Int) + 1), .int .i64 d.st, .bool d.undo, .int .i64 d.tr, .int .i64 0, .int .u64 0, .slice ak 0 ck, .slice ad 0 cd] 41)).alloc (.cells #[.int .i64 s.ph, .int .i64 s.st, .int .i64 s.tr, .bool s.asked, .int .i64 (leftF s.asked), .bool false, .int .i64 s.code] 116) = w0 at *
 clear HSZ HBX HR1 c1 k0 k3 hwi hw1 hd2
 have HB := As.mk (And.intro hb3 hb8)
 clear hb3 hb8
 have hs0 := B0.out.size
 refine wp_region_plan_tree (fun w' => w'.heap[b8]? = some (.cells #[.int .i64 s.ph, .int .i64 s.st, .int .i64 s.tr, .bool s.asked, .int .i64 (leftF s.asked), .bool false, .int .i64 s.code] 116 (0, 0)) ∧ w'.heap[b3]? = some (.cells #[.int .i64 3, .int .u64 lsn, .int .u32 1, .int .u32 ((i : Int) + 1), .int .i64 d.st, .bool d.undo, .int .i64 d.tr, .int .i64 0, .int .u64 0, .slice ak 0 ck, .slice ad 0 cd] 41 (0, 0))) (.cons 1 0 (.cons 1 1 (.cons 0 3 (.two 2 8 (.two 4 8 (.cons 1 5 (.cons 1 6 (.cons 1 7 (.cons 2 8 (.cons 2 9 (.cons 2 10 .nil)))))) (.cons 2 4 (.cons 1 5 (.cons 1 6 (.cons 1 7 (.cons 2 9 (.cons 2 10 .nil))))))) (.cons 2 2 (.cons 2 4 (.cons 1 5 (.cons 1 6 (.cons 1 7 (.cons 2 9 (.cons 2 10 .nil))))))))))) (by kernel_rfl) (by kernel_rfl) (by kernel_rfl) (by kernel_rfl) (fun _ _ _ _ _ h => h) ⟨h8, h3⟩ ?_
 simp only [PT.tag, List.getElem?_toArray, List.getElem?_cons_succ, List.getElem?_cons_zero]
 iterate 2 (with_reducible refine wpT_sure (fun K hK => ?_); go_simp; with_reducible refine hK _ ?_; clear hK K)
 refine wpT_take (fun K hK => ?_)
 rw [if_pos (by rfl)]
 refine ⟨.agg (sgC s).toArray, fun w' hw' => exec_load_mid _ _ _ 116 (.tmp 8) rfl b8 0 rfl (sgC s) _ (fun j v hv => by rw [Nat.zero_add, blk_cell hw'.1]; simpa [sgC] using hv) Tryz.underlying116 rfl size116, hK _ ?_⟩
 clear hK K
 have Bd : As (Below W.heap.size W w0.drew) := ⟨B0.out.drew⟩
 have Xd : As (w0.drew.heap[b8]? = some (.cells #[.int .i64 s.ph, .int .i64 s.st, .int .i64 s.tr, .bool s.asked, .int .i64 (leftF s.asked), .bool false, .int .i64 s.code] 116 (0, 0)) ∧ w0.drew.heap[b3]? = some (.cells #[.int .i64 3, .int .u64 lsn, .int .u32 1, .int .u32 ((i : Int) + 1), .int .i64 d.st, .bool d.undo, .int .i64 d.tr, .int .i64 0, .int .u64 0, .slice ak 0 ck, .slice ad 0 cd] 41 (0, 0))) := ⟨h8, h3⟩
 have hsd : W.heap.size ≤ w0.drew.heap.size := hs0
 generalize w0.drew = wd at *
 clear h8 h3
 refine wpT_two ?_ ?_
 ·with_reducible refine wpT_next (fun K hK => ?_)
  go_simp
  refine (HRP.out _ Bd.out).mono ?_
  rintro e w1 ⟨pw, rfl, g1, q1⟩
  have B1 : As (Below W.heap.size W w1) := ⟨Bd.out.trans (q1.mono hsd)⟩
  have X1 := As.mk (And.intro ((q1.block b8 (blk_lt Xd.out.1)).trans Xd.out.1) ((q1.block b3 (blk_lt Xd.out.2)).trans Xd.out.2))
  have hs1 := B1.out.size
  have HV := As.mk g1
  refine hK _ _ X1.out ?_
  clear hK K q1 g1
  refine wpT_two ?_ ?_
  ·with_reducible refine wpT_next (fun K hK => ?_)
   go_simp
   have HSN := rnext_a HV.out HPO.out HS.out
   rw [HNX.out] at HSN
   refine HSN.mono ?_
   clear HSN
   rintro e w2 ⟨rfl, q1⟩
   have B2 : As (Below W.heap.size W w2) := ⟨B1.out.trans (q1.mono hs1)⟩
   have X2 := As.mk (And.intro ((q1.block b8 (blk_lt X1.out.1)).trans X1.out.1) ((q1.block b3 (blk_lt X1.out.2)).trans X1.out.2))
   have hs2 := B2.out.size
   refine hK _ _ X2.out ?_
   clear hK K q1
   unfold nextV dnC
   iterate 3 (with_reducible refine wpT_sure (fun K hK => ?_); go_simp; with_reducible refine hK _ ?_; clear hK K)
   with_reducible refine wpT_next (fun K hK => ?_)
   go_simp
   have q1 : Below w2.heap.size w2 (w2.alloc (.cells #[.int .i64 0, .bool false, .int .i64 0] 49)) := (Below.refl _ _).alloc (Nat.le_refl _) _
   obtain ⟨b9, hb9⟩ : ∃ b9, b9 = w2.heap.size := ⟨_, rfl⟩
   have A3 : As ((w2.alloc (.cells #[.int .i64 0, .bool false, .int .i64 0] 49)).heap[b9]? = some (.cells #[.int .i64 0, .bool false, .int .i64 0] 49 (0, 0))) := ⟨by rw [hb9]; exact blk_new w2 _⟩
   have O9 : As (W.heap.size ≤ b9 ∧ b8 ≠ b9 ∧ b3 ≠ b9) := ⟨by omega, by have := blk_lt X2.out.1; omega, by have := blk_lt X2.out.2; omega⟩
   rw [← hb9]
   clear hb9
   generalize w2.alloc (.cells #[.int .i64 0, .bool false, .int .i64 0] 49) = w3 at *
   have B3 : As (Below W.heap.size W w3) := ⟨B2.out.trans (q1.mono hs2)⟩
   have X3 := As.mk (And.intro ((q1.block b8 (blk_lt X2.out.1)).trans X2.out.1) ((q1.block b3 (blk_lt X2.out.2)).trans X2.out.2))
   have hs3 := B3.out.size
   refine hK _ _ X3.out ?_
   clear hK K q1
   with_reducible refine wpT_next (fun K hK => ?_)
   rw [if_pos (by rfl)]
   refine wp_storeC 49 (.tmp 9) (.tmp 101) rfl b9 49 [.int .i64 d.st, .bool d.undo, .int .i64 d.tr] _ rfl rfl A3.out rfl size49 (dnC_one d) ?_
   intro wf q1 q2 q3 q4
   have BF : As (Below W.heap.size W wf) := ⟨B3.out.trans (q2 _ O9.out.1)⟩
   have XF := As.mk (And.intro ((q4 b8 O9.out.2.1).trans X3.out.1) ((q4 b3 O9.out.2.2).trans X3.out.2))
   have l0 := (blk_cell q1 0).trans rfl
   have l1 := (blk_cell q1 1).trans rfl
   have l2 := (blk_cell q1 2).trans rfl
   refine hK _ _ XF.out ?_
   clear hK K q1 q2 q3 q4
   with_reducible refine wpT_next (fun K hK => ?_)
   go_simp
   refine hK _ _ XF.out ?_
   clear hK K
   refine wpT_nil ?_
   obtain ⟨k0, k1, k2, k3, k4, k5, k6, k7, k8, k9, k10⟩ := cells11 XF.out.2
   go_wp2_with fail
   go_ret
   exact ⟨rfl, BF.out⟩
  ·with_reducible refine wpT_next (fun K hK => ?_)
   go_simp
   have q1 : Below w1.heap.size w1 (w1.alloc (.cells #[.int .i64 0, .bool false, .int .i64 0] 49)) := (Below.refl _ _).alloc (Nat.le_refl _) _
   obtain ⟨b9, hb9⟩ : ∃ b9, b9 = w1.heap.size := ⟨_, rfl⟩
   have A5 : As ((w1.alloc (.cells #[.int .i64 0, .bool false, .int .i64 0] 49)).heap[b9]? = some (.cells #[.int .i64 0, .bool false, .int .i64 0] 49 (0, 0))) := ⟨by rw [hb9]; exact blk_new w1 _⟩
   have O9 : As (W.heap.size ≤ b9 ∧ b8 ≠ b9 ∧ b3 ≠ b9) := ⟨by omega, by have := blk_lt X1.out.1; omega, by have := blk_lt X1.out.2; omega⟩
   rw [← hb9]
   clear hb9
   generalize w1.alloc (.cells #[.int .i64 0, .bool false, .int .i64 0] 49) = w5 at *
   have B5 : As (Below W.heap.size W w5) := ⟨B1.out.trans (q1.mono hs1)⟩
   have X5 := As.mk (And.intro ((q1.block b8 (blk_lt X1.out.1)).trans X1.out.1) ((q1.block b3 (blk_lt X1.out.2)).trans X1.out.2))
   have hs5 := B5.out.size
   have HV := As.mk (HV.out.keep (W' := w5) (fun k _ hk => q1.block k hk) q1.size)
   refine hK _ _ X5.out ?_
   clear hK K q1
   with_reducible refine wpT_next (fun K hK => ?_)
   go_simp
   have HSN := rnext_a HV.out HPO.out HS.out
   rw [HNX.out] at HSN
   refine HSN.mono ?_
   clear HSN
   rintro e w6 ⟨rfl, q1⟩
   have B6 : As (Below W.heap.size W w6) := ⟨B5.out.trans (q1.mono hs5)⟩
   have X6 := As.mk (And.intro ((q1.block b8 (blk_lt X5.out.1)).trans X5.out.1) ((q1.block b3 (blk_lt X5.out.2)).trans X5.out.2))
   have hs6 := B6.out.size
   have A6 := As.mk ((q1.block b9 (blk_lt A5.out)).trans A5.out)
   refine hK _ _ X6.out ?_
   clear hK K q1
   unfold nextV dnC
   iterate 3 (with_reducible refine wpT_sure (fun K hK => ?_); go_simp; with_reducible refine hK _ ?_; clear hK K)
   with_reducible refine wpT_next (fun K hK => ?_)
   rw [if_pos (by rfl)]
   refine wp_storeC 49 (.tmp 9) (.tmp 101) rfl b9 49 [.int .i64 d.st, .bool d.undo, .int .i64 d.tr] _ rfl rfl A6.out rfl size49 (dnC_one d) ?_
   intro wf q1 q2 q3 q4
   have BF : As (Below W.heap.size W wf) := ⟨B6.out.trans (q2 _ O9.out.1)⟩
   have XF := As.mk (And.intro ((q4 b8 O9.out.2.1).trans X6.out.1) ((q4 b3 O9.out.2.2).trans X6.out.2))
   have l0 := (blk_cell q1 0).trans rfl
   have l1 := (blk_cell q1 1).trans rfl
   have l2 := (blk_cell q1 2).trans rfl
   refine hK _ _ XF.out ?_
   clear hK K q1 q2 q3 q4
   with_reducible refine wpT_next (fun K hK => ?_)
   go_simp
   refine hK _ _ XF.out ?_
   clear hK K
   refine wpT_nil ?_
   obtain ⟨k0, k1, k2, k3, k4, k5, k6, k7, k8, k9, k10⟩ := cells11 XF.out.2
   go_wp2_with fail
   go_ret
   exact ⟨rfl, BF.out⟩
 ·with_reducible refine wpT_next (fun K hK => ?_)
  go_simp
  have q1 : Below wd.heap.size wd (wd.alloc (.cells #[.int .i64 0, .bool false, .int .i64 0] 49)) := (Below.refl _ _).alloc (Nat.le_refl _) _
  obtain ⟨b9, hb9⟩ : ∃ b9, b9 = wd.heap.size := ⟨_, rfl⟩
  have A8 : As ((wd.alloc (.cells #[.int .i64 0, .bool false, .int .i64 0] 49)).heap[b9]? = some (.cells #[.int .i64 0, .bool false, .int .i64 0] 49 (0, 0))) := ⟨by rw [hb9]; exact blk_new wd _⟩
  have O9 : As (W.heap.size ≤ b9 ∧ b8 ≠ b9 ∧ b3 ≠ b9) := ⟨by omega, by have := blk_lt Xd.out.1; omega, by have := blk_lt Xd.out.2; omega⟩
  rw [← hb9]
  clear hb9
  generalize wd.alloc (.cells #[.int .i64 0, .bool false, .int .i64 0] 49) = w8 at *
  have B8 : As (Below W.heap.size W w8) := ⟨Bd.out.trans (q1.mono hsd)⟩
  have X8 := As.mk (And.intro ((q1.block b8 (blk_lt Xd.out.1)).trans Xd.out.1) ((q1.block b3 (blk_lt Xd.out.2)).trans Xd.out.2))
  have hs8 := B8.out.size
  refine hK _ _ X8.out ?_
  clear hK K q1
  with_reducible refine wpT_next (fun K hK => ?_)
  go_simp
  refine (HRP.out _ B8.out).mono ?_
  rintro e w9 ⟨pw, rfl, g1, q1⟩
  have B9 : As (Below W.heap.size W w9) := ⟨B8.out.trans (q1.mono hs8)⟩
  have X9 := As.mk (And.intro ((q1.block b8 (blk_lt X8.out.1)).trans X8.out.1) ((q1.block b3 (blk_lt X8.out.2)).trans X8.out.2))
  have hs9 := B9.out.size
  have A9 := As.mk ((q1.block b9 (blk_lt A8.out)).trans A8.out)
  have HV := As.mk g1
  refine hK _ _ X9.out ?_
  clear hK K q1 g1
  with_reducible refine wpT_next (fun K hK => ?_)
  go_simp
  have HSN := rnext_a HV.out HPO.out HS.out
  rw [HNX.out] at HSN
  refine HSN.mono ?_
  clear HSN
  rintro e w10 ⟨rfl, q1⟩
  have B10 : As (Below W.heap.size W w10) := ⟨B9.out.trans (q1.mono hs9)⟩
  have X10 := As.mk (And.intro ((q1.block b8 (blk_lt X9.out.1)).trans X9.out.1) ((q1.block b3 (blk_lt X9.out.2)).trans X9.out.2))
  have hs10 := B10.out.size
  have A10 := As.mk ((q1.block b9 (blk_lt A9.out)).trans A9.out)
  refine hK _ _ X10.out ?_
  clear hK K q1
  unfold nextV dnC
  iterate 3 (with_reducible refine wpT_sure (fun K hK => ?_); go_simp; with_reducible refine hK _ ?_; clear hK K)
  with_reducible refine wpT_next (fun K hK => ?_)
  rw [if_pos (by rfl)]
  refine wp_storeC 49 (.tmp 9) (.tmp 101) rfl b9 49 [.int .i64 d.st, .bool d.undo, .int .i64 d.tr] _ rfl rfl A10.out rfl size49 (dnC_one d) ?_
  intro wf q1 q2 q3 q4
  have BF : As (Below W.heap.size W wf) := ⟨B10.out.trans (q2 _ O9.out.1)⟩
  have XF := As.mk (And.intro ((q4 b8 O9.out.2.1).trans X10.out.1) ((q4 b3 O9.out.2.2).trans X10.out.2))
  have l0 := (blk_cell q1 0).trans rfl
  have l1 := (blk_cell q1 1).trans rfl
  have l2 := (blk_cell q1 2).trans rfl
  refine hK _ _ XF.out ?_
  clear hK K q1 q2 q3 q4
  with_reducible refine wpT_next (fun K hK => ?_)
  go_simp
  refine hK _ _ XF.out ?_
  clear hK K
  refine wpT_nil ?_
  obtain ⟨k0, k1, k2, k3, k4, k5, k6, k7, k8, k9, k10⟩ := cells11 XF.out.2
  go_wp2_with fail
  go_ret
  exact ⟨rfl, BF.out⟩
set_option maxHeartbeats 4000000 in
set_option maxRecDepth 100000 in
theorem rfits_result {W : World} {OP OL : Nat → Prop} {lb : Nat} {pv lv tv : Value} {ps : List (List Stp)} {l : List Or} {bs : List Bool} {last : Nat} {tk nt : Int} (h : RLedAt W OP OL lb pv lv tv ps l bs last tk nt) (hps : PsOk ps) (hn : l.length < 500) {i : Nat} {o : Or} (ho : l[i]? = some o) {p : List Stp} (hp : ps[o.pl]? = some p) {ph st tr code : Nat} (hs : o.sg = ⟨ph, st, tr, true, 0⟩) (hph : ph = 1 ∨ ph = 2) {ak ad : Option Addr} {ck cd : Nat} {lsn : Int} :
  Calls Tryz.prog 102 #[.pointer (some ⟨lb, 0, none⟩), .agg #[.int .i64 4, .int .u64 lsn, .int .u32 1, .int .u32 ((i : Int) + 1), .int .i64 st, .bool (ph == 2), .int .i64 tr, .int .i64 code, .int .u64 0, .slice ak 0 ck, .slice ad 0 cd]] W fun e W' => e = .returned (.bool true) ∧ Below W.heap.size W W' := by
 obtain ⟨A, c, rfl⟩ := h.slice
 have hbk := h.blk
 have hlb := blk_lt hbk
 have hil := (List.getElem?_eq_some_iff.1 ho).1
 obtain ⟨g, c', x, hv, hgl, hog, hx, hr⟩ := h.ors.at rfl ho
 injection hv with e1 _ e2
 subst e1 e2
 have hr1 := As.mk (hx.num hr).2
 have HR := As.mk h
 generalize epF last = ep at hbk
 have hbox : (W.alloc (.cells #[.int .i64 4, .int .u64 lsn, .int .u32 1, .int .u32 ((i : Int) + 1), .int .i64 st, .bool (ph == 2), .int .i64 tr, .int .i64 code, .int .u64 0, .slice ak 0 ck, .slice ad 0 cd] 41)).heap[W.heap.size]? = some (.cells #[.int .i64 4, .int .u64 lsn, .int .u32 1, .int .u32 ((i : Int) + 1), .int .i64 st, .bool (ph == 2), .int .i64 tr, .int .i64 code, .int .u64 0, .slice ak 0 ck, .slice ad 0 cd] 41 (0, 0)) := blk_new W _
 have k0 := (blk_cell hbox 0).trans rfl
 have k3 := (blk_cell hbox 3).trans rfl
 have HBX := As.mk hbox
 have hwi : IntKind.i64.wrap ((i : Int) + 1) = (i : Int) + 1 := by simp [IntKind.wrap, IntKind.bits, IntKind.signed]; omega
 have hw1 : wrap64 ((i : Int) + 1 - 1) = i := by simp [wrap64, IntKind.wrap, IntKind.bits, IntKind.signed]; omega
 have hd2 : decide ((l.length : Int) < (i : Int) + 1) = false := by simp; omega
 rw [hs] at hr1
 have c1 : (W.alloc (.cells #[.int .i64 4, .int .u64 lsn, .int .u32 1, .int .u32 ((i : Int) + 1), .int .i64 st, .bool (ph == 2), .int .i64 tr, .int .i64 code, .int .u64 0, .slice ak 0 ck, .slice ad 0 cd] 41)).cell? ⟨lb, 1, none⟩ = some (.slice (some ⟨g, 0, none⟩) l.length c) := (blk_cell (blk_old hbk _) 1).trans rfl
 have HR1 : As ((W.alloc (.cells #[.int .i64 4, .int .u64 lsn, .int .u32 1, .int .u32 ((i : Int) + 1), .int .i64 st, .bool (ph == 2), .int .i64 tr, .int .i64 code, .int .u64 0, .slice ak 0 ck, .slice ad 0 cd] 41)).rangeAt g (i * 10 + 3) [.int .i64 ph, .int .i64 st, .int .i64 tr, .bool true, .int .i64 (leftF true), .bool false, .int .i64 (0 : Nat)]) := ⟨range_heap hr1.out (Below.heap_alloc _ _ _ hgl)⟩
 have HLT : As (lb < W.heap.size ∧ g < W.heap.size) := ⟨hlb, hgl⟩
 clear h ho hp hs  hps hr hx hog hr1 HR hbk hbox
 generalize l.length = n at *
 go_enter Tryz.func102, Tryz.ntmps102
 go_upto_region 20 with ((refine wpList_load_mid rfl 116 (.tmp 89) rfl g (i * 10 + 3) rfl _ _ HR1.out Tryz.underlying116 rfl size116 ?_))
 have B0 : As (Below W.heap.size W ((W.alloc (.cells #[.int .i64 4, .int .u64 lsn, .int .u32 1, .int .u32 ((i : Int) + 1), .int .i64 st, .bool (ph == 2), .int .i64 tr, .int .i64 code, .int .u64 0, .slice ak 0 ck, .slice ad 0 cd] 41)).alloc (.cells #[.int .i64 ph, .int .i64 st, .int .i64 tr, .bool true, .int .i64 (leftF true), .bool false, .int .i64 (0 : Nat)] 116))) := ⟨((Below.refl _ W).alloc (Nat.le_refl _) _).alloc (by simp) _⟩
 have h8 : ((W.alloc (.cells #[.int .i64 4, .int .u64 lsn, .int .u32 1, .int .u32 ((i : Int) + 1), .int .i64 st, .bool (ph == 2), .int .i64 tr, .int .i64 code, .int .u64 0, .slice ak 0 ck, .slice ad 0 cd] 41)).alloc (.cells #[.int .i64 ph, .int .i64 st, .int .i64 tr, .bool true, .int .i64 (leftF true), .bool false, .int .i64 (0 : Nat)] 116)).heap[W.heap.size + 1]? = some (.cells #[.int .i64 ph, .int .i64 st, .int .i64 tr, .bool true, .int .i64 (leftF true), .bool false, .int .i64 (0 : Nat)] 116 (0, 0)) := blk_at _ _ _ (by simp)
 have h3 : ((W.alloc (.cells #[.int .i64 4, .int .u64 lsn, .int .u32 1, .int .u32 ((i : Int) + 1), .int .i64 st, .bool (ph == 2), .int .i64 tr, .int .i64 code, .int .u64 0, .slice ak 0 ck, .slice ad 0 cd] 41)).alloc (.cells #[.int .i64 ph, .int .i64 st, .int .i64 tr, .bool true, .int .i64 (leftF true), .bool false, .int .i64 (0 : Nat)] 116)).heap[W.heap.size]? = some (.cells #[.int .i64 4, .int .u64 lsn, .int .u32 1, .int .u32 ((i : Int) + 1), .int .i64 st, .bool (ph == 2), .int .i64 tr, .int .i64 code, .int .u64 0, .slice ak 0 ck, .slice ad 0 cd] 41 (0, 0)) := blk_old HBX.out _
 have HSZ : As (W.heap.size = W.heap.size ∧ W.heap.size + 1 = W.heap.size + 1) := ⟨rfl, rfl⟩
 obtain ⟨b8, hb8⟩ : ∃ b8, b8 = W.heap.size + 1 := ⟨_, rfl⟩
 obtain ⟨b3, hb3⟩ : ∃ b3, b3 = W.heap.size := ⟨_, rfl⟩
 rw [← hb8] at h8 ⊢
 rw [← hb3] at h3 ⊢
 generalize (W.alloc (.cells #[.int .i64 4, .int .u64 lsn, .int .u32 1, .int .u32 ((i : Int) + 1), .int .i64 st, .bool (ph == 2), .int .i64 tr, .int .i64 code, .int .u64 0, .slice ak 0 ck, .slice ad 0 cd] 41)).alloc (.cells #[.int .i64 ph, .int .i64 st, .int .i64 tr, .bool true, .int .i64 (leftF true), .bool false, .int .i64 (0 : Nat)] 116) = w0 at *
 clear HSZ HBX HR1 c1 k0 k3 hwi hw1 hd2
 have HB := As.mk (And.intro hb3 hb8)
 clear hb3 hb8
 have hs0 := B0.out.size
 obtain ⟨k0, k1, k2, k3, k4, k5, k6, k7, k8, k9, k10⟩ := cells11 h3
 have l0 := (blk_cell h8 0).trans rfl
 have l1 := (blk_cell h8 1).trans rfl
 have l2 := (blk_cell h8 2).trans rfl
 have l3 := (blk_cell h8 3).trans rfl
 clear h8 h3
 rcases hph with rfl | rfl
 all_goals
  go_wp2_with fail
  go_ret
  exact ⟨rfl, B0.out⟩
end Go.Proofs.YthfjhgdiakciaaaGreat.Bl
/- May an entry come now (drayageref20's Check)? The ledger behind its first stores. Condition: what its kind says is known; its number is the next one. -/
namespace Go.Proofs.YthfjhgdiakciaaaGreat.Bl
open Go.RowKit Go.Maps
set_option linter.unusedVariables false
set_option linter.unusedSimpArgs false
set_option maxHeartbeats 4000000 in
set_option maxRecDepth 100000 in
theorem rcheck_b {W : World} {lb last : Nat} {pv lv tv : Value} {tk nt ep kd od st tr co : Int} {u : Bool} {ak ad : Option Addr} {nk ck nd cd : Nat} (hb : W.heap[lb]? = some (.cells #[pv, lv, tv, .int .u64 last, .int .u32 ep, .int .i64 1, .int .i64 tk, .int .i64 nt] 64 (0, 0))) (hep : ep ≤ 1) (hla : last < 1000000)
  (hc : ∀ w, Below W.heap.size W w → Calls Tryz.prog 101 #[.agg #[.int .i64 kd, .int .u64 ((last : Int) + 1), .int .u32 1, .int .u32 od, .int .i64 st, .bool u, .int .i64 tr, .int .i64 co, .int .u64 0, .slice ak nk ck, .slice ad nd cd]] w fun e W' => e = .returned (.int .i64 0) ∧ Below w.heap.size w W') (hf : ∀ w, Below W.heap.size W w → Calls Tryz.prog 102 #[.pointer (some ⟨lb, 0, none⟩), .agg #[.int .i64 kd, .int .u64 ((last : Int) + 1), .int .u32 1, .int .u32 od, .int .i64 st, .bool u, .int .i64 tr, .int .i64 co, .int .u64 0, .slice ak nk ck, .slice ad nd cd]] w fun e W' => e = .returned (.bool true) ∧ Below w.heap.size w W') :
  Calls Tryz.prog 57 #[.pointer (some ⟨lb, 0, none⟩), .agg #[.int .i64 kd, .int .u64 ((last : Int) + 1), .int .u32 1, .int .u32 od, .int .i64 st, .bool u, .int .i64 tr, .int .i64 co, .int .u64 0, .slice ak nk ck, .slice ad nd cd]] W fun e W' => e = .returned (.int .i64 0) ∧ Below W.heap.size W W' := by
 have HB := As.mk hb
 have HC := As.mk hc
 have HF := As.mk hf
 have hsub : IntKind.u64.wrap ((last : Int) + 1) = (last : Int) + 1 := by simp [IntKind.wrap, IntKind.bits, IntKind.signed]; omega
 have hd1 : decide ((1 : Int) < ep) = false := by simp; omega
 have hlb := blk_lt hb
 clear hb hc hf
 go_enter Tryz.func57, Tryz.ntmps57
 go_wp2_with fail
 refine (HC.out _ ((Below.refl _ W).alloc (Nat.le_refl _) _)).mono ?_
 rintro e w1 ⟨rfl, q1⟩
 have hbox := As.mk ((q1.block W.heap.size (by simp)).trans (heap_alloc_new W _))
 have B1 : As (Below W.heap.size W w1) := ⟨((Below.refl _ W).alloc (Nat.le_refl _) _).trans (q1.mono (by simp))⟩
 have hs1 := B1.out.size
 clear q1
 obtain ⟨b3, hb3⟩ : ∃ b3, b3 = W.heap.size := ⟨_, rfl⟩
 rw [← hb3] at hbox ⊢
 clear hb3
 go_wp2_with (refine wpList_load_mid rfl 41 (.tmp 3) rfl b3 0 rfl [.int .i64 kd, .int .u64 ((last : Int) + 1), .int .u32 1, .int .u32 od, .int .i64 st, .bool u, .int .i64 tr, .int .i64 co, .int .u64 0, .slice ak nk ck, .slice ad nd cd] _ (fun j v hv => by rw [Nat.zero_add, blk_cell hbox.out]; simpa using hv) Tryz.underlying41 rfl size41 ?_)
 refine (HF.out _ B1.out).mono ?_
 rintro e w2 ⟨rfl, q1⟩
 have B2 : As (Below W.heap.size W w2) := ⟨B1.out.trans (q1.mono hs1)⟩
 have hb2 := (B2.out.block lb hlb).trans HB.out
 have hbox2 := (q1.block b3 (blk_lt hbox.out)).trans hbox.out
 clear q1
 obtain ⟨k0, k1, k2, k3, k4, k5, k6, k7, k8, k9, k10⟩ := cells11 hbox2
 have c3 := (blk_cell hb2 3).trans rfl
 have c4 := (blk_cell hb2 4).trans rfl
 clear hb2 hbox2 k3 k4 k5 k6 k7 k8 k9 k10
 go_upto_region 5 with fail
 go_quiet (fail)
 go_wp2_with fail
 go_ret
 exact ⟨rfl, ⟨B2.out.os, B2.out.tape, B2.out.output, B2.out.size, B2.out.block⟩⟩
theorem epF_le (n : Nat) : epF n ≤ 1 := by unfold epF; split <;> decide
theorem epF_succ (n : Nat) : epF (n + 1) = 1 := by simp [epF]
/-- The ledger, its block another one. -/
theorem RLedAt.bump {W w : World} {OP OL : Nat → Prop} {lb : Nat} {pv lv tv : Value} {ps : List (List Stp)} {l : List Or} {bs : List Bool} {last : Nat} {tk nt y : Int} (h : RLedAt W OP OL lb pv lv tv ps l bs last tk nt) (hf : Frame (fun k => k = lb) W w)
  (hb : w.heap[lb]? = some (.cells #[pv, lv, tv, .int .u64 ((last : Int) + 1), .int .u32 1, .int .i64 1, .int .i64 y, .int .i64 nt] 64 (0, 0))) : RLedAt w OP OL lb pv lv tv ps l bs (last + 1) y nt := by
 have hs := hf.low.size
 have kp : ∀ k, OP k → k < W.heap.size → w.heap[k]? = W.heap[k]? := fun k hk hl => hf.block k hl (fun e => h.s1.2 (e ▸ hk))
 have kl : ∀ k, OL k → k < W.heap.size → w.heap[k]? = W.heap[k]? := fun k hk hl => hf.block k hl (fun e => h.s1.1 (e ▸ hk))
 refine ⟨?_, h.plans.keep kp hs, h.ors.keep (fun k hk hl => kl k hk.1 hl) hs, own_keep h.told (fun g hg hl => kl g (h.own g hg) hl), h.own, h.len, h.s1, h.s2, fun k hk => Nat.lt_of_lt_of_le (h.b1 k hk) hs, fun k hk => Nat.lt_of_lt_of_le (h.b2 k hk) hs⟩
 rw [hb, epF_succ, Int.natCast_add, Int.natCast_one]
def RLedNext (W W' : World) (OP OL : Nat → Prop) (lb : Nat) (pv : Value) (ps : List (List Stp)) (l : List Or) (last : Nat) : Prop :=
 ∃ lv' tv' bs' y nt' OL', RLedAt W' OP OL' lb pv lv' tv' ps l bs' last y nt' ∧ (∀ k, OL' k → OL k ∨ W.heap.size ≤ k) ∧ Frame (fun k => OL k ∨ k = lb) W W'
/-- The ledger, an order's state another one. -/
theorem RLedAt.setSg {w : World} {OP OL : Nat → Prop} {lb g n c : Nat} {pv tv : Value} {ps : List (List Stp)} {l : List Or} {bs : List Bool} {last : Nat} {tk nt : Int} (h : RLedAt w OP OL lb pv (.slice (some ⟨g, 0, none⟩) n c) tv ps l bs last tk nt) (hn : l.length = n) {i : Nat} {o : Or} (ho : l[i]? = some o) (s : Sg) :
  RLedAt (w.setCells g (i * 10 + 3) (sgC s)) OP OL lb pv (.slice (some ⟨g, 0, none⟩) n c) tv ps (l.set i { o with sg := s }) bs last tk nt ∧ OL g := by
 have hg : OL g ∧ ¬ tv.ownBlock = some g := by
  obtain ⟨cs, _, _, h3, _⟩ := h.ors
  exact h3 g rfl
 have far : ∀ k, k ≠ g → (w.setCells g (i * 10 + 3) (sgC s)).heap[k]? = w.heap[k]? := fun k hk => setCells_far _ _ _ _ hk
 have hsn : (w.setCells g (i * 10 + 3) (sgC s)).heap.size = w.heap.size := setCells_size _ _ _ _
 refine ⟨⟨(far lb (fun e => h.s1.1 (e ▸ hg.1))).trans h.blk, h.plans.keep (fun k hk _ => far k (fun e => h.s2 k hk (e ▸ hg.1))) (by omega), ?_, ?_, h.own, by rw [List.length_set]; exact h.len, h.s1, h.s2, fun k hk => by have := h.b1 k hk; omega, fun k hk => by have := h.b2 k hk; omega⟩, hg.1⟩
 ·exact OrsAt.setSg (sz := 10) (tl := []) rfl h.ors hn ho s
 ·rw [List.length_set]
  exact own_keep h.told (fun k hk _ => far k (fun e => hg.2 (e ▸ hk)))
end Go.Proofs.YthfjhgdiakciaaaGreat.Bl
