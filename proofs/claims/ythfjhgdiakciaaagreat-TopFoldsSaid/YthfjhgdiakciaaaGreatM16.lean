/- An entry comes (ledger.Apply): an intent. Condition: Check says yes; the ledger lies in memory as it is told. -/
import Derived.Test.YthfjhgdiakciaaaGreatM15
namespace Go.Proofs.YthfjhgdiakciaaaGreat.Bl
open Go.RowKit Go.Maps
set_option linter.unusedVariables false
set_option linter.unusedSimpArgs false
/-- The ledger's block is another one, and an order's state is stored. -/
def AppSt (W W' : World) (lb g o : Nat) (LBC : Int → Array Value) (s : Sg) : Prop := ∃ (w : World) (y : Int), w.heap[lb]? = some (.cells (LBC y) 93 (0, 0)) ∧ Frame (fun k => k = lb) W w ∧ W' = w.setCells g o (sgC s)
theorem there_keep {w w' : World} {g o n : Nat} (h : w.there g o n) (hk : w'.heap[g]? = w.heap[g]?) : w'.there g o n := fun j hj => by
 have h1 := World.cell?_of_block (w := w) (w' := w') (a := ⟨g, o + j, none⟩) hk
 have h2 := World.frozen?_of_block (w := w) (w' := w') (a := ⟨g, o + j, none⟩) hk
 rw [h1, h2]
 exact h j hj
set_option maxHeartbeats 4000000 in
set_option maxRecDepth 100000 in
theorem apply_intent_l {W : World} {OP : Nat → Prop} {lb mb g n c i last : Nat} {pv : Value} {tk nt ep : Int} {ps : List (List Stp)} {ak ad : Option Addr} {ck cd : Nat} (hb : W.heap[lb]? = some (.cells #[pv, .slice (some ⟨g, 0, none⟩) n c, .map (some mb), .int .u64 last, .int .u32 ep, .int .i64 1, .int .i64 tk, .int .i64 nt] 93 (0, 0))) (hR : RulesAt W OP pv ps) (hlo : ¬ OP lb) (hbo : ∀ k, OP k → k < W.heap.size) (hps : ps.length ≤ 8) (hn : n < 500) (hi : i < n)
  {oad : Option Addr} {ocd : Nat} {s : Sg} (hoc : OrCells W g (i * 11) oad ocd s) (hg : g < W.heap.size) (hgl : g ≠ lb) {dd : Nat} (hd : Bytes W oad [(dd : Int)]) (hdo : ∀ q o, oad = some ⟨q, o, none⟩ → q ≠ lb) {p : List Stp} (hp : ps[dd]? = some p) (hpo : PlanOk p) (hs : SgOk p s) (hth : W.there g (i * 11 + 3) 7) {d : Dn} (hnx : nextS s = some d) {est etr : Int} {eu : Bool}
  (hC : ∀ w, Below W.heap.size W w → Calls Tryz.prog 38 #[.pointer (some ⟨lb, 0, none⟩), .agg #[.int .i64 3, .int .u64 ((last : Int) + 1), .int .u32 1, .int .u32 ((i : Int) + 1), .int .i64 est, .bool eu, .int .i64 etr, .int .i64 0, .int .u64 0, .slice ak 0 ck, .slice ad 0 cd]] w fun e W' => e = .returned (.int .i64 0) ∧ Below w.heap.size w W') :
  Calls Tryz.prog 13 #[.pointer (some ⟨lb, 0, none⟩), .agg #[.int .i64 3, .int .u64 ((last : Int) + 1), .int .u32 1, .int .u32 ((i : Int) + 1), .int .i64 est, .bool eu, .int .i64 etr, .int .i64 0, .int .u64 0, .slice ak 0 ck, .slice ad 0 cd]] W fun e W' => e = .returned (.int .i64 0) ∧ AppSt W W' lb g (i * 11 + 3) (fun y => #[pv, .slice (some ⟨g, 0, none⟩) n c, .map (some mb), .int .u64 ((last : Int) + 1), .int .u32 1, .int .i64 1, .int .i64 y, .int .i64 nt]) (askS s) := by
 have HR : As (∀ w, Frame (fun k => k = lb) W w → RulesAt w OP pv ps) := ⟨fun w hw => hR.keep (fun k ho hk => hw.block k hk (fun h => hlo (h ▸ ho))) hw.low.size⟩
 have HD : As (∀ w, Frame (fun k => k = lb) W w → Bytes w oad [(dd : Int)]) := ⟨fun w hw => hd.keep (fun q o ha hq => hw.block q hq (hdo q o ha)) hw.low.size⟩
 have HO : As (∀ w, Frame (fun k => k = lb) W w → OrCells w g (i * 11) oad ocd s) := ⟨fun w hw => hoc.keep (hw.block g hg hgl)⟩
 have HTH : As (∀ w, Frame (fun k => k = lb) W w → w.there g (i * 11 + 3) 7) := ⟨fun w hw => there_keep hth (hw.block g hg hgl)⟩
 have HP := As.mk hp
 have HPO := As.mk hpo
 have HS := As.mk hs
 have HNX := As.mk hnx
 clear hR hlo hbo hoc hth hd hdo hp hpo hs hnx
 have HC : As (∀ w, Below W.heap.size W w → Calls Tryz.prog 38 #[.pointer (some ⟨lb, 0, none⟩), .agg #[.int .i64 3, .int .u64 ((last : Int) + 1), .int .u32 1, .int .u32 ((i : Int) + 1), .int .i64 est, .bool eu, .int .i64 etr, .int .i64 0, .int .u64 0, .slice ak 0 ck, .slice ad 0 cd]] w fun e W' => e = .returned (.int .i64 0) ∧ Below w.heap.size w W') := ⟨hC⟩
 have HB := As.mk hb
 have hlb := blk_lt hb
 clear hb hC
 go_enter Tryz.func13, Tryz.ntmps13
 go_wp2_with fail
 refine (HC.out _ ((Below.refl _ W).alloc (Nat.le_refl _) _)).mono ?_
 rintro e w1 ⟨rfl, q1⟩
 have hbox1 := As.mk ((q1.block W.heap.size (by simp)).trans (heap_alloc_new W _))
 have B1 : As (Below W.heap.size W w1) := ⟨((Below.refl _ W).alloc (Nat.le_refl _) _).trans (q1.mono (by simp))⟩
 have hb1 := As.mk ((B1.out.block lb hlb).trans HB.out)
 have hs1 := B1.out.size
 have c6 := (blk_cell hb1.out 6).trans rfl
 have f6 := blk_frozen hb1.out 6
 clear q1 HC
 go_wp2_with fail
 refine (add_a c6 f6).mono ?_
 rintro e w2 ⟨⟨v, rfl⟩, y, rfl⟩
 have hb2 : As ((w1.setCell ⟨lb, 6, none⟩ (.int .i64 y)).heap[lb]? = some (.cells #[pv, .slice (some ⟨g, 0, none⟩) n c, .map (some mb), .int .u64 last, .int .u32 ep, .int .i64 1, .int .i64 y, .int .i64 nt] 93 (0, 0))) := ⟨(blk_put hb1.out 6 _).trans rfl⟩
 have hbox2 : As ((w1.setCell ⟨lb, 6, none⟩ (.int .i64 y)).heap[W.heap.size]? = some (.cells #[.int .i64 3, .int .u64 ((last : Int) + 1), .int .u32 1, .int .u32 ((i : Int) + 1), .int .i64 est, .bool eu, .int .i64 etr, .int .i64 0, .int .u64 0, .slice ak 0 ck, .slice ad 0 cd] 41 (0, 0))) := ⟨blk_far hbox1.out (by omega) _⟩
 have F2 : As (Frame (fun k => k = lb) W (w1.setCell ⟨lb, 6, none⟩ (.int .i64 y))) := ⟨(Frame.of_below (own := fun k => k = lb) B1.out (Nat.le_refl _)).setCell (p := ⟨lb, 6, none⟩) (.inl rfl) _⟩
 generalize w1.setCell ⟨lb, 6, none⟩ (.int .i64 y) = w2 at *
 clear c6 f6 hb1 hbox1 B1
 have c3 := (blk_cell hb2.out 3).trans rfl
 have c4 := (blk_cell hb2.out 4).trans rfl
 have f3 := blk_frozen hb2.out 3
 have f4 := blk_frozen hb2.out 4
 have x1 := (blk_cell hbox2.out 1).trans rfl
 have x2 := (blk_cell hbox2.out 2).trans rfl
 have hs2 := F2.out.low.size
 obtain ⟨b3, hb3⟩ : ∃ b3, b3 = W.heap.size := ⟨_, rfl⟩
 rw [← hb3] at hbox2 x1 x2 ⊢
 have HB3 : As (b3 = W.heap.size ∧ lb < b3) := ⟨hb3, by omega⟩
 clear hb3
 go_upto_region 7 with fail
 go_region
 have hb3 : As ((((w2.setCell ⟨lb, 3, none⟩ (.int .u64 ((last : Int) + 1))).setCell ⟨lb, 4, none⟩ (.int .u32 1)).drew).heap[lb]? = some (.cells #[pv, .slice (some ⟨g, 0, none⟩) n c, .map (some mb), .int .u64 ((last : Int) + 1), .int .u32 1, .int .i64 1, .int .i64 y, .int .i64 nt] 93 (0, 0))) := ⟨by
  show ((w2.setCell ⟨lb, 3, none⟩ (.int .u64 ((last : Int) + 1))).setCell ⟨lb, 4, none⟩ (.int .u32 1)).heap[lb]? = _
  rw [blk_put (blk_put hb2.out 3 _) 4 _]
  rfl⟩
 have hbox3 : As ((((w2.setCell ⟨lb, 3, none⟩ (.int .u64 ((last : Int) + 1))).setCell ⟨lb, 4, none⟩ (.int .u32 1)).drew).heap[b3]? = some (.cells #[.int .i64 3, .int .u64 ((last : Int) + 1), .int .u32 1, .int .u32 ((i : Int) + 1), .int .i64 est, .bool eu, .int .i64 etr, .int .i64 0, .int .u64 0, .slice ak 0 ck, .slice ad 0 cd] 41 (0, 0))) := ⟨blk_far (blk_far hbox2.out (by have := HB3.out.2; omega) _) (by have := HB3.out.2; omega) _⟩
 have F3 : As (Frame (fun k => k = lb) W (((w2.setCell ⟨lb, 3, none⟩ (.int .u64 ((last : Int) + 1))).setCell ⟨lb, 4, none⟩ (.int .u32 1)).drew)) := ⟨((F2.out.setCell (p := ⟨lb, 3, none⟩) (.inl rfl) _).setCell (p := ⟨lb, 4, none⟩) (.inl rfl) _).drew⟩
 generalize ((w2.setCell ⟨lb, 3, none⟩ (.int .u64 ((last : Int) + 1))).setCell ⟨lb, 4, none⟩ (.int .u32 1)).drew = w3 at *
 clear c3 c4 f3 f4 x1 x2 hb2 hbox2 F2 hs2 hs1
 have hs3 := F3.out.low.size
 have HAT := As.mk (at_some (W := w3) (lb := lb) (g := g) (n := n) (c := c) (k := i) ((blk_cell hb3.out 1).trans rfl) (by omega) hi)
 have H3 : As (FS lb g b3 (i * 11) #[pv, .slice (some ⟨g, 0, none⟩) n c, .map (some mb), .int .u64 ((last : Int) + 1), .int .u32 1, .int .i64 1, .int .i64 y, .int .i64 nt] #[.int .i64 3, .int .u64 ((last : Int) + 1), .int .u32 1, .int .u32 ((i : Int) + 1), .int .i64 est, .bool eu, .int .i64 etr, .int .i64 0, .int .u64 0, .slice ak 0 ck, .slice ad 0 cd] oad ocd s w3) := ⟨hb3.out, hbox3.out, HO.out _ F3.out, by omega⟩
 obtain ⟨x0, x1, x2, x3, x4, x5, x6, x7, x8, x9, x10⟩ := cells11 hbox3.out
 go_wp2_with fail
 refine HAT.out.mono ?_
 rintro e w4 ⟨rfl, rfl⟩
 clear HAT
 go_upto_region 15 with fail
 clear x0 x1 x2 x3 x4 x5 x6 x7 x8 x9 x10
 refine wp_region_plan_held 23 (FS lb g b3 (i * 11) #[pv, .slice (some ⟨g, 0, none⟩) n c, .map (some mb), .int .u64 ((last : Int) + 1), .int .u32 1, .int .i64 1, .int .i64 y, .int .i64 nt] #[.int .i64 3, .int .u64 ((last : Int) + 1), .int .u32 1, .int .u32 ((i : Int) + 1), .int .i64 est, .bool eu, .int .i64 etr, .int .i64 0, .int .u64 0, .slice ak 0 ck, .slice ad 0 cd] oad ocd s) [(1,0),(1,1),(1,2),(1,3),(0,4),(1,5),(1,6),(1,7),(1,8),(0,9),(1,11),(1,12),(1,13),(1,14),(0,15),(2,10),(2,16),(1,17),(1,18),(1,19),(1,20),(1,21),(1,22),(2,23)] (by kernel_rfl) (by kernel_rfl) (by kernel_rfl) (by kernel_rfl) (fun _ _ _ _ _ h => h) (H3.out.keep (w' := w3.drew) ((Below.refl _ w3).drew)) ?_
 simp only [tagged, List.filterMap_cons, List.filterMap_nil, List.getElem?_toArray, List.getElem?_cons_succ, List.getElem?_cons_zero, Option.map_some]
 iterate 4 (with_reducible refine wpHeld_sure (fun K hK => ?_); go_simp; with_reducible refine hK _ ?_; clear hK K)
 refine wpHeld_take (fun K hK => ?_)
 rw [if_pos (by rfl)]
 refine ⟨.agg #[pv], fun w' hw' => exec_load_mid _ _ _ 85 (.tmp 79) rfl lb 0 rfl [pv] _ (range_one hw'.1 0 pv rfl) Tryz.underlying85 rfl size85, hK _ ?_⟩
 clear hK K
 iterate 4 (with_reducible refine wpHeld_sure (fun K hK => ?_); go_simp; with_reducible refine hK _ ?_; clear hK K)
 refine wpHeld_take (fun K hK => ?_)
 rw [if_pos (by rfl)]
 apply Exists.intro
 refine ⟨fun w' hw' => ?_, hK _ ?_⟩
 ·have j0 := hw'.2.2.1.data
  go_simp
  rfl
 clear hK K
 iterate 4 (with_reducible refine wpHeld_sure (fun K hK => ?_); go_simp; with_reducible refine hK _ ?_; clear hK K)
 refine wpHeld_take (fun K hK => ?_)
 rw [if_pos (by rfl)]
 refine ⟨.agg (sgC s).toArray, fun w' hw' => exec_load_mid _ _ _ 116 (.tmp 90) rfl g (i * 11 + 3) rfl (sgC s) _ hw'.2.2.1.sg Tryz.underlying116 rfl size116, hK _ ?_⟩
 clear hK K
 with_reducible refine wpHeld_next (fun K hK => ?_)
 go_simp
 refine (rulesOf_a (W := w3.drew) (HR.out _ F3.out.drew) hps HP.out (HD.out _ F3.out.drew) ocd).mono ?_
 rintro e w4 ⟨⟨v, rfl, hv⟩, q1⟩
 have HV := As.mk hv
 have F4 : As (Frame (fun k => k = lb) W w4) := ⟨F3.out.drew.trans (Frame.of_below (own := fun k => k = lb) q1 (Nat.le_refl _)) (fun k _ h => h)⟩
 have H4 := As.mk ((H3.out.keep (w' := w3.drew) ((Below.refl _ w3).drew)).keep q1)
 refine hK _ _ (fun _ => H4.out) ?_
 clear hK K q1 hv
 with_reducible refine wpHeld_next (fun K hK => ?_)
 go_simp
 have HSN := ask_a HV.out HPO.out HS.out HNX.out
 refine HSN.mono ?_
 clear HSN
 rintro e w5 ⟨rfl, q1⟩
 have F5 : As (Frame (fun k => k = lb) W w5) := ⟨F4.out.trans (Frame.of_below (own := fun k => k = lb) q1 (Nat.le_refl _)) (fun k _ h => h)⟩
 have H5 := As.mk (H4.out.keep q1)
 refine hK _ _ (fun _ => H5.out) ?_
 clear hK K q1
 iterate 6 (with_reducible refine wpHeld_sure (fun K hK => ?_); go_simp; with_reducible refine hK _ ?_; clear hK K)
 with_reducible refine wpHeld_next (fun K hK => ?_)
 rw [if_pos (by rfl)]
 refine wp_store_mid 116 (.tmp 97) (.tmp 93) rfl g (i * 11 + 3) (sgC (askS s)).toArray rfl rfl ?_ size116 (all_oneCell_toArray (sgC_one _)) ?_
 ·exact HTH.out _ F5.out
 refine hK _ _ (fun h => absurd rfl h) ?_
 clear hK K
 refine wpHeld_nil ?_
 have hbs := H5.out.1
 have hxs := As.mk H5.out.2.1
 generalize hw6 : w5.setCells g (i * 11 + 3) (sgC (askS s)).toArray.toList = w6 at *
 have HW6 := As.mk hw6
 clear hw6
 go_wp2_with fail
 go_ret
 exact ⟨rfl, w5, y, hbs, F5.out, HW6.out.symm⟩
end Go.Proofs.YthfjhgdiakciaaaGreat.Bl
/- An entry comes (ledger.Apply): a result. Condition: Check says yes; the ledger lies in memory as it is told. -/
namespace Go.Proofs.YthfjhgdiakciaaaGreat.Bl
open Go.RowKit Go.Maps
set_option linter.unusedVariables false
set_option linter.unusedSimpArgs false
set_option maxHeartbeats 4000000 in
set_option maxRecDepth 100000 in
theorem apply_result_l {W : World} {OP : Nat → Prop} {lb mb g n c i last : Nat} {pv : Value} {tk nt ep : Int} {ps : List (List Stp)} {ak ad : Option Addr} {ck cd : Nat} (hb : W.heap[lb]? = some (.cells #[pv, .slice (some ⟨g, 0, none⟩) n c, .map (some mb), .int .u64 last, .int .u32 ep, .int .i64 1, .int .i64 tk, .int .i64 nt] 93 (0, 0))) (hR : RulesAt W OP pv ps) (hlo : ¬ OP lb) (hbo : ∀ k, OP k → k < W.heap.size) (hps : ps.length ≤ 8) (hn : n < 500) (hi : i < n)
  {oad : Option Addr} {ocd : Nat} {s : Sg} (hoc : OrCells W g (i * 11) oad ocd s) (hg : g < W.heap.size) (hgl : g ≠ lb) {dd : Nat} (hd : Bytes W oad [(dd : Int)]) (hdo : ∀ q o, oad = some ⟨q, o, none⟩ → q ≠ lb) {p : List Stp} (hp : ps[dd]? = some p) (hpo : PlanOk p) (hs : SgOk p s) (hth : W.there g (i * 11 + 3) 7) (has : s.asked = true) {code : Nat} (hcode : code = 1 ∨ code = 2 ∨ code = 3) {eu : Bool} (heu : eu = (s.ph == 2)) {etr : Int}
  (hC : ∀ w, Below W.heap.size W w → Calls Tryz.prog 38 #[.pointer (some ⟨lb, 0, none⟩), .agg #[.int .i64 4, .int .u64 ((last : Int) + 1), .int .u32 1, .int .u32 ((i : Int) + 1), .int .i64 s.st, .bool eu, .int .i64 etr, .int .i64 code, .int .u64 0, .slice ak 0 ck, .slice ad 0 cd]] w fun e W' => e = .returned (.int .i64 0) ∧ Below w.heap.size w W') :
  Calls Tryz.prog 13 #[.pointer (some ⟨lb, 0, none⟩), .agg #[.int .i64 4, .int .u64 ((last : Int) + 1), .int .u32 1, .int .u32 ((i : Int) + 1), .int .i64 s.st, .bool eu, .int .i64 etr, .int .i64 code, .int .u64 0, .slice ak 0 ck, .slice ad 0 cd]] W fun e W' => e = .returned (.int .i64 0) ∧ AppSt W W' lb g (i * 11 + 3) (fun y => #[pv, .slice (some ⟨g, 0, none⟩) n c, .map (some mb), .int .u64 ((last : Int) + 1), .int .u32 1, .int .i64 1, .int .i64 y, .int .i64 nt]) (tellS p s code) := by
 have HR : As (∀ w, Frame (fun k => k = lb) W w → RulesAt w OP pv ps) := ⟨fun w hw => hR.keep (fun k ho hk => hw.block k hk (fun h => hlo (h ▸ ho))) hw.low.size⟩
 have HD : As (∀ w, Frame (fun k => k = lb) W w → Bytes w oad [(dd : Int)]) := ⟨fun w hw => hd.keep (fun q o ha hq => hw.block q hq (hdo q o ha)) hw.low.size⟩
 have HO : As (∀ w, Frame (fun k => k = lb) W w → OrCells w g (i * 11) oad ocd s) := ⟨fun w hw => hoc.keep (hw.block g hg hgl)⟩
 have HTH : As (∀ w, Frame (fun k => k = lb) W w → w.there g (i * 11 + 3) 7) := ⟨fun w hw => there_keep hth (hw.block g hg hgl)⟩
 have HP := As.mk hp
 have HPO := As.mk hpo
 have HS := As.mk hs
 have HAS := As.mk has
 have HCD := As.mk hcode
 have HEU := As.mk heu
 clear hR hlo hbo hoc hth hd hdo hp hpo hs has hcode heu
 have HC : As (∀ w, Below W.heap.size W w → Calls Tryz.prog 38 #[.pointer (some ⟨lb, 0, none⟩), .agg #[.int .i64 4, .int .u64 ((last : Int) + 1), .int .u32 1, .int .u32 ((i : Int) + 1), .int .i64 s.st, .bool eu, .int .i64 etr, .int .i64 code, .int .u64 0, .slice ak 0 ck, .slice ad 0 cd]] w fun e W' => e = .returned (.int .i64 0) ∧ Below w.heap.size w W') := ⟨hC⟩
 have HB := As.mk hb
 have hlb := blk_lt hb
 clear hb hC
 go_enter Tryz.func13, Tryz.ntmps13
 go_wp2_with fail
 refine (HC.out _ ((Below.refl _ W).alloc (Nat.le_refl _) _)).mono ?_
 rintro e w1 ⟨rfl, q1⟩
 have hbox1 := As.mk ((q1.block W.heap.size (by simp)).trans (heap_alloc_new W _))
 have B1 : As (Below W.heap.size W w1) := ⟨((Below.refl _ W).alloc (Nat.le_refl _) _).trans (q1.mono (by simp))⟩
 have hb1 := As.mk ((B1.out.block lb hlb).trans HB.out)
 have hs1 := B1.out.size
 have c6 := (blk_cell hb1.out 6).trans rfl
 have f6 := blk_frozen hb1.out 6
 clear q1 HC
 go_wp2_with fail
 refine (add_a c6 f6).mono ?_
 rintro e w2 ⟨⟨v, rfl⟩, y, rfl⟩
 have hb2 : As ((w1.setCell ⟨lb, 6, none⟩ (.int .i64 y)).heap[lb]? = some (.cells #[pv, .slice (some ⟨g, 0, none⟩) n c, .map (some mb), .int .u64 last, .int .u32 ep, .int .i64 1, .int .i64 y, .int .i64 nt] 93 (0, 0))) := ⟨(blk_put hb1.out 6 _).trans rfl⟩
 have hbox2 : As ((w1.setCell ⟨lb, 6, none⟩ (.int .i64 y)).heap[W.heap.size]? = some (.cells #[.int .i64 4, .int .u64 ((last : Int) + 1), .int .u32 1, .int .u32 ((i : Int) + 1), .int .i64 s.st, .bool eu, .int .i64 etr, .int .i64 code, .int .u64 0, .slice ak 0 ck, .slice ad 0 cd] 41 (0, 0))) := ⟨blk_far hbox1.out (by omega) _⟩
 have F2 : As (Frame (fun k => k = lb) W (w1.setCell ⟨lb, 6, none⟩ (.int .i64 y))) := ⟨(Frame.of_below (own := fun k => k = lb) B1.out (Nat.le_refl _)).setCell (p := ⟨lb, 6, none⟩) (.inl rfl) _⟩
 generalize w1.setCell ⟨lb, 6, none⟩ (.int .i64 y) = w2 at *
 clear c6 f6 hb1 hbox1 B1
 have c3 := (blk_cell hb2.out 3).trans rfl
 have c4 := (blk_cell hb2.out 4).trans rfl
 have f3 := blk_frozen hb2.out 3
 have f4 := blk_frozen hb2.out 4
 have x1 := (blk_cell hbox2.out 1).trans rfl
 have x2 := (blk_cell hbox2.out 2).trans rfl
 have hs2 := F2.out.low.size
 obtain ⟨b3, hb3⟩ : ∃ b3, b3 = W.heap.size := ⟨_, rfl⟩
 rw [← hb3] at hbox2 x1 x2 ⊢
 have HB3 : As (b3 = W.heap.size ∧ lb < b3) := ⟨hb3, by omega⟩
 clear hb3
 go_upto_region 7 with fail
 go_region
 have hb3 : As ((((w2.setCell ⟨lb, 3, none⟩ (.int .u64 ((last : Int) + 1))).setCell ⟨lb, 4, none⟩ (.int .u32 1)).drew).heap[lb]? = some (.cells #[pv, .slice (some ⟨g, 0, none⟩) n c, .map (some mb), .int .u64 ((last : Int) + 1), .int .u32 1, .int .i64 1, .int .i64 y, .int .i64 nt] 93 (0, 0))) := ⟨by
  show ((w2.setCell ⟨lb, 3, none⟩ (.int .u64 ((last : Int) + 1))).setCell ⟨lb, 4, none⟩ (.int .u32 1)).heap[lb]? = _
  rw [blk_put (blk_put hb2.out 3 _) 4 _]
  rfl⟩
 have hbox3 : As ((((w2.setCell ⟨lb, 3, none⟩ (.int .u64 ((last : Int) + 1))).setCell ⟨lb, 4, none⟩ (.int .u32 1)).drew).heap[b3]? = some (.cells #[.int .i64 4, .int .u64 ((last : Int) + 1), .int .u32 1, .int .u32 ((i : Int) + 1), .int .i64 s.st, .bool eu, .int .i64 etr, .int .i64 code, .int .u64 0, .slice ak 0 ck, .slice ad 0 cd] 41 (0, 0))) := ⟨blk_far (blk_far hbox2.out (by have := HB3.out.2; omega) _) (by have := HB3.out.2; omega) _⟩
 have F3 : As (Frame (fun k => k = lb) W (((w2.setCell ⟨lb, 3, none⟩ (.int .u64 ((last : Int) + 1))).setCell ⟨lb, 4, none⟩ (.int .u32 1)).drew)) := ⟨((F2.out.setCell (p := ⟨lb, 3, none⟩) (.inl rfl) _).setCell (p := ⟨lb, 4, none⟩) (.inl rfl) _).drew⟩
 generalize ((w2.setCell ⟨lb, 3, none⟩ (.int .u64 ((last : Int) + 1))).setCell ⟨lb, 4, none⟩ (.int .u32 1)).drew = w3 at *
 clear c3 c4 f3 f4 x1 x2 hb2 hbox2 F2 hs2 hs1
 have hs3 := F3.out.low.size
 have HAT := As.mk (at_some (W := w3) (lb := lb) (g := g) (n := n) (c := c) (k := i) ((blk_cell hb3.out 1).trans rfl) (by omega) hi)
 have H3 : As (FS lb g b3 (i * 11) #[pv, .slice (some ⟨g, 0, none⟩) n c, .map (some mb), .int .u64 ((last : Int) + 1), .int .u32 1, .int .i64 1, .int .i64 y, .int .i64 nt] #[.int .i64 4, .int .u64 ((last : Int) + 1), .int .u32 1, .int .u32 ((i : Int) + 1), .int .i64 s.st, .bool eu, .int .i64 etr, .int .i64 code, .int .u64 0, .slice ak 0 ck, .slice ad 0 cd] oad ocd s w3) := ⟨hb3.out, hbox3.out, HO.out _ F3.out, by omega⟩
 obtain ⟨x0, x1, x2, x3, x4, x5, x6, x7, x8, x9, x10⟩ := cells11 hbox3.out
 go_wp2_with fail
 refine HAT.out.mono ?_
 rintro e w4 ⟨rfl, rfl⟩
 clear HAT
 go_upto_region 18 with fail
 clear x0 x1 x2 x3 x4 x5 x6 x7 x8 x9 x10
 refine wp_region_plan_held 29 (FS lb g b3 (i * 11) #[pv, .slice (some ⟨g, 0, none⟩) n c, .map (some mb), .int .u64 ((last : Int) + 1), .int .u32 1, .int .i64 1, .int .i64 y, .int .i64 nt] #[.int .i64 4, .int .u64 ((last : Int) + 1), .int .u32 1, .int .u32 ((i : Int) + 1), .int .i64 s.st, .bool eu, .int .i64 etr, .int .i64 code, .int .u64 0, .slice ak 0 ck, .slice ad 0 cd] oad ocd s) [(1,0),(1,1),(1,2),(1,3),(0,4),(1,5),(1,6),(1,7),(1,8),(0,9),(1,11),(1,12),(1,13),(1,14),(0,15),(1,16),(0,17),(1,18),(0,19),(1,20),(0,21),(2,10),(2,22),(1,23),(1,24),(1,25),(1,26),(1,27),(1,28),(2,29)] (by kernel_rfl) (by kernel_rfl) (by kernel_rfl) (by kernel_rfl) (fun _ _ _ _ _ h => h) (H3.out.keep (w' := w3.drew) ((Below.refl _ w3).drew)) ?_
 simp only [tagged, List.filterMap_cons, List.filterMap_nil, List.getElem?_toArray, List.getElem?_cons_succ, List.getElem?_cons_zero, Option.map_some]
 iterate 4 (with_reducible refine wpHeld_sure (fun K hK => ?_); go_simp; with_reducible refine hK _ ?_; clear hK K)
 refine wpHeld_take (fun K hK => ?_)
 rw [if_pos (by rfl)]
 refine ⟨.agg #[pv], fun w' hw' => exec_load_mid _ _ _ 85 (.tmp 108) rfl lb 0 rfl [pv] _ (range_one hw'.1 0 pv rfl) Tryz.underlying85 rfl size85, hK _ ?_⟩
 clear hK K
 iterate 4 (with_reducible refine wpHeld_sure (fun K hK => ?_); go_simp; with_reducible refine hK _ ?_; clear hK K)
 refine wpHeld_take (fun K hK => ?_)
 rw [if_pos (by rfl)]
 apply Exists.intro
 refine ⟨fun w' hw' => ?_, hK _ ?_⟩
 ·have j0 := hw'.2.2.1.data
  go_simp
  rfl
 clear hK K
 iterate 4 (with_reducible refine wpHeld_sure (fun K hK => ?_); go_simp; with_reducible refine hK _ ?_; clear hK K)
 refine wpHeld_take (fun K hK => ?_)
 rw [if_pos (by rfl)]
 refine ⟨.agg (sgC s).toArray, fun w' hw' => exec_load_mid _ _ _ 116 (.tmp 119) rfl g (i * 11 + 3) rfl (sgC s) _ hw'.2.2.1.sg Tryz.underlying116 rfl size116, hK _ ?_⟩
 clear hK K
 iterate 1 (with_reducible refine wpHeld_sure (fun K hK => ?_); go_simp; with_reducible refine hK _ ?_; clear hK K)
 refine wpHeld_take (fun K hK => ?_)
 rw [if_pos (by rfl)]
 apply Exists.intro
 refine ⟨fun w' hw' => ?_, hK _ ?_⟩
 ·have j0 := (blk_cell hw'.2.1 4).trans rfl
  go_simp
  rfl
 clear hK K
 iterate 1 (with_reducible refine wpHeld_sure (fun K hK => ?_); go_simp; with_reducible refine hK _ ?_; clear hK K)
 refine wpHeld_take (fun K hK => ?_)
 rw [if_pos (by rfl)]
 apply Exists.intro
 refine ⟨fun w' hw' => ?_, hK _ ?_⟩
 ·have j0 := (blk_cell hw'.2.1 5).trans rfl
  go_simp
  rfl
 clear hK K
 iterate 1 (with_reducible refine wpHeld_sure (fun K hK => ?_); go_simp; with_reducible refine hK _ ?_; clear hK K)
 refine wpHeld_take (fun K hK => ?_)
 rw [if_pos (by rfl)]
 apply Exists.intro
 refine ⟨fun w' hw' => ?_, hK _ ?_⟩
 ·have j0 := (blk_cell hw'.2.1 7).trans rfl
  go_simp
  rfl
 clear hK K
 with_reducible refine wpHeld_next (fun K hK => ?_)
 go_simp
 refine (rulesOf_a (W := w3.drew) (HR.out _ F3.out.drew) hps HP.out (HD.out _ F3.out.drew) ocd).mono ?_
 rintro e w4 ⟨⟨v, rfl, hv⟩, q1⟩
 have HV := As.mk hv
 have F4 : As (Frame (fun k => k = lb) W w4) := ⟨F3.out.drew.trans (Frame.of_below (own := fun k => k = lb) q1 (Nat.le_refl _)) (fun k _ h => h)⟩
 have H4 := As.mk ((H3.out.keep (w' := w3.drew) ((Below.refl _ w3).drew)).keep q1)
 refine hK _ _ (fun _ => H4.out) ?_
 clear hK K q1 hv
 with_reducible refine wpHeld_next (fun K hK => ?_)
 go_simp
 have HSN := tell_a HV.out HPO.out HS.out HAS.out code HCD.out eu HEU.out
 refine HSN.mono ?_
 clear HSN
 rintro e w5 ⟨rfl, q1⟩
 have F5 : As (Frame (fun k => k = lb) W w5) := ⟨F4.out.trans (Frame.of_below (own := fun k => k = lb) q1 (Nat.le_refl _)) (fun k _ h => h)⟩
 have H5 := As.mk (H4.out.keep q1)
 refine hK _ _ (fun _ => H5.out) ?_
 clear hK K q1
 iterate 6 (with_reducible refine wpHeld_sure (fun K hK => ?_); go_simp; with_reducible refine hK _ ?_; clear hK K)
 with_reducible refine wpHeld_next (fun K hK => ?_)
 rw [if_pos (by rfl)]
 refine wp_store_mid 116 (.tmp 132) (.tmp 128) rfl g (i * 11 + 3) (sgC (tellS p s code)).toArray rfl rfl ?_ size116 (all_oneCell_toArray (sgC_one _)) ?_
 ·exact HTH.out _ F5.out
 refine hK _ _ (fun h => absurd rfl h) ?_
 clear hK K
 refine wpHeld_nil ?_
 have hbs := H5.out.1
 have hxs := As.mk H5.out.2.1
 generalize hw6 : w5.setCells g (i * 11 + 3) (sgC (tellS p s code)).toArray.toList = w6 at *
 have HW6 := As.mk hw6
 clear hw6
 go_wp2_with fail
 go_ret
 exact ⟨rfl, w5, y, hbs, F5.out, HW6.out.symm⟩
end Go.Proofs.YthfjhgdiakciaaaGreat.Bl
