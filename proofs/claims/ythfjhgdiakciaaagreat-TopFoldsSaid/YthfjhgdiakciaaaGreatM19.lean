/- What is to be done, of a ledger (Due). Condition: the ledger lies in memory as it is told. -/
import Derived.Lib.ConvBytes
import Derived.Test.YthfjhgdiakciaaaGreatM18
namespace Go.Proofs.YthfjhgdiakciaaaGreat.Bl
open Go.RowKit Go.Maps
set_option linter.unusedVariables false
set_option linter.unusedSimpArgs false
/-- The first cell of a block, and the order's box. -/
def DS (lb b5 : Nat) (pv : Value) (OC : Array Value) (w : World) : Prop := w.cell? ⟨lb, 0, none⟩ = some pv ∧ w.heap[b5]? = some (.cells OC 120 (0, 0)) ∧ lb < w.heap.size
theorem DS.keep {lb b5 : Nat} {pv : Value} {OC : Array Value} {w w' : World} (h : DS lb b5 pv OC w) (hb : Below w.heap.size w w') : DS lb b5 pv OC w' :=
 ⟨by rw [World.cell?_of_block (w := w) (a := ⟨lb, 0, none⟩) (hb.block lb h.2.2)]; exact h.1, (hb.block b5 (blk_lt h.2.1)).trans h.2.1, Nat.lt_of_lt_of_le h.2.2 hb.size⟩
theorem DS.far {lb b5 b : Nat} {pv : Value} {OC : Array Value} {w w' : World} (h : DS lb b5 pv OC w) (hs : w'.heap.size = w.heap.size) (hk : ∀ k, k ≠ b → w'.heap[k]? = w.heap[k]?) (h1 : lb ≠ b) (h2 : b5 ≠ b) : DS lb b5 pv OC w' :=
 ⟨by rw [World.cell?_of_block (w := w) (a := ⟨lb, 0, none⟩) (hk lb h1)]; exact h.1, (hk b5 h2).trans h.2.1, by rw [hs]; exact h.2.2⟩
theorem one_cell {w : World} {lb : Nat} {v : Value} (h : w.cell? ⟨lb, 0, none⟩ = some v) : w.rangeAt lb 0 [v] := fun j u hu => by
 have hj0 : j = 0 := by
  have := (List.getElem?_eq_some_iff.1 hu).1
  simpa using this
 subst hj0
 rw [h]
 exact hu
theorem sg_range {w : World} {b t : Nat} {fr : Nat × Nat} {a0 a1 a2 a10 : Value} {s : Sg} (h : w.heap[b]? = some (.cells #[a0, a1, a2, .int .i64 s.ph, .int .i64 s.st, .int .i64 s.tr, .bool s.asked, .int .i64 (leftF s.asked), .bool false, .int .i64 s.code, a10] t fr)) : w.rangeAt b 3 (sgC s) := fun j v hv => by
 rw [blk_cell h]
 have hj : j < 7 := (List.getElem?_eq_some_iff.1 hv).1
 rcases (show j = 0 ∨ j = 1 ∨ j = 2 ∨ j = 3 ∨ j = 4 ∨ j = 5 ∨ j = 6 by omega) with rfl | rfl | rfl | rfl | rfl | rfl | rfl <;> exact hv
set_option maxHeartbeats 8000000 in
set_option maxRecDepth 100000 in
theorem due_a {W : World} {OP OL : Nat → Prop} {lb mb last : Nat} {pv lv : Value} {tk nt : Int} {ps : List (List Stp)} {l : List Or} (h : LedAt W OP OL lb mb pv lv ps l last tk nt) (hps : PsOk ps) (hlo : LOk ps l) :
  Calls Tryz.prog 9 #[.pointer (some ⟨lb, 0, none⟩)] W fun e W' => SomeDue W W' e (colL nextS 1 l) := by
 obtain ⟨A, c, rfl⟩ : ∃ A c, lv = .slice A l.length c := by
  obtain ⟨cs, _, r, _⟩ := h.ors
  rcases r.2 with ⟨hv, h0⟩ | ⟨g, cap, _, hv, _⟩
  ·rw [h0]; exact ⟨_, _, hv⟩
  ·exact ⟨_, _, hv⟩
 obtain ⟨c0, c1, _⟩ := h.cells
 have hlbl := blk_lt h.blk
 obtain ⟨i1, hi1, hz0, hz1, hz2⟩ := info_parts info51
 have HO := As.mk h.ors
 have HRU : As (∀ w, Below W.heap.size W w → RulesAt w OP pv ps) := ⟨fun w hw => h.rules.keep (fun k _ hk => hw.block k hk) hw.size⟩
 have HLO := As.mk hlo
 have HPS := As.mk hps
 have hl5 := hlo.len
 have HC0 := As.mk c0
 clear h hlo hps
 go_enter Tryz.func9, Tryz.ntmps9
 go_wp2_with fail
 go_loopg [3, 15] l.length (fun gk v3 v15 w' => ∃ (i : Nat) (v : Value), v15 = .int .i64 i ∧ v3 = v ∧ As (gk = l.length - i) ∧ As (i ≤ l.length) ∧ As (DueRow w' W.heap.size v (colL nextS 1 (l.take i))) ∧ As (Below W.heap.size W w'))
 case atStart => exact ⟨0, _, rfl, rfl, ⟨rfl⟩, ⟨Nat.zero_le _⟩, ⟨World.ownsRow_nil _ _ _ _⟩, ⟨Below.refl _ _⟩⟩
 case round =>
  obtain ⟨i, v, rfl, hv3, HK, HI, HR, HB⟩ := hrel
  have hv3 := hv3.symm
  subst hv3
  have hs := HB.out.size
  by_cases hlt : i < l.length
  ·obtain ⟨g, c', x, hv, hgl, _, hx, hr⟩ := HO.out.at rfl (List.getElem?_eq_getElem hlt)
   injection hv with e1 _ e2
   subst e1 e2
   have hr1 := As.mk (range_heap hr (HB.out.block g hgl))
   have HT : As (colL nextS 1 (l.take (i + 1)) = colL nextS 1 (l.take i) ++ oneL nextS (i + 1) l[i]) := ⟨by rw [colL_take _ _ _ _ hlt, Nat.add_comm 1 i]⟩
   obtain ⟨ak, ck, ad, cd, rfl, _, hbd, _, _⟩ := hx
   have HBD : As (∀ w, Below W.heap.size W w → Bytes w ad [(l[i].pl : Int)]) := ⟨fun w hw => hbd.below hw (Nat.le_refl _)⟩
   obtain ⟨p, hp, hsg⟩ := HLO.out.at (List.getElem?_eq_getElem hlt)
   have HP := As.mk hp
   have HPO := As.mk (HPS.out.ok p (List.mem_of_getElem? hp))
   have HSG := As.mk hsg
   have hlen := colL_len nextS (l.take i) 1
   rw [List.length_take] at hlen
   clear hr hbd hp hsg
   unfold orC at hr1
   generalize colL nextS 1 (l.take i) = L at *
   obtain ⟨L', hL'⟩ : ∃ L', L' = colL nextS 1 (l.take (i + 1)) := ⟨_, rfl⟩
   rw [← hL'] at HT
   have HL' := As.mk hL'
   clear hL'
   unfold oneL at HT
   generalize l[i] = o at *
   obtain ⟨okey, opl, s⟩ := o
   simp only at hr1 HT HSG HP HBD
   obtain ⟨A1, c1', rfl⟩ := HR.out.form
   go_upto_region 7 with (refine wpList_load_mid rfl 120 (.tmp 17) rfl g (i * 11) rfl _ _ hr1.out Tryz.underlying120 rfl size120 ?_)
   obtain ⟨b5, hb5⟩ : ∃ b5, b5 = wr.heap.size := ⟨_, rfl⟩
   have h5 : (wr.alloc (.cells #[.int .u32 ((i : Int) + 1), .slice ak 1 ck, .slice ad 1 cd, .int .i64 s.ph, .int .i64 s.st, .int .i64 s.tr, .bool s.asked, .int .i64 (leftF s.asked), .bool false, .int .i64 s.code, .bool false] 120)).heap[b5]? = some (.cells #[.int .u32 ((i : Int) + 1), .slice ak 1 ck, .slice ad 1 cd, .int .i64 s.ph, .int .i64 s.st, .int .i64 s.tr, .bool s.asked, .int .i64 (leftF s.asked), .bool false, .int .i64 s.code, .bool false] 120 (0, 0)) := by rw [hb5]; exact blk_new wr _
   have BW := HB.out.alloc hs (.cells #[.int .u32 ((i : Int) + 1), .slice ak 1 ck, .slice ad 1 cd, .int .i64 s.ph, .int .i64 s.st, .int .i64 s.tr, .bool s.asked, .int .i64 (leftF s.asked), .bool false, .int .i64 s.code, .bool false] 120)
   have R0 : As ((wr.alloc (.cells #[.int .u32 ((i : Int) + 1), .slice ak 1 ck, .slice ad 1 cd, .int .i64 s.ph, .int .i64 s.st, .int .i64 s.tr, .bool s.asked, .int .i64 (leftF s.asked), .bool false, .int .i64 s.code, .bool false] 120)).ownsRow W.heap.size 51 4 (.slice A1 L.length c1') L.length (L.flatMap duC)) := ⟨World.ownsRow.alloc HR.out _⟩
   rw [← hb5]
   have HB5 : As (W.heap.size ≤ b5) := ⟨by omega⟩
   generalize wr.alloc (.cells #[.int .u32 ((i : Int) + 1), .slice ak 1 ck, .slice ad 1 cd, .int .i64 s.ph, .int .i64 s.st, .int .i64 s.tr, .bool s.asked, .int .i64 (leftF s.asked), .bool false, .int .i64 s.code, .bool false] 120) = wA at *
   clear hb5 hr1
   have HBW := As.mk BW
   have X0 : As (DS lb b5 pv #[.int .u32 ((i : Int) + 1), .slice ak 1 ck, .slice ad 1 cd, .int .i64 s.ph, .int .i64 s.st, .int .i64 s.tr, .bool s.asked, .int .i64 (leftF s.asked), .bool false, .int .i64 s.code, .bool false] wA) := ⟨by rw [World.cell?_of_block (w := W) (a := ⟨lb, 0, none⟩) (BW.block lb hlbl)]; exact HC0.out, h5, by have := BW.size; omega⟩
   have hsA := BW.size
   clear h5 BW
   refine wp_region_plan_tree (DS lb b5 pv #[.int .u32 ((i : Int) + 1), .slice ak 1 ck, .slice ad 1 cd, .int .i64 s.ph, .int .i64 s.st, .int .i64 s.tr, .bool s.asked, .int .i64 (leftF s.asked), .bool false, .int .i64 s.code, .bool false]) (.cons 1 0 (.cons 1 1 (.cons 1 2 (.cons 0 3 (.cons 1 4 (.cons 1 5 (.cons 0 6 (.cons 1 8 (.cons 1 9 (.cons 0 10 (.two 7 15 (.two 11 15 (.cons 1 12 (.cons 1 13 (.cons 1 14 (.cons 2 15 (.cons 2 16 (.cons 2 17 .nil)))))) (.cons 2 11 (.cons 1 12 (.cons 1 13 (.cons 1 14 (.cons 2 16 (.cons 2 17 .nil))))))) (.cons 2 7 (.cons 2 11 (.cons 1 12 (.cons 1 13 (.cons 1 14 (.cons 2 16 (.cons 2 17 .nil)))))))))))))))))) (by kernel_rfl) (by kernel_rfl) (by kernel_rfl) (by kernel_rfl) (fun _ _ _ _ _ h => h) (X0.out.keep (w' := wA.drew) ((Below.refl _ wA).drew)) ?_
   simp only [PT.tag, List.getElem?_toArray, List.getElem?_cons_succ, List.getElem?_cons_zero]
   iterate 3 (with_reducible refine wpT_sure (fun K hK => ?_); go_simp; with_reducible refine hK _ ?_; clear hK K)
   refine wpT_take (fun K hK => ?_)
   rw [if_pos (by rfl)]
   refine ⟨.agg #[pv], fun w' hw' => exec_load_mid _ _ _ 85 (.tmp 22) rfl lb 0 rfl [pv] _ (one_cell hw'.1) Tryz.underlying85 rfl size85, hK _ ?_⟩
   clear hK K
   iterate 2 (with_reducible refine wpT_sure (fun K hK => ?_); go_simp; with_reducible refine hK _ ?_; clear hK K)
   refine wpT_take (fun K hK => ?_)
   rw [if_pos (by rfl)]
   apply Exists.intro
   refine ⟨fun w' hw' => ?_, hK _ ?_⟩
   ·have j0 := (blk_cell hw'.2.1 2).trans rfl
    go_simp
    rfl
   clear hK K
   iterate 2 (with_reducible refine wpT_sure (fun K hK => ?_); go_simp; with_reducible refine hK _ ?_; clear hK K)
   refine wpT_take (fun K hK => ?_)
   rw [if_pos (by rfl)]
   refine ⟨.agg (sgC s).toArray, fun w' hw' => exec_load_mid _ _ _ 116 (.tmp 29) rfl b5 3 rfl (sgC s) _ (sg_range hw'.2.1) Tryz.underlying116 rfl size116, hK _ ?_⟩
   clear hK K
   have Bd : As (Below wA.heap.size wA wA.drew) := ⟨(Below.refl _ wA).drew⟩
   have Xd := As.mk (X0.out.keep (w' := wA.drew) ((Below.refl _ wA).drew))
   have hsd : wA.heap.size ≤ wA.drew.heap.size := Nat.le_refl _
   generalize wA.drew = wd at *
   cases hn : nextS s with
   | none =>
    have HN := As.mk hn
    have HT' : As (L' = L) := ⟨by rw [HT.out, hn]; simp⟩
    clear hn HT
    refine wpT_two ?_ ?_
    ·with_reducible refine wpT_next (fun K hK => ?_)
     go_simp
     refine (rulesOf_a (HRU.out _ (HBW.out.trans (Bd.out.mono hsA))) HPS.out.len HP.out (HBD.out _ (HBW.out.trans (Bd.out.mono hsA))) cd).mono ?_
     rintro e w1 ⟨⟨pw, rfl, g1⟩, q1⟩
     have B1 : As (Below wA.heap.size wA w1) := ⟨Bd.out.trans (q1.mono hsd)⟩
     have X1 := As.mk (Xd.out.keep q1)
     have hs1 := B1.out.size
     have HV := As.mk g1
     refine hK _ _ X1.out ?_
     clear hK K q1 g1
     refine wpT_two ?_ ?_
     ·with_reducible refine wpT_next (fun K hK => ?_)
      go_simp
      have HSN := snext_a HV.out HPO.out HSG.out
      rw [HN.out] at HSN
      refine HSN.mono ?_
      clear HSN
      rintro e w2 ⟨rfl, q1⟩
      have B2 : As (Below wA.heap.size wA w2) := ⟨B1.out.trans (q1.mono hs1)⟩
      have X2 := As.mk (X1.out.keep q1)
      have hs2 := B2.out.size
      refine hK _ _ X2.out ?_
      clear hK K q1
      unfold nextV dn0
      iterate 3 (with_reducible refine wpT_sure (fun K hK => ?_); go_simp; with_reducible refine hK _ ?_; clear hK K)
      with_reducible refine wpT_next (fun K hK => ?_)
      go_simp
      have q1 : Below w2.heap.size w2 (w2.alloc (.cells #[.int .i64 0, .bool false, .int .i64 0] 49)) := (Below.refl _ _).alloc (Nat.le_refl _) _
      obtain ⟨b6, hb6⟩ : ∃ b6, b6 = w2.heap.size := ⟨_, rfl⟩
      have A3 : As ((w2.alloc (.cells #[.int .i64 0, .bool false, .int .i64 0] 49)).heap[b6]? = some (.cells #[.int .i64 0, .bool false, .int .i64 0] 49 (0, 0))) := ⟨by rw [hb6]; exact blk_new w2 _⟩
      have O6 : As (wA.heap.size ≤ b6) := ⟨by omega⟩
      rw [← hb6]
      clear hb6
      generalize w2.alloc (.cells #[.int .i64 0, .bool false, .int .i64 0] 49) = w3 at *
      have B3 : As (Below wA.heap.size wA w3) := ⟨B2.out.trans (q1.mono hs2)⟩
      have X3 := As.mk (X2.out.keep q1)
      have hs3 := B3.out.size
      refine hK _ _ X3.out ?_
      clear hK K q1
      with_reducible refine wpT_next (fun K hK => ?_)
      rw [if_pos (by rfl)]
      refine wp_storeC 49 (.tmp 6) (.tmp 32) rfl b6 49 [.int .i64 0, .bool false, .int .i64 0] _ rfl rfl A3.out rfl size49 (dnC_one ⟨0, false, 0⟩) ?_
      intro wf q1 q2 q3 q4
      have BF : As (Below wA.heap.size wA wf) := ⟨B3.out.trans (q2 _ O6.out)⟩
      have AF := As.mk q1
      have XF := As.mk (X3.out.far q3 q4 (by have := X0.out.2.2; have := O6.out; omega) (by have := blk_lt X0.out.2.1; have := O6.out; omega))
      refine hK _ _ XF.out ?_
      clear hK K q1 q2 q3 q4
      with_reducible refine wpT_next (fun K hK => ?_)
      go_simp
      refine hK _ _ XF.out ?_
      clear hK K
      refine wpT_nil ?_
      have R2 : As (wf.ownsRow W.heap.size 51 4 (.slice A1 L.length c1') L.length (L.flatMap duC)) := ⟨own_keep R0.out (fun q _ hq => BF.out.block q hq)⟩
      go_wp2_with fail
      go_roundg (l.length - (i + 1))
      case measure => have := HK.out; omega
      case rel => exact ⟨i + 1, _, by go_num, rfl, ⟨rfl⟩, ⟨by omega⟩, ⟨by rw [← HL'.out, HT'.out]; exact R2.out⟩, ⟨HBW.out.trans (BF.out.mono hsA)⟩⟩
     ·with_reducible refine wpT_next (fun K hK => ?_)
      go_simp
      have q1 : Below w1.heap.size w1 (w1.alloc (.cells #[.int .i64 0, .bool false, .int .i64 0] 49)) := (Below.refl _ _).alloc (Nat.le_refl _) _
      obtain ⟨b6, hb6⟩ : ∃ b6, b6 = w1.heap.size := ⟨_, rfl⟩
      have A5 : As ((w1.alloc (.cells #[.int .i64 0, .bool false, .int .i64 0] 49)).heap[b6]? = some (.cells #[.int .i64 0, .bool false, .int .i64 0] 49 (0, 0))) := ⟨by rw [hb6]; exact blk_new w1 _⟩
      have O6 : As (wA.heap.size ≤ b6) := ⟨by omega⟩
      rw [← hb6]
      clear hb6
      generalize w1.alloc (.cells #[.int .i64 0, .bool false, .int .i64 0] 49) = w5 at *
      have B5 : As (Below wA.heap.size wA w5) := ⟨B1.out.trans (q1.mono hs1)⟩
      have X5 := As.mk (X1.out.keep q1)
      have hs5 := B5.out.size
      have HV := As.mk (HV.out.keep (W' := w5) (fun k _ hk => q1.block k hk) q1.size)
      refine hK _ _ X5.out ?_
      clear hK K q1
      with_reducible refine wpT_next (fun K hK => ?_)
      go_simp
      have HSN := snext_a HV.out HPO.out HSG.out
      rw [HN.out] at HSN
      refine HSN.mono ?_
      clear HSN
      rintro e w6 ⟨rfl, q1⟩
      have B6 : As (Below wA.heap.size wA w6) := ⟨B5.out.trans (q1.mono hs5)⟩
      have X6 := As.mk (X5.out.keep q1)
      have hs6 := B6.out.size
      have A6 := As.mk ((q1.block b6 (blk_lt A5.out)).trans A5.out)
      refine hK _ _ X6.out ?_
      clear hK K q1
      unfold nextV dn0
      iterate 3 (with_reducible refine wpT_sure (fun K hK => ?_); go_simp; with_reducible refine hK _ ?_; clear hK K)
      with_reducible refine wpT_next (fun K hK => ?_)
      rw [if_pos (by rfl)]
      refine wp_storeC 49 (.tmp 6) (.tmp 32) rfl b6 49 [.int .i64 0, .bool false, .int .i64 0] _ rfl rfl A6.out rfl size49 (dnC_one ⟨0, false, 0⟩) ?_
      intro wf q1 q2 q3 q4
      have BF : As (Below wA.heap.size wA wf) := ⟨B6.out.trans (q2 _ O6.out)⟩
      have AF := As.mk q1
      have XF := As.mk (X6.out.far q3 q4 (by have := X0.out.2.2; have := O6.out; omega) (by have := blk_lt X0.out.2.1; have := O6.out; omega))
      refine hK _ _ XF.out ?_
      clear hK K q1 q2 q3 q4
      with_reducible refine wpT_next (fun K hK => ?_)
      go_simp
      refine hK _ _ XF.out ?_
      clear hK K
      refine wpT_nil ?_
      have R2 : As (wf.ownsRow W.heap.size 51 4 (.slice A1 L.length c1') L.length (L.flatMap duC)) := ⟨own_keep R0.out (fun q _ hq => BF.out.block q hq)⟩
      go_wp2_with fail
      go_roundg (l.length - (i + 1))
      case measure => have := HK.out; omega
      case rel => exact ⟨i + 1, _, by go_num, rfl, ⟨rfl⟩, ⟨by omega⟩, ⟨by rw [← HL'.out, HT'.out]; exact R2.out⟩, ⟨HBW.out.trans (BF.out.mono hsA)⟩⟩
    ·with_reducible refine wpT_next (fun K hK => ?_)
     go_simp
     have q1 : Below wd.heap.size wd (wd.alloc (.cells #[.int .i64 0, .bool false, .int .i64 0] 49)) := (Below.refl _ _).alloc (Nat.le_refl _) _
     obtain ⟨b6, hb6⟩ : ∃ b6, b6 = wd.heap.size := ⟨_, rfl⟩
     have A8 : As ((wd.alloc (.cells #[.int .i64 0, .bool false, .int .i64 0] 49)).heap[b6]? = some (.cells #[.int .i64 0, .bool false, .int .i64 0] 49 (0, 0))) := ⟨by rw [hb6]; exact blk_new wd _⟩
     have O6 : As (wA.heap.size ≤ b6) := ⟨by omega⟩
     rw [← hb6]
     clear hb6
     generalize wd.alloc (.cells #[.int .i64 0, .bool false, .int .i64 0] 49) = w8 at *
     have B8 : As (Below wA.heap.size wA w8) := ⟨Bd.out.trans (q1.mono hsd)⟩
     have X8 := As.mk (Xd.out.keep q1)
     have hs8 := B8.out.size
     refine hK _ _ X8.out ?_
     clear hK K q1
     with_reducible refine wpT_next (fun K hK => ?_)
     go_simp
     refine (rulesOf_a (HRU.out _ (HBW.out.trans (B8.out.mono hsA))) HPS.out.len HP.out (HBD.out _ (HBW.out.trans (B8.out.mono hsA))) cd).mono ?_
     rintro e w9 ⟨⟨pw, rfl, g1⟩, q1⟩
     have B9 : As (Below wA.heap.size wA w9) := ⟨B8.out.trans (q1.mono hs8)⟩
     have X9 := As.mk (X8.out.keep q1)
     have hs9 := B9.out.size
     have A9 := As.mk ((q1.block b6 (blk_lt A8.out)).trans A8.out)
     have HV := As.mk g1
     refine hK _ _ X9.out ?_
     clear hK K q1 g1
     with_reducible refine wpT_next (fun K hK => ?_)
     go_simp
     have HSN := snext_a HV.out HPO.out HSG.out
     rw [HN.out] at HSN
     refine HSN.mono ?_
     clear HSN
     rintro e w10 ⟨rfl, q1⟩
     have B10 : As (Below wA.heap.size wA w10) := ⟨B9.out.trans (q1.mono hs9)⟩
     have X10 := As.mk (X9.out.keep q1)
     have hs10 := B10.out.size
     have A10 := As.mk ((q1.block b6 (blk_lt A9.out)).trans A9.out)
     refine hK _ _ X10.out ?_
     clear hK K q1
     unfold nextV dn0
     iterate 3 (with_reducible refine wpT_sure (fun K hK => ?_); go_simp; with_reducible refine hK _ ?_; clear hK K)
     with_reducible refine wpT_next (fun K hK => ?_)
     rw [if_pos (by rfl)]
     refine wp_storeC 49 (.tmp 6) (.tmp 32) rfl b6 49 [.int .i64 0, .bool false, .int .i64 0] _ rfl rfl A10.out rfl size49 (dnC_one ⟨0, false, 0⟩) ?_
     intro wf q1 q2 q3 q4
     have BF : As (Below wA.heap.size wA wf) := ⟨B10.out.trans (q2 _ O6.out)⟩
     have AF := As.mk q1
     have XF := As.mk (X10.out.far q3 q4 (by have := X0.out.2.2; have := O6.out; omega) (by have := blk_lt X0.out.2.1; have := O6.out; omega))
     refine hK _ _ XF.out ?_
     clear hK K q1 q2 q3 q4
     with_reducible refine wpT_next (fun K hK => ?_)
     go_simp
     refine hK _ _ XF.out ?_
     clear hK K
     refine wpT_nil ?_
     have R2 : As (wf.ownsRow W.heap.size 51 4 (.slice A1 L.length c1') L.length (L.flatMap duC)) := ⟨own_keep R0.out (fun q _ hq => BF.out.block q hq)⟩
     go_wp2_with fail
     go_roundg (l.length - (i + 1))
     case measure => have := HK.out; omega
     case rel => exact ⟨i + 1, _, by go_num, rfl, ⟨rfl⟩, ⟨by omega⟩, ⟨by rw [← HL'.out, HT'.out]; exact R2.out⟩, ⟨HBW.out.trans (BF.out.mono hsA)⟩⟩
   | some dd =>
    have HN := As.mk hn
    have HT' : As (L' = L ++ [⟨i + 1, dd⟩]) := ⟨by rw [HT.out, hn]⟩
    clear hn HT
    refine wpT_two ?_ ?_
    ·with_reducible refine wpT_next (fun K hK => ?_)
     go_simp
     refine (rulesOf_a (HRU.out _ (HBW.out.trans (Bd.out.mono hsA))) HPS.out.len HP.out (HBD.out _ (HBW.out.trans (Bd.out.mono hsA))) cd).mono ?_
     rintro e w12 ⟨⟨pw, rfl, g1⟩, q1⟩
     have B12 : As (Below wA.heap.size wA w12) := ⟨Bd.out.trans (q1.mono hsd)⟩
     have X12 := As.mk (Xd.out.keep q1)
     have hs12 := B12.out.size
     have HV := As.mk g1
     refine hK _ _ X12.out ?_
     clear hK K q1 g1
     refine wpT_two ?_ ?_
     ·with_reducible refine wpT_next (fun K hK => ?_)
      go_simp
      have HSN := snext_a HV.out HPO.out HSG.out
      rw [HN.out] at HSN
      refine HSN.mono ?_
      clear HSN
      rintro e w13 ⟨rfl, q1⟩
      have B13 : As (Below wA.heap.size wA w13) := ⟨B12.out.trans (q1.mono hs12)⟩
      have X13 := As.mk (X12.out.keep q1)
      have hs13 := B13.out.size
      refine hK _ _ X13.out ?_
      clear hK K q1
      unfold nextV dnC
      iterate 3 (with_reducible refine wpT_sure (fun K hK => ?_); go_simp; with_reducible refine hK _ ?_; clear hK K)
      with_reducible refine wpT_next (fun K hK => ?_)
      go_simp
      have q1 : Below w13.heap.size w13 (w13.alloc (.cells #[.int .i64 0, .bool false, .int .i64 0] 49)) := (Below.refl _ _).alloc (Nat.le_refl _) _
      obtain ⟨b6, hb6⟩ : ∃ b6, b6 = w13.heap.size := ⟨_, rfl⟩
      have A14 : As ((w13.alloc (.cells #[.int .i64 0, .bool false, .int .i64 0] 49)).heap[b6]? = some (.cells #[.int .i64 0, .bool false, .int .i64 0] 49 (0, 0))) := ⟨by rw [hb6]; exact blk_new w13 _⟩
      have O6 : As (wA.heap.size ≤ b6) := ⟨by omega⟩
      rw [← hb6]
      clear hb6
      generalize w13.alloc (.cells #[.int .i64 0, .bool false, .int .i64 0] 49) = w14 at *
      have B14 : As (Below wA.heap.size wA w14) := ⟨B13.out.trans (q1.mono hs13)⟩
      have X14 := As.mk (X13.out.keep q1)
      have hs14 := B14.out.size
      refine hK _ _ X14.out ?_
      clear hK K q1
      with_reducible refine wpT_next (fun K hK => ?_)
      rw [if_pos (by rfl)]
      refine wp_storeC 49 (.tmp 6) (.tmp 32) rfl b6 49 (dnC dd) _ rfl rfl A14.out rfl size49 (dnC_one dd) ?_
      intro wf q1 q2 q3 q4
      have BF : As (Below wA.heap.size wA wf) := ⟨B14.out.trans (q2 _ O6.out)⟩
      have AF := As.mk q1
      have XF := As.mk (X14.out.far q3 q4 (by have := X0.out.2.2; have := O6.out; omega) (by have := blk_lt X0.out.2.1; have := O6.out; omega))
      refine hK _ _ XF.out ?_
      clear hK K q1 q2 q3 q4
      with_reducible refine wpT_next (fun K hK => ?_)
      go_simp
      refine hK _ _ XF.out ?_
      clear hK K
      refine wpT_nil ?_
      have R2 : As (wf.ownsRow W.heap.size 51 4 (.slice A1 L.length c1') L.length (L.flatMap duC)) := ⟨own_keep R0.out (fun q _ hq => BF.out.block q hq)⟩
      have B2 : As (Below W.heap.size W wf) := ⟨HBW.out.trans (BF.out.mono hsA)⟩
      have y0 := (blk_cell XF.out.2.1 0).trans rfl
      have AL : As (wf.heap[b6]? = some (.cells #[.int .i64 dd.st, .bool dd.undo, .int .i64 dd.tr] 49 (0, 0))) := ⟨AF.out⟩
      have hs2 := B2.out.size
      have R3 : As ((wf.alloc (.cells ([.int .u32 ((i : Int) + 1), .int .i64 dd.st, .bool dd.undo, .int .i64 dd.tr] : List Value).toArray 51 (0, 0))).ownsRow W.heap.size 51 4 (.slice A1 L.length c1') L.length (L.flatMap duC)) := ⟨R2.out.alloc _⟩
      go_wp2_with (first | (refine wpList_load_row rfl 49 (.tmp 6) rfl b6 rfl 49 _ _ _ AL.out Tryz.underlying49 rfl size49 ?_) | (refine wpList_build42 rfl (.tmp 40) rfl [.int .u32 ((i : Int) + 1), .int .i64 dd.st, .bool dd.undo, .int .i64 dd.tr] rfl rfl ?_) | ((at_builtin; refine wpList_append_lies _ rfl _ _ 42 rfl W.heap.size 51 i1 _ 4 32 Tryz.underlying42 hi1 hz0 hz1 hz2 rfl (by omega) _ _ _ rfl R3.out ⟨wf.heap.size, 0, none⟩ 1 1 [.int .u32 ((i : Int) + 1), .int .i64 dd.st, .bool dd.undo, .int .i64 dd.tr] rfl rfl (World.news_of_block (blk_new wf _)) (duC_one _ _ _ _) (by omega) (by unfold maxLen; omega) (by omega) (by simp; omega) _ rfl ?_)))
      intro gg cap w4 q1 q2 q3 q4
      have B4 : As (Below W.heap.size W w4) := ⟨(B2.out.alloc hs2 _).grown q2 (by simp; omega) (fun q hq => (R2.out.lt q hq).1)⟩
      have R4 : As (DueRow w4 W.heap.size (.slice (some ⟨gg, 0, none⟩) (L.length + 1) cap) L') := ⟨by
       rw [HT'.out]
       unfold DueRow
       rw [List.length_append, List.flatMap_append]
       simpa [duC] using q1⟩
      clear q1 q2 q3 q4
      go_wp2_with fail
      go_roundg (l.length - (i + 1))
      case measure => have := HK.out; omega
      case rel => exact ⟨i + 1, _, by go_num, rfl, ⟨rfl⟩, ⟨by omega⟩, ⟨by rw [← HL'.out]; exact R4.out⟩, B4⟩
     ·with_reducible refine wpT_next (fun K hK => ?_)
      go_simp
      have q1 : Below w12.heap.size w12 (w12.alloc (.cells #[.int .i64 0, .bool false, .int .i64 0] 49)) := (Below.refl _ _).alloc (Nat.le_refl _) _
      obtain ⟨b6, hb6⟩ : ∃ b6, b6 = w12.heap.size := ⟨_, rfl⟩
      have A16 : As ((w12.alloc (.cells #[.int .i64 0, .bool false, .int .i64 0] 49)).heap[b6]? = some (.cells #[.int .i64 0, .bool false, .int .i64 0] 49 (0, 0))) := ⟨by rw [hb6]; exact blk_new w12 _⟩
      have O6 : As (wA.heap.size ≤ b6) := ⟨by omega⟩
      rw [← hb6]
      clear hb6
      generalize w12.alloc (.cells #[.int .i64 0, .bool false, .int .i64 0] 49) = w16 at *
      have B16 : As (Below wA.heap.size wA w16) := ⟨B12.out.trans (q1.mono hs12)⟩
      have X16 := As.mk (X12.out.keep q1)
      have hs16 := B16.out.size
      have HV := As.mk (HV.out.keep (W' := w16) (fun k _ hk => q1.block k hk) q1.size)
      refine hK _ _ X16.out ?_
      clear hK K q1
      with_reducible refine wpT_next (fun K hK => ?_)
      go_simp
      have HSN := snext_a HV.out HPO.out HSG.out
      rw [HN.out] at HSN
      refine HSN.mono ?_
      clear HSN
      rintro e w17 ⟨rfl, q1⟩
      have B17 : As (Below wA.heap.size wA w17) := ⟨B16.out.trans (q1.mono hs16)⟩
      have X17 := As.mk (X16.out.keep q1)
      have hs17 := B17.out.size
      have A17 := As.mk ((q1.block b6 (blk_lt A16.out)).trans A16.out)
      refine hK _ _ X17.out ?_
      clear hK K q1
      unfold nextV dnC
      iterate 3 (with_reducible refine wpT_sure (fun K hK => ?_); go_simp; with_reducible refine hK _ ?_; clear hK K)
      with_reducible refine wpT_next (fun K hK => ?_)
      rw [if_pos (by rfl)]
      refine wp_storeC 49 (.tmp 6) (.tmp 32) rfl b6 49 (dnC dd) _ rfl rfl A17.out rfl size49 (dnC_one dd) ?_
      intro wf q1 q2 q3 q4
      have BF : As (Below wA.heap.size wA wf) := ⟨B17.out.trans (q2 _ O6.out)⟩
      have AF := As.mk q1
      have XF := As.mk (X17.out.far q3 q4 (by have := X0.out.2.2; have := O6.out; omega) (by have := blk_lt X0.out.2.1; have := O6.out; omega))
      refine hK _ _ XF.out ?_
      clear hK K q1 q2 q3 q4
      with_reducible refine wpT_next (fun K hK => ?_)
      go_simp
      refine hK _ _ XF.out ?_
      clear hK K
      refine wpT_nil ?_
      have R2 : As (wf.ownsRow W.heap.size 51 4 (.slice A1 L.length c1') L.length (L.flatMap duC)) := ⟨own_keep R0.out (fun q _ hq => BF.out.block q hq)⟩
      have B2 : As (Below W.heap.size W wf) := ⟨HBW.out.trans (BF.out.mono hsA)⟩
      have y0 := (blk_cell XF.out.2.1 0).trans rfl
      have AL : As (wf.heap[b6]? = some (.cells #[.int .i64 dd.st, .bool dd.undo, .int .i64 dd.tr] 49 (0, 0))) := ⟨AF.out⟩
      have hs2 := B2.out.size
      have R3 : As ((wf.alloc (.cells ([.int .u32 ((i : Int) + 1), .int .i64 dd.st, .bool dd.undo, .int .i64 dd.tr] : List Value).toArray 51 (0, 0))).ownsRow W.heap.size 51 4 (.slice A1 L.length c1') L.length (L.flatMap duC)) := ⟨R2.out.alloc _⟩
      go_wp2_with (first | (refine wpList_load_row rfl 49 (.tmp 6) rfl b6 rfl 49 _ _ _ AL.out Tryz.underlying49 rfl size49 ?_) | (refine wpList_build42 rfl (.tmp 40) rfl [.int .u32 ((i : Int) + 1), .int .i64 dd.st, .bool dd.undo, .int .i64 dd.tr] rfl rfl ?_) | ((at_builtin; refine wpList_append_lies _ rfl _ _ 42 rfl W.heap.size 51 i1 _ 4 32 Tryz.underlying42 hi1 hz0 hz1 hz2 rfl (by omega) _ _ _ rfl R3.out ⟨wf.heap.size, 0, none⟩ 1 1 [.int .u32 ((i : Int) + 1), .int .i64 dd.st, .bool dd.undo, .int .i64 dd.tr] rfl rfl (World.news_of_block (blk_new wf _)) (duC_one _ _ _ _) (by omega) (by unfold maxLen; omega) (by omega) (by simp; omega) _ rfl ?_)))
      intro gg cap w4 q1 q2 q3 q4
      have B4 : As (Below W.heap.size W w4) := ⟨(B2.out.alloc hs2 _).grown q2 (by simp; omega) (fun q hq => (R2.out.lt q hq).1)⟩
      have R4 : As (DueRow w4 W.heap.size (.slice (some ⟨gg, 0, none⟩) (L.length + 1) cap) L') := ⟨by
       rw [HT'.out]
       unfold DueRow
       rw [List.length_append, List.flatMap_append]
       simpa [duC] using q1⟩
      clear q1 q2 q3 q4
      go_wp2_with fail
      go_roundg (l.length - (i + 1))
      case measure => have := HK.out; omega
      case rel => exact ⟨i + 1, _, by go_num, rfl, ⟨rfl⟩, ⟨by omega⟩, ⟨by rw [← HL'.out]; exact R4.out⟩, B4⟩
    ·with_reducible refine wpT_next (fun K hK => ?_)
     go_simp
     have q1 : Below wd.heap.size wd (wd.alloc (.cells #[.int .i64 0, .bool false, .int .i64 0] 49)) := (Below.refl _ _).alloc (Nat.le_refl _) _
     obtain ⟨b6, hb6⟩ : ∃ b6, b6 = wd.heap.size := ⟨_, rfl⟩
     have A19 : As ((wd.alloc (.cells #[.int .i64 0, .bool false, .int .i64 0] 49)).heap[b6]? = some (.cells #[.int .i64 0, .bool false, .int .i64 0] 49 (0, 0))) := ⟨by rw [hb6]; exact blk_new wd _⟩
     have O6 : As (wA.heap.size ≤ b6) := ⟨by omega⟩
     rw [← hb6]
     clear hb6
     generalize wd.alloc (.cells #[.int .i64 0, .bool false, .int .i64 0] 49) = w19 at *
     have B19 : As (Below wA.heap.size wA w19) := ⟨Bd.out.trans (q1.mono hsd)⟩
     have X19 := As.mk (Xd.out.keep q1)
     have hs19 := B19.out.size
     refine hK _ _ X19.out ?_
     clear hK K q1
     with_reducible refine wpT_next (fun K hK => ?_)
     go_simp
     refine (rulesOf_a (HRU.out _ (HBW.out.trans (B19.out.mono hsA))) HPS.out.len HP.out (HBD.out _ (HBW.out.trans (B19.out.mono hsA))) cd).mono ?_
     rintro e w20 ⟨⟨pw, rfl, g1⟩, q1⟩
     have B20 : As (Below wA.heap.size wA w20) := ⟨B19.out.trans (q1.mono hs19)⟩
     have X20 := As.mk (X19.out.keep q1)
     have hs20 := B20.out.size
     have A20 := As.mk ((q1.block b6 (blk_lt A19.out)).trans A19.out)
     have HV := As.mk g1
     refine hK _ _ X20.out ?_
     clear hK K q1 g1
     with_reducible refine wpT_next (fun K hK => ?_)
     go_simp
     have HSN := snext_a HV.out HPO.out HSG.out
     rw [HN.out] at HSN
     refine HSN.mono ?_
     clear HSN
     rintro e w21 ⟨rfl, q1⟩
     have B21 : As (Below wA.heap.size wA w21) := ⟨B20.out.trans (q1.mono hs20)⟩
     have X21 := As.mk (X20.out.keep q1)
     have hs21 := B21.out.size
     have A21 := As.mk ((q1.block b6 (blk_lt A20.out)).trans A20.out)
     refine hK _ _ X21.out ?_
     clear hK K q1
     unfold nextV dnC
     iterate 3 (with_reducible refine wpT_sure (fun K hK => ?_); go_simp; with_reducible refine hK _ ?_; clear hK K)
     with_reducible refine wpT_next (fun K hK => ?_)
     rw [if_pos (by rfl)]
     refine wp_storeC 49 (.tmp 6) (.tmp 32) rfl b6 49 (dnC dd) _ rfl rfl A21.out rfl size49 (dnC_one dd) ?_
     intro wf q1 q2 q3 q4
     have BF : As (Below wA.heap.size wA wf) := ⟨B21.out.trans (q2 _ O6.out)⟩
     have AF := As.mk q1
     have XF := As.mk (X21.out.far q3 q4 (by have := X0.out.2.2; have := O6.out; omega) (by have := blk_lt X0.out.2.1; have := O6.out; omega))
     refine hK _ _ XF.out ?_
     clear hK K q1 q2 q3 q4
     with_reducible refine wpT_next (fun K hK => ?_)
     go_simp
     refine hK _ _ XF.out ?_
     clear hK K
     refine wpT_nil ?_
     have R2 : As (wf.ownsRow W.heap.size 51 4 (.slice A1 L.length c1') L.length (L.flatMap duC)) := ⟨own_keep R0.out (fun q _ hq => BF.out.block q hq)⟩
     have B2 : As (Below W.heap.size W wf) := ⟨HBW.out.trans (BF.out.mono hsA)⟩
     have y0 := (blk_cell XF.out.2.1 0).trans rfl
     have AL : As (wf.heap[b6]? = some (.cells #[.int .i64 dd.st, .bool dd.undo, .int .i64 dd.tr] 49 (0, 0))) := ⟨AF.out⟩
     have hs2 := B2.out.size
     have R3 : As ((wf.alloc (.cells ([.int .u32 ((i : Int) + 1), .int .i64 dd.st, .bool dd.undo, .int .i64 dd.tr] : List Value).toArray 51 (0, 0))).ownsRow W.heap.size 51 4 (.slice A1 L.length c1') L.length (L.flatMap duC)) := ⟨R2.out.alloc _⟩
     go_wp2_with (first | (refine wpList_load_row rfl 49 (.tmp 6) rfl b6 rfl 49 _ _ _ AL.out Tryz.underlying49 rfl size49 ?_) | (refine wpList_build42 rfl (.tmp 40) rfl [.int .u32 ((i : Int) + 1), .int .i64 dd.st, .bool dd.undo, .int .i64 dd.tr] rfl rfl ?_) | ((at_builtin; refine wpList_append_lies _ rfl _ _ 42 rfl W.heap.size 51 i1 _ 4 32 Tryz.underlying42 hi1 hz0 hz1 hz2 rfl (by omega) _ _ _ rfl R3.out ⟨wf.heap.size, 0, none⟩ 1 1 [.int .u32 ((i : Int) + 1), .int .i64 dd.st, .bool dd.undo, .int .i64 dd.tr] rfl rfl (World.news_of_block (blk_new wf _)) (duC_one _ _ _ _) (by omega) (by unfold maxLen; omega) (by omega) (by simp; omega) _ rfl ?_)))
     intro gg cap w4 q1 q2 q3 q4
     have B4 : As (Below W.heap.size W w4) := ⟨(B2.out.alloc hs2 _).grown q2 (by simp; omega) (fun q hq => (R2.out.lt q hq).1)⟩
     have R4 : As (DueRow w4 W.heap.size (.slice (some ⟨gg, 0, none⟩) (L.length + 1) cap) L') := ⟨by
      rw [HT'.out]
      unfold DueRow
      rw [List.length_append, List.flatMap_append]
      simpa [duC] using q1⟩
     clear q1 q2 q3 q4
     go_wp2_with fail
     go_roundg (l.length - (i + 1))
     case measure => have := HK.out; omega
     case rel => exact ⟨i + 1, _, by go_num, rfl, ⟨rfl⟩, ⟨by omega⟩, ⟨by rw [← HL'.out]; exact R4.out⟩, B4⟩
  ·have hi : i = l.length := by have := HI.out; omega
   subst hi
   go_wp2_with fail
   go_ret
   refine ⟨_, rfl, ?_, HB.out⟩
   have := HR.out
   rw [List.take_length] at this
   exact this
end Go.Proofs.YthfjhgdiakciaaaGreat.Bl
/- The law's plans (work, plans), a number among some (mod). No condition. -/
namespace Go.Proofs.YthfjhgdiakciaaaGreat.Bl
open Go.RowKit Go.Maps
set_option linter.unusedVariables false
set_option linter.unusedSimpArgs false
theorem below_bytes (W : World) (s : ByteArray) : Below W.heap.size W (Lib.bytesWorld W 5 s) := by
 refine ⟨?_, ?_, ?_, by rw [Lib.bytesWorld_size]; omega, fun k hk => Lib.bytesWorld_at_old W 5 s k hk⟩ <;> simp [Lib.bytesWorld, World.freeze, World.alloc, World.drew, -World.alloc_eq, -World.drew_eq]
theorem bytes_bytes (W : World) (x : List Int) (hx : ByteOk x) : Bytes (Lib.bytesWorld W 5 (strOfNums x)) (some ⟨W.heap.size, 0, none⟩) x := by
 refine ⟨hx, fun _ => ⟨W.heap.size, 0, rfl, by rw [Lib.bytesWorld_size]; omega, fun j v hv => ?_⟩⟩
 have hj : j < x.length := by have := (List.getElem?_eq_some_iff.1 hv).1; rwa [bv_len] at this
 rw [Nat.zero_add, Lib.bytesWorld_cell W 5 (strOfNums x) j (by rw [strOfNums_size]; exact hj), ← hv]
 have hb := hx x[j] (List.getElem_mem hj)
 unfold bv
 rw [List.getElem?_map, List.getElem?_eq_getElem hj, strOfNums_data]
 have e : (List.map (fun n : Int => UInt8.ofNat n.toNat) x).getD j 0 = UInt8.ofNat x[j].toNat := by
  rw [List.getD, List.getElem?_map, List.getElem?_eq_getElem hj]; rfl
 rw [e, UInt8.toNat_ofNat']
 show some (Value.int .u8 _) = some (Value.int .u8 _)
 congr 2
 omega
theorem stC_one (s : Stp) (a : Option Addr) (k : Nat) : ∀ v ∈ stC s a k, v.oneCell' = true := fun v hv => by
 simp only [stC, List.mem_cons, List.not_mem_nil, or_false] at hv
 rcases hv with rfl | rfl | rfl | rfl | rfl | rfl <;> rfl
set_option maxHeartbeats 1000000 in
theorem work_a (what n : Int) (x : List Int) (hx : ByteOk x) (back : Bool) (W : World) :
  Calls Tryz.prog 32 #[.int .i64 what, .int .i64 n, .string (strOfNums x), .bool back] W fun e W' => (∃ c, e = .returned (.agg c.toArray) ∧ StpAt W' (fun k => W.heap.size ≤ k) ⟨what, n, x, back⟩ c) ∧ Below W.heap.size W W' := by
 have hcv : ∀ w, (convert 9 39 (.string (strOfNums x))).run Tryz.prog w = .ok (.slice (some ⟨w.heap.size, 0, none⟩) x.length (grownCap w x.length 0 5)) (Lib.bytesWorld w 5 (strOfNums x)) := fun w => by
  have h := Lib.run_convert_string_bytes w 9 39 5 (strOfNums x) Tryz.underlying9 Tryz.underlying39 Tryz.underlying5
  rwa [strOfNums_size] at h
 have h0 : As ((Lib.bytesWorld (W.alloc (.cells #[.int .i64 0, .int .i64 0, .slice none 0 0, .int .i64 0, .int .i64 0, .bool false] 112)) 5 (strOfNums x)).heap[W.heap.size]? = some (.cells #[.int .i64 0, .int .i64 0, .slice none 0 0, .int .i64 0, .int .i64 0, .bool false] 112 (0, 0))) := ⟨(Lib.bytesWorld_at_old _ _ _ _ (by simp)).trans (blk_new W _)⟩
 have hB := As.mk (bytes_bytes (W.alloc (.cells #[.int .i64 0, .int .i64 0, .slice none 0 0, .int .i64 0, .int .i64 0, .bool false] 112)) x hx)
 have BB : As (Below W.heap.size W (Lib.bytesWorld (W.alloc (.cells #[.int .i64 0, .int .i64 0, .slice none 0 0, .int .i64 0, .int .i64 0, .bool false] 112)) 5 (strOfNums x))) := ⟨((Below.refl _ W).alloc (Nat.le_refl _) _).trans ((below_bytes _ _).mono (by simp))⟩
 have hgc := As.mk (grownCap_ge (W.alloc (.cells #[.int .i64 0, .int .i64 0, .slice none 0 0, .int .i64 0, .int .i64 0, .bool false] 112)) x.length 0 5)
 have hsz : (W.alloc (.cells #[.int .i64 0, .int .i64 0, .slice none 0 0, .int .i64 0, .int .i64 0, .bool false] 112)).heap.size = W.heap.size + 1 := by simp
 rw [hsz] at hB
 have hbs : As ((Lib.bytesWorld (W.alloc (.cells #[.int .i64 0, .int .i64 0, .slice none 0 0, .int .i64 0, .int .i64 0, .bool false] 112)) 5 (strOfNums x)).heap.size = W.heap.size + 2) := ⟨by rw [Lib.bytesWorld_size, hsz]⟩
 clear hx hsz
 go_enter Tryz.func32, Tryz.ntmps32
 go_wp2_with (refine wpList_storeC rfl 112 (.tmp 8) (.tmp 15) rfl W.heap.size 112 (stC ⟨what, n, x, back⟩ (some ⟨W.heap.size + 1, 0, none⟩) (grownCap (W.alloc (.cells #[.int .i64 0, .int .i64 0, .slice none 0 0, .int .i64 0, .int .i64 0, .bool false] 112)) x.length 0 5)) _ rfl rfl h0.out rfl size112 (stC_one _ _ _) ?_; intro w1 q1 q2 q3 q4)
 refine bodyPost_ret (results_cell_row rfl _ _ W.heap.size 112 (stC ⟨what, n, x, back⟩ (some ⟨W.heap.size + 1, 0, none⟩) (grownCap (W.alloc (.cells #[.int .i64 0, .int .i64 0, .slice none 0 0, .int .i64 0, .int .i64 0, .bool false] 112)) x.length 0 5)).toArray (0, 0) _ rfl q1 Tryz.underlying112 rfl size112) rfl ⟨⟨_, rfl, _, _, rfl, ?_, hgc.out, fun _ q o h => by injection h with h; injection h with h; subst h; show W.heap.size ≤ W.heap.size + 1; omega⟩, BB.out.trans (q2 _ (Nat.le_refl _))⟩
 exact hB.out.keep (fun q o ha hq => by injection ha with ha; injection ha with ha; subst ha; exact q4 _ (by omega)) (by omega)
def SmallMod (n : Int) (W W' : World) (e : Ending) : Prop := ∃ m : Nat, e = .returned (.int .i64 m) ∧ (m : Int) < n ∧ W = W'
theorem mod_a (a n : Int) (W : World) (hn : 1 ≤ n) (hn2 : n ≤ 1000) : Calls Tryz.prog 12 #[.int .i64 a, .int .i64 n] W fun e W' => SmallMod n W W' e := by
 have hw : 0 ≤ IntKind.u64.wrap a := by simp [IntKind.wrap, IntKind.bits, IntKind.signed]; omega
 generalize hg : IntKind.u64.wrap a = x at *
 have h1 : x.tmod n = x % n := Int.tmod_eq_emod_of_nonneg hw
 have h2 := Int.emod_nonneg x (show n ≠ 0 by omega)
 have h3 := Int.emod_lt_of_pos x (show 0 < n by omega)
 have h4 : wrap64 (x.tmod n) = x.tmod n := by rw [h1]; simp [wrap64, IntKind.wrap, IntKind.bits, IntKind.signed]; omega
 have H : As (IntKind.u64.wrap a = x ∧ wrap64 (x.tmod n) = x.tmod n ∧ 0 ≤ x.tmod n ∧ x.tmod n < n) := ⟨hg, h4, by omega, by omega⟩
 clear hg h1 h2 h3 h4 hw
 go_enter Tryz.func12, Tryz.ntmps12
 go_wp2_with fail
 go_ret
 obtain ⟨e1, e2, e3, e4⟩ := H.out
 refine ⟨(x.tmod n).toNat, ?_, by omega, rfl⟩
 show Ending.returned (.int .i64 (wrap64 ((IntKind.u64.wrap a).tmod n))) = _
 rw [e1, e2, Int.toNat_of_nonneg e3]
/-- A slice literal of as many values. -/
theorem wpList_buildRow {ops : Array Oper} {rest : List Oper} {o : Oper} {a : Act} {w : World} {Q : Exit → Act → World → Prop} (hgd : o.guard = none) (t e len : Nat) (parts : Array (Nat × Operand)) (ho : o.op = .buildSlice t len parts) (sz : Nat) (i0 : TypeInfo) (z : Value)
  (hu : Tryz.prog.underlying t = some (.slice e)) (hi : Tryz.prog.info? e = some i0) (hz0 : i0.zero = some z) (hz1 : i0.size = sz) (hsm : len * sz ≤ 10000) (hpos : 0 < len * sz) (vs : List Value)
  (hvs : (parts.map fun (i, x) => (i, a.eval x)).toList = (vs.zipIdx 0).map fun x => (x.2, x.1)) (hlen : vs.length = len) (hc : ∀ v ∈ vs, v.cells.size = sz)
  (h : wpList Tryz.prog ops Q rest (a.put o.dst (.slice (some ⟨w.heap.size, 0, none⟩) len len)) (w.alloc (.cells (vs.flatMap fun v => v.cells.toList).toArray e (0, 0)))) : wpList Tryz.prog ops Q (o :: rest) a w := by
 refine wpList_plain hgd fun K hK => ?_
 have hsp : 0 < sz := Nat.pos_of_mul_pos_left hpos
 refine wp_buildSlice t e len parts ho (vs.flatMap fun v => v.cells.toList).toArray i0 z hu hi hz0 (by rw [hz1]; omega) (by rw [hz1]; omega) ?_ (hK _ _ h)
 have := Great.fill_whole hsp vs ((Array.range (len * i0.size)).map (z.cells[· % z.cells.size]!)) hc (by rw [hlen, hz1]; simp)
 rw [hz1] at this ⊢
 rw [hvs]
 exact this
theorem info112 : (Tryz.prog.info? 112).map (fun i => (i.zero, i.size, i.bytes)) = some (some (.agg #[.int .i64 0, .int .i64 0, .slice none 0 0, .int .i64 0, .int .i64 0, .bool false]), 6, 64) := by kernel_rfl
theorem info94 : (Tryz.prog.info? 94).map (fun i => (i.zero, i.size, i.bytes)) = some (some (.slice none 0 0), 1, 24) := by kernel_rfl
/-- Plans, in a slice. -/
def PlansRow (W : World) (own : Nat → Prop) (v : Value) (ps : List (List Stp)) : Prop :=
 ∃ vs : List Value, vs.length = ps.length ∧ W.ownsRow 0 94 1 v ps.length vs ∧ (∀ g, v.ownBlock = some g → own g) ∧ ∀ (i : Nat) (p : List Stp), ps[i]? = some p → ∃ sv, vs[i]? = some sv ∧ PlanAt W (fun k => own k ∧ ¬ v.ownBlock = some k) sv p
theorem PlansRow.keep {W W' : World} {own : Nat → Prop} {v : Value} {ps : List (List Stp)} (h : PlansRow W own v ps) (hk : ∀ k, own k → k < W.heap.size → W'.heap[k]? = W.heap[k]?) (hs : W.heap.size ≤ W'.heap.size) : PlansRow W' own v ps := by
 obtain ⟨vs, h1, h2, h3, h4⟩ := h
 refine ⟨vs, h1, own_keep h2 (fun g hg hl => hk g (h3 g hg) hl), h3, fun i p hp => ?_⟩
 obtain ⟨sv, a, b⟩ := h4 i p hp
 exact ⟨sv, a, b.keep (fun k hk' hl => hk k hk'.1 hl) hs⟩
/-- A plan in a new block. -/
theorem plan_new {w : World} {B n : Nat} {p : List Stp} (cs : List (List Value)) (hcs : cs.length = p.length) (hn : p.length = n) (hnl : n ≤ 100) (hat : ∀ (i : Nat) (s : Stp), p[i]? = some s → ∃ c, cs[i]? = some c ∧ StpAt w (fun k => B ≤ k ∧ k < w.heap.size) s c) (hB : B ≤ w.heap.size) :
  PlanAt (w.alloc (.cells cs.flatten.toArray 112 (0, 0))) (fun k => B ≤ k ∧ k < w.heap.size + 1) (.slice (some ⟨w.heap.size, 0, none⟩) n n) p := by
 subst hn
 have hl : ∀ y ∈ cs, y.length = 6 := fun y hy => by
  obtain ⟨j, hj, rfl⟩ := List.getElem_of_mem hy
  obtain ⟨c', a', b'⟩ := hat j (p[j]'(by omega)) (List.getElem?_eq_getElem (by omega))
  rw [List.getElem?_eq_getElem hj] at a'
  injection a' with a'
  rw [a']; exact b'.len
 refine ⟨cs, hcs, ?_, fun g hg => by rw [← ob_eq hg]; exact ⟨hB, by omega⟩, fun i s hs => ?_⟩
 ·exact World.ownsRow_lit (base := 0) w cs.flatten.toArray p.length (Nat.zero_le _) (by unfold maxLen; omega) (by rw [List.size_toArray, chunk_len cs hl, hcs])
 ·obtain ⟨c, a, b⟩ := hat i s hs
  exact ⟨c, a, (b.keep (fun k hk hl => Below.heap_alloc _ _ _ hl) (by simp)).mono (fun k hk _ => ⟨⟨hk.1, by omega⟩, fun h => by have := ob_eq h; omega⟩)⟩
def planL : List (List Stp) := [[⟨1, 1, [97], true⟩, ⟨3, 2, [97, 110, 110], true⟩, ⟨2, 0, [], false⟩], [⟨1, 1, [98], true⟩, ⟨5, 1, [], true⟩, ⟨4, 0, [], true⟩], [⟨3, 1, [97, 110, 110], true⟩, ⟨4, 0, [], true⟩, ⟨6, 0, [104, 105], false⟩, ⟨1, 2, [98], true⟩]]
def SomePlans (W W' : World) (e : Ending) : Prop := ∃ v, e = .returned v ∧ PlansRow W' (fun k => W.heap.size ≤ k ∧ k < W'.heap.size) v planL ∧ Below W.heap.size W W'
theorem three_cells (a b c : Option Addr) (n m k : Nat) : ∀ v ∈ ([.slice a n n, .slice b m m, .slice c k k] : List Value), v.cells.size = 1 := fun v hv => by
 simp only [List.mem_cons, List.not_mem_nil, or_false] at hv
 rcases hv with h | h | h <;> (rw [h]; rfl)
theorem byteOk_of {x : List Int} (h : x.all (fun y => decide (0 ≤ y ∧ y < 256)) = true) : ByteOk x := fun y hy => by
 have := List.all_eq_true.1 h y hy
 simpa using this
set_option maxHeartbeats 4000000 in
set_option maxRecDepth 100000 in
theorem plans_a (W : World) : Calls Tryz.prog 7 #[] W fun e W' => SomePlans W W' e := by
 obtain ⟨i1, hi1, ha0, ha1, ha2⟩ := info_parts info112
 obtain ⟨i2, hi2, hb0, hb1, hb2⟩ := info_parts info94
 go_enter Tryz.func7, Tryz.ntmps7
 go_wp2_with fail
 have BW : As (Below W.heap.size W W) := ⟨Below.refl _ _⟩
 refine (work_a 1 1 [97] (byteOk_of (by decide)) true _).mono ?_
 rintro e w1 ⟨⟨c1, rfl, s1⟩, q1⟩
 have hs0 := BW.out.size
 have hz1 := q1.size
 have Bw1 : As (Below W.heap.size W w1) := ⟨BW.out.trans (q1.mono hs0)⟩
 have Sc1 : As (StpAt w1 (fun k => W.heap.size ≤ k ∧ k < w1.heap.size) ⟨1, 1, [97], true⟩ c1) := ⟨s1.mono (fun k hk hl => ⟨Nat.le_trans hs0 hk, hl⟩)⟩
 clear s1 q1 hs0
 go_wp2_with fail
 refine (work_a 3 2 [97, 110, 110] (byteOk_of (by decide)) true _).mono ?_
 rintro e w2 ⟨⟨c2, rfl, s1⟩, q1⟩
 have hs0 := Bw1.out.size
 have hz2 := q1.size
 have Bw2 : As (Below W.heap.size W w2) := ⟨Bw1.out.trans (q1.mono hs0)⟩
 have Sc1 := As.mk ((Sc1.out.keep (W' := w2) (fun k hk hl => q1.block k hl) q1.size).mono (own' := fun k => W.heap.size ≤ k ∧ k < w2.heap.size) (fun k hk hl => ⟨hk.1, hl⟩))
 have Sc2 : As (StpAt w2 (fun k => W.heap.size ≤ k ∧ k < w2.heap.size) ⟨3, 2, [97, 110, 110], true⟩ c2) := ⟨s1.mono (fun k hk hl => ⟨Nat.le_trans hs0 hk, hl⟩)⟩
 clear s1 q1 hs0
 go_wp2_with fail
 refine (work_a 2 0 [] (byteOk_of (by decide)) false _).mono ?_
 rintro e w3 ⟨⟨c3, rfl, s1⟩, q1⟩
 have hs0 := Bw2.out.size
 have hz3 := q1.size
 have Bw3 : As (Below W.heap.size W w3) := ⟨Bw2.out.trans (q1.mono hs0)⟩
 have Sc1 := As.mk ((Sc1.out.keep (W' := w3) (fun k hk hl => q1.block k hl) q1.size).mono (own' := fun k => W.heap.size ≤ k ∧ k < w3.heap.size) (fun k hk hl => ⟨hk.1, hl⟩))
 have Sc2 := As.mk ((Sc2.out.keep (W' := w3) (fun k hk hl => q1.block k hl) q1.size).mono (own' := fun k => W.heap.size ≤ k ∧ k < w3.heap.size) (fun k hk hl => ⟨hk.1, hl⟩))
 have Sc3 : As (StpAt w3 (fun k => W.heap.size ≤ k ∧ k < w3.heap.size) ⟨2, 0, [], false⟩ c3) := ⟨s1.mono (fun k hk hl => ⟨Nat.le_trans hs0 hk, hl⟩)⟩
 clear s1 q1 hs0
 have e0 : ([c1, c2, c3] : List (List Value)).flatten = c1 ++ (c2 ++ c3) := by simp
 have P0 : As (PlanAt (w3.alloc (.cells (c1 ++ (c2 ++ c3)).toArray 112 (0, 0))) (fun k => W.heap.size ≤ k ∧ k < w3.heap.size + 1) (.slice (some ⟨w3.heap.size, 0, none⟩) 3 3) [⟨1, 1, [97], true⟩, ⟨3, 2, [97, 110, 110], true⟩, ⟨2, 0, [], false⟩]) := ⟨by
  have h := plan_new (w := w3) (B := W.heap.size) (n := 3) (p := ([⟨1, 1, [97], true⟩, ⟨3, 2, [97, 110, 110], true⟩, ⟨2, 0, [], false⟩] : List Stp)) [c1, c2, c3] rfl rfl (by omega) (fun i s hs => by
   have hi := (List.getElem?_eq_some_iff.1 hs).1
   rcases (show i = 0 ∨ i = 1 ∨ i = 2 by simp at hi; omega) with rfl | rfl | rfl
   ·obtain rfl := Option.some.inj hs
    exact ⟨c1, rfl, Sc1.out⟩
   ·obtain rfl := Option.some.inj hs
    exact ⟨c2, rfl, Sc2.out⟩
   ·obtain rfl := Option.some.inj hs
    exact ⟨c3, rfl, Sc3.out⟩
   ) Bw3.out.size
  rw [e0] at h
  exact h⟩
 have Bv0 : As (Below W.heap.size W (w3.alloc (.cells (c1 ++ (c2 ++ c3)).toArray 112 (0, 0)))) := ⟨Bw3.out.alloc Bw3.out.size _⟩
 have hy0 : (w3.alloc (.cells (c1 ++ (c2 ++ c3)).toArray 112 (0, 0))).heap.size = w3.heap.size + 1 := by simp
 go_wp2_with (refine wpList_buildRow rfl 94 112 3 _ rfl 6 i1 _ Tryz.underlying94 hi1 ha0 ha1 (by omega) (by omega) [.agg c1.toArray, .agg c2.toArray, .agg c3.toArray] (by simp [Act.eval, Act.put]) rfl (fun v hv => by
  simp only [List.mem_cons, List.not_mem_nil, or_false] at hv
  rcases hv with rfl | rfl | rfl <;> simp [Value.cells, Sc1.out.len, Sc2.out.len, Sc3.out.len]) ?_; simp only [List.flatMap_cons, List.flatMap_nil, List.append_nil, Value.cells, List.toList_toArray])
 clear e0
 generalize w3.alloc (.cells (c1 ++ (c2 ++ c3)).toArray 112 (0, 0)) = v0 at *
 obtain ⟨g0, hg0⟩ : ∃ g, g = w3.heap.size := ⟨_, rfl⟩
 rw [← hg0] at P0 ⊢
 have HG0 := As.mk hg0
 clear hg0
 refine (work_a 1 1 [98] (byteOk_of (by decide)) true _).mono ?_
 rintro e w4 ⟨⟨c4, rfl, s1⟩, q1⟩
 have hs0 := Bv0.out.size
 have hz4 := q1.size
 have Bw4 : As (Below W.heap.size W w4) := ⟨Bv0.out.trans (q1.mono hs0)⟩
 have P0 := As.mk (P0.out.keep (W' := w4) (fun k hk hl => q1.block k hl) q1.size)
 have Sc4 : As (StpAt w4 (fun k => W.heap.size ≤ k ∧ k < w4.heap.size) ⟨1, 1, [98], true⟩ c4) := ⟨s1.mono (fun k hk hl => ⟨Nat.le_trans hs0 hk, hl⟩)⟩
 clear s1 q1 hs0
 go_wp2_with fail
 refine (work_a 5 1 [] (byteOk_of (by decide)) true _).mono ?_
 rintro e w5 ⟨⟨c5, rfl, s1⟩, q1⟩
 have hs0 := Bw4.out.size
 have hz5 := q1.size
 have Bw5 : As (Below W.heap.size W w5) := ⟨Bw4.out.trans (q1.mono hs0)⟩
 have Sc4 := As.mk ((Sc4.out.keep (W' := w5) (fun k hk hl => q1.block k hl) q1.size).mono (own' := fun k => W.heap.size ≤ k ∧ k < w5.heap.size) (fun k hk hl => ⟨hk.1, hl⟩))
 have P0 := As.mk (P0.out.keep (W' := w5) (fun k hk hl => q1.block k hl) q1.size)
 have Sc5 : As (StpAt w5 (fun k => W.heap.size ≤ k ∧ k < w5.heap.size) ⟨5, 1, [], true⟩ c5) := ⟨s1.mono (fun k hk hl => ⟨Nat.le_trans hs0 hk, hl⟩)⟩
 clear s1 q1 hs0
 go_wp2_with fail
 refine (work_a 4 0 [] (byteOk_of (by decide)) true _).mono ?_
 rintro e w6 ⟨⟨c6, rfl, s1⟩, q1⟩
 have hs0 := Bw5.out.size
 have hz6 := q1.size
 have Bw6 : As (Below W.heap.size W w6) := ⟨Bw5.out.trans (q1.mono hs0)⟩
 have Sc4 := As.mk ((Sc4.out.keep (W' := w6) (fun k hk hl => q1.block k hl) q1.size).mono (own' := fun k => W.heap.size ≤ k ∧ k < w6.heap.size) (fun k hk hl => ⟨hk.1, hl⟩))
 have Sc5 := As.mk ((Sc5.out.keep (W' := w6) (fun k hk hl => q1.block k hl) q1.size).mono (own' := fun k => W.heap.size ≤ k ∧ k < w6.heap.size) (fun k hk hl => ⟨hk.1, hl⟩))
 have P0 := As.mk (P0.out.keep (W' := w6) (fun k hk hl => q1.block k hl) q1.size)
 have Sc6 : As (StpAt w6 (fun k => W.heap.size ≤ k ∧ k < w6.heap.size) ⟨4, 0, [], true⟩ c6) := ⟨s1.mono (fun k hk hl => ⟨Nat.le_trans hs0 hk, hl⟩)⟩
 clear s1 q1 hs0
 have e1 : ([c4, c5, c6] : List (List Value)).flatten = c4 ++ (c5 ++ c6) := by simp
 have P1 : As (PlanAt (w6.alloc (.cells (c4 ++ (c5 ++ c6)).toArray 112 (0, 0))) (fun k => W.heap.size ≤ k ∧ k < w6.heap.size + 1) (.slice (some ⟨w6.heap.size, 0, none⟩) 3 3) [⟨1, 1, [98], true⟩, ⟨5, 1, [], true⟩, ⟨4, 0, [], true⟩]) := ⟨by
  have h := plan_new (w := w6) (B := W.heap.size) (n := 3) (p := ([⟨1, 1, [98], true⟩, ⟨5, 1, [], true⟩, ⟨4, 0, [], true⟩] : List Stp)) [c4, c5, c6] rfl rfl (by omega) (fun i s hs => by
   have hi := (List.getElem?_eq_some_iff.1 hs).1
   rcases (show i = 0 ∨ i = 1 ∨ i = 2 by simp at hi; omega) with rfl | rfl | rfl
   ·obtain rfl := Option.some.inj hs
    exact ⟨c4, rfl, Sc4.out⟩
   ·obtain rfl := Option.some.inj hs
    exact ⟨c5, rfl, Sc5.out⟩
   ·obtain rfl := Option.some.inj hs
    exact ⟨c6, rfl, Sc6.out⟩
   ) Bw6.out.size
  rw [e1] at h
  exact h⟩
 have P0 := As.mk (P0.out.keep (W' := w6.alloc (.cells (c4 ++ (c5 ++ c6)).toArray 112 (0, 0))) (fun k hk hl => Below.heap_alloc _ _ _ hl) (by simp))
 have Bv1 : As (Below W.heap.size W (w6.alloc (.cells (c4 ++ (c5 ++ c6)).toArray 112 (0, 0)))) := ⟨Bw6.out.alloc Bw6.out.size _⟩
 have hy1 : (w6.alloc (.cells (c4 ++ (c5 ++ c6)).toArray 112 (0, 0))).heap.size = w6.heap.size + 1 := by simp
 go_wp2_with (refine wpList_buildRow rfl 94 112 3 _ rfl 6 i1 _ Tryz.underlying94 hi1 ha0 ha1 (by omega) (by omega) [.agg c4.toArray, .agg c5.toArray, .agg c6.toArray] (by simp [Act.eval, Act.put]) rfl (fun v hv => by
  simp only [List.mem_cons, List.not_mem_nil, or_false] at hv
  rcases hv with rfl | rfl | rfl <;> simp [Value.cells, Sc4.out.len, Sc5.out.len, Sc6.out.len]) ?_; simp only [List.flatMap_cons, List.flatMap_nil, List.append_nil, Value.cells, List.toList_toArray])
 clear e1
 generalize w6.alloc (.cells (c4 ++ (c5 ++ c6)).toArray 112 (0, 0)) = v1 at *
 obtain ⟨g1, hg1⟩ : ∃ g, g = w6.heap.size := ⟨_, rfl⟩
 rw [← hg1] at P1 ⊢
 have HG1 := As.mk hg1
 clear hg1
 refine (work_a 3 1 [97, 110, 110] (byteOk_of (by decide)) true _).mono ?_
 rintro e w7 ⟨⟨c7, rfl, s1⟩, q1⟩
 have hs0 := Bv1.out.size
 have hz7 := q1.size
 have Bw7 : As (Below W.heap.size W w7) := ⟨Bv1.out.trans (q1.mono hs0)⟩
 have P0 := As.mk (P0.out.keep (W' := w7) (fun k hk hl => q1.block k hl) q1.size)
 have P1 := As.mk (P1.out.keep (W' := w7) (fun k hk hl => q1.block k hl) q1.size)
 have Sc7 : As (StpAt w7 (fun k => W.heap.size ≤ k ∧ k < w7.heap.size) ⟨3, 1, [97, 110, 110], true⟩ c7) := ⟨s1.mono (fun k hk hl => ⟨Nat.le_trans hs0 hk, hl⟩)⟩
 clear s1 q1 hs0
 go_wp2_with fail
 refine (work_a 4 0 [] (byteOk_of (by decide)) true _).mono ?_
 rintro e w8 ⟨⟨c8, rfl, s1⟩, q1⟩
 have hs0 := Bw7.out.size
 have hz8 := q1.size
 have Bw8 : As (Below W.heap.size W w8) := ⟨Bw7.out.trans (q1.mono hs0)⟩
 have Sc7 := As.mk ((Sc7.out.keep (W' := w8) (fun k hk hl => q1.block k hl) q1.size).mono (own' := fun k => W.heap.size ≤ k ∧ k < w8.heap.size) (fun k hk hl => ⟨hk.1, hl⟩))
 have P0 := As.mk (P0.out.keep (W' := w8) (fun k hk hl => q1.block k hl) q1.size)
 have P1 := As.mk (P1.out.keep (W' := w8) (fun k hk hl => q1.block k hl) q1.size)
 have Sc8 : As (StpAt w8 (fun k => W.heap.size ≤ k ∧ k < w8.heap.size) ⟨4, 0, [], true⟩ c8) := ⟨s1.mono (fun k hk hl => ⟨Nat.le_trans hs0 hk, hl⟩)⟩
 clear s1 q1 hs0
 go_wp2_with fail
 refine (work_a 6 0 [104, 105] (byteOk_of (by decide)) false _).mono ?_
 rintro e w9 ⟨⟨c9, rfl, s1⟩, q1⟩
 have hs0 := Bw8.out.size
 have hz9 := q1.size
 have Bw9 : As (Below W.heap.size W w9) := ⟨Bw8.out.trans (q1.mono hs0)⟩
 have Sc7 := As.mk ((Sc7.out.keep (W' := w9) (fun k hk hl => q1.block k hl) q1.size).mono (own' := fun k => W.heap.size ≤ k ∧ k < w9.heap.size) (fun k hk hl => ⟨hk.1, hl⟩))
 have Sc8 := As.mk ((Sc8.out.keep (W' := w9) (fun k hk hl => q1.block k hl) q1.size).mono (own' := fun k => W.heap.size ≤ k ∧ k < w9.heap.size) (fun k hk hl => ⟨hk.1, hl⟩))
 have P0 := As.mk (P0.out.keep (W' := w9) (fun k hk hl => q1.block k hl) q1.size)
 have P1 := As.mk (P1.out.keep (W' := w9) (fun k hk hl => q1.block k hl) q1.size)
 have Sc9 : As (StpAt w9 (fun k => W.heap.size ≤ k ∧ k < w9.heap.size) ⟨6, 0, [104, 105], false⟩ c9) := ⟨s1.mono (fun k hk hl => ⟨Nat.le_trans hs0 hk, hl⟩)⟩
 clear s1 q1 hs0
 go_wp2_with fail
 refine (work_a 1 2 [98] (byteOk_of (by decide)) true _).mono ?_
 rintro e w10 ⟨⟨c10, rfl, s1⟩, q1⟩
 have hs0 := Bw9.out.size
 have hz10 := q1.size
 have Bw10 : As (Below W.heap.size W w10) := ⟨Bw9.out.trans (q1.mono hs0)⟩
 have Sc7 := As.mk ((Sc7.out.keep (W' := w10) (fun k hk hl => q1.block k hl) q1.size).mono (own' := fun k => W.heap.size ≤ k ∧ k < w10.heap.size) (fun k hk hl => ⟨hk.1, hl⟩))
 have Sc8 := As.mk ((Sc8.out.keep (W' := w10) (fun k hk hl => q1.block k hl) q1.size).mono (own' := fun k => W.heap.size ≤ k ∧ k < w10.heap.size) (fun k hk hl => ⟨hk.1, hl⟩))
 have Sc9 := As.mk ((Sc9.out.keep (W' := w10) (fun k hk hl => q1.block k hl) q1.size).mono (own' := fun k => W.heap.size ≤ k ∧ k < w10.heap.size) (fun k hk hl => ⟨hk.1, hl⟩))
 have P0 := As.mk (P0.out.keep (W' := w10) (fun k hk hl => q1.block k hl) q1.size)
 have P1 := As.mk (P1.out.keep (W' := w10) (fun k hk hl => q1.block k hl) q1.size)
 have Sc10 : As (StpAt w10 (fun k => W.heap.size ≤ k ∧ k < w10.heap.size) ⟨1, 2, [98], true⟩ c10) := ⟨s1.mono (fun k hk hl => ⟨Nat.le_trans hs0 hk, hl⟩)⟩
 clear s1 q1 hs0
 have e2 : ([c7, c8, c9, c10] : List (List Value)).flatten = c7 ++ (c8 ++ (c9 ++ c10)) := by simp
 have P2 : As (PlanAt (w10.alloc (.cells (c7 ++ (c8 ++ (c9 ++ c10))).toArray 112 (0, 0))) (fun k => W.heap.size ≤ k ∧ k < w10.heap.size + 1) (.slice (some ⟨w10.heap.size, 0, none⟩) 4 4) [⟨3, 1, [97, 110, 110], true⟩, ⟨4, 0, [], true⟩, ⟨6, 0, [104, 105], false⟩, ⟨1, 2, [98], true⟩]) := ⟨by
  have h := plan_new (w := w10) (B := W.heap.size) (n := 4) (p := ([⟨3, 1, [97, 110, 110], true⟩, ⟨4, 0, [], true⟩, ⟨6, 0, [104, 105], false⟩, ⟨1, 2, [98], true⟩] : List Stp)) [c7, c8, c9, c10] rfl rfl (by omega) (fun i s hs => by
   have hi := (List.getElem?_eq_some_iff.1 hs).1
   rcases (show i = 0 ∨ i = 1 ∨ i = 2 ∨ i = 3 by simp at hi; omega) with rfl | rfl | rfl | rfl
   ·obtain rfl := Option.some.inj hs
    exact ⟨c7, rfl, Sc7.out⟩
   ·obtain rfl := Option.some.inj hs
    exact ⟨c8, rfl, Sc8.out⟩
   ·obtain rfl := Option.some.inj hs
    exact ⟨c9, rfl, Sc9.out⟩
   ·obtain rfl := Option.some.inj hs
    exact ⟨c10, rfl, Sc10.out⟩
   ) Bw10.out.size
  rw [e2] at h
  exact h⟩
 have P0 := As.mk (P0.out.keep (W' := w10.alloc (.cells (c7 ++ (c8 ++ (c9 ++ c10))).toArray 112 (0, 0))) (fun k hk hl => Below.heap_alloc _ _ _ hl) (by simp))
 have P1 := As.mk (P1.out.keep (W' := w10.alloc (.cells (c7 ++ (c8 ++ (c9 ++ c10))).toArray 112 (0, 0))) (fun k hk hl => Below.heap_alloc _ _ _ hl) (by simp))
 have Bv2 : As (Below W.heap.size W (w10.alloc (.cells (c7 ++ (c8 ++ (c9 ++ c10))).toArray 112 (0, 0)))) := ⟨Bw10.out.alloc Bw10.out.size _⟩
 have hy2 : (w10.alloc (.cells (c7 ++ (c8 ++ (c9 ++ c10))).toArray 112 (0, 0))).heap.size = w10.heap.size + 1 := by simp
 go_wp2_with (first | (refine wpList_buildRow rfl 94 112 4 _ rfl 6 i1 _ Tryz.underlying94 hi1 ha0 ha1 (by omega) (by omega) [.agg c7.toArray, .agg c8.toArray, .agg c9.toArray, .agg c10.toArray] (by simp [Act.eval, Act.put]) rfl (fun v hv => by
  simp only [List.mem_cons, List.not_mem_nil, or_false] at hv
  rcases hv with rfl | rfl | rfl | rfl <;> simp [Value.cells, Sc7.out.len, Sc8.out.len, Sc9.out.len, Sc10.out.len]) ?_) | (refine wpList_buildRow rfl 33 94 3 _ rfl 1 i2 _ Tryz.underlying33 hi2 hb0 hb1 (by omega) (by omega) [.slice (some ⟨g0, 0, none⟩) 3 3, .slice (some ⟨g1, 0, none⟩) 3 3, .slice (some ⟨w10.heap.size, 0, none⟩) 4 4] (by simp [Act.eval, Act.put]) rfl (three_cells _ _ _ _ _ _) ?_))
 have hx : (w10.alloc (.cells (c7 ++ (c8 ++ (c9 ++ c10))).toArray 112 (0, 0))).heap.size = w10.heap.size + 1 := hy2
 generalize w10.alloc (.cells (c7 ++ (c8 ++ (c9 ++ c10))).toArray 112 (0, 0)) = v2 at *
 rw [← hx]
 go_ret
 have hg0 := HG0.out
 have hg1 := HG1.out
 have kp : ∀ {b : Nat} {v : Value} {p : List Stp}, b ≤ w10.heap.size → PlanAt v2 (fun k => W.heap.size ≤ k ∧ k < b + 1) v p → PlanAt (v2.alloc (.cells #[.slice (some ⟨g0, 0, none⟩) 3 3, .slice (some ⟨g1, 0, none⟩) 3 3, .slice (some ⟨w10.heap.size, 0, none⟩) 4 4] 94 (0, 0))) (fun k => (W.heap.size ≤ k ∧ k < v2.heap.size + 1) ∧ ¬ (Value.slice (some ⟨v2.heap.size, 0, none⟩) 3 3).ownBlock = some k) v p := fun hb h =>
  (h.keep (fun k _ hk => Below.heap_alloc _ _ _ hk) (by simp)).mono (fun k hk _ => ⟨⟨hk.1, by omega⟩, fun e => by have := ob_eq e; omega⟩)
 refine ⟨_, rfl, ⟨[.slice (some ⟨g0, 0, none⟩) 3 3, .slice (some ⟨g1, 0, none⟩) 3 3, .slice (some ⟨w10.heap.size, 0, none⟩) 4 4], rfl, World.ownsRow_lit (base := 0) v2 #[.slice (some ⟨g0, 0, none⟩) 3 3, .slice (some ⟨g1, 0, none⟩) 3 3, .slice (some ⟨w10.heap.size, 0, none⟩) 4 4] 3 (Nat.zero_le _) (by unfold maxLen; omega) rfl, fun g hg => by rw [← ob_eq hg]; exact ⟨Bv2.out.size, by simp⟩, fun i p hp => ?_⟩, Bv2.out.alloc Bv2.out.size _⟩
 have hi := (List.getElem?_eq_some_iff.1 hp).1
 have hsz : (v2.alloc (.cells #[.slice (some ⟨g0, 0, none⟩) 3 3, .slice (some ⟨g1, 0, none⟩) 3 3, .slice (some ⟨w10.heap.size, 0, none⟩) 4 4] 94 (0, 0))).heap.size = v2.heap.size + 1 := by simp
 rw [hsz]
 rcases (show i = 0 ∨ i = 1 ∨ i = 2 by simp [planL] at hi; omega) with rfl | rfl | rfl
 ·obtain rfl := Option.some.inj hp
  exact ⟨_, rfl, kp (b := g0) (by omega) P0.out⟩
 ·obtain rfl := Option.some.inj hp
  exact ⟨_, rfl, kp (b := g1) (by omega) P1.out⟩
 ·obtain rfl := Option.some.inj hp
  exact ⟨_, rfl, kp (b := w10.heap.size) (Nat.le_refl _) P2.out⟩
end Go.Proofs.YthfjhgdiakciaaaGreat.Bl
