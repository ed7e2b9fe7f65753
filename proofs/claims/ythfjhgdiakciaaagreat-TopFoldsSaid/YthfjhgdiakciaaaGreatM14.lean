/- All entries of a journal (From, from number 0 on); all is safe (Flush). Condition: the journal lies in memory as it is told. -/
import Derived.Laws.LoneSync
import Derived.Maps.OwnSet
import Derived.Lib.LazyBuf
import Derived.StringKeys
import Derived.Test.YthfjhgdiakciaaaGreatM11
import Derived.Test.YthfjhgdiakciaaaGreatM12
import Derived.Test.YthfjhgdiakciaaaGreatM13
namespace Go.Proofs.YthfjhgdiakciaaaGreat.Bl
open Go.RowKit
set_option linter.unusedVariables false
set_option linter.unusedSimpArgs false
def allE (segs : List Seg) : List Ent := segs.flatMap (·.l)
theorem wpList_build35 {ops : Array Oper} {rest : List Oper} {o : Oper} {a : Act} {w : World} {Q : Exit → Act → World → Prop} (hg : o.guard = none) (x : Operand) (ho : o.op = .buildSlice 35 1 #[(0, x)]) (cs : List Value) (hx : a.eval x = .agg cs.toArray) (hl : cs.length = 11)
  (h : wpList Tryz.prog ops Q rest (a.put o.dst (.slice (some ⟨w.heap.size, 0, none⟩) 1 1)) (w.alloc (.cells cs.toArray 41 (0, 0)))) : wpList Tryz.prog ops Q (o :: rest) a w :=
 wpList_plain hg fun _ hK => wp_build35 x ho cs hx hl (hK _ _ h)
/-- A row of entries that is new since W, one entry more. -/
theorem EntRow.more {W w w1 w2 : World} {v : Value} {l : List Ent} {g cap : Nat} {e : Ent} {c : List Value} {cs : List (List Value)}
  (h1 : cs.length = l.length) (h4 : ∀ (i : Nat) (e : Ent), l[i]? = some e → ∃ c, cs[i]? = some c ∧ EntAt w (fun k => (W.heap.size ≤ k ∧ k < w.heap.size) ∧ ¬ v.ownBlock = some k) e c)
  (he : EntAt w (fun k => (W.heap.size ≤ k ∧ k < w.heap.size) ∧ ¬ v.ownBlock = some k) e c) (hn : w2.ownsRow 0 41 11 (.slice (some ⟨g, 0, none⟩) (l.length + 1) cap) (l.length + 1) (cs.flatten ++ c))
  (hg : w.grownBy w1 none) (hg2 : w1.grownBy w2 v.ownBlock) (hgg : v.ownBlock = some g ∨ w.heap.size ≤ g) (hgl : g < w2.heap.size) (hvo : ∀ k, v.ownBlock = some k → W.heap.size ≤ k) (hW : W.heap.size ≤ w.heap.size) :
  EntRow w2 (fun k => W.heap.size ≤ k ∧ k < w2.heap.size) (.slice (some ⟨g, 0, none⟩) (l.length + 1) cap) (l ++ [e]) := by
 have hs1 := hg.size
 have hs2 := hg2.size
 have key : ∀ {e : Ent} {c : List Value}, EntAt w (fun k => (W.heap.size ≤ k ∧ k < w.heap.size) ∧ ¬ v.ownBlock = some k) e c → EntAt w2 (fun k => (W.heap.size ≤ k ∧ k < w2.heap.size) ∧ ¬ (Value.slice (some ⟨g, 0, none⟩) (l.length + 1) cap).ownBlock = some k) e c := fun h =>
  (h.keep (W' := w2) (fun k hk hlk => (hg2.block k (by omega) (fun h => hk.2 h.symm)).trans (hg.block k hlk (fun h => by cases h))) (by omega)).mono (fun k hk _ => ⟨⟨hk.1.1, by omega⟩, fun h => by
   have h := ob_eq h
   rcases hgg with h2 | h2
   ·exact hk.2 (h ▸ h2)
   ·omega⟩)
 refine EntRow.app (cs := cs) h1 (fun i x hx => ?_) hn ⟨?_, hgl⟩ (key he)
 ·obtain ⟨y, a, b⟩ := h4 i x hx
  exact ⟨y, a, key b⟩
 ·rcases hgg with h | h
  ·exact hvo g h
  ·omega
set_option maxHeartbeats 4000000 in
set_option maxRecDepth 100000 in
theorem from_a {W : World} {OS : Nat → Prop} {jb db : Nat} {vs : Value} {safe : Int} {segs : List Seg} (h : JBlk W jb db vs safe) (hv : JV W OS vs segs) (ho : SegsOk segs) (hsl : segs.length < 1000) (hlen : (allE segs).length < 5000) :
  Calls Tryz.prog 16 #[.pointer (some ⟨jb, 0, none⟩), .int .u64 0, .int .i64 10000] W fun x W' => ∃ v, x = .returned v ∧ EntRow W' (fun k => W.heap.size ≤ k ∧ k < W'.heap.size) v (allE segs) ∧ Below W.heap.size W W' := by
 obtain ⟨j0, j1, j2, j3, j4⟩ := h.cells
 have HS := As.mk (state_a h)
 obtain ⟨psv, hpl, hrow, hvo, ⟨Av, cv, rfl⟩, hsegs⟩ := hv.row
 have HROW := As.mk hrow
 have HSEGS := As.mk hsegs
 have HO := As.mk ho
 clear h hv hrow hsegs hvo ho
 go_enter Tryz.func16, Tryz.ntmps16
 go_wp2_with fail
 refine HS.out.mono ?_
 rintro e w1 ⟨rfl, rfl⟩
 go_wp2_with fail
 go_loopg [7, 20] segs.length (fun gk v7 v20 w' => ∃ (i : Nat) (v : Value), v20 = .int .i64 i ∧ v7 = v ∧ As (gk = segs.length - i) ∧ As (i ≤ segs.length) ∧ As (EntRow w' (fun k => W.heap.size ≤ k ∧ k < w'.heap.size) v (allE (segs.take i))) ∧ As (Below W.heap.size W w'))
 case atStart => exact ⟨0, _, rfl, rfl, ⟨rfl⟩, ⟨Nat.zero_le _⟩, ⟨EntRow.nil _ _⟩, ⟨Below.refl _ _⟩⟩
 case round =>
  obtain ⟨i, v, rfl, hv7, HK, HI, HR, HB⟩ := hrel
  have hv7 := hv7.symm
  subst hv7
  have hs := HB.out.size
  by_cases hlt : i < segs.length
  ·obtain ⟨q, hq, hseg⟩ := HSEGS.out i segs[i] (List.getElem?_eq_getElem hlt)
   obtain ⟨ok, hno⟩ := HO.out.all i segs[i] (List.getElem?_eq_getElem hlt)
   obtain ⟨g, cg, hvv, _, hgl⟩ := HROW.out.form (by omega)
   injection hvv with e1 _ e2
   subst e1 e2
   have hc : W.cell? ⟨g, i, none⟩ = some (ptrV q) := by
    rw [HROW.out.cellAt i (by omega), List.getElem?_map, hq]
    rfl
   have hc' : wr.cell? ⟨g, i, none⟩ = some (ptrV q) := by rw [World.cell?_of_block (w := W) (a := ⟨g, i, none⟩) (HB.out.block g hgl)]; exact hc
   obtain ⟨ve, vl, hat0⟩ := hseg
   have hat := hat0.keep (W' := wr) (fun k _ hk => HB.out.block k hk) hs
   have HAT0 := As.mk hat0
   obtain ⟨_, _, _, k4⟩ := hat.cells
   have hne := ok.ne
   obtain ⟨sg, hsg⟩ : ∃ sg, sg = segs[i] := ⟨_, rfl⟩
   have HSG := As.mk hsg
   rw [← hsg] at HAT0 ok hne
   have hrl := HAT0.out.l
   obtain ⟨cs0, _, hrow0, _⟩ := hrl
   obtain ⟨gl, cl, rfl, _, hgll⟩ := hrow0.form (by omega)
   have hsll := ok.len
   have HOK := As.mk ok
   have hgl' := HB.out.size
   unfold ptrV at hc'
   clear hc hq hat hat0 hsg hrow0 ok
   go_wp2_with fail
   have HALL : As (allE (segs.take (i + 1)) = allE (segs.take i) ++ sg.l) := ⟨by
    unfold allE
    rw [List.take_add_one, List.getElem?_eq_getElem hlt, Option.toList_some, List.flatMap_append, HSG.out]
    congr 1
    simp⟩
   have HLE : As ((allE (segs.take i)).length + sg.l.length < 5000) := ⟨by
    have h1 : segs = segs.take (i + 1) ++ segs.drop (i + 1) := (List.take_append_drop _ _).symm
    have h2 : (allE segs).length = (allE (segs.take (i + 1))).length + (allE (segs.drop (i + 1))).length := by
     conv => lhs; rw [h1]
     unfold allE
     rw [List.flatMap_append, List.length_append]
    rw [HALL.out, List.length_append] at h2
    omega⟩
   generalize hpre : allE (segs.take i) = pre at *
   have HPRE := As.mk hpre
   clear hpre
   have hgllt : gl < W.heap.size := hgll
   go_loopg [7, 29] sg.l.length (fun gk2 v7 v29 w' => ∃ (j : Nat) (v2 : Value), v29 = .int .i64 j ∧ v7 = v2 ∧ As (gk2 = sg.l.length - j) ∧ As (j ≤ sg.l.length) ∧ As (EntRow w' (fun k => W.heap.size ≤ k ∧ k < w'.heap.size) v2 (pre ++ sg.l.take j)) ∧ As (Below W.heap.size W w'))
   case atStart => exact ⟨0, _, rfl, rfl, ⟨rfl⟩, ⟨Nat.zero_le _⟩, ⟨by rw [List.take_zero, List.append_nil]; exact HR.out⟩, HB⟩
   case round =>
    obtain ⟨j, v2, rfl, hv2, HK2, HI2, HR2, HB2⟩ := hrel
    have hv2 := hv2.symm
    subst hv2
    have hs2 := HB2.out.size
    have hj2 := HI2.out
    by_cases hlt2 : j < sg.l.length
    ·have hAT := HAT0.out.keep (W' := wr) (fun k _ hk => HB2.out.block k hk) hs2
     obtain ⟨x, hx, hr⟩ := hAT.l.at (List.getElem?_eq_getElem hlt2)
     have HX := As.mk hx
     have hRng := As.mk hr
     have hxl := hx.len
     have hxone := hx.one
     have hokE := HOK.out.ok sg.l[j] (List.getElem_mem hlt2)
     have hlsn := HOK.out.lsn j sg.l[j] (List.getElem?_eq_getElem hlt2)
     obtain ⟨e, he⟩ : ∃ e, e = sg.l[j] := ⟨_, rfl⟩
     have HEE := As.mk he
     rw [← he] at HX hokE hlsn
     have hx1 : x.toArray[1]? = some (.int .u64 e.lsn) := by
      obtain ⟨_, _, _, _, hh, _⟩ := HX.out
      rw [hh]
      rfl
     have hls0 : ¬ e.lsn < 0 := by omega
     have hkd : e.key.length ≤ 1000000 ∧ e.data.length ≤ 1000000 := by
      rcases hokE.kind with ⟨_, a, b, _⟩ | ⟨_, a, b, _⟩ | ⟨_, a, b, _⟩
      ·omega
      ·rw [a, b]; exact ⟨Nat.zero_le _, Nat.zero_le _⟩
      ·rw [a, b]; exact ⟨Nat.zero_le _, Nat.zero_le _⟩
     obtain ⟨cs2, hc1, hrow2, hvo2, hc4⟩ := HR2.out
     have HROW2 := As.mk hrow2
     have HC4 := As.mk hc4
     have HVO2 := As.mk hvo2
     have hprel : (pre ++ sg.l.take j).length < 5000 := by have := HLE.out; rw [List.length_append, List.length_take]; omega
     obtain ⟨A2, c2, hv2'⟩ : ∃ A c, v2 = .slice A (pre ++ sg.l.take j).length c := by
      rcases hrow2.2 with ⟨hv, h0⟩ | ⟨g, cap, _, hv, _⟩
      ·rw [h0]; exact ⟨_, _, hv⟩
      ·exact ⟨_, _, hv⟩
     have hs41 : (Tryz.prog.info? 41).map (·.size) = some x.length := by rw [hxl]; exact size41
     have hz : ∀ w, (zeroValue 41).run Tryz.prog w = .ok (.agg zero41) w := fun w => by kernel_rfl
     clear hx hr hrow2 hc4 hvo2 he
     generalize hM : pre ++ sg.l.take j = M at *
     have HM := As.mk hM
     clear hM
     subst hv2'
     go_upto_region 10 with (first | (refine wpList_load_mid rfl 41 (.tmp 31) rfl gl (j * 11) rfl x _ hRng.out Tryz.underlying41 rfl hs41 ?_) | (refine wpList_store_mid rfl 41 (.tmp 11) (.tmp 32) rfl wr.heap.size 0 x.toArray rfl rfl (there_block (blk_new wr _) 0 _ (by rw [List.size_toArray, hxl]; decide)) (by rw [List.size_toArray]; exact hs41) (all_oneCell_toArray hxone) ?_))
     obtain ⟨b11, hb11⟩ : ∃ b11, b11 = wr.heap.size := ⟨_, rfl⟩
     have hsz3 : As (((wr.alloc (.cells zero41 41)).setCells wr.heap.size 0 x).heap.size = wr.heap.size + 1) := ⟨by rw [setCells_size]; simp⟩
     have h11 : As (((wr.alloc (.cells zero41 41)).setCells wr.heap.size 0 x).heap[wr.heap.size]? = some (.cells x.toArray 41 (0, 0))) := ⟨row_over (xs := zero41) (t := 41) (blk_new wr _) (by rw [hxl]; rfl)⟩
     have B3 : As (Below wr.heap.size wr ((wr.alloc (.cells zero41 41)).setCells wr.heap.size 0 x)) := ⟨((Below.refl _ wr).alloc (Nat.le_refl _) _).trans (setCells_below _ (Nat.le_refl _))⟩
     generalize (wr.alloc (.cells zero41 41)).setCells wr.heap.size 0 x = w3 at *
     rw [← hb11] at h11 ⊢
     have HB11 := As.mk hb11
     have k1 : w3.cell? ⟨b11, 1, none⟩ = some (.int .u64 e.lsn) := by rw [blk_cell h11.out]; exact hx1
     have X3 := As.mk (HX.out.keep (W' := w3) (fun k hk hlk => B3.out.block k hlk) B3.out.size)
     clear hb11 hz
     have hlt5 : ((M.length : Int)) < 10000 := by omega
     go_wp2_with (refine wpList_load_row rfl 41 (.tmp 11) rfl b11 rfl 41 _ _ _ h11.out Tryz.underlying41 rfl (by rw [List.size_toArray]; exact hs41) ?_)
     refine (ownE_a X3.out hkd.1 hkd.2).mono ?_
     rintro y w4 ⟨cE, rfl, q1, q2⟩
     have E4 := As.mk q1
     have B4 := As.mk q2
     have hcE := q1.len
     have hcone := q1.one
     have hs4 := q2.size
     have hs3 := B3.out.size
     have hr4 : As (w4.ownsRow 0 41 11 (.slice A2 M.length c2) M.length cs2.flatten) := ⟨own_keep HROW2.out (fun g' _ hl => (q2.block g' (by omega)).trans (B3.out.block g' hl))⟩
     obtain ⟨i1, hi1, hz0, hz1, hz2⟩ := info_parts info41
     have hr5 : As ((w4.alloc (.cells cE.toArray 41 (0, 0))).ownsRow 0 41 11 (.slice A2 M.length c2) M.length cs2.flatten) := ⟨hr4.out.alloc _⟩
     clear q1 q2 k1
     go_wp2_with (first | (refine wpList_build35 rfl (.tmp 45) rfl cE rfl hcE ?_) | ((at_builtin; refine wpList_append_lies _ rfl _ _ 35 rfl 0 41 i1 _ 11 112 Tryz.underlying35 hi1 hz0 hz1 hz2 rfl (by omega) _ _ _ rfl hr5.out ⟨w4.heap.size, 0, none⟩ 1 1 cE rfl (by rw [hcE]) (World.news_of_block (blk_new w4 _)) hcone (by omega) (by unfold maxLen; omega) (by omega) (Nat.zero_le _) _ rfl ?_)))
     intro gg cap w6 q1 q2 q3 q4
     have hWr := HB2.out.size
     have hvl : ∀ k, (Value.slice A2 M.length c2).ownBlock = some k → k < wr.heap.size := fun k hk => own_lt HROW2.out k hk
     have HR6 : As (EntRow w6 (fun k => W.heap.size ≤ k ∧ k < w6.heap.size) (.slice (some ⟨gg, 0, none⟩) (M.length + 1) cap) (M ++ [e])) := ⟨EntRow.more (W := W) (w := w4) (v := .slice A2 M.length c2) hc1 (fun i2 x2 hx2 => by
       obtain ⟨y2, a, b⟩ := HC4.out i2 x2 hx2
       exact ⟨y2, a, (b.keep (W' := w4) (fun k hk hlk => (B4.out.block k (by omega)).trans (B3.out.block k hlk)) (by omega)).mono (fun k hk hlk => ⟨⟨hk.1.1, hlk⟩, hk.2⟩)⟩)
      (E4.out.mono (fun k hk _ => ⟨⟨by omega, hk.2⟩, fun h => by have := hvl k h; omega⟩)) q1 (World.grownBy_alloc _ _ _) q2 (by
       rcases q3 with h | h
       ·exact .inl h
       ·exact .inr (by omega)) q4 (fun k hk => (HVO2.out k hk).1) (by omega)⟩
     have HB6 : As (Below W.heap.size W w6) := ⟨(((HB2.out.trans (B3.out.mono hWr)).trans (B4.out.mono (by omega))).alloc (by omega) _).grown q2 (by simp; omega) (fun k hk => (HVO2.out k hk).1)⟩
     clear q1 q2 q3 q4 E4 HROW2 HC4 HVO2 hr4 hr5 HR2 X3
     go_wp2_with fail
     go_roundg (sg.l.length - (j + 1))
     case measure => have := HK2.out; omega
     case rel =>
      have e1 : pre ++ sg.l.take (j + 1) = M ++ [e] := by
       rw [List.take_add_one, List.getElem?_eq_getElem hlt2, ← List.append_assoc, HM.out, HEE.out]
       rfl
      exact ⟨j + 1, _, by go_num, rfl, ⟨rfl⟩, ⟨by omega⟩, ⟨by rw [e1]; exact HR6.out⟩, HB6⟩
    ·have hj : j = sg.l.length := by omega
     subst hj
     have HR3 := HR2.out
     rw [List.take_length, ← HALL.out] at HR3
     have HR3 := As.mk HR3
     clear HR2
     go_wp2_with fail
     go_roundg (segs.length - (i + 1))
     case measure => have := HK.out; omega
     case rel => exact ⟨i + 1, _, by go_num, rfl, ⟨rfl⟩, ⟨by omega⟩, HR3, HB2⟩
  ·have hi : i = segs.length := by have := HI.out; omega
   subst hi
   have HR' := HR.out
   rw [List.take_length] at HR'
   have HR' := As.mk HR'
   clear HR
   go_wp2_with fail
   go_ret
   exact ⟨_, rfl, HR'.out, HB.out⟩
theorem flush_j {W : World} {OD OS : Nat → Prop} {jb db : Nat} {vs : Value} {safe : Int} {segs : List Seg} {s : St} (h : JBlk W jb db vs safe) (hd : Disk W OD db 512 s) (hl : LitS s) (hv : JV W OS vs segs) (ho : SegsOk segs) (hap : Apart W OD OS jb) :
  Calls Tryz.prog 15 #[.pointer (some ⟨jb, 0, none⟩)] W fun x W' => x = .returned (.int .i64 0) ∧ ∃ OD' safe', JBlk W' jb db vs safe' ∧ Disk W' OD' db 512 (flS s) ∧ JV W' OS vs segs ∧ Apart W' OD' OS jb ∧ (∀ k, OD' k → OD k ∨ W.heap.size ≤ k) ∧ Frame (fun k => OD k ∨ OS k ∨ k = jb) W W' := by
 have HS := As.mk (state_a h)
 have HY := As.mk (sync_a h hd hl (fun h => (hap.d jb h).2.2 rfl))
 have HV := As.mk hv
 have HO := As.mk ho
 have HA := As.mk hap
 have hjl := blk_lt h
 clear h hd hv ho hap
 go_enter Tryz.func15, Tryz.ntmps15
 go_wp2_with fail
 refine HS.out.mono ?_
 rintro e w1 ⟨rfl, rfl⟩
 go_wp2_with fail
 refine HY.out.mono ?_
 rintro e w1 ⟨rfl, q1, q2, q3⟩
 have J1 := As.mk q1
 have D1 := As.mk q2
 have F1 := As.mk q3
 have hs1 := q3.low.size
 have V1 : As (JV w1 OS vs segs) := ⟨HV.out.keep (fun k hk hlk => q3.block k hlk (fun h => by
  rcases h with h | h
  ·exact (HA.out.d k h).2.1 hk
  ·subst h; exact HA.out.j hk)) hs1⟩
 clear q1 q2 q3 HS HY
 go_wp2_with fail
 refine (last8_v J1.out V1.out HO.out).mono ?_
 rintro e w2 ⟨rfl, q1⟩
 have hs2 := q1.size
 have J2 : As (JBlk w2 jb db vs safe) := ⟨(q1.block jb (by omega)).trans J1.out⟩
 have B2 := As.mk q1
 obtain ⟨c0, c1, c2, c3, c4⟩ := J2.out.cells
 have f3 := blk_frozen J2.out 3
 clear q1
 go_wp2_with fail
 go_ret
 have hap := HA.out
 have F2 : Frame (fun k => k = jb) w1 (w2.setCell ⟨jb, 3, none⟩ (.int .u64 ((nextL segs - 1 : Nat) : Int))) := (Frame.of_below (own := fun k => k = jb) B2.out (Nat.le_refl _)).setCell (p := ⟨jb, 3, none⟩) (.inl rfl) _
 have hs3 : (w2.setCell ⟨jb, 3, none⟩ (.int .u64 ((nextL segs - 1 : Nat) : Int))).heap.size = w2.heap.size := by simp
 have J3 : JBlk (w2.setCell ⟨jb, 3, none⟩ (.int .u64 ((nextL segs - 1 : Nat) : Int))) jb db vs ((nextL segs - 1 : Nat) : Int) := by
  unfold JBlk
  rw [blk_put J2.out 3]
  rfl
 generalize w2.setCell ⟨jb, 3, none⟩ (.int .u64 ((nextL segs - 1 : Nat) : Int)) = w3 at *
 refine ⟨rfl, (fun k => OD k ∨ (W.heap.size ≤ k ∧ k < w1.heap.size)), _, J3, ?_, ?_, ⟨fun k hk => ?_, fun k hk => by have := hap.s k hk; omega, hap.j⟩, fun k hk => hk.imp id (fun h => h.1), (F1.out.mono (fun k hk => hk.elim .inl (fun h => .inr (.inr h)))).trans F2 (fun k _ hk => .inr (.inr hk))⟩
 ·exact (D1.out.mono (own' := fun k => OD k ∨ (W.heap.size ≤ k ∧ k < w1.heap.size)) (fun k hk hlk => hk.imp id (fun h => ⟨h, hlk⟩))).keep (fun k hk hlk => F2.block k hlk (fun h => by
   subst h
   rcases hk with hk | hk
   ·exact (hap.d _ hk).2.2 rfl
   ·omega))
 ·exact V1.out.keep (fun k hk hlk => F2.block k hlk (fun h => hap.j (h ▸ hk))) (by omega)
 ·rcases hk with hk | hk
  ·have := hap.d k hk
   exact ⟨by omega, this.2⟩
  ·exact ⟨by omega, fun h => by have := hap.s k h; omega, by omega⟩
end Go.Proofs.YthfjhgdiakciaaaGreat.Bl
/- A ledger's rules in memory; the plan of an order (rule, of); a slice of bytes cloned. Condition: the rules lie in memory as it is told. -/
namespace Go.Proofs.YthfjhgdiakciaaaGreat.Bl
open Go.RowKit
set_option linter.unusedVariables false
set_option linter.unusedSimpArgs false
theorem size118 : (Tryz.prog.info? 118).map (·.size) = some 10 := by kernel_rfl
theorem size120 : (Tryz.prog.info? 120).map (·.size) = some 11 := by kernel_rfl
theorem size51 : (Tryz.prog.info? 51).map (·.size) = some 4 := by kernel_rfl
theorem size85 : (Tryz.prog.info? 85).map (·.size) = some 1 := by kernel_rfl
def RuleAt (W : World) (own : Nat → Prop) (q : Nat) (p : List Stp) : Prop := ∃ sv a b c d, W.heap[q]? = some (.cells #[sv, a, b, c, d] 108 (0, 0)) ∧ PlanAt W own sv p
def RulesAt (W : World) (own : Nat → Prop) (pv : Value) (ps : List (List Stp)) : Prop :=
 ∃ qs : List Nat, qs.length = ps.length ∧ W.ownsRow 0 96 1 pv ps.length (qs.map ptrV) ∧ (∀ g, pv.ownBlock = some g → own g) ∧ ∀ (i : Nat) (p : List Stp), ps[i]? = some p → ∃ q, qs[i]? = some q ∧ own q ∧ RuleAt W own q p
theorem RuleAt.keep {W W' : World} {own : Nat → Prop} {q : Nat} {p : List Stp} (h : RuleAt W own q p) (ho : own q) (hk : ∀ k, own k → k < W.heap.size → W'.heap[k]? = W.heap[k]?) (hs : W.heap.size ≤ W'.heap.size) : RuleAt W' own q p := by
 obtain ⟨sv, a, b, c, d, h1, h2⟩ := h
 exact ⟨sv, a, b, c, d, (hk q ho (blk_lt h1)).trans h1, h2.keep hk hs⟩
theorem RuleAt.mono {W : World} {own own' : Nat → Prop} {q : Nat} {p : List Stp} (h : RuleAt W own q p) (hs : ∀ k, own k → k < W.heap.size → own' k) : RuleAt W own' q p := by
 obtain ⟨sv, a, b, c, d, h1, h2⟩ := h
 exact ⟨sv, a, b, c, d, h1, h2.mono hs⟩
theorem RulesAt.keep {W W' : World} {own : Nat → Prop} {pv : Value} {ps : List (List Stp)} (h : RulesAt W own pv ps) (hk : ∀ k, own k → k < W.heap.size → W'.heap[k]? = W.heap[k]?) (hs : W.heap.size ≤ W'.heap.size) : RulesAt W' own pv ps := by
 obtain ⟨qs, h1, h2, h3, h4⟩ := h
 refine ⟨qs, h1, own_keep h2 (fun g hg hl => hk g (h3 g hg) hl), h3, fun i p hp => ?_⟩
 obtain ⟨q, a, b, c⟩ := h4 i p hp
 exact ⟨q, a, b, c.keep b hk hs⟩
theorem RulesAt.mono {W : World} {own own' : Nat → Prop} {pv : Value} {ps : List (List Stp)} (h : RulesAt W own pv ps) (hs : ∀ k, own k → k < W.heap.size → own' k) : RulesAt W own' pv ps := by
 obtain ⟨qs, h1, h2, h3, h4⟩ := h
 refine ⟨qs, h1, h2, fun g hg => hs g (h3 g hg) (own_lt h2 g hg), fun i p hp => ?_⟩
 obtain ⟨q, a, b, c⟩ := h4 i p hp
 refine ⟨q, a, hs q b ?_, c.mono hs⟩
 obtain ⟨_, _, _, _, _, h1, _⟩ := c
 exact blk_lt h1
set_option maxHeartbeats 1000000 in
set_option maxRecDepth 100000 in
theorem rule_a {W : World} {own : Nat → Prop} {pv : Value} {ps : List (List Stp)} (h : RulesAt W own pv ps) (hl : ps.length ≤ 8) {i : Nat} {p : List Stp} (hp : ps[i]? = some p) {A : Option Addr} (hb : Bytes W A [(i : Int)]) (c : Nat) :
  Calls Tryz.prog 78 #[.agg #[pv], .slice A 1 c] W fun e W' => (∃ q, e = .returned (ptrV q) ∧ own q ∧ RuleAt W own q p) ∧ Below W.heap.size W W' := by
 obtain ⟨qs, h1, h2, h3, h4⟩ := h
 obtain ⟨q, hq, ho, hr⟩ := h4 i p hp
 have hil := (List.getElem?_eq_some_iff.1 hp).1
 obtain ⟨g, cg, rfl, _, hgl⟩ := h2.form (by omega)
 have k1 : W.cell? ⟨g, i, none⟩ = some (ptrV q) := by
  rw [h2.cellAt i (by omega), List.getElem?_map, hq]
  rfl
 obtain ⟨qd, od, rfl, hqd, hrd⟩ := hb.2 (by simp)
 have k2 : W.cell? ⟨qd, od, none⟩ = some (.int .u8 i) := hrd 0 _ rfl
 have HR : As (own q ∧ RuleAt W own q p) := ⟨ho, hr⟩
 have hd : decide (ps.length ≤ i) = false := by simp; omega
 clear h1 h2 h3 h4 hq ho hr hb hrd hp
 generalize ps.length = n at *
 unfold ptrV at k1
 go_enter Tryz.func78, Tryz.ntmps78
 go_wp2_with fail
 go_region
 go_wp2_with fail
 go_region
 go_wp2_with fail
 go_ret
 exact ⟨⟨q, rfl, HR.out⟩, (((Below.refl _ W).alloc (Nat.le_refl _) _).drew).drew⟩
set_option maxHeartbeats 1000000 in
set_option maxRecDepth 100000 in
theorem rulesOf_a {W : World} {own : Nat → Prop} {pv : Value} {ps : List (List Stp)} (h : RulesAt W own pv ps) (hl : ps.length ≤ 8) {i : Nat} {p : List Stp} (hp : ps[i]? = some p) {A : Option Addr} (hb : Bytes W A [(i : Int)]) (c : Nat) :
  Calls Tryz.prog 37 #[.agg #[pv], .slice A 1 c] W fun e W' => (∃ v, e = .returned v ∧ PlanAt W' own v p) ∧ Below W.heap.size W W' := by
 have HR := As.mk (fun o => rule_a (h.keep (W' := W.alloc o) (fun k _ hk => Below.heap_alloc _ _ _ hk) (by simp)) hl hp (A := A) (hb.below ((Below.refl _ W).alloc (Nat.le_refl _) o) (Nat.le_refl _)) c)
 clear h hp hb
 go_enter Tryz.func37, Tryz.ntmps37
 go_wp2_with fail
 refine (HR.out _).mono ?_
 rintro e w1 ⟨⟨q, rfl, hq, hr⟩, q1⟩
 obtain ⟨sv, x1, x2, x3, x4, hb1, hpl⟩ := hr
 have hb2 := (q1.block q (blk_lt hb1)).trans hb1
 have k0 := (blk_cell hb2 0).trans rfl
 have B1 : As (Below W.heap.size W w1) := ⟨((Below.refl _ _).alloc (Nat.le_refl _) _).trans (q1.mono (by simp))⟩
 have HP := As.mk (hpl.keep (W' := w1) (fun k _ hk => q1.block k hk) q1.size)
 clear q1 hb1 hb2 hpl
 unfold ptrV
 go_wp2_with fail
 go_ret
 exact ⟨⟨sv, rfl, HP.out⟩, B1.out⟩
set_option maxHeartbeats 1000000 in
set_option maxRecDepth 100000 in
/-- A slice of bytes, cloned. -/
theorem bclone_a {W : World} {A : Option Addr} {x : List Int} (hx : Bytes W A x) (h0 : 0 < x.length) (hl : x.length ≤ 100000) (c : Nat) :
  Calls Tryz.prog 40 #[.slice A x.length c] W fun e W' => (∃ g k, e = .returned (.slice (some ⟨g, 0, none⟩) x.length k) ∧ W.heap.size ≤ g ∧ g < W'.heap.size ∧ Bytes W' (some ⟨g, 0, none⟩) x ∧ x.length ≤ k) ∧ Below W.heap.size W W' := by
 obtain ⟨q, o, rfl, hq, hr⟩ := hx.2 (by intro h; rw [h] at h0; exact absurd h0 (Nat.lt_irrefl 0))
 have he : (binOp .eql 39 (.slice (some ⟨q, o, none⟩) x.length c) (.slice none 0 0)).run Tryz.prog W = .ok (.bool false) W := Lib.run_eql_slice_nil W 39 5 (some ⟨q, o, none⟩) x.length c 0 0 Tryz.underlying39
 have hown0 : As ((W.alloc (.cells #[] 5 (0, 0))).ownsRow W.heap.size 5 1 (.slice (some ⟨W.heap.size, 0, none⟩) 0 0) 0 []) := ⟨World.ownsRow_lit W #[] 0 (Nat.le_refl _) (Nat.zero_le _) rfl⟩
 have HX := As.mk (hx.below ((Below.refl _ W).alloc (Nat.le_refl _) (.cells #[] 5 (0, 0))) (Nat.le_refl _))
 have HB := As.mk hx.1
 clear hx hr
 go_enter Tryz.func40, Tryz.ntmps40
 go_wp2_with ((at_builtin; refine wpList_append_five rfl _ _ rfl W.heap.size W.heap.size rfl hown0.out _ x.length _ x rfl rfl HX.out (by omega) (by simp) _ rfl ?_))
 intro g k w1 q1 q2 q3 q4
 have G := As.mk (own_bytes q1 HB.out)
 have B1 : As (Below W.heap.size W w1) := ⟨((Below.refl _ W).alloc (Nat.le_refl _) _).grown q2 (by simp) (fun k hk => by injection hk with hk; omega)⟩
 have hgl : W.heap.size ≤ g ∧ g < w1.heap.size := ⟨G.out.2.2.2.1, G.out.2.2.2.2⟩
 clear q1 q2 q3
 go_wp2_with fail
 go_ret
 exact ⟨⟨g, k, rfl, hgl.1, hgl.2, G.out.1, q4⟩, B1.out⟩
end Go.Proofs.YthfjhgdiakciaaaGreat.Bl
/- A ledger in memory; one of its orders (at), how many (Orders), a count that rises (atomic Add). Condition: the ledger lies in memory as it is told. -/
namespace Go.Proofs.YthfjhgdiakciaaaGreat.Bl
open Go.RowKit Go.Maps
set_option linter.unusedVariables false
set_option linter.unusedSimpArgs false
/-- An order: its key, its plan, how far it is. -/
structure Or where
 key : Nat
 pl : Nat
 sg : Sg
def orC (n : Nat) (o : Or) (ak : Option Addr) (ck : Nat) (ad : Option Addr) (cd : Nat) (tl : List Value) : List Value :=
 .int .u32 n :: .slice ak 1 ck :: .slice ad 1 cd :: .int .i64 o.sg.ph :: .int .i64 o.sg.st :: .int .i64 o.sg.tr :: .bool o.sg.asked :: .int .i64 (leftF o.sg.asked) :: .bool false :: .int .i64 o.sg.code :: tl
def OrAt (W : World) (own : Nat → Prop) (tl : List Value) (n : Nat) (o : Or) (c : List Value) : Prop :=
 ∃ ak ck ad cd, c = orC n o ak ck ad cd tl ∧ Bytes W ak [(o.key : Int)] ∧ Bytes W ad [(o.pl : Int)] ∧ AddrIn own ak ∧ AddrIn own ad
/-- A row of orders. -/
def OrsAt (W : World) (own : Nat → Prop) (T sz : Nat) (tl : List Value) (v : Value) (l : List Or) : Prop :=
 ∃ cs : List (List Value), cs.length = l.length ∧ W.ownsRow 0 T sz v l.length cs.flatten ∧ (∀ g, v.ownBlock = some g → own g) ∧ ∀ (i : Nat) (o : Or), l[i]? = some o → ∃ c, cs[i]? = some c ∧ OrAt W (fun k => own k ∧ ¬ v.ownBlock = some k) tl (i + 1) o c
theorem OrAt.keep {W W' : World} {own : Nat → Prop} {tl : List Value} {n : Nat} {o : Or} {c : List Value} (h : OrAt W own tl n o c) (hk : ∀ k, own k → k < W.heap.size → W'.heap[k]? = W.heap[k]?) (hs : W.heap.size ≤ W'.heap.size) : OrAt W' own tl n o c := by
 obtain ⟨ak, ck, ad, cd, h1, h2, h3, h4, h5⟩ := h
 exact ⟨ak, ck, ad, cd, h1, h2.keep (fun q o ha hq => hk q (h4 q o ha) hq) hs, h3.keep (fun q o ha hq => hk q (h5 q o ha) hq) hs, h4, h5⟩
theorem OrAt.mono {W : World} {own own' : Nat → Prop} {tl : List Value} {n : Nat} {o : Or} {c : List Value} (h : OrAt W own tl n o c) (hs : ∀ k, own k → k < W.heap.size → own' k) : OrAt W own' tl n o c := by
 obtain ⟨ak, ck, ad, cd, h1, h2, h3, h4, h5⟩ := h
 refine ⟨ak, ck, ad, cd, h1, h2, h3, fun q o ha => ?_, fun q o ha => ?_⟩
 ·obtain ⟨q', o', e1, e2, _⟩ := h2.2 (by simp)
  have : q = q' := by rw [ha] at e1; injection e1 with e1; injection e1
  exact hs q (h4 q o ha) (by omega)
 ·obtain ⟨q', o', e1, e2, _⟩ := h3.2 (by simp)
  have : q = q' := by rw [ha] at e1; injection e1 with e1; injection e1
  exact hs q (h5 q o ha) (by omega)
theorem OrsAt.keep {W W' : World} {own : Nat → Prop} {T sz : Nat} {tl : List Value} {v : Value} {l : List Or} (h : OrsAt W own T sz tl v l) (hk : ∀ k, own k → k < W.heap.size → W'.heap[k]? = W.heap[k]?) (hs : W.heap.size ≤ W'.heap.size) : OrsAt W' own T sz tl v l := by
 obtain ⟨cs, h1, h2, h3, h4⟩ := h
 refine ⟨cs, h1, own_keep h2 (fun g hg hl => hk g (h3 g hg) hl), h3, fun i e he => ?_⟩
 obtain ⟨c, a, b⟩ := h4 i e he
 exact ⟨c, a, b.keep (fun k hk' hl => hk k hk'.1 hl) hs⟩
theorem OrsAt.mono {W : World} {own own' : Nat → Prop} {T sz : Nat} {tl : List Value} {v : Value} {l : List Or} (h : OrsAt W own T sz tl v l) (hs : ∀ k, own k → k < W.heap.size → own' k) : OrsAt W own' T sz tl v l := by
 obtain ⟨cs, h1, h2, h3, h4⟩ := h
 refine ⟨cs, h1, h2, fun g hg => hs g (h3 g hg) (own_lt h2 g hg), fun i e he => ?_⟩
 obtain ⟨c, a, b⟩ := h4 i e he
 exact ⟨c, a, b.mono (fun k hk' hl => ⟨hs k hk'.1 hl, hk'.2⟩)⟩
theorem OrsAt.nil (W : World) (own : Nat → Prop) (T sz : Nat) (tl : List Value) : OrsAt W own T sz tl (.slice none 0 0) [] := ⟨[], rfl, World.ownsRow_nil _ _ _ _, fun g hg => by simp [Value.ownBlock] at hg, fun i e he => by simp at he⟩
/-- The keys that the map has. -/
def KeysAre (D : DataW Unit) (l : List Or) : Prop := ∀ k : Nat, k < 256 → Maps.has D (.string (strOfNums [(k : Int)]).data.toList) = decide (∃ o ∈ l, o.key = k)
def epF (last : Nat) : Int := if last = 0 then 0 else 1
structure LedAt (W : World) (OP OL : Nat → Prop) (lb mb : Nat) (pv lv : Value) (ps : List (List Stp)) (l : List Or) (last : Nat) (tk nt : Int) : Prop where
 blk : W.heap[lb]? = some (.cells #[pv, lv, .map (some mb), .int .u64 last, .int .u32 (epF last), .int .i64 1, .int .i64 tk, .int .i64 nt] 93 (0, 0))
 rules : RulesAt W OP pv ps
 ors : OrsAt W OL 120 11 [.bool false] lv l
 map : ∃ D : DataW Unit, W.ownsMap Tryz.prog 9 (plainElem Tryz.prog 38) mb l.length D ∧ KeysAre D l
 s1 : ¬ OL lb ∧ ¬ OL mb ∧ ¬ OP lb ∧ ¬ OP mb
 s2 : ∀ k, OP k → ¬ OL k
 b1 : ∀ k, OP k → k < W.heap.size
 b2 : ∀ k, OL k → k < W.heap.size
/-- A ledger: OP its plans, OA what turns. -/
def Led (W : World) (OP OA : Nat → Prop) (lb : Nat) (ps : List (List Stp)) (l : List Or) (last : Nat) : Prop :=
 ∃ OL mb pv lv tk nt, (∀ k, OL k → OA k) ∧ OA lb ∧ OA mb ∧ LedAt W OP OL lb mb pv lv ps l last tk nt
theorem LedAt.mlt {W : World} {OP OL : Nat → Prop} {lb mb : Nat} {pv lv : Value} {ps : List (List Stp)} {l : List Or} {last : Nat} {tk nt : Int} (h : LedAt W OP OL lb mb pv lv ps l last tk nt) : mb < W.heap.size := by
 obtain ⟨D, hm, _⟩ := h.map
 exact hm.lt
theorem ownsMap_keep {W W' : World} {mb n : Nat} {D : DataW Unit} (h : W.ownsMap Tryz.prog 9 (plainElem Tryz.prog 38) mb n D) (hk : W'.heap[mb]? = W.heap[mb]?) : W'.ownsMap Tryz.prog 9 (plainElem Tryz.prog 38) mb n D := by
 obtain ⟨es, clock, hb, r⟩ := h
 exact ⟨es, clock, hk.trans hb, r⟩
theorem LedAt.keep {W W' : World} {OP OL : Nat → Prop} {lb mb : Nat} {pv lv : Value} {ps : List (List Stp)} {l : List Or} {last : Nat} {tk nt : Int} (h : LedAt W OP OL lb mb pv lv ps l last tk nt)
  (hk : ∀ k, OP k ∨ OL k ∨ k = lb ∨ k = mb → k < W.heap.size → W'.heap[k]? = W.heap[k]?) (hs : W.heap.size ≤ W'.heap.size) : LedAt W' OP OL lb mb pv lv ps l last tk nt :=
 ⟨(hk lb (.inr (.inr (.inl rfl))) (blk_lt h.blk)).trans h.blk, h.rules.keep (fun k a b => hk k (.inl a) b) hs, h.ors.keep (fun k a b => hk k (.inr (.inl a)) b) hs,
  (by obtain ⟨D, a, b⟩ := h.map; exact ⟨D, ownsMap_keep a (hk mb (.inr (.inr (.inr rfl))) a.lt), b⟩), h.s1, h.s2, fun k hk => Nat.lt_of_lt_of_le (h.b1 k hk) hs, fun k hk => Nat.lt_of_lt_of_le (h.b2 k hk) hs⟩
theorem Led.keep {W W' : World} {OP OA : Nat → Prop} {lb : Nat} {ps : List (List Stp)} {l : List Or} {last : Nat} (h : Led W OP OA lb ps l last)
  (hk : ∀ k, OP k ∨ OA k → k < W.heap.size → W'.heap[k]? = W.heap[k]?) (hs : W.heap.size ≤ W'.heap.size) : Led W' OP OA lb ps l last := by
 obtain ⟨OL, mb, pv, lv, tk, nt, h1, h2, h3, h4⟩ := h
 refine ⟨OL, mb, pv, lv, tk, nt, h1, h2, h3, h4.keep (fun k hk' hl => hk k ?_ hl) hs⟩
 rcases hk' with a | a | a | a
 ·exact .inl a
 ·exact .inr (h1 k a)
 ·subst a; exact .inr h2
 ·subst a; exact .inr h3
theorem LedAt.cells {W : World} {OP OL : Nat → Prop} {lb mb : Nat} {pv lv : Value} {ps : List (List Stp)} {l : List Or} {last : Nat} {tk nt : Int} (h : LedAt W OP OL lb mb pv lv ps l last tk nt) :
  W.cell? ⟨lb, 0, none⟩ = some pv ∧ W.cell? ⟨lb, 1, none⟩ = some lv ∧ W.cell? ⟨lb, 2, none⟩ = some (.map (some mb)) ∧ W.cell? ⟨lb, 3, none⟩ = some (.int .u64 last) ∧ W.cell? ⟨lb, 4, none⟩ = some (.int .u32 (epF last)) ∧ W.cell? ⟨lb, 6, none⟩ = some (.int .i64 tk) ∧ W.cell? ⟨lb, 7, none⟩ = some (.int .i64 nt) :=
 ⟨(blk_cell h.blk 0).trans rfl, (blk_cell h.blk 1).trans rfl, (blk_cell h.blk 2).trans rfl, (blk_cell h.blk 3).trans rfl, (blk_cell h.blk 4).trans rfl, (blk_cell h.blk 6).trans rfl, (blk_cell h.blk 7).trans rfl⟩
/-- An order's place in the row. -/
theorem OrsAt.at {W : World} {own : Nat → Prop} {T sz : Nat} {tl : List Value} {v : Value} {l : List Or} (h : OrsAt W own T sz tl v l) (hsz : sz = 10 + tl.length) {i : Nat} {o : Or} (ho : l[i]? = some o) :
  ∃ g c x, v = .slice (some ⟨g, 0, none⟩) l.length c ∧ g < W.heap.size ∧ own g ∧ OrAt W (fun k => own k ∧ ¬ k = g) tl (i + 1) o x ∧ W.rangeAt g (i * sz) x := by
 obtain ⟨cs, h1, h2, h3, h4⟩ := h
 obtain ⟨x, a, b⟩ := h4 i o ho
 have hil := (List.getElem?_eq_some_iff.1 ho).1
 obtain ⟨g, c, rfl, hc, hgl⟩ := h2.form (by omega)
 have hxl : ∀ {j : Nat} {o : Or} {x : List Value} {own : Nat → Prop}, OrAt W own tl j o x → x.length = sz := fun h => by
  obtain ⟨_, _, _, _, rfl, _⟩ := h
  rw [hsz]
  simp [orC]
  omega
 refine ⟨g, c, x, rfl, hgl, h3 g rfl, b.mono (fun k hk _ => ⟨hk.1, fun h => hk.2 (by rw [h]; rfl)⟩), own_range h2 (i * sz) x (fun j v hv => ?_)⟩
 have hall : ∀ y ∈ cs, y.length = sz := fun y hy => by
  obtain ⟨j, hj, rfl⟩ := List.getElem_of_mem hy
  obtain ⟨c', a', b'⟩ := h4 j (l[j]'(by omega)) (List.getElem?_eq_getElem (by omega))
  rw [List.getElem?_eq_getElem hj] at a'
  injection a' with a'
  rw [a']; exact hxl b'
 have hj : j < sz := by
  have := (List.getElem?_eq_some_iff.1 hv).1
  rw [hxl b] at this; exact this
 rw [chunk_get (show 0 < sz by omega) cs hall, show (i * sz + j) / sz = i by rw [Nat.mul_comm, Nat.mul_add_div (by omega), Nat.div_eq_of_lt hj, Nat.add_zero], show (i * sz + j) % sz = j by rw [Nat.mul_comm, Nat.mul_add_mod, Nat.mod_eq_of_lt hj], a]
 exact hv
theorem at_some {W : World} {lb g n c k : Nat} (hc : W.cell? ⟨lb, 1, none⟩ = some (.slice (some ⟨g, 0, none⟩) n c)) (hn : n ≤ 1000) (hk : k < n) :
  Calls Tryz.prog 42 #[.pointer (some ⟨lb, 0, none⟩), .int .u32 ((k : Int) + 1)] W fun e W' => e = .returned (.pointer (some ⟨g, k * 11, none⟩)) ∧ W = W' := by
 have h1 : ((k : Int) + 1 == 0) = false := by simp; omega
 have h2 : decide ((n : Int) < (k : Int) + 1) = false := by simp; omega
 have h3 : IntKind.u32.wrap ((k : Int) + 1 - 1) = k := by simp [IntKind.wrap, IntKind.bits, IntKind.signed]; omega
 go_enter Tryz.func42, Tryz.ntmps42
 go_wp2_with fail
 go_ret
 exact ⟨rfl, rfl⟩
theorem at_none {W : World} {lb n c : Nat} {A : Option Addr} (hc : W.cell? ⟨lb, 1, none⟩ = some (.slice A n c)) (hn : n ≤ 1000) :
  Calls Tryz.prog 42 #[.pointer (some ⟨lb, 0, none⟩), .int .u32 ((n : Int) + 1)] W fun e W' => e = .returned (.pointer none) ∧ W = W' := by
 have h1 : ((n : Int) + 1 == 0) = false := by simp; omega
 have h2 : decide ((n : Int) < (n : Int) + 1) = true := by simp; omega
 go_enter Tryz.func42, Tryz.ntmps42
 go_wp2_with fail
 go_ret
 exact ⟨rfl, rfl⟩
theorem orders_a {W : World} {lb n c : Nat} {A : Option Addr} (hc : W.cell? ⟨lb, 1, none⟩ = some (.slice A n c)) :
  Calls Tryz.prog 11 #[.pointer (some ⟨lb, 0, none⟩)] W fun e W' => e = .returned (.int .i64 n) ∧ W = W' := by
 go_enter Tryz.func11, Tryz.ntmps11
 go_wp2_with fail
 go_ret
 exact ⟨rfl, rfl⟩
theorem add_a {W : World} {b o : Nat} {x : Int} (hc : W.cell? ⟨b, o, none⟩ = some (.int .i64 x)) (hf : W.frozen? ⟨b, o, none⟩ = false) :
  Calls Tryz.prog 39 #[.pointer (some ⟨b, o, none⟩), .int .i64 1] W fun e W' => (∃ v, e = .returned v) ∧ ∃ y : Int, W' = W.setCell ⟨b, o, none⟩ (.int .i64 y) := by
 have hr := run_call_add (P := Tryz.prog) (f := 81) Tryz.func81 (by kernel_rfl) (by kernel_rfl) (by kernel_rfl) .i64 (by kernel_rfl) (y := 1) hc hf (s := IntKind.i64.wrap (x + 1)) (by rfl)
 go_enter Tryz.func39, Tryz.ntmps39
 go_wp2
 go_ret
 exact ⟨⟨_, rfl⟩, _, rfl⟩
end Go.Proofs.YthfjhgdiakciaaaGreat.Bl
/- May an entry come now, by its kind (ledger.fits)? An order. Condition: the ledger lies in memory as it is told. -/
namespace Go.Proofs.YthfjhgdiakciaaaGreat.Bl
open Go.RowKit Go.Maps
set_option linter.unusedVariables false
set_option linter.unusedSimpArgs false
theorem law9 : Keyed Tryz.prog 9 := string_keyed Tryz.underlying9
theorem zero38 (w : World) : (zeroValue 38).run Tryz.prog w = .ok (.int .u32 0) w := by kernel_rfl
theorem elem38 (x : Int) (h0 : 0 ≤ x) (h1 : x < 4294967296) : plainElem (H := Unit) Tryz.prog 38 (.int .u32 x) = some (.lit (.int .u32 x), []) := by
 refine plainElem_int Tryz.underlying38 ?_
 simp [Lit.wf, IntKind.min, IntKind.max, IntKind.wrap, IntKind.bits, IntKind.signed]
 omega
theorem key9 (k : Nat) : keyOf Tryz.prog 9 (.string (strOfNums [(k : Int)])) = some (.string (strOfNums [(k : Int)]).data.toList) := WideMaps.keyOf_string_mk Tryz.underlying9 (by rw [strOfNums_size]; show 1 ≤ maxLen; decide)
theorem wpKept_skip {P : Program} {ops : Array Oper} {Q : Exit → Act → World → Prop} {S : World → Prop} {t i : Nat} {o : Oper} {rest : List (Nat × Nat × Oper)} {a : Act} {w : World} (hw : Region.wanted o (yielded ops a.tmps) = false) (h : wpKept P ops Q S rest (a.put o.dst undef) w) : wpKept P ops Q S ((t, i, o) :: rest) a w := by
 match t with
 | 0 => simp only [wpKept]; rw [if_neg (by rw [hw]; decide)]; exact h
 | 1 => simp only [wpKept]; rw [if_neg (by rw [hw]; decide)]; exact h
 | t + 2 => simp only [wpKept]; rw [if_neg (by rw [hw]; decide)]; exact h
theorem range_one {w : World} {b t : Nat} {cs : Array Value} {fr : Nat × Nat} (h : w.heap[b]? = some (.cells cs t fr)) (o : Nat) (v : Value) (hv : cs[o]? = some v) : w.rangeAt b o [v] := fun j u hu => by
 have hj0 : j = 0 := by
  have := (List.getElem?_eq_some_iff.1 hu).1
  simpa using this
 subst hj0
 rw [Nat.add_zero, blk_cell h, hv]
 exact hu
/-- A look into the map of keys. -/
theorem klook {w : World} {mb n : Nat} {D : DataW Unit} (h : w.ownsMap Tryz.prog 9 (plainElem Tryz.prog 38) mb n D) (k : Nat) : ∃ v, (Instr.lookup 82 (.map (some mb)) (.string (strOfNums [(k : Int)])) true).run Tryz.prog w = .ok (.tuple #[v, .bool (Maps.has D (.string (strOfNums [(k : Int)]).data.toList))]) w := by
 obtain ⟨v, ps, hr, _⟩ := h.look_ok law9 Tryz.underlying82 (zero38 w) (elem38 0 (by omega) (by omega)) (key9 k)
 exact ⟨v, hr⟩
set_option maxHeartbeats 2000000 in
set_option maxRecDepth 100000 in
theorem fits_dup {W : World} {OP : Nat → Prop} {lb mb n c : Nat} {pv : Value} {A : Option Addr} {last tk nt ep : Int} {ps : List (List Stp)} {D : DataW Unit} (hb : W.heap[lb]? = some (.cells #[pv, .slice A n c, .map (some mb), .int .u64 last, .int .u32 ep, .int .i64 1, .int .i64 tk, .int .i64 nt] 93 (0, 0))) (hR : RulesAt W OP pv ps) (hps : ps.length ≤ 8) (hm : W.ownsMap Tryz.prog 9 (plainElem Tryz.prog 38) mb n D) (hn : n < 500)
  {ak ad : Option Addr} {ck cd k d : Nat} {p : List Stp} {lsn : Int} (hk : Bytes W ak [(k : Int)]) (hd : Bytes W ad [(d : Int)]) (hp : ps[d]? = some p) (hp1 : 1 ≤ p.length) (hh : Maps.has D (.string (strOfNums [(k : Int)]).data.toList) = true) :
  Calls Tryz.prog 80 #[.pointer (some ⟨lb, 0, none⟩), .agg #[.int .i64 2, .int .u64 lsn, .int .u32 1, .int .u32 ((n : Int) + 1), .int .i64 0, .bool false, .int .i64 0, .int .i64 0, .int .u64 0, .slice ak 1 ck, .slice ad 1 cd]] W fun e W' => e = .returned (.bool false) ∧ Below W.heap.size W W' := by
 have hlb := blk_lt hb
 have hmlt := hm.lt
 have hbox : (W.alloc (.cells #[.int .i64 2, .int .u64 lsn, .int .u32 1, .int .u32 ((n : Int) + 1), .int .i64 0, .bool false, .int .i64 0, .int .i64 0, .int .u64 0, .slice ak 1 ck, .slice ad 1 cd] 41)).heap[W.heap.size]? = some (.cells #[.int .i64 2, .int .u64 lsn, .int .u32 1, .int .u32 ((n : Int) + 1), .int .i64 0, .bool false, .int .i64 0, .int .i64 0, .int .u64 0, .slice ak 1 ck, .slice ad 1 cd] 41 (0, 0)) := blk_new W _
 have B0 : As (Below W.heap.size W (W.alloc (.cells #[.int .i64 2, .int .u64 lsn, .int .u32 1, .int .u32 ((n : Int) + 1), .int .i64 0, .bool false, .int .i64 0, .int .i64 0, .int .u64 0, .slice ak 1 ck, .slice ad 1 cd] 41))) := ⟨(Below.refl _ W).alloc (Nat.le_refl _) _⟩
 have HAT := As.mk (at_none (W := W.alloc (.cells #[.int .i64 2, .int .u64 lsn, .int .u32 1, .int .u32 ((n : Int) + 1), .int .i64 0, .bool false, .int .i64 0, .int .i64 0, .int .u64 0, .slice ak 1 ck, .slice ad 1 cd] 41)) (lb := lb) (A := A) (n := n) (c := c) ((blk_cell (blk_old hb _) 1).trans rfl) (by omega))
 have hb0 := blk_old hb (.cells #[.int .i64 2, .int .u64 lsn, .int .u32 1, .int .u32 ((n : Int) + 1), .int .i64 0, .bool false, .int .i64 0, .int .i64 0, .int .u64 0, .slice ak 1 ck, .slice ad 1 cd] 41)
 have HM := As.mk (ownsMap_keep (W' := W.alloc (.cells #[.int .i64 2, .int .u64 lsn, .int .u32 1, .int .u32 ((n : Int) + 1), .int .i64 0, .bool false, .int .i64 0, .int .i64 0, .int .u64 0, .slice ak 1 ck, .slice ad 1 cd] 41)) hm (Below.heap_alloc _ _ _ hmlt))
 have HR := As.mk (hR.keep (W' := W.alloc (.cells #[.int .i64 2, .int .u64 lsn, .int .u32 1, .int .u32 ((n : Int) + 1), .int .i64 0, .bool false, .int .i64 0, .int .i64 0, .int .u64 0, .slice ak 1 ck, .slice ad 1 cd] 41)) (fun k _ hk => Below.heap_alloc _ _ _ hk) (by simp))
 have HK := As.mk (hk.below B0.out (Nat.le_refl _))
 have HD := As.mk (hd.below B0.out (Nat.le_refl _))
 have HP := As.mk hp
 have HH := As.mk hh
 have hw1 : IntKind.i64.wrap ((n : Int) + 1) = (n : Int) + 1 := by simp [IntKind.wrap, IntKind.bits, IntKind.signed]; omega
 have hcv : ∀ w', Bytes w' ak [(k : Int)] → (convert 39 9 (.slice ak 1 ck)).run Tryz.prog w' = .ok (.string (strOfNums [(k : Int)])) w' := fun w' h => conv_bytes h ck
 have HCV := As.mk hcv
 clear hb hR hm hk hd hp hh hcv
 go_enter Tryz.func80, Tryz.ntmps80
 go_wp2_with fail
 refine HAT.out.mono ?_
 rintro e w1 ⟨rfl, rfl⟩
 obtain ⟨k0, k1, k2, k3, k4, k5, k6, k7, k8, k9, k10⟩ := cells11 hbox
 obtain ⟨b3, hb3⟩ : ∃ b3, b3 = W.heap.size := ⟨_, rfl⟩
 rw [← hb3] at hbox k0 k1 k2 k3 k4 k5 k6 k7 k8 k9 k10 ⊢
 generalize W.alloc (.cells #[.int .i64 2, .int .u64 lsn, .int .u32 1, .int .u32 ((n : Int) + 1), .int .i64 0, .bool false, .int .i64 0, .int .i64 0, .int .u64 0, .slice ak 1 ck, .slice ad 1 cd] 41) = w0 at *
 clear hb3 HAT
 go_upto_region 4 with fail
 refine wp_region_plan_kept (fun w' => w'.heap[lb]? = some (.cells #[pv, .slice A n c, .map (some mb), .int .u64 last, .int .u32 ep, .int .i64 1, .int .i64 tk, .int .i64 nt] 93 (0, 0)) ∧ w'.heap[b3]? = some (.cells #[.int .i64 2, .int .u64 lsn, .int .u32 1, .int .u32 ((n : Int) + 1), .int .i64 0, .bool false, .int .i64 0, .int .i64 0, .int .u64 0, .slice ak 1 ck, .slice ad 1 cd] 41 (0, 0)) ∧ Bytes w' ak [(k : Int)] ∧ w'.heap[mb]? = w0.heap[mb]?) [(1,0),(1,1),(1,2),(0,3),(1,4),(0,5),(0,6),(2,7),(1,8),(1,9),(1,10),(1,11),(1,12)] (by kernel_rfl) (by kernel_rfl) (by kernel_rfl) (by kernel_rfl) (fun _ _ _ _ _ h => h) ⟨hb0, hbox, HK.out, rfl⟩ ?_
 simp only [tagged, List.filterMap_cons, List.filterMap_nil, List.getElem?_toArray, List.getElem?_cons_succ, List.getElem?_cons_zero, Option.map_some]
 iterate 3 (with_reducible refine wpKept_sure (fun K hK => ?_); go_simp; with_reducible refine hK _ ?_; clear hK K)
 refine wpKept_take (fun K hK => ?_)
 rw [if_pos (by rfl)]
 apply Exists.intro
 refine ⟨fun w' hw' => ?_, hK _ ?_⟩
 ·have j0 := (blk_cell hw'.1 2).trans rfl
  go_simp
  rfl
 clear hK K
 iterate 1 (with_reducible refine wpKept_sure (fun K hK => ?_); go_simp; with_reducible refine hK _ ?_; clear hK K)
 refine wpKept_take (fun K hK => ?_)
 rw [if_pos (by rfl)]
 apply Exists.intro
 refine ⟨fun w' hw' => ?_, hK _ ?_⟩
 ·have j0 := (blk_cell hw'.2.1 9).trans rfl
  go_simp
  rfl
 clear hK K
 refine wpKept_take (fun K hK => ?_)
 rw [if_pos (by rfl)]
 apply Exists.intro
 refine ⟨fun w' hw' => ?_, hK _ ?_⟩
 ·have j0 := HCV.out w' hw'.2.2.1
  go_simp
  rfl
 clear hK K
 refine wpKept_next (fun K hK => ?_)
 obtain ⟨vx, hlk⟩ := klook (w := w0.drew) (HM.out.drew) k
 rw [HH.out] at hlk
 go_simp
 refine hK _ _ ⟨hb0, hbox, HK.out, rfl⟩ ?_
 clear hK K hlk
 iterate 5 (with_reducible refine wpKept_sure (fun K hK => ?_); go_simp; with_reducible refine hK _ ?_; clear hK K)
 refine wpKept_nil ?_
 have hc5 : decide ((n : Int) < 500) = true := by simp; omega
 have hw2 : ((n : Int) + 1 == (n : Int) + 1) = true := by simp
 go_upto_region 5 with fail
 refine wp_region_plan_kept (fun w' => w'.heap[lb]? = some (.cells #[pv, .slice A n c, .map (some mb), .int .u64 last, .int .u32 ep, .int .i64 1, .int .i64 tk, .int .i64 nt] 93 (0, 0)) ∧ w'.heap[b3]? = some (.cells #[.int .i64 2, .int .u64 lsn, .int .u32 1, .int .u32 ((n : Int) + 1), .int .i64 0, .bool false, .int .i64 0, .int .i64 0, .int .u64 0, .slice ak 1 ck, .slice ad 1 cd] 41 (0, 0)) ∧ Bytes w' ak [(k : Int)] ∧ w'.heap[mb]? = w0.heap[mb]?) [(1,0),(0,1),(1,2),(1,3),(1,4),(1,5),(0,6),(1,7),(1,8),(1,9),(1,10),(1,11),(1,12),(1,13),(0,14),(1,15),(1,16),(1,17),(1,18),(1,19),(1,20),(1,21),(1,22),(1,23),(1,24),(1,25),(0,26),(1,27),(0,28),(2,29),(2,30),(2,31),(2,32)] (by kernel_rfl) (by kernel_rfl) (by kernel_rfl) (by kernel_rfl) (fun _ _ _ _ _ h => h) ⟨hb0, hbox, HK.out, rfl⟩ ?_
 simp only [tagged, List.filterMap_cons, List.filterMap_nil, List.getElem?_toArray, List.getElem?_cons_succ, List.getElem?_cons_zero, Option.map_some]
 iterate 1 (with_reducible refine wpKept_sure (fun K hK => ?_); go_simp; with_reducible refine hK _ ?_; clear hK K)
 refine wpKept_take (fun K hK => ?_)
 rw [if_pos (by rfl)]
 apply Exists.intro
 refine ⟨fun w' hw' => ?_, hK _ ?_⟩
 ·have j0 := (blk_cell hw'.2.1 3).trans rfl
  go_simp
  rfl
 clear hK K
 iterate 4 (with_reducible refine wpKept_sure (fun K hK => ?_); go_simp; with_reducible refine hK _ ?_; clear hK K)
 refine wpKept_take (fun K hK => ?_)
 rw [if_pos (by rfl)]
 apply Exists.intro
 refine ⟨fun w' hw' => ?_, hK _ ?_⟩
 ·have j0 := (blk_cell hw'.1 1).trans rfl
  go_simp
  rfl
 clear hK K
 iterate 7 (with_reducible refine wpKept_sure (fun K hK => ?_); go_simp; with_reducible refine hK _ ?_; clear hK K)
 refine wpKept_take (fun K hK => ?_)
 rw [if_pos (by rfl)]
 apply Exists.intro
 refine ⟨fun w' hw' => ?_, hK _ ?_⟩
 ·have j0 := (blk_cell hw'.1 1).trans rfl
  go_simp
  rfl
 clear hK K
 iterate 8 (with_reducible refine wpKept_sure (fun K hK => ?_); go_simp; with_reducible refine hK _ ?_; clear hK K)
 with_reducible refine wpKept_skip (by kernel_rfl) ?_
 with_reducible refine wpKept_skip (by kernel_rfl) ?_
 with_reducible refine wpKept_skip (by kernel_rfl) ?_
 with_reducible refine wpKept_skip (by kernel_rfl) ?_
 with_reducible refine wpKept_skip (by kernel_rfl) ?_
 with_reducible refine wpKept_skip (by kernel_rfl) ?_
 with_reducible refine wpKept_skip (by kernel_rfl) ?_
 with_reducible refine wpKept_skip (by kernel_rfl) ?_
 with_reducible refine wpKept_next (fun K hK => ?_)
 go_simp
 refine hK _ _ ⟨hb0, hbox, HK.out, rfl⟩ ?_
 clear hK K
 with_reducible refine wpKept_next (fun K hK => ?_)
 go_simp
 refine hK _ _ ⟨hb0, hbox, HK.out, rfl⟩ ?_
 clear hK K
 refine wpKept_nil ?_
 go_wp2_with fail
 go_ret
 exact ⟨rfl, B0.out.drew.drew⟩
set_option maxHeartbeats 2000000 in
set_option maxRecDepth 100000 in
theorem fits_order {W : World} {OP : Nat → Prop} {lb mb n c : Nat} {pv : Value} {A : Option Addr} {last tk nt ep : Int} {ps : List (List Stp)} {D : DataW Unit} (hb : W.heap[lb]? = some (.cells #[pv, .slice A n c, .map (some mb), .int .u64 last, .int .u32 ep, .int .i64 1, .int .i64 tk, .int .i64 nt] 93 (0, 0))) (hR : RulesAt W OP pv ps) (hps : ps.length ≤ 8) (hm : W.ownsMap Tryz.prog 9 (plainElem Tryz.prog 38) mb n D) (hn : n < 500)
  {ak ad : Option Addr} {ck cd k d : Nat} {p : List Stp} {lsn : Int} (hk : Bytes W ak [(k : Int)]) (hd : Bytes W ad [(d : Int)]) (hp : ps[d]? = some p) (hp1 : 1 ≤ p.length) (hh : Maps.has D (.string (strOfNums [(k : Int)]).data.toList) = false) :
  Calls Tryz.prog 80 #[.pointer (some ⟨lb, 0, none⟩), .agg #[.int .i64 2, .int .u64 lsn, .int .u32 1, .int .u32 ((n : Int) + 1), .int .i64 0, .bool false, .int .i64 0, .int .i64 0, .int .u64 0, .slice ak 1 ck, .slice ad 1 cd]] W fun e W' => e = .returned (.bool true) ∧ Below W.heap.size W W' := by
 have hlb := blk_lt hb
 have hmlt := hm.lt
 have hbox : (W.alloc (.cells #[.int .i64 2, .int .u64 lsn, .int .u32 1, .int .u32 ((n : Int) + 1), .int .i64 0, .bool false, .int .i64 0, .int .i64 0, .int .u64 0, .slice ak 1 ck, .slice ad 1 cd] 41)).heap[W.heap.size]? = some (.cells #[.int .i64 2, .int .u64 lsn, .int .u32 1, .int .u32 ((n : Int) + 1), .int .i64 0, .bool false, .int .i64 0, .int .i64 0, .int .u64 0, .slice ak 1 ck, .slice ad 1 cd] 41 (0, 0)) := blk_new W _
 have B0 : As (Below W.heap.size W (W.alloc (.cells #[.int .i64 2, .int .u64 lsn, .int .u32 1, .int .u32 ((n : Int) + 1), .int .i64 0, .bool false, .int .i64 0, .int .i64 0, .int .u64 0, .slice ak 1 ck, .slice ad 1 cd] 41))) := ⟨(Below.refl _ W).alloc (Nat.le_refl _) _⟩
 have HAT := As.mk (at_none (W := W.alloc (.cells #[.int .i64 2, .int .u64 lsn, .int .u32 1, .int .u32 ((n : Int) + 1), .int .i64 0, .bool false, .int .i64 0, .int .i64 0, .int .u64 0, .slice ak 1 ck, .slice ad 1 cd] 41)) (lb := lb) (A := A) (n := n) (c := c) ((blk_cell (blk_old hb _) 1).trans rfl) (by omega))
 have hb0 := blk_old hb (.cells #[.int .i64 2, .int .u64 lsn, .int .u32 1, .int .u32 ((n : Int) + 1), .int .i64 0, .bool false, .int .i64 0, .int .i64 0, .int .u64 0, .slice ak 1 ck, .slice ad 1 cd] 41)
 have HM := As.mk (ownsMap_keep (W' := W.alloc (.cells #[.int .i64 2, .int .u64 lsn, .int .u32 1, .int .u32 ((n : Int) + 1), .int .i64 0, .bool false, .int .i64 0, .int .i64 0, .int .u64 0, .slice ak 1 ck, .slice ad 1 cd] 41)) hm (Below.heap_alloc _ _ _ hmlt))
 have HR := As.mk (hR.keep (W' := W.alloc (.cells #[.int .i64 2, .int .u64 lsn, .int .u32 1, .int .u32 ((n : Int) + 1), .int .i64 0, .bool false, .int .i64 0, .int .i64 0, .int .u64 0, .slice ak 1 ck, .slice ad 1 cd] 41)) (fun k _ hk => Below.heap_alloc _ _ _ hk) (by simp))
 have HK := As.mk (hk.below B0.out (Nat.le_refl _))
 have HD := As.mk (hd.below B0.out (Nat.le_refl _))
 have HP := As.mk hp
 have HH := As.mk hh
 have hw1 : IntKind.i64.wrap ((n : Int) + 1) = (n : Int) + 1 := by simp [IntKind.wrap, IntKind.bits, IntKind.signed]; omega
 have hcv : ∀ w', Bytes w' ak [(k : Int)] → (convert 39 9 (.slice ak 1 ck)).run Tryz.prog w' = .ok (.string (strOfNums [(k : Int)])) w' := fun w' h => conv_bytes h ck
 have HCV := As.mk hcv
 clear hb hR hm hk hd hp hh hcv
 go_enter Tryz.func80, Tryz.ntmps80
 go_wp2_with fail
 refine HAT.out.mono ?_
 rintro e w1 ⟨rfl, rfl⟩
 obtain ⟨k0, k1, k2, k3, k4, k5, k6, k7, k8, k9, k10⟩ := cells11 hbox
 obtain ⟨b3, hb3⟩ : ∃ b3, b3 = W.heap.size := ⟨_, rfl⟩
 rw [← hb3] at hbox k0 k1 k2 k3 k4 k5 k6 k7 k8 k9 k10 ⊢
 generalize W.alloc (.cells #[.int .i64 2, .int .u64 lsn, .int .u32 1, .int .u32 ((n : Int) + 1), .int .i64 0, .bool false, .int .i64 0, .int .i64 0, .int .u64 0, .slice ak 1 ck, .slice ad 1 cd] 41) = w0 at *
 clear hb3 HAT
 go_upto_region 4 with fail
 refine wp_region_plan_kept (fun w' => w'.heap[lb]? = some (.cells #[pv, .slice A n c, .map (some mb), .int .u64 last, .int .u32 ep, .int .i64 1, .int .i64 tk, .int .i64 nt] 93 (0, 0)) ∧ w'.heap[b3]? = some (.cells #[.int .i64 2, .int .u64 lsn, .int .u32 1, .int .u32 ((n : Int) + 1), .int .i64 0, .bool false, .int .i64 0, .int .i64 0, .int .u64 0, .slice ak 1 ck, .slice ad 1 cd] 41 (0, 0)) ∧ Bytes w' ak [(k : Int)] ∧ w'.heap[mb]? = w0.heap[mb]?) [(1,0),(1,1),(1,2),(0,3),(1,4),(0,5),(0,6),(2,7),(1,8),(1,9),(1,10),(1,11),(1,12)] (by kernel_rfl) (by kernel_rfl) (by kernel_rfl) (by kernel_rfl) (fun _ _ _ _ _ h => h) ⟨hb0, hbox, HK.out, rfl⟩ ?_
 simp only [tagged, List.filterMap_cons, List.filterMap_nil, List.getElem?_toArray, List.getElem?_cons_succ, List.getElem?_cons_zero, Option.map_some]
 iterate 3 (with_reducible refine wpKept_sure (fun K hK => ?_); go_simp; with_reducible refine hK _ ?_; clear hK K)
 refine wpKept_take (fun K hK => ?_)
 rw [if_pos (by rfl)]
 apply Exists.intro
 refine ⟨fun w' hw' => ?_, hK _ ?_⟩
 ·have j0 := (blk_cell hw'.1 2).trans rfl
  go_simp
  rfl
 clear hK K
 iterate 1 (with_reducible refine wpKept_sure (fun K hK => ?_); go_simp; with_reducible refine hK _ ?_; clear hK K)
 refine wpKept_take (fun K hK => ?_)
 rw [if_pos (by rfl)]
 apply Exists.intro
 refine ⟨fun w' hw' => ?_, hK _ ?_⟩
 ·have j0 := (blk_cell hw'.2.1 9).trans rfl
  go_simp
  rfl
 clear hK K
 refine wpKept_take (fun K hK => ?_)
 rw [if_pos (by rfl)]
 apply Exists.intro
 refine ⟨fun w' hw' => ?_, hK _ ?_⟩
 ·have j0 := HCV.out w' hw'.2.2.1
  go_simp
  rfl
 clear hK K
 refine wpKept_next (fun K hK => ?_)
 obtain ⟨vx, hlk⟩ := klook (w := w0.drew) (HM.out.drew) k
 rw [HH.out] at hlk
 go_simp
 refine hK _ _ ⟨hb0, hbox, HK.out, rfl⟩ ?_
 clear hK K hlk
 iterate 5 (with_reducible refine wpKept_sure (fun K hK => ?_); go_simp; with_reducible refine hK _ ?_; clear hK K)
 refine wpKept_nil ?_
 have hc5 : decide ((n : Int) < 500) = true := by simp; omega
 have hw2 : ((n : Int) + 1 == (n : Int) + 1) = true := by simp
 go_upto_region 5 with fail
 refine wp_region_plan_kept (fun w' => w'.heap[lb]? = some (.cells #[pv, .slice A n c, .map (some mb), .int .u64 last, .int .u32 ep, .int .i64 1, .int .i64 tk, .int .i64 nt] 93 (0, 0)) ∧ w'.heap[b3]? = some (.cells #[.int .i64 2, .int .u64 lsn, .int .u32 1, .int .u32 ((n : Int) + 1), .int .i64 0, .bool false, .int .i64 0, .int .i64 0, .int .u64 0, .slice ak 1 ck, .slice ad 1 cd] 41 (0, 0)) ∧ Bytes w' ak [(k : Int)] ∧ w'.heap[mb]? = w0.heap[mb]?) [(1,0),(0,1),(1,2),(1,3),(1,4),(1,5),(0,6),(1,7),(1,8),(1,9),(1,10),(1,11),(1,12),(1,13),(0,14),(1,15),(1,16),(1,17),(1,18),(1,19),(1,20),(1,21),(1,22),(1,23),(1,24),(1,25),(0,26),(1,27),(0,28),(2,29),(2,30),(2,31),(2,32)] (by kernel_rfl) (by kernel_rfl) (by kernel_rfl) (by kernel_rfl) (fun _ _ _ _ _ h => h) ⟨hb0, hbox, HK.out, rfl⟩ ?_
 simp only [tagged, List.filterMap_cons, List.filterMap_nil, List.getElem?_toArray, List.getElem?_cons_succ, List.getElem?_cons_zero, Option.map_some]
 iterate 1 (with_reducible refine wpKept_sure (fun K hK => ?_); go_simp; with_reducible refine hK _ ?_; clear hK K)
 refine wpKept_take (fun K hK => ?_)
 rw [if_pos (by rfl)]
 apply Exists.intro
 refine ⟨fun w' hw' => ?_, hK _ ?_⟩
 ·have j0 := (blk_cell hw'.2.1 3).trans rfl
  go_simp
  rfl
 clear hK K
 iterate 4 (with_reducible refine wpKept_sure (fun K hK => ?_); go_simp; with_reducible refine hK _ ?_; clear hK K)
 refine wpKept_take (fun K hK => ?_)
 rw [if_pos (by rfl)]
 apply Exists.intro
 refine ⟨fun w' hw' => ?_, hK _ ?_⟩
 ·have j0 := (blk_cell hw'.1 1).trans rfl
  go_simp
  rfl
 clear hK K
 iterate 7 (with_reducible refine wpKept_sure (fun K hK => ?_); go_simp; with_reducible refine hK _ ?_; clear hK K)
 refine wpKept_take (fun K hK => ?_)
 rw [if_pos (by rfl)]
 apply Exists.intro
 refine ⟨fun w' hw' => ?_, hK _ ?_⟩
 ·have j0 := (blk_cell hw'.1 1).trans rfl
  go_simp
  rfl
 clear hK K
 iterate 11 (with_reducible refine wpKept_sure (fun K hK => ?_); go_simp; with_reducible refine hK _ ?_; clear hK K)
 refine wpKept_take (fun K hK => ?_)
 rw [if_pos (by rfl)]
 refine ⟨.agg #[pv], fun w' hw' => exec_load_mid _ _ _ 85 (.tmp 54) rfl lb 0 rfl [pv] _ (range_one hw'.1 0 pv rfl) Tryz.underlying85 rfl size85, hK _ ?_⟩
 clear hK K
 iterate 1 (with_reducible refine wpKept_sure (fun K hK => ?_); go_simp; with_reducible refine hK _ ?_; clear hK K)
 refine wpKept_take (fun K hK => ?_)
 rw [if_pos (by rfl)]
 apply Exists.intro
 refine ⟨fun w' hw' => ?_, hK _ ?_⟩
 ·have j0 := (blk_cell hw'.2.1 10).trans rfl
  go_simp
  rfl
 clear hK K
 refine wpKept_next (fun K hK => ?_)
 go_simp
 refine (rulesOf_a (W := w0.drew.drew) HR.out hps HP.out HD.out cd).mono ?_
 rintro e w1 ⟨⟨v, rfl, hv⟩, q1⟩
 obtain ⟨g, cg, _, rfl, _⟩ := hv.at (List.getElem?_eq_getElem (show 0 < p.length by omega))
 have hnil : ∀ w', (binOp .neq 94 (.slice (some ⟨g, 0, none⟩) p.length cg) (.slice none 0 0)).run Tryz.prog w' = .ok (.bool true) w' := fun w' => run_neq_slice_nil w' 94 112 (some ⟨g, 0, none⟩) p.length cg Tryz.underlying94
 have B1 : As (Below W.heap.size W w1) := ⟨B0.out.drew.drew.trans (q1.mono B0.out.size)⟩
 have hb1 := (q1.block lb (blk_lt hb0)).trans hb0
 have hbox1 := (q1.block b3 (blk_lt hbox)).trans hbox
 have HK1 := As.mk (HK.out.keep (W' := w1) (fun q o _ hq => q1.block q hq) q1.size)
 have hmb := q1.block mb (by have := HM.out.lt; exact this)
 refine hK _ _ ⟨hb1, hbox1, HK1.out, hmb⟩ ?_
 clear hK K q1 hv
 with_reducible refine wpKept_next (fun K hK => ?_)
 go_simp
 refine hK _ _ ⟨hb1, hbox1, HK1.out, hmb⟩ ?_
 clear hK K
 with_reducible refine wpKept_next (fun K hK => ?_)
 go_simp
 refine hK _ _ ⟨hb1, hbox1, HK1.out, hmb⟩ ?_
 clear hK K
 with_reducible refine wpKept_next (fun K hK => ?_)
 go_simp
 refine hK _ _ ⟨hb1, hbox1, HK1.out, hmb⟩ ?_
 clear hK K
 refine wpKept_nil ?_
 go_wp2_with fail
 go_ret
 exact ⟨rfl, B1.out⟩
end Go.Proofs.YthfjhgdiakciaaaGreat.Bl
