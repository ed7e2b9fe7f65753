/- The slots' segments gathered into a row (gather). Condition: the first slots hold segments that follow one another, the others none. -/
import Derived.Test.YthfjhgdiakciaaaGreatM21
namespace Go.Proofs.YthfjhgdiakciaaaGreat.Bl
open Go.RowKit
set_option linter.unusedVariables false
set_option linter.unusedSimpArgs false
def ptrO : Option Nat → Value
 | none => .pointer none
 | some p => ptrV p
/-- The last of the first k slots' pointers. -/
def lastV (ps : List Nat) (k : Nat) : Value := ptrO (ps.take k).getLast?
/-- What the slots hold. -/
structure Found (W : World) (jb gf : Nat) (segs : List Seg) (ps : List Nat) : Prop where
 row : W.heap[gf]? = some (.cells (ps.map ptrV ++ List.replicate (32 - ps.length) (Value.pointer none)).toArray 79 (0, 0))
 len : ps.length = segs.length
 lt : segs.length < 32
 ne : gf ≠ jb
 segs : ∀ (i : Nat) (s : Seg), segs[i]? = some s → ∃ q own, ps[i]? = some q ∧ SegX W own q s ∧ ∀ k, own k → k < W.heap.size → k ≠ jb ∧ k ≠ gf
theorem Found.cell {W : World} {jb gf : Nat} {segs : List Seg} {ps : List Nat} (h : Found W jb gf segs ps) (i : Nat) (hi : i < 32) : W.cell? ⟨gf, i, none⟩ = some (ptrO ps[i]?) := by
 rw [blk_cell h.row, List.getElem?_toArray]
 by_cases hl : i < ps.length
 ·rw [List.getElem?_append_left (by rw [List.length_map]; exact hl), List.getElem?_map, List.getElem?_eq_getElem hl]
  rfl
 ·rw [List.getElem?_append_right (by rw [List.length_map]; omega), List.getElem?_replicate, if_pos (by rw [List.length_map]; omega), List.getElem?_eq_none (by omega)]
  rfl
theorem Found.frame {W W' : World} {jb gf : Nat} {segs : List Seg} {ps : List Nat} (h : Found W jb gf segs ps) (hf : Frame (fun k => k = jb) W W') : Found W' jb gf segs ps := by
 have hg := blk_lt h.row
 refine ⟨(hf.block gf hg (fun e => h.ne e)).trans h.row, h.len, h.lt, h.ne, fun i s hs => ?_⟩
 obtain ⟨q, own, a, b, c⟩ := h.segs i s hs
 refine ⟨q, fun k => own k ∧ k < W.heap.size, a, (b.mono (fun k hk hl => ⟨hk, hl⟩)).keep (fun k hk _ => hf.block k hk.2 (fun e => (c k hk.1 hk.2).1 e)) hf.low.size, fun k hk _ => c k hk.1 hk.2⟩
theorem lastV_succ (ps : List Nat) (i p : Nat) (h : ps[i]? = some p) : lastV ps (i + 1) = ptrV p := by
 unfold lastV
 rw [List.take_add_one, h]
 simp [ptrO]
theorem lastV_stop (ps : List Nat) (i : Nat) (h : ps.length ≤ i) : lastV ps (i + 1) = lastV ps i := by
 unfold lastV
 rw [List.take_of_length_le (by omega), List.take_of_length_le (by omega)]
set_option maxHeartbeats 4000000 in
set_option maxRecDepth 100000 in
theorem gather_a {W : World} {jb db gf : Nat} {safe : Int} {segs : List Seg} {ps : List Nat} (h : JBlk W jb db (.slice none 0 0) safe) (hf : Found W jb gf segs ps) (ho : SegsOk segs) :
  Calls Tryz.prog 28 #[.pointer (some ⟨jb, 0, none⟩), .slice (some ⟨gf, 0, none⟩) 32 32] W fun e W' => e = .returned (.tuple #[]) ∧ ∃ vs, JBlk W' jb db vs safe ∧ W'.ownsRow 0 79 1 vs segs.length (ps.map ptrV) ∧ (∀ k, vs.ownBlock = some k → W.heap.size ≤ k) ∧ Frame (fun k => k = jb) W W' ∧ (segs = [] → vs = .slice none 0 0 ∧ Below W.heap.size W W') := by
 have HJ := As.mk h
 have HF := As.mk hf
 have HO := As.mk ho
 have hjl := blk_lt h
 have hgl := blk_lt hf.row
 have hlen := hf.len
 have hlt := hf.lt
 have KC : As (∀ w, Below W.heap.size W w → ∀ i, i < 32 → w.cell? ⟨gf, i, none⟩ = some (ptrO ps[i]?)) := ⟨fun w hb i hi => by
  rw [World.cell?_of_block (w := W) (a := ⟨gf, i, none⟩) (hb.block gf hgl)]; exact hf.cell i hi⟩
 have KS : As (∀ w, Below W.heap.size W w → ∀ (i : Nat) (s : Seg), segs[i]? = some s → ∃ q, ps[i]? = some q ∧ w.cell? ⟨q, 0, none⟩ = some (.int .u32 i)) := ⟨fun w hb i s hs => by
  obtain ⟨q, own, a, ⟨im, ve, vl, b⟩, c⟩ := hf.segs i s hs
  refine ⟨q, a, ?_⟩
  rw [World.cell?_of_block (w := W) (a := ⟨q, 0, none⟩) (hb.block q b.lt), b.cells.1, (ho.all i s hs).2]⟩
 clear h hf ho
 have HLEN := As.mk hlen
 clear hlen
 go_enter Tryz.func28, Tryz.ntmps28
 go_wp2_with fail
 go_loopg [4, 11] 32 (fun gk v4 v11 w' => ∃ (i : Nat), v11 = .int .i64 i ∧ v4 = lastV ps i ∧ As (gk = 32 - i) ∧ As (i ≤ 32) ∧ As (Below W.heap.size W w'))
 case atStart => exact ⟨0, rfl, rfl, ⟨rfl⟩, ⟨by omega⟩, ⟨Below.refl _ _⟩⟩
 case round =>
  obtain ⟨i, rfl, rfl, HK, HI, HB⟩ := hrel
  have hii := HI.out
  by_cases h32 : i < 32
  ·have hsr := HB.out.size
   have k0 := KC.out wr HB.out i h32
   by_cases hin : i < segs.length
   ·obtain ⟨q, hq, hq0⟩ := KS.out wr HB.out i _ (List.getElem?_eq_getElem hin)
    rw [hq] at k0
    have hqs := lastV_succ ps i q hq
    have hlv : (i = 0 ∧ lastV ps i = .pointer none) ∨ (0 < i ∧ ∃ q', lastV ps i = .pointer (some ⟨q', 0, none⟩) ∧ wr.cell? ⟨q', 0, none⟩ = some (.int .u32 ((i - 1 : Nat) : Int))) := by
     by_cases h0 : i = 0
     ·subst h0; exact .inl ⟨rfl, rfl⟩
     ·right
      obtain ⟨q', hq', hq0'⟩ := KS.out wr HB.out (i - 1) _ (List.getElem?_eq_getElem (by omega))
      refine ⟨by omega, q', ?_, hq0'⟩
      have := lastV_succ ps (i - 1) q' hq'
      rw [show i - 1 + 1 = i by omega] at this
      exact this
    have HQS := As.mk hqs
    clear hqs hq
    simp only [ptrO, ptrV] at k0
    rcases hlv with ⟨h0, e0⟩ | ⟨h0, q', e0, c0⟩
    ·subst h0
     rw [e0]
     go_upto_region 4 with fail
     go_quiet (fail)
     go_wp2_with fail
     go_roundg (32 - (0 + 1))
     case measure => have := HK.out; omega
     case rel => exact ⟨1, rfl, HQS.out.symm, ⟨rfl⟩, ⟨by omega⟩, ⟨⟨HB.out.os, HB.out.tape, HB.out.output, HB.out.size, HB.out.block⟩⟩⟩
    ·rw [e0]
     have hgt : (((i - 1 : Nat) : Int)) < (i : Int) := by omega
     generalize hm : ((i - 1 : Nat) : Int) = m at *
     clear hm
     go_upto_region 4 with fail
     go_quiet (fail)
     go_wp2_with fail
     go_roundg (32 - (i + 1))
     case measure => have := HK.out; omega
     case rel => exact ⟨i + 1, by go_num, HQS.out.symm, ⟨rfl⟩, ⟨by omega⟩, ⟨⟨HB.out.os, HB.out.tape, HB.out.output, HB.out.size, HB.out.block⟩⟩⟩
   ·have hst := lastV_stop ps i (by have := HLEN.out; omega)
    have hn : ps[i]? = none := List.getElem?_eq_none (by have := HLEN.out; omega)
    rw [hn] at k0
    simp only [ptrO] at k0
    have HST := As.mk hst
    clear hst hn
    have hlv : ∃ u, lastV ps i = .pointer u := by
     unfold lastV
     cases (ps.take i).getLast? with
     | none => exact ⟨_, rfl⟩
     | some p => exact ⟨_, rfl⟩
    obtain ⟨u, hu⟩ := hlv
    rw [hu]
    go_upto_region 4 with fail
    go_quiet (fail)
    go_wp2_with fail
    go_roundg (32 - (i + 1))
    case measure => have := HK.out; omega
    case rel => exact ⟨i + 1, by go_num, by rw [HST.out]; exact hu.symm, ⟨rfl⟩, ⟨by omega⟩, ⟨⟨HB.out.os, HB.out.tape, HB.out.output, HB.out.size, HB.out.block⟩⟩⟩
  ·have hi : i = 32 := by omega
   subst hi
   clear hii h32
   have hlv : lastV ps 32 = ptrO ps.getLast? := by
    unfold lastV
    rw [List.take_of_length_le (by have := HLEN.out; omega)]
   rw [hlv]
   clear hlv
   by_cases h0 : segs.length = 0
   ·have e1 : ps = [] := List.length_eq_zero_iff.1 (by have := HLEN.out; omega)
    subst e1
    have e2 : segs = [] := List.length_eq_zero_iff.1 h0
    simp only [List.getLast?_nil, ptrO]
    go_wp2_with fail
    refine bodyPost_ret (results_none rfl _ _ _) rfl ?_
    refine ⟨rfl, .slice none 0 0, (HB.out.block jb hjl).trans HJ.out, ?_, fun k hk => ?_, Frame.of_below HB.out (Nat.le_refl _), fun _ => ⟨rfl, HB.out⟩⟩
    ·rw [e2]
     exact World.ownsRow_nil _ _ _ _
    ·cases hk
   ·obtain ⟨N, hN⟩ : ∃ N, segs.length = N + 1 := ⟨segs.length - 1, by omega⟩
    obtain ⟨pN, hpN, hpN0⟩ := KS.out wr HB.out N _ (List.getElem?_eq_getElem (by omega))
    have hgl' : ps.getLast? = some pN := by rw [List.getLast?_eq_getElem?, HLEN.out, hN]; exact hpN
    rw [hgl']
    simp only [ptrO, ptrV]
    have hsr := HB.out.size
    have J1 := As.mk ((HB.out.block jb hjl).trans HJ.out)
    obtain ⟨j0, j1, j2, j3, j4⟩ := HJ.out.cells
    have HPN := As.mk hpN
    have HN := As.mk hN
    clear hpN hgl' hN h0
    have n0 : wr.cell? ⟨jb, 2, none⟩ = some (.slice none 0 0) := by rw [World.cell?_of_block (w := W) (a := ⟨jb, 2, none⟩) (HB.out.block jb hjl)]; exact j2
    have g2 := blk_frozen J1.out 2
    have hjr : jb < wr.heap.size := by omega
    have hpl : pN < wr.heap.size := block_lt_of_cell hpN0
    go_upto_region 9 with fail
    have hgn : W.heap.size ≤ wr.heap.size := hsr
    obtain ⟨bN, hbN⟩ : ∃ b, b = wr.heap.size := ⟨_, rfl⟩
    have J2 : As (JBlk ((wr.setCell ⟨jb, 2, none⟩ (.slice (some ⟨wr.heap.size, 0, none⟩) 1 1)).alloc (.cells #[.pointer (some ⟨pN, 0, none⟩)] 79)) jb db (.slice (some ⟨wr.heap.size, 0, none⟩) 1 1) safe) := ⟨blk_old ((blk_put J1.out 2 _).trans rfl) _⟩
    have F2 : As (Frame (fun k => k = jb) W ((wr.setCell ⟨jb, 2, none⟩ (.slice (some ⟨wr.heap.size, 0, none⟩) 1 1)).alloc (.cells #[.pointer (some ⟨pN, 0, none⟩)] 79))) := ⟨(Frame.setCell (own := fun k => k = jb) (p := ⟨jb, 2, none⟩) (Frame.of_below HB.out (Nat.le_refl _)) (.inl rfl) _).alloc _⟩
    have N2 : ((wr.setCell ⟨jb, 2, none⟩ (.slice (some ⟨wr.heap.size, 0, none⟩) 1 1)).alloc (.cells #[.pointer (some ⟨pN, 0, none⟩)] 79)).heap[wr.heap.size]? = some (.cells #[.pointer (some ⟨pN, 0, none⟩)] 79 (0, 0)) := by
     have h := blk_new (wr.setCell ⟨jb, 2, none⟩ (.slice (some ⟨wr.heap.size, 0, none⟩) 1 1)) (.cells #[.pointer (some ⟨pN, 0, none⟩)] 79 (0, 0))
     rw [show (wr.setCell ⟨jb, 2, none⟩ (.slice (some ⟨wr.heap.size, 0, none⟩) 1 1)).heap.size = wr.heap.size by simp] at h
     exact h
    rw [← hbN] at J2 F2 N2 ⊢
    generalize (wr.setCell ⟨jb, 2, none⟩ (.slice (some ⟨bN, 0, none⟩) 1 1)).alloc (.cells #[.pointer (some ⟨pN, 0, none⟩)] 79) = w2 at *
    have hbNW : W.heap.size ≤ bN := by omega
    have R2 : As (w2.ownsRow 0 79 1 (.slice (some ⟨bN, 0, none⟩) 1 1) 1 [.pointer (some ⟨pN, 0, none⟩)]) := ⟨⟨rfl, .inr ⟨bN, 1, _, rfl, Nat.zero_le _, N2, Nat.le_refl _, by unfold maxLen; omega, rfl, rfl⟩⟩⟩
    have S2 := As.mk (HF.out.frame F2.out)
    have KS2 : As (∀ (i : Nat) (s : Seg), segs[i]? = some s → ∃ q, ps[i]? = some q ∧ w2.cell? ⟨q, 0, none⟩ = some (.int .u32 i)) := ⟨fun i s hs => by
     obtain ⟨q, own, a, ⟨im, ve, vl, b⟩, c⟩ := S2.out.segs i s hs
     exact ⟨q, a, by rw [b.cells.1, (HO.out.all i s hs).2]⟩⟩
    obtain ⟨pN', e1, hpN2⟩ := KS2.out N _ (List.getElem?_eq_getElem (by have := HN.out; omega))
    rw [HPN.out] at e1
    injection e1 with e1
    subst e1
    clear hbN N2 hpN0 n0 g2 j0 j1 j2 j3 j4 hgn
    go_wp2_with fail
    go_loopg [7] (N + 1) (fun gk v7 w' => ∃ (k : Nat) (vs : Value), v7 = .int .u32 k ∧ As (gk = k + 1) ∧ As (k ≤ N) ∧ As (JBlk w' jb db vs safe) ∧ As (w'.ownsRow 0 79 1 vs (N + 1 - k) ((ps.drop k).map ptrV)) ∧ As (∀ k, vs.ownBlock = some k → W.heap.size ≤ k) ∧ As (Frame (fun k => k = jb) W w'))
    case atStart =>
     refine ⟨N, _, rfl, ⟨rfl⟩, ⟨Nat.le_refl _⟩, J2, ⟨?_⟩, ⟨fun k hk => by have := ob_eq hk; omega⟩, F2⟩
     have e1 : ps.drop N = [pN] := by
      have hl : N < ps.length := by have := HLEN.out; have := HN.out; omega
      rw [List.drop_eq_getElem_cons hl, List.drop_of_length_le (by have := HLEN.out; have := HN.out; omega)]
      have := HPN.out
      rw [List.getElem?_eq_getElem hl] at this
      injection this with this
      rw [this]
     rw [e1, show N + 1 - N = 1 by omega]
     exact R2.out
    case round =>
     obtain ⟨k, vs, rfl, HK2, HKN, HJB, HR, HVO, HFR⟩ := hrel
     have hkn := HKN.out
     cases k with
     | zero =>
      go_wp2_with fail
      go_end0
      have hr := HR.out
      rw [List.drop_zero, Nat.sub_zero, ← HN.out] at hr
      exact ⟨rfl, vs, HJB.out, hr, HVO.out, HFR.out, fun e => by have := HN.out; rw [e] at this; cases this⟩
     | succ m =>
      have HN' := HN.out
      have FR := As.mk (HF.out.frame HFR.out)
      have hlm : segs[m]? = some (segs[m]'(by omega)) := List.getElem?_eq_getElem (by omega)
      have hlm1 : segs[m + 1]? = some (segs[m + 1]'(by omega)) := List.getElem?_eq_getElem (by omega)
      obtain ⟨pm, om, hpm, xm, cm⟩ := FR.out.segs m _ hlm
      obtain ⟨pm1, om1, hpm1, xm1, cm1⟩ := FR.out.segs (m + 1) _ hlm1
      have hrow := HR.out
      have hd : (ps.drop (m + 1)).map ptrV = ptrV pm1 :: (ps.drop (m + 2)).map ptrV := by
       have hl : m + 1 < ps.length := by have := HLEN.out; omega
       rw [List.drop_eq_getElem_cons hl, List.map_cons]
       rw [List.getElem?_eq_getElem hl] at hpm1
       injection hpm1 with hpm1
       rw [hpm1]
      obtain ⟨nn, hnn⟩ : ∃ nn, N + 1 - (m + 1) = nn + 1 := ⟨N - (m + 1), by omega⟩
      rw [hnn] at hrow
      obtain ⟨gv, cv, rfl, _, hgvl⟩ := hrow.form (by omega)
      have hc0 : wr.cell? ⟨gv, 0, none⟩ = some (ptrV pm1) := by
       rw [hrow.cellAt 0 (by omega), hd]
       rfl
      have km := FR.out.cell m (by omega)
      rw [hpm] at km
      obtain ⟨im, vem, vlm, sm⟩ := xm
      have hm0 := sm.cells.1
      rw [(HO.out.all m _ hlm).2] at hm0
      have HJN := As.mk (fun w (hw : Below wr.heap.size wr w) => joins_a (W := w) (s := segs[m]'(by omega)) (t := segs[m + 1]'(by omega)) (p := pm) (q := pm1) (g := gv) (n := nn + 1) (c := cv) (SegX.keep (W := wr) (W' := w) (own := fun k => om k ∧ k < wr.heap.size) ⟨im, vem, vlm, sm.mono (fun k hk hl => ⟨hk, hl⟩)⟩ (fun k hk _ => hw.block k hk.2) hw.size)
       ((xm1.mono (own' := fun k => om1 k ∧ k < wr.heap.size) (fun k hk hl => ⟨hk, hl⟩)).keep (fun k hk _ => hw.block k hk.2) hw.size) (HO.out.all m _ hlm).1 (HO.out.all (m + 1) _ hlm1).1 (by rw [World.cell?_of_block (w := wr) (a := ⟨gv, 0, none⟩) (hw.block gv hgvl)]; exact hc0)
       (HO.out.chain m _ _ hlm hlm1) (by have := hw.size; omega) (by omega))
      obtain ⟨j0, j1, j2, j3, j4⟩ := HJB.out.cells
      have hwu : IntKind.u32.wrap (m : Int) = m := by simp [IntKind.wrap, IntKind.bits, IntKind.signed]; omega
      have hwi : IntKind.i64.wrap (m : Int) = m := by rw [IntKind.wrap_i64] <;> omega
      have hrem : Int.tmod (m : Int) 32 = m := by rw [Int.tmod_eq_emod_of_nonneg (by omega)]; omega
      have hrow := As.mk hrow
      have HD := As.mk hd
      have HNN := As.mk hnn
      have HPM := As.mk hpm
      simp only [ptrO] at km
      have hpml := sm.lt
      clear hd hnn hpm hpm1 sm xm1 cm cm1 hlm hlm1 hc0 HR
      unfold ptrV at km HJN
      go_wp2_with fail
      refine (HJN.out wr (Below.refl _ _)).mono ?_
      rintro x w3 ⟨rfl, q2⟩
      have hs3 := q2.size
      have hjr := blk_lt HJB.out
      have J3 : As (JBlk w3 jb db (.slice (some ⟨gv, 0, none⟩) (nn + 1) cv) safe) := ⟨(q2.block jb hjr).trans HJB.out⟩
      have R3 := As.mk (own_keep (W' := w3) hrow.out (fun g hg hlg => q2.block g hlg))
      have F3 : As (Frame (fun k => k = jb) W w3) := ⟨HFR.out.trans (Frame.of_below (own := fun _ => False) q2 (Nat.le_refl _)) (fun k _ hk => hk.elim)⟩
      clear q2 j0 j1 j2 j3 j4 HJN
      obtain ⟨j0, j1, j2, j3, j4⟩ := J3.out.cells
      have hjl3 := blk_lt J3.out
      obtain ⟨b4, hb4⟩ : ∃ b, b = w3.heap.size := ⟨_, rfl⟩
      go_wp2_with fail
      have N4 : (w3.alloc (.cells #[.pointer (some ⟨pm, 0, none⟩)] 79)).heap[w3.heap.size]? = some (.cells #[.pointer (some ⟨pm, 0, none⟩)] 79 (0, 0)) := blk_new w3 _
      have hgb : gv ≠ w3.heap.size := by omega
      refine (insert_a (W := w3.alloc (.cells #[.pointer (some ⟨pm, 0, none⟩)] 79)) (R3.out.alloc _) (by omega) (by have := HNN.out; omega) (fun v hv => by
       obtain ⟨a, _, rfl⟩ := List.mem_map.1 hv
       rfl) N4 (fun e => hgb (ob_eq e)) rfl).mono ?_
      rintro x w5 ⟨v5, rfl, q1, q2, q3⟩
      have hs4 : (w3.alloc (.cells #[.pointer (some ⟨pm, 0, none⟩)] 79)).heap.size = w3.heap.size + 1 := by simp
      have hgj : gv ≠ jb := own_ne hrow.out HJB.out (by decide) gv rfl
      have J5 : As (JBlk w5 jb db (.slice (some ⟨gv, 0, none⟩) (nn + 1) cv) safe) := ⟨(q2.block jb (by omega) (fun e => hgj (by injection e with e; exact e.symm))).trans (blk_old J3.out _)⟩
      have F5 : As (Frame (fun k => k = jb) W w5) := ⟨(F3.out.alloc _).grown q2 (fun k hk => .inr (HVO.out k hk.symm.symm))⟩
      have HO5 := As.mk q1
      have HV5 : As (∀ k, v5.ownBlock = some k → W.heap.size ≤ k) := ⟨fun k hk => by
       rcases q3 k hk with h | h
       ·exact HVO.out k h
       ·have := F3.out.low.size; omega⟩
      have hg5j : ∀ k, v5.ownBlock = some k → k ≠ jb := own_ne q1 J5.out (by decide)
      obtain ⟨g5, c5, rfl, _, _⟩ := q1.form (by omega)
      clear q1 q2 q3 hs4 N4 hb4 j0 j1 j2 j3 j4
      obtain ⟨j0, j1, j2, j3, j4⟩ := J5.out.cells
      have g2 := blk_frozen J5.out 2
      go_wp2_with fail
      go_roundg (m + 1)
      case measure => have := HK2.out; omega
      case rel =>
       have e1 : ps.drop m = pm :: ps.drop (m + 1) := by
        have hl : m < ps.length := by have := HLEN.out; omega
        rw [List.drop_eq_getElem_cons hl]
        have := HPM.out
        rw [List.getElem?_eq_getElem hl] at this
        injection this with this
        rw [this]
       have e2 : N + 1 - m = nn + 1 + 1 := by have := HNN.out; omega
       refine ⟨m, _, by simp [hwu], ⟨rfl⟩, ⟨by omega⟩, ⟨(blk_put J5.out 2 _).trans rfl⟩, ⟨?_⟩, HV5, ⟨Frame.setCell (own := fun k => k = jb) (p := ⟨jb, 2, none⟩) F5.out (.inl rfl) _⟩⟩
       rw [e1, e2, List.map_cons]
       exact own_keep HO5.out (fun g' hg' _ => Below.heap_setCell _ _ _ _ (show g' ≠ jb from hg5j g' hg'))
end Go.Proofs.YthfjhgdiakciaaaGreat.Bl
/- What stands behind a segment's frames is made noughts again, in memory and on the disk (clean). Condition: journal, disk and segment lie in memory, the disk is lit. -/
namespace Go.Proofs.YthfjhgdiakciaaaGreat.Bl
open Go.RowKit
set_option linter.unusedVariables false
set_option linter.unusedSimpArgs false
theorem wp_clear_run (w : World) {P : Program} {o : Oper} {a : Act} {K : Act → World → Prop} {Q : Exit → Act → World → Prop} (x : Operand) (t : TypeId)
  (ho : o.op = .call { callee := .builtin .clear, args := #[x], argTypes := #[t] }) (v : Value) (hx : a.eval x = v) {v' : Value} {w' : World}
  (hr : (Builtin.clear_ #[t] o.type #[v]).run P w = .ok v' w') (h : K (a.put o.dst v') w') : o.wp P a w K Q := by
 unfold Oper.wp execOp
 simp only [ho, resolve, invoke, builtin, Sem.run_bind, Sem.run_pure, Result.andThen_ok, List.map_toArray, List.map_cons, List.map_nil, hx, hr]
 exact h
theorem wpList_clear_run (w : World) {P : Program} {ops : Array Oper} {rest : List Oper} {o : Oper} {a : Act} {Q : Exit → Act → World → Prop} (hgd : o.guard = none) (x : Operand) (t : TypeId)
  (ho : o.op = .call { callee := .builtin .clear, args := #[x], argTypes := #[t] }) (v : Value) (hx : a.eval x = v) {v' : Value} {w' : World}
  (hr : (Builtin.clear_ #[t] o.type #[v]).run P w = .ok v' w') (h : wpList P ops Q rest (a.put o.dst v') w') : wpList P ops Q (o :: rest) a w :=
 wpList_plain hgd fun _ hK => wp_clear_run w x t ho v hx hr (hK _ _ h)
theorem slice76e (b : Nat) (w : World) : (Instr.sliceAt 76 (.pointer (some ⟨b, 0, none⟩)) (some (.int .i64 1024)) none none).run Tryz.prog w = .ok (.slice (some ⟨b, 0, none⟩) 0 0) w := by
 have h := run_sliceAt_array_l (P := Tryz.prog) w 76 ⟨b, 0, none⟩ under76 .i64 1024 (by omega) (by rw [len76]; omega)
 rw [len76, elem76, sizeOf5] at h
 refine Eq.trans h ?_
 simp [Result.andThen, slicedAt]
theorem zero5 (w : World) : (zeroValue 5).run Tryz.prog w = .ok (.int .u8 0) w := by kernel_rfl
/-- The whole image's slice from at on, cleared. -/
theorem clear76 {W : World} {b : Nat} {img : List Int} (h : W.heap[b]? = some (.cells (bv img).toArray 76 (0, 0))) (hl : img.length = 1024) (n : Nat) (hn : n ≤ 1024) (ty : TypeId) :
  ∃ v, (∀ w, (Instr.sliceAt 76 (.pointer (some ⟨b, 0, none⟩)) (some (.int .i64 (n : Int))) none none).run Tryz.prog w = .ok v w) ∧ (Builtin.clear_ #[39] ty #[v]).run Tryz.prog W = .ok (.tuple #[]) (W.setCells b n (bv (zeros (1024 - n)))) := by
 by_cases h1 : n = 1024
 ·subst h1
  refine ⟨_, fun w => slice76e b w, ?_⟩
  simp [Builtin.clear_, run_underlying Tryz.underlying39, zeros, bv, World.setCells, Builtin.zeroCells, sizeOf5, zero5]
 ·refine ⟨_, fun w => slice76 b n (by omega) _ rfl w, ?_⟩
  have hc : ∀ j, j < 1024 → W.cell? ⟨b, j, none⟩ = (bv img)[j]? := fun j hj => by rw [blk_cell h, List.getElem?_toArray]
  have e : bv (zeros (1024 - n)) = List.replicate (1024 - n) (Value.int .u8 0) := by unfold bv zeros; rw [List.map_replicate]
  rw [e]
  exact Lib.run_clear_slice W 39 5 ty (.int .u8 0) Tryz.underlying39 zero5 rfl rfl b n (1024 - n) (1024 - n) (by omega) (fun j hj => by
   rw [hc _ (by omega), List.getElem?_eq_getElem (by rw [bv_len, hl]; omega)]; rfl) (fun j hj => blk_frozen h _)
theorem imgF_clear {sg : Seg} {img t : List Int} (hi : img = bodyF sg ++ t) (hl : img.length = 1024) : putI img (endF sg) (zeros (1024 - endF sg)) = imgF sg := by
 have he : endF sg = (bodyF sg).length := rfl
 have hle : endF sg + t.length = 1024 := by rw [he, ← hl, hi, List.length_append]
 unfold putI imgF over
 rw [zeros_len, show endF sg + (1024 - endF sg) = 1024 by omega, List.drop_of_length_le (by omega), List.append_nil, ← he, hi, he, List.take_left']
 ·congr 1
  unfold zeros
  rw [List.drop_replicate]
 ·rfl
set_option maxHeartbeats 4000000 in
set_option maxRecDepth 100000 in
theorem clean_a {W : World} {OD OS : Nat → Prop} {jb db p : Nat} {vs ve vl : Value} {safe : Int} {s : St} {sg : Seg} {img t : List Int} (h : JBlk W jb db vs safe) (hd : Disk W OD db 512 s) (hl : LitS s) (hj : ¬ OD jb) (hs : SegAt W OS p sg img (endsF sg) ve vl) (hi : img = bodyF sg ++ t)
  (hds : ∀ k, OD k → ¬ OS k) (hjs : ¬ OS jb) (hdl : ∀ k, OD k → k < W.heap.size) (hno : sg.no < 32) (hw : s.wait.length < 900000) :
  Calls Tryz.prog 75 #[.pointer (some ⟨jb, 0, none⟩), .pointer (some ⟨p, 0, none⟩), .int .i64 (endF sg : Nat)] W fun e W' => ∃ (n : Nat) (s' : St), e = .returned (.tuple #[.int .i64 n, .int .i64 0]) ∧ n ≤ 16 ∧ JBlk W' jb db vs safe ∧ Disk W' (fun k => OD k ∨ W.heap.size ≤ k) db 512 s' ∧ LitS s' ∧
    SegAt W' OS p sg (imgF sg) (endsF sg) ve vl ∧ Frame (fun k => OD k ∨ k = jb ∨ k = p) W W' := by
 have hz := zero76
 obtain ⟨k0, k1, k3, k4⟩ := hs.cells
 have hil := hs.il
 have hfit : endF sg ≤ 1024 := by
  have : img.length = endF sg + t.length := by rw [hi, List.length_append]; rfl
  omega
 have HCL := As.mk (imgF_clear hi hil)
 have hIR := As.mk hs.img_range
 have hs76 : (Tryz.prog.info? 76).map (·.size) = some (bv img).length := by rw [bv_len, hil]; exact size76
 have hone := bv_one img
 have hspl := hs.lt
 have H := As.mk h
 have D := As.mk hd
 have S := As.mk hs
 have HJ := As.mk hj
 have HDS := As.mk hds
 have HDL := As.mk hdl
 have hjl := blk_lt h
 clear h hd hs hi hdl k0 k1 k3 k4
 generalize hat : endF sg = at_ at *
 have HAT := As.mk hat
 clear hat
 go_enter Tryz.func75, Tryz.ntmps75
 go_upto_region 2 with (first | (refine wpList_load_mid rfl 76 (.tmp 17) rfl p 2 rfl (bv img) _ hIR.out Tryz.underlying76 rfl hs76 ?_) | (refine wpList_store_mid rfl 76 (.tmp 8) (.tmp 18) rfl W.heap.size 0 (bv img).toArray rfl rfl (there_block (blk_new W _) 0 _ (by rw [List.size_toArray, List.size_toArray, bv_len, bv_len, zeros_len, hil]; exact Nat.le_refl _)) (by rw [List.size_toArray]; exact hs76) (all_oneCell_toArray hone) ?_))
 obtain ⟨b8, hb8⟩ : ∃ b8, b8 = W.heap.size := ⟨_, rfl⟩
 have hsz2 : ((W.alloc (.cells (bv (zeros 1024)).toArray 76)).setCells W.heap.size 0 (bv img)).heap.size = W.heap.size + 1 := by rw [setCells_size]; simp
 have h8 : As (((W.alloc (.cells (bv (zeros 1024)).toArray 76)).setCells W.heap.size 0 (bv img)).heap[W.heap.size]? = some (.cells (bv img).toArray 76 (0, 0))) := ⟨row_over (blk_new W _) (by rw [List.size_toArray, bv_len, bv_len, zeros_len, hil])⟩
 have hB2 : As (Below W.heap.size W ((W.alloc (.cells (bv (zeros 1024)).toArray 76)).setCells W.heap.size 0 (bv img))) := ⟨((Below.refl _ W).alloc (Nat.le_refl _) _).trans (setCells_below _ (Nat.le_refl _))⟩
 generalize (W.alloc (.cells (bv (zeros 1024)).toArray 76)).setCells W.heap.size 0 (bv img) = w2 at *
 rw [← hb8] at h8 hB2 hsz2 hspl hjl ⊢
 have HB8 := As.mk hb8
 have HDL : As (∀ k, OD k → k < b8) := ⟨fun k hk => by rw [hb8]; exact HDL.out k hk⟩
 obtain ⟨cv, hcv1, hcv2⟩ := clear76 h8.out hil at_ hfit 0
 have hsp : p < b8 := hspl
 have hjb : jb < b8 := hjl
 clear hspl hjl hb8 hIR hs76 hone
 go_upto_region 4 with ((at_builtin; refine wpList_clear_run _ rfl (.tmp 20) 39 rfl cv rfl hcv2 ?_))
 have h8' : As ((w2.setCells b8 at_ (bv (zeros (1024 - at_)))).heap[b8]? = some (.cells (bv (imgF sg)).toArray 76 (0, 0))) := ⟨by
  rw [setCells_same (bv (zeros (1024 - at_))) b8 at_ w2 _ h8.out, putAt_bv _ _ _ (by rw [zeros_len]; omega), HCL.out]⟩
 have hB3 : As (Below b8 W (w2.setCells b8 at_ (bv (zeros (1024 - at_))))) := ⟨hB2.out.trans (setCells_below _ (Nat.le_refl _))⟩
 have hsz3 : (w2.setCells b8 at_ (bv (zeros (1024 - at_)))).heap.size = b8 + 1 := by rw [setCells_size, hsz2]
 generalize w2.setCells b8 at_ (bv (zeros (1024 - at_))) = w3 at *
 have hil' : (imgF sg).length = 1024 := imgF_len sg (by rw [HAT.out]; exact hfit)
 have hok' : As (ByteOk (imgF sg)) := ⟨by rw [← HCL.out]; exact putI_ok _ S.out.iok (zeros_ok _)⟩
 generalize hpi : imgF sg = img' at *
 have HPI := As.mk hpi
 clear hpi hsz2 h8 hB2 hcv1 hcv2 HCL
 have HW := As.mk hw
 clear hw
 go_wp2_with fail
 go_loopg [9, 21] 16 (fun gk v9 v21 w' => ∃ (i n : Nat) (s' : St), v21 = .int .i64 i ∧ v9 = .int .i64 n ∧ As (i ≤ 16) ∧ As (n ≤ i) ∧ As (gk = 16 - i) ∧ As (LitS s' ∧ s'.wait.length ≤ s.wait.length + i) ∧ As (JBlk w' jb db vs safe) ∧
   As (Disk w' (fun k => OD k ∨ (b8 < k ∧ k < w'.heap.size)) db 512 s') ∧ As (Frame (fun k => OD k ∨ k = jb) W w') ∧ As (w'.heap[b8]? = some (.cells (bv img').toArray 76 (0, 0))))
 case atStart =>
  refine ⟨0, 0, s, rfl, rfl, ⟨by omega⟩, ⟨by omega⟩, ⟨rfl⟩, ⟨hl, by omega⟩, ⟨(hB3.out.block jb hjb).trans H.out⟩, ⟨?_⟩, ⟨Frame.of_below hB3.out (by rw [HB8.out]; exact Nat.le_refl _)⟩, h8'⟩
  exact (D.out.keep (fun k hk _ => hB3.out.block k (HDL.out k hk))).mono (fun k hk _ => .inl hk)
 case round =>
  obtain ⟨i, n, s', rfl, rfl, HI', HN', HK, HLW, HJB, HD', HF, H8⟩ := hrel
  have hii := HI'.out
  have S1 : As (SegAt wr OS p sg img (endsF sg) ve vl) := ⟨S.out.keep (fun k hk hlk => HF.out.block k hlk (fun h => by
   rcases h with h | h
   ·exact HDS.out k h hk
   ·subst h; exact hjs hk)) HF.out.low.size⟩
  by_cases hlt : i < 16
  ·have hblk := blkF_len hil' (i := i) (by omega)
   have hls : LitS s' := HLW.out.1
   have hws : s'.wait.length < 1000000 := by have := HLW.out.2; have := HW.out; omega
   have hone' := bv_one img'
   have hs76' : (Tryz.prog.info? 76).map (·.size) = some (bv img').toArray.size := by rw [List.size_toArray, bv_len, hil']; exact size76
   have hz8 := zero148
   clear hz
   go_wp2_with (refine wpList_load_row rfl 76 (.tmp 8) rfl b8 rfl 76 _ _ _ H8.out Tryz.underlying76 rfl hs76' ?_)
   refine (part_a hil' i (by omega) wr).mono ?_
   rintro e wa ⟨rfl, q1⟩
   have QA := As.mk q1
   have hsa := q1.size
   have hsb : b8 < wr.heap.size := blk_lt H8.out
   have honeb := bv_one (blkF img' i)
   have hs148 : (Tryz.prog.info? 148).map (·.size) = some (bv (blkF img' i)).toArray.size := by rw [List.size_toArray, bv_len, hblk]; exact size148
   have hs148' : (bv (blkF img' i)).toArray.size = 64 := by rw [List.size_toArray, bv_len, hblk]
   clear q1 hs76' hone'
   go_upto_region 8 with (refine wpList_store_mid rfl 148 (.tmp 11) (.tmp 26) rfl wa.heap.size 0 (bv (blkF img' i)).toArray rfl rfl (there_block (blk_new wa _) 0 _ (by rw [hs148', List.size_toArray, bv_len, zero64_len]; exact Nat.le_refl _)) hs148 (all_oneCell_toArray honeb) ?_)
   obtain ⟨b10, hb10⟩ : ∃ b10, b10 = wa.heap.size := ⟨_, rfl⟩
   have h10 : As (((wa.alloc (.cells (bv zero64).toArray 148)).setCells wa.heap.size 0 (bv (blkF img' i))).heap[wa.heap.size]? = some (.cells (bv (blkF img' i)).toArray 148 (0, 0))) := ⟨row_over (blk_new wa _) (by rw [List.size_toArray, bv_len, bv_len, zero64_len, hblk])⟩
   have hBb : As (Below wr.heap.size wr ((wa.alloc (.cells (bv zero64).toArray 148)).setCells wa.heap.size 0 (bv (blkF img' i)))) := ⟨(QA.out.alloc hsa _).trans (setCells_below _ hsa)⟩
   generalize (wa.alloc (.cells (bv zero64).toArray 148)).setCells wa.heap.size 0 (bv (blkF img' i)) = wb at *
   rw [← hb10] at h10 hsa ⊢
   clear QA hs148 hs148' honeb hz8 hb10
   have hsbb := hBb.out.size
   have HXB : As (Bytes wb (some ⟨b10, 0, none⟩) (blkF img' i)) := ⟨⟨blkF_ok hok'.out i, fun _ => ⟨b10, 0, rfl, blk_lt h10.out, fun j v hv => by
    rw [Nat.zero_add, blk_cell h10.out, List.getElem?_toArray]
    exact hv⟩⟩⟩
   have HJB := As.mk ((hBb.out.block jb (by have := hjb; omega)).trans HJB.out)
   have HDb : As (Disk wb (fun k => OD k ∨ (b8 < k ∧ k < wr.heap.size)) db 512 s') := ⟨HD'.out.keep (fun k _ hlk => hBb.out.block k hlk)⟩
   have S2 := As.mk (S1.out.keep (W' := wb) (fun k _ hlk => hBb.out.block k hlk) hsbb)
   have H8b := As.mk ((hBb.out.block b8 hsb).trans H8.out)
   have HFb : As (Frame (fun k => OD k ∨ k = jb) W wb) := ⟨HF.out.trans (Frame.of_below hBb.out (Nat.le_refl _)) (fun _ _ h => h)⟩
   have hnl := HDb.out.1.now
   have hkl : sg.no * 16 + i < s'.now.length := by omega
   have HRD := read_at (W := wb.drew) (HDb.out.keep (fun _ _ _ => rfl)) (sg.no * 16 + i) hls.dark hkl
   have HX := As.mk (And.intro (HDb.out.1.b1.1 _ (List.getElem_mem hkl)) (HDb.out.1.b1.2 _ (List.getElem_mem hkl)))
   rw [show ((sg.no * 16 + i : Nat) : Int) = (sg.no : Int) * 16 + (i : Int) by omega] at HRD
   generalize s'.now[sg.no * 16 + i] = y at *
   have HRD := As.mk HRD
   clear hnl hkl
   have hrem : Int.tmod (sg.no : Int) 32 = sg.no := by rw [Int.tmod_eq_emod_of_nonneg (by omega)]; omega
   have hwn : IntKind.i64.wrap (sg.no : Int) = sg.no := by rw [IntKind.wrap_i64] <;> omega
   have hwm : IntKind.i64.wrap ((sg.no : Int) * 16) = (sg.no : Int) * 16 := by rw [IntKind.wrap_i64] <;> omega
   have hwa : IntKind.i64.wrap ((sg.no : Int) * 16 + (i : Int)) = (sg.no : Int) * 16 + (i : Int) := by rw [IntKind.wrap_i64] <;> omega
   refine wp_region_plan_kept (fun w' => JBlk w' jb db vs safe ∧ w'.cell? ⟨p, 0, none⟩ = some (.int .u32 sg.no)) [(1,0),(1,1),(1,2),(0,3),(1,4),(1,5),(1,6),(0,7),(1,8),(1,9),(1,10),(1,11),(0,12),(1,13),(1,14),(1,15),(1,16),(2,17),(2,18),(1,19),(1,20),(1,21),(1,22)] (by kernel_rfl) (by kernel_rfl) (by kernel_rfl) (by kernel_rfl) (fun _ _ _ _ _ h => h) ⟨HJB.out, S2.out.cells.1⟩ ?_
   simp only [tagged, List.filterMap_cons, List.filterMap_nil, List.getElem?_toArray, List.getElem?_cons_succ, List.getElem?_cons_zero, Option.map_some]
   iterate 3 (refine wpKept_sure (fun K hK => ?_); go_simp; refine hK _ ?_; clear hK K)
   refine wpKept_take (fun K hK => ?_)
   rw [if_pos (by rfl)]
   apply Exists.intro
   refine ⟨fun w' hw' => ?_, hK _ ?_⟩
   ·obtain ⟨⟨m0, m1, m2, m3, m4⟩, s1⟩ := And.intro (JBlk.cells hw'.1) hw'.2
    go_simp
    rfl
   clear hK K
   iterate 3 (refine wpKept_sure (fun K hK => ?_); go_simp; refine hK _ ?_; clear hK K)
   refine wpKept_take (fun K hK => ?_)
   rw [if_pos (by rfl)]
   apply Exists.intro
   refine ⟨fun w' hw' => ?_, hK _ ?_⟩
   ·obtain ⟨⟨m0, m1, m2, m3, m4⟩, s1⟩ := And.intro (JBlk.cells hw'.1) hw'.2
    go_simp
    rfl
   clear hK K
   iterate 4 (refine wpKept_sure (fun K hK => ?_); go_simp; refine hK _ ?_; clear hK K)
   refine wpKept_take (fun K hK => ?_)
   rw [if_pos (by rfl)]
   apply Exists.intro
   refine ⟨fun w' hw' => ?_, hK _ ?_⟩
   ·obtain ⟨⟨m0, m1, m2, m3, m4⟩, s1⟩ := And.intro (JBlk.cells hw'.1) hw'.2
    go_simp
    rfl
   clear hK K
   iterate 4 (refine wpKept_sure (fun K hK => ?_); go_simp; refine hK _ ?_; clear hK K)
   refine wpKept_next (fun K hK => ?_)
   go_simp
   refine HRD.out.mono ?_
   rintro e wc ⟨gR, rfl, q1, q2, q3⟩
   have hdw : wb.drew.heap.size = wb.heap.size := rfl
   rw [hdw] at q2 q3
   have QC : As (Below wb.heap.size wb wc) := ⟨(Below.refl _ _).drew.trans q3⟩
   have HGR := As.mk q1
   have hsc := QC.out.size
   have hjbl : jb < wb.heap.size := blk_lt HJB.out
   have HJB := As.mk ((QC.out.block jb hjbl).trans HJB.out)
   have S3 := As.mk (S2.out.keep (W' := wc) (fun k _ hlk => QC.out.block k hlk) hsc)
   have HDc : As (Disk wc (fun k => OD k ∨ (b8 < k ∧ k < wr.heap.size)) db 512 s') := ⟨HDb.out.keep (fun k _ hlk => QC.out.block k hlk)⟩
   have h10c := As.mk ((QC.out.block b10 (blk_lt h10.out)).trans h10.out)
   have H8c := As.mk ((QC.out.block b8 (by omega)).trans H8b.out)
   have HFc : As (Frame (fun k => OD k ∨ k = jb) W wc) := ⟨HFb.out.trans (Frame.of_below QC.out (Nat.le_refl _)) (fun _ _ h => h)⟩
   have HXc := As.mk (HXB.out.below QC.out (Nat.le_refl _))
   clear q1 q2 q3 hdw HRD S2 HDb H8b HFb HXB
   refine hK _ _ ⟨HJB.out, S3.out.cells.1⟩ ?_
   clear hK K
   refine wpKept_next (fun K hK => ?_)
   go_simp
   refine hK _ _ ⟨HJB.out, S3.out.cells.1⟩ ?_
   clear hK K
   iterate 4 (refine wpKept_sure (fun K hK => ?_); go_simp; refine hK _ ?_; clear hK K)
   refine wpKept_nil ?_
   clear hrem hwn hwm hwa
   obtain ⟨kb, hkb⟩ : ∃ kb, ((strOfNums y).toList == (strOfNums (blkF img' i)).toList) = kb := ⟨_, rfl⟩
   have cvA : ∀ w', w'.heap[gR]? = some (.cells (bv y).toArray 149 (0, 0)) → (convert 39 9 (.slice (some ⟨gR, 0, none⟩) 64 64)).run Tryz.prog w' = .ok (.string (strOfNums y)) w' := fun w' hw' => by
    have h := conv_bytes (W := w') (A := some ⟨gR, 0, none⟩) (x := y) ⟨HX.out.2, fun _ => ⟨gR, 0, rfl, blk_lt hw', fun j v hv => by rw [Nat.zero_add, blk_cell hw', List.getElem?_toArray]; exact hv⟩⟩ 64
    rw [HX.out.1] at h
    exact h
   have cvB : ∀ w', w'.heap[b10]? = some (.cells (bv (blkF img' i)).toArray 148 (0, 0)) → (convert 39 9 (.slice (some ⟨b10, 0, none⟩) 64 64)).run Tryz.prog w' = .ok (.string (strOfNums (blkF img' i))) w' := fun w' hw' => by
    have h := conv_bytes (W := w') (A := some ⟨b10, 0, none⟩) (x := blkF img' i) ⟨blkF_ok hok'.out i, fun _ => ⟨b10, 0, rfl, blk_lt hw', fun j v hv => by rw [Nat.zero_add, blk_cell hw', List.getElem?_toArray]; exact hv⟩⟩ 64
    rw [hblk] at h
    exact h
   have CV := As.mk (And.intro cvA cvB)
   clear cvA cvB
   go_upto_region 9 with fail
   refine wp_region_plan_kept (fun w' => w'.heap[gR]? = some (.cells (bv y).toArray 149 (0, 0)) ∧ w'.heap[b10]? = some (.cells (bv (blkF img' i)).toArray 148 (0, 0))) [(1,0),(0,1),(1,2),(0,3),(1,4)] (by kernel_rfl) (by kernel_rfl) (by kernel_rfl) (by kernel_rfl) (fun _ _ _ _ _ h => h) ⟨HGR.out, h10c.out⟩ ?_
   simp only [tagged, List.filterMap_cons, List.filterMap_nil, List.getElem?_toArray, List.getElem?_cons_succ, List.getElem?_cons_zero, Option.map_some]
   iterate 1 (refine wpKept_sure (fun K hK => ?_); go_simp; refine hK _ ?_; clear hK K)
   refine wpKept_take (fun K hK => ?_)
   rw [if_pos (by rfl)]
   refine ⟨.string (strOfNums y), fun w' hw' => ?_, hK _ ?_⟩
   ·have c1 := CV.out.1 w' hw'.1
    go_simp
   clear hK K
   iterate 1 (refine wpKept_sure (fun K hK => ?_); go_simp; refine hK _ ?_; clear hK K)
   refine wpKept_take (fun K hK => ?_)
   rw [if_pos (by rfl)]
   refine ⟨.string (strOfNums (blkF img' i)), fun w' hw' => ?_, hK _ ?_⟩
   ·have c1 := CV.out.2 w' hw'.2
    go_simp
   clear hK K
   iterate 1 (refine wpKept_sure (fun K hK => ?_); go_simp; refine hK _ ?_; clear hK K)
   refine wpKept_nil ?_
   cases kb with
   | true =>
    go_wp2_with fail
    go_roundg (16 - (i + 1))
    case measure => have := HK.out; omega
    case rel =>
     have hlw := HLW.out
     have hnn := HN'.out
     refine ⟨i + 1, n, s', by go_num, rfl, ⟨by omega⟩, ⟨by omega⟩, ⟨rfl⟩, ⟨hlw.1, by omega⟩, HJB, ⟨?_⟩, ⟨HFc.out.drew⟩, H8c⟩
     exact (HDc.out.keep (W' := wc.drew) (fun _ _ _ => rfl)).mono (fun k hk hlk => by
      rcases hk with hk | hk
      ·exact .inl hk
      ·exact .inr ⟨hk.1, hlk⟩)
   | false =>
    have HPUT := As.mk (put_j (W := wc.drew.drew) (OD := fun k => OD k ∨ (b8 < k ∧ k < wr.heap.size)) HJB.out (HDc.out.keep (fun _ _ _ => rfl)) hls (fun h => by rcases h with h | h; exact HJ.out h; omega) sg.no i hno (by omega) HXc.out hblk 64 hws)
    go_upto_region 10 with fail
    refine wp_region_plan_kept (fun w' => w'.cell? ⟨p, 0, none⟩ = some (.int .u32 sg.no)) [(1,0),(1,1),(1,2),(1,3),(0,4),(1,5),(1,6),(2,7),(2,8)] (by kernel_rfl) (by kernel_rfl) (by kernel_rfl) (by kernel_rfl) (fun _ _ _ _ _ h => h) S3.out.cells.1 ?_
    simp only [tagged, List.filterMap_cons, List.filterMap_nil, List.getElem?_toArray, List.getElem?_cons_succ, List.getElem?_cons_zero, Option.map_some]
    iterate 4 (refine wpKept_sure (fun K hK => ?_); go_simp; refine hK _ ?_; clear hK K)
    refine wpKept_take (fun K hK => ?_)
    rw [if_pos (by rfl)]
    apply Exists.intro
    refine ⟨fun w' hw' => ?_, hK _ ?_⟩
    ·go_simp
     rfl
    clear hK K
    iterate 2 (refine wpKept_sure (fun K hK => ?_); go_simp; refine hK _ ?_; clear hK K)
    refine wpKept_next (fun K hK => ?_)
    go_simp
    refine HPUT.out.mono ?_
    rintro e wd ⟨rfl, q1, q2, q3⟩
    have q3' : Frame (fun k => (OD k ∨ (b8 < k ∧ k < wr.heap.size)) ∨ k = jb) wc wd := ((Frame.refl _ wc).drew).drew.trans q3 (fun _ _ h => h)
    have hsd := q3'.low.size
    have HJBd := As.mk q1
    have HDd : As (Disk wd (fun k => OD k ∨ (b8 < k ∧ k < wd.heap.size)) db 512 (wrS s' (sg.no * 16 + i) (blkF img' i))) := ⟨q2.mono (fun k hk hlk => by
     rcases hk with (hk | hk) | hk
     ·exact .inl hk
     ·exact .inr ⟨hk.1, hlk⟩
     ·have : wc.drew.drew.heap.size = wc.heap.size := rfl
      exact .inr ⟨by omega, hlk⟩)⟩
    have HFd : As (Frame (fun k => OD k ∨ k = jb) W wd) := ⟨HFc.out.trans q3' (fun k hk h => by
     rcases h with (h | h) | h
     ·exact .inl h
     ·have := HB8.out; omega
     ·exact .inr h)⟩
    have H8d : As (wd.heap[b8]? = some (.cells (bv img').toArray 76 (0, 0))) := ⟨(q3'.block b8 (by omega) (fun h => by
     rcases h with (h | h) | h
     ·exact absurd (HDL.out b8 h) (by omega)
     ·omega
     ·omega)).trans H8c.out⟩
    have Sd : As (wd.cell? ⟨p, 0, none⟩ = some (.int .u32 sg.no)) := ⟨by
     have := S.out.keep (W' := wd) (fun k hk hlk => HFd.out.block k hlk (fun h => by
      rcases h with h | h
      ·exact HDS.out k h hk
      ·subst h; exact hjs hk)) HFd.out.low.size
     exact this.cells.1⟩
    clear q1 q2 q3 q3' HPUT
    refine hK _ _ Sd.out ?_
    clear hK K
    refine wpKept_next (fun K hK => ?_)
    go_simp
    refine hK _ _ Sd.out ?_
    clear hK K
    refine wpKept_nil ?_
    have hwn1 : IntKind.i64.wrap ((n : Int) + 1) = (n : Int) + 1 := by have := HN'.out; rw [IntKind.wrap_i64] <;> omega
    go_wp2_with fail
    go_roundg (16 - (i + 1))
    case measure => have := HK.out; omega
    case rel =>
     have hlw := HLW.out
     have hnn := HN'.out
     refine ⟨i + 1, n + 1, _, by go_num, by go_num, ⟨by omega⟩, ⟨by omega⟩, ⟨rfl⟩, ⟨hlw.1.wr _ _, ?_⟩, HJBd, HDd, HFd, H8d⟩
     have : (wrS s' (sg.no * 16 + i) (blkF img' i)).wait.length = s'.wait.length + 1 := by simp [wrS]
     omega
  ·have hi : i = 16 := by omega
   subst hi
   have hone' := bv_one img'
   have hs76' : (Tryz.prog.info? 76).map (·.size) = some (bv img').toArray.size := by rw [List.size_toArray, bv_len, hil']; exact size76
   have hsz76 : (bv img').toArray.size = 1024 := by rw [List.size_toArray, bv_len, hil']
   have hil := S1.out.il
   have ht : wr.there p 2 (bv img').toArray.size := there_block S1.out.blk 2 _ (by rw [hsz76, List.size_toArray, segC_len _ _ hil]; omega)
   clear hz hlt
   go_wp2_with (first | (refine wpList_load_row rfl 76 (.tmp 8) rfl b8 rfl 76 _ _ _ H8.out Tryz.underlying76 rfl hs76' ?_) | (refine wpList_store_mid rfl 76 (.tmp 71) (.tmp 69) rfl p 2 (bv img').toArray rfl rfl ht hs76' (all_oneCell_toArray hone') ?_))
   go_ret2
   have hneE : ∀ g, ve.ownBlock = some g → g ≠ p := own_ne S1.out.ends S1.out.blk (by decide)
   have F8 : Frame (fun k => k = p) wr (wr.setCells p 2 (bv img')) := (Frame.refl (fun k => k = p) wr).setCells (b := p) (.inl rfl) 2 _
   have hb4 : (wr.setCells p 2 (bv img')).heap[p]? = some (.cells (segC sg.no sg.first img' ve vl).toArray 141 (0, 0)) := by
    rw [setCells_same (bv img') p 2 wr _ S1.out.blk, segC_put _ _ _ _ _ _ 0 (by omega), putI_0, over_full _ _ (by omega)]
   have hps : OS p := S1.out.po
   have hwb := HB8.out
   have hbl8 := blk_lt H8.out
   refine ⟨n, s', rfl, by have := HN'.out; omega, (F8.block jb (blk_lt HJB.out) (fun e => hjs (by rw [e]; exact hps))).trans HJB.out, ?_, HLW.out.1, ?_, ?_⟩
   ·refine (HD'.out.keep (W' := wr.setCells p 2 (bv img')) (fun k hk hlk => F8.block k hlk (fun e => ?_))).mono (fun k hk _ => ?_)
    ·rcases hk with hk | hk
     ·exact HDS.out k hk (by rw [e]; exact hps)
     ·omega
    ·rcases hk with hk | hk
     ·exact .inl hk
     ·exact .inr (by omega)
   ·rw [HPI.out]
    refine ⟨hb4, hil', hok'.out, own_keep S1.out.ends (fun g hg _ => setCells_far _ _ _ _ (hneE g hg)), S1.out.eo, ?_, hps⟩
    exact S1.out.l.keep (fun k hk hlk => setCells_far _ _ _ _ hk.2.1) (by rw [setCells_size]; exact Nat.le_refl _)
   ·exact (HF.out.mono (own' := fun k => OD k ∨ k = jb ∨ k = p) (fun k hk => hk.elim .inl (fun h => .inr (.inl h)))).trans F8 (fun k _ hk => .inr (.inr hk))
end Go.Proofs.YthfjhgdiakciaaaGreat.Bl
/- The last segment's rest is wiped (wipe), the second opening's last step. Condition: the segments lie in memory, the disk is lit. -/
namespace Go.Proofs.YthfjhgdiakciaaaGreat.Bl
open Go.RowKit
set_option linter.unusedVariables false
set_option linter.unusedSimpArgs false
theorem cur_row {W : World} {jb db : Nat} {vs : Value} {safe : Int} {pre : List Nat} {p : Nat} (h : JBlk W jb db vs safe) (hr : W.ownsRow 0 79 1 vs (pre.length + 1) ((pre ++ [p]).map ptrV)) (hl : pre.length < 1000) :
  Calls Tryz.prog 34 #[.pointer (some ⟨jb, 0, none⟩)] W fun e W' => e = .returned (ptrV p) ∧ Below W.heap.size W W' := by
 obtain ⟨_, _, c2, _, _⟩ := h.cells
 obtain ⟨g, c, rfl, _, hgl⟩ := hr.form (by omega)
 have hp : W.cell? ⟨g, pre.length, none⟩ = some (ptrV p) := by
  rw [hr.cellAt pre.length (by omega), List.getElem?_map, List.getElem?_append_right (Nat.le_refl _)]
  simp
 clear h hr
 generalize pre.length = n at *
 go_enter Tryz.func34, Tryz.ntmps34
 go_wp2_with fail
 go_region
 go_wp2_with fail
 go_ret
 exact ⟨rfl, (Below.refl _ _).drew⟩
theorem wipe_none {W : World} {jb db : Nat} {safe : Int} (h : JBlk W jb db (.slice none 0 0) safe) :
  Calls Tryz.prog 29 #[.pointer (some ⟨jb, 0, none⟩)] W fun e W' => e = .returned (.int .i64 0) ∧ W = W' := by
 go_enter Tryz.func29, Tryz.ntmps29
 go_wp2_with fail
 refine (cur_none h).mono ?_
 rintro e w1 ⟨rfl, rfl⟩
 go_wp2_with fail
 go_ret
 exact ⟨rfl, rfl⟩
set_option maxHeartbeats 4000000 in
set_option maxRecDepth 100000 in
theorem wipe_a {W : World} {OD OS : Nat → Prop} {jb db p : Nat} {vs ve vl : Value} {safe : Int} {s : St} {sg : Seg} {img t : List Int} {pre : List Nat} (h : JBlk W jb db vs safe) (hr : W.ownsRow 0 79 1 vs (pre.length + 1) ((pre ++ [p]).map ptrV)) (hpl : pre.length < 1000)
  (hd : Disk W OD db 512 s) (hl : LitS s) (hj : ¬ OD jb) (hs : SegAt W OS p sg img (endsF sg) ve vl) (hi : img = bodyF sg ++ t) (ok : SegOk sg)
  (hds : ∀ k, OD k → ¬ OS k) (hjs : ¬ OS jb) (hdl : ∀ k, OD k → k < W.heap.size) (hw : s.wait.length < 900000) :
  Calls Tryz.prog 29 #[.pointer (some ⟨jb, 0, none⟩)] W fun e W' => e = .returned (.int .i64 0) ∧ JBlk W' jb db vs safe ∧ SegAt W' (fun k => OS k ∧ k < W.heap.size) p sg (imgF sg) (endsF sg) ve vl ∧ Frame (fun k => OD k ∨ k = jb ∨ k = p) W W' := by
 have H := As.mk h
 have HR := As.mk hr
 have HD := As.mk hd
 have HS := As.mk hs
 have OK := As.mk ok
 have HC := As.mk (cur_row h hr hpl)
 have HDL := As.mk hdl
 have HI := As.mk hi
 have hsl := hs.lt
 obtain ⟨cs, _, hrow, _⟩ := hs.l
 have hne := ok.ne
 have hlen := ok.len
 have hno := ok.n1
 obtain ⟨gl, cl, rfl, _, hgl⟩ := hrow.form hne
 clear h hr hd hs ok hrow hdl hi
 go_enter Tryz.func29, Tryz.ntmps29
 go_wp2_with fail
 refine HC.out.mono ?_
 rintro e w1 ⟨rfl, q1⟩
 have hs1 := q1.size
 have J1 := As.mk ((q1.block jb (blk_lt H.out)).trans H.out)
 have S1 : As (SegAt w1 (fun k => OS k ∧ k < W.heap.size) p sg img (endsF sg) ve (.slice (some ⟨gl, 0, none⟩) sg.l.length cl)) := ⟨(HS.out.mono (own' := fun k => OS k ∧ k < W.heap.size) (fun k hk hl => ⟨hk, hl⟩)).keep (fun k hk _ => q1.block k hk.2) hs1⟩
 have D1 := As.mk (HD.out.keep (W' := w1) (fun k hk _ => q1.block k (HDL.out k hk)))
 have F1 : As (Frame (fun k => OD k ∨ k = jb ∨ k = p) W w1) := ⟨Frame.of_below q1 (Nat.le_refl _)⟩
 have hends : (endsF sg)[sg.l.length]? = some (endF sg) := endsF_last sg
 have HE := As.mk (end_a S1.out sg.l.length (endF sg) hends (by rw [endsF_len]; omega))
 obtain ⟨k0, k1, k3, k4⟩ := S1.out.cells
 clear q1 HC hends
 unfold ptrV
 go_wp2_with fail
 refine HE.out.mono ?_
 rintro e w2 ⟨rfl, rfl⟩
 clear k0 k1 k3 k4
 go_wp2_with fail
 refine (clean_a J1.out D1.out hl hj S1.out HI.out (fun k hk h => hds k hk h.1) (fun h => hjs h.1) (fun k hk => by have := HDL.out k hk; omega) hno hw).mono ?_
 rintro e w2 ⟨n, s', rfl, hn, q1, q2, q3, q4, q5⟩
 have J2 := As.mk q1
 have D2 := As.mk q2
 have L2 := As.mk q3
 have S2 := As.mk q4
 have F2 : As (Frame (fun k => OD k ∨ k = jb ∨ k = p) W w2) := ⟨F1.out.trans q5 (fun k _ h => h)⟩
 clear q1 q2 q3 q4 q5 HE
 obtain ⟨kb, hkb⟩ : ∃ kb, ((n : Int) == 0) = kb := ⟨_, rfl⟩
 cases kb with
 | true =>
  have hn0 : n = 0 := by simpa using hkb
  subst hn0
  go_wp2_with fail
  go_ret
  exact ⟨rfl, J2.out, S2.out, F2.out⟩
 | false =>
  go_wp2_with fail
  have hjl := blk_lt H.out
  refine (sync_a J2.out D2.out L2.out (fun h => by
   rcases h with h | h
   ·exact hj h
   ·omega)).mono ?_
  rintro e w3 ⟨rfl, q1, q2, q3⟩
  have hq : ∀ k, k < W.heap.size → ((OD k ∨ w1.heap.size ≤ k) ∨ k = jb) → OD k ∨ k = jb := fun k hk h => by
   rcases h with (h | h) | h
   ·exact .inl h
   ·omega
   ·exact .inr h
  have S3 := As.mk (S2.out.keep (W' := w3) (fun k hk hlk => q3.block k hlk (fun h => by
   rcases hq k hk.2 h with h | h
   ·exact hds k h hk.1
   ·subst h; exact hjs hk.1)) q3.low.size)
  have F3 : As (Frame (fun k => OD k ∨ k = jb ∨ k = p) W w3) := ⟨F2.out.trans q3 (fun k hk h => by
   rcases hq k hk h with h | h
   ·exact .inl h
   ·exact .inr (.inl h))⟩
  have J3 := As.mk q1
  clear q1 q2 q3
  go_wp2_with fail
  go_ret
  exact ⟨rfl, J3.out, S3.out, F3.out⟩
end Go.Proofs.YthfjhgdiakciaaaGreat.Bl
