/- A slot's segment (read). Condition: the slot has noughts, or a segment's frames, and behind them noughts, or a frame that was hurt. -/
import Derived.Shelf.Spec.SlicesInsert
import Derived.Lib.AppendZerosOnto
import Derived.Test.YthfjhgdiakciaaaGreatM14
import Derived.Test.YthfjhgdiakciaaaGreatM20
namespace Go.Proofs.YthfjhgdiakciaaaGreat.Bl
open Go.RowKit
set_option linter.unusedVariables false
set_option linter.unusedSimpArgs false
theorem img_bytes {W : World} {b : Nat} {img : List Int} (h : W.heap[b]? = some (.cells (bv img).toArray 76 (0, 0))) (hi : ByteOk img) : Bytes W (some ⟨b, 0, none⟩) img :=
 ⟨hi, fun _ => ⟨b, 0, rfl, blk_lt h, fun j v hv => by rw [Nat.zero_add, blk_cell h, List.getElem?_toArray]; exact hv⟩⟩
theorem read_none (slot : Nat) (W : World) :
  Calls Tryz.prog 27 #[.agg (bv (zeros 1024)).toArray, .int .i64 slot, .int .i64 32] W fun x W' => x = .returned (.pointer none) ∧ Below W.heap.size W W' := by
 go_enter Tryz.func27, Tryz.ntmps27
 go_upto_region 1 with fail
 obtain ⟨b3, hb3⟩ : ∃ b3, b3 = W.heap.size := ⟨_, rfl⟩
 have h3 : As ((W.alloc (.cells (bv (zeros 1024)).toArray 76)).heap[b3]? = some (.cells (bv (zeros 1024)).toArray 76 (0, 0))) := ⟨by rw [hb3]; exact blk_new W _⟩
 have B0 : As (Below W.heap.size W (W.alloc (.cells (bv (zeros 1024)).toArray 76))) := ⟨(Below.refl _ W).alloc (Nat.le_refl _) _⟩
 rw [← hb3]
 generalize W.alloc (.cells (bv (zeros 1024)).toArray 76) = w0 at *
 clear hb3
 have hZ : As (zeros 1024 = 0 :: zeros 1023) := ⟨rfl⟩
 have hA := fall_a (L := []) (t := zeros 1024) (q := b3) (o := 0) (img_bytes h3.out (zeros_ok _)) (fun x hx => by cases hx) (by rw [hZ.out]; exact Tail.zero _) (by simp [frames, zeros_len]) 1024 (by simp [frames, zeros_len])
 have hl : (frames [] ++ zeros 1024).length = 1024 := by simp [frames, zeros_len]
 rw [hl] at hA
 have hA := As.mk hA
 clear hl
 go_wp2_with fail
 refine hA.out.mono ?_
 rintro x w1 ⟨v, a, b, rfl, ⟨vs, hv, _⟩, q2⟩
 obtain ⟨A, c, rfl⟩ : ∃ A c, v = .slice A 0 c := by
  rcases hv.2 with ⟨hv, h1⟩ | ⟨g, cap, _, hv, _⟩
  ·exact ⟨none, 0, hv⟩
  ·exact ⟨_, _, hv⟩
 have B1 := As.mk (B0.out.trans (q2.mono B0.out.size))
 clear hv q2 hA
 go_wp2_with fail
 go_ret
 exact ⟨rfl, B1.out⟩
def Seg.upto (s : Seg) (i : Nat) : Seg := { s with l := s.l.take i }
theorem upto_succ (s : Seg) (i : Nat) (h : i < s.l.length) : s.upto (i + 1) = (s.upto i).add s.l[i] := by
 unfold Seg.upto Seg.add
 simp only
 rw [List.take_add_one, List.getElem?_eq_getElem h]
 rfl
theorem endF_upto (s : Seg) (i : Nat) : endF (s.upto i) ≤ endF s := by
 unfold endF bodyF Seg.upto
 simp only
 conv => rhs; rw [← List.take_append_drop i s.l, List.map_append, ← List.cons_append, frames_app, List.length_append]
 omega
set_option maxHeartbeats 4000000 in
set_option maxRecDepth 100000 in
theorem read_a {sg : Seg} (ok : SegOk sg) {img t : List Int} (hi : img = bodyF sg ++ t) (ht : Tail t) (hl : img.length = 1024) (hib : ByteOk img) (W : World) :
  Calls Tryz.prog 27 #[.agg (bv img).toArray, .int .i64 sg.no, .int .i64 32] W fun x W' => ∃ p, x = .returned (ptrV p) ∧ (∃ ve vl, SegAt W' (fun k => W.heap.size ≤ k) p sg img (endsF sg) ve vl) ∧ Below W.heap.size W W' := by
 have hok := ok
 have hn1 := ok.n1
 have hf1 := ok.f2
 have hlen := ok.len
 have hne := ok.ne
 have OK := As.mk hok
 have HI := As.mk hi
 have HL := As.mk hl
 clear hi hl
 go_enter Tryz.func27, Tryz.ntmps27
 go_upto_region 1 with fail
 obtain ⟨b3, hb3⟩ : ∃ b3, b3 = W.heap.size := ⟨_, rfl⟩
 have h3 : As ((W.alloc (.cells (bv img).toArray 76)).heap[b3]? = some (.cells (bv img).toArray 76 (0, 0))) := ⟨by rw [hb3]; exact blk_new W _⟩
 have B0 : As (Below W.heap.size W (W.alloc (.cells (bv img).toArray 76))) := ⟨(Below.refl _ W).alloc (Nat.le_refl _) _⟩
 rw [← hb3]
 generalize W.alloc (.cells (bv img).toArray 76) = w0 at *
 have HB3 := As.mk hb3
 have hb30 := blk_lt h3.out
 clear hb3
 have hi := HI.out
 have hl := HL.out
 have hA := fall_a (L := hdr sg.no sg.first :: sg.l.map entF) (t := t) (q := b3) (o := 0) (by
   have := img_bytes h3.out hib
   rw [hi] at this
   exact this) (fun x hx => by
   rcases List.mem_cons.1 hx with rfl | hx
   ·exact ⟨by rw [hdr_len]; omega, by rw [hdr_len]; omega, hdr_ok _ _⟩
   ·obtain ⟨e, he, rfl⟩ := List.mem_map.1 hx
    exact (hok.ok e he).body) ht (by rw [hi] at hl; show (bodyF sg ++ t).length ≤ 100000; omega) 1024 (by rw [hi] at hl; show (bodyF sg ++ t).length ≤ 1024; omega)
 have hl2 : (frames (hdr sg.no sg.first :: sg.l.map entF) ++ t).length = 1024 := by rw [hi] at hl; exact hl
 rw [hl2] at hA
 have hA := As.mk hA
 have HIL := As.mk hl
 have HIB := As.mk hib
 clear hl2 hi ht hok ok hl
 go_wp2_with fail
 refine hA.out.mono ?_
 rintro x w1 ⟨v, a, b, rfl, ⟨vs, hv, hvs⟩, q2⟩
 have hLl : (hdr sg.no sg.first :: sg.l.map entF).length = sg.l.length + 1 := by simp
 rw [hLl] at hv
 obtain ⟨gv, cv, rfl, hgv0, hgv⟩ := hv.form (by omega)
 have hcv : sg.l.length + 1 ≤ cv := by obtain ⟨_, _, _, h, _⟩ := own_block hv; exact h
 obtain ⟨g0, c0, e0, hrow0⟩ := hvs 0 (hdr sg.no sg.first) rfl
 have HV := As.mk hv
 have HVS := As.mk hvs
 have h31 := As.mk ((q2.block b3 hb30).trans h3.out)
 have hs1 := q2.size
 have B1 := As.mk (B0.out.trans (q2.mono B0.out.size))
 have k0 : w1.cell? ⟨gv, 0, none⟩ = some (.slice (some ⟨g0, 0, none⟩) 13 c0) := by
  rw [hv.cellAt 0 (by omega), e0, hdr_len]
 rw [hdr_len] at hrow0
 obtain ⟨hbH, _, hc0, hg0, hg0l⟩ := own_bytes hrow0 (hdr_ok _ _)
 have HN := newr_a hbH (by rw [hdr_len]; omega) (by rw [hdr_len]; omega) c0
 rw [hdr_len] at HN
 have HN := As.mk HN
 have hs0 := B0.out.size
 clear hv hvs q2 hA h3 hrow0 hbH e0
 go_wp2_with fail
 refine HN.out.mono ?_
 rintro x w2 ⟨pr, gr, rfl, q1, q2⟩
 have ehd : hdr sg.no sg.first = be 83 1 ++ (be sg.no 4 ++ (be sg.first 8 ++ [])) := by simp [hdr]
 rw [ehd] at q1
 have R := As.mk q1
 have B2 := As.mk q2
 clear q1 q2 HN k0 ehd
 go_wp2_with fail
 refine (ru8_a 83 (by omega) R.out (by simp [be_len])).mono ?_
 rintro x w3 ⟨rfl, q1, q2⟩
 have hpr := q1.lts
 have B3 := As.mk (B2.out.trans (q2.below B2.out.size (fun k hk => by omega)))
 have R := As.mk q1
 clear q1 q2 B2
 go_wp2_with fail
 refine (ru32_a sg.no (by omega) R.out (by simp [be_len])).mono ?_
 rintro x w4 ⟨rfl, q1, q2⟩
 have B4 := As.mk (B3.out.trans (q2.below B3.out.size (fun k hk => by omega)))
 have R := As.mk q1
 clear q1 q2 B3
 go_wp2_with fail
 refine (ru64_a sg.first (by omega) R.out (by simp)).mono ?_
 rintro x w5 ⟨rfl, q1, q2⟩
 have B5 := As.mk (B4.out.trans (q2.below B4.out.size (fun k hk => by omega)))
 have R := As.mk q1
 clear q1 q2 B4
 go_wp2_with fail
 refine (rdone_a R.out).mono ?_
 rintro x w6 ⟨rfl, rfl⟩
 have hrem : Int.tmod (sg.no : Int) 32 = sg.no := by rw [Int.tmod_eq_emod_of_nonneg (by omega)]; omega
 have hwn : IntKind.i64.wrap (sg.no : Int) = sg.no := by simp [IntKind.wrap, IntKind.bits, IntKind.signed]; omega
 clear R hpr
 go_wp2_with fail
 refine (fresh_a sg.no sg.first (by omega) (by omega) w5).mono ?_
 rintro x w6 ⟨p, rfl, ⟨ve, q1⟩, q2⟩
 obtain ⟨M, hM⟩ : ∃ M, M = w5.heap.size := ⟨_, rfl⟩
 rw [← hM] at q1 q2
 have hs5 := B5.out.size
 have hM1 : w1.heap.size ≤ M := by omega
 have S6 := As.mk (q1.mono (own' := fun k => M ≤ k) (fun k hk _ => hk.1))
 have B6 := As.mk q2
 have h36 := As.mk ((q2.block b3 (by omega)).trans ((B5.out.block b3 (by omega)).trans h31.out))
 have HM := As.mk hM
 have B15 := As.mk (B1.out.trans (B5.out.mono (by omega)))
 have hs6 := q2.size
 clear q1 q2 hM h31 hrem hwn
 have hone := bv_one img
 have hil := HIL.out
 have hs76 : (Tryz.prog.info? 76).map (·.size) = some (bv img).toArray.size := by rw [List.size_toArray, bv_len, hil]; exact size76
 have hsz76 : (bv img).toArray.size = 1024 := by rw [List.size_toArray, bv_len, hil]
 have ht : w6.there p 2 (bv img).toArray.size := there_block S6.out.blk 2 _ (by rw [hsz76, List.size_toArray, segC_len _ _ (img0_len _ _)]; omega)
 go_upto_region 10 with (first | (refine wpList_load_row rfl 76 (.tmp 3) rfl b3 rfl 76 _ _ _ h36.out Tryz.underlying76 rfl hs76 ?_) | (refine wpList_store_mid rfl 76 (.tmp 59) (.tmp 57) rfl p 2 (bv img).toArray rfl rfl ht hs76 (all_oneCell_toArray hone) ?_))
 have S7 : As (SegAt (w6.setCells p 2 (bv img)) (fun k => M ≤ k) p (sg.upto 0) img (endsF (sg.upto 0)) ve (.slice none 0 0)) := ⟨by
  have hep : ∀ k, ve.ownBlock = some k → k ≠ p := own_ne S6.out.ends S6.out.blk (by decide)
  refine ⟨?_, hil, HIB.out, ?_, S6.out.eo, EntRow.nil _ _, S6.out.po⟩
  ·rw [setCells_same (bv img) p 2 w6 _ S6.out.blk, segC_put _ _ _ _ _ _ 0 (by rw [img0_len, hil]; omega), putI_0, over_full _ _ (by rw [img0_len, hil])]
   rfl
  ·have e : endsF (sg.upto 0) = [21] := endsF_nil _ _
   rw [e]
   exact own_keep S6.out.ends (fun k hk _ => setCells_far _ _ _ _ (hep k hk))⟩
 have B7 : As (Below M w5 (w6.setCells p 2 (bv img))) := ⟨B6.out.trans (setCells_below _ S6.out.po)⟩
 have hs7 : (w6.setCells p 2 (bv img)).heap.size = w6.heap.size := setCells_size _ _ _ _
 generalize w6.setCells p 2 (bv img) = w7 at *
 clear S6 ht hs76 hone B6
 have hcv1 : ¬ cv = 1 := by omega
 have hs7' : w5.heap.size ≤ w7.heap.size := B7.out.size
 clear hs7
 go_wp2_with fail
 go_loopg [63] sg.l.length (fun gk v63 w' => ∃ (i : Nat) (ve vl : Value), v63 = .int .i64 i ∧ As (gk = sg.l.length - i) ∧ As (i ≤ sg.l.length) ∧ As (SegAt w' (fun k => M ≤ k) p (sg.upto i) img (endsF (sg.upto i)) ve vl) ∧ As (Below M w5 w'))
 case atStart => exact ⟨0, ve, _, rfl, ⟨rfl⟩, ⟨Nat.zero_le _⟩, S7, B7⟩
 case round =>
  obtain ⟨i, ve, vl, rfl, HK, HI2, HS, HB⟩ := hrel
  have hii := HI2.out
  have hsr := HB.out.size
  by_cases hlt : i < sg.l.length
  ·have hLi : (hdr sg.no sg.first :: sg.l.map entF)[i + 1]? = some (entF sg.l[i]) := by simp [List.getElem?_eq_getElem hlt]
   obtain ⟨gi, ci, ei, hrowi⟩ := HVS.out (i + 1) (entF sg.l[i]) hLi
   obtain ⟨e, he⟩ : ∃ e, e = sg.l[i] := ⟨_, rfl⟩
   rw [← he] at ei hrowi
   have HE := As.mk he
   have hokE : EntOk e := by rw [he]; exact OK.out.ok _ (List.getElem_mem hlt)
   have hlsn : e.lsn = ((sg.first + i : Nat) : Int) := by rw [he]; exact OK.out.lsn i _ (List.getElem?_eq_getElem hlt)
   obtain ⟨hbB, _, hcB, hgB0, hgB⟩ := own_bytes hrowi hokE.bytes
   have hkeep : ∀ k, k < w1.heap.size → wr.heap[k]? = w1.heap[k]? := fun k hk => (HB.out.block k (by omega)).trans (B5.out.block k (by omega))
   have kc : wr.cell? ⟨gv, i + 1, none⟩ = some (.slice (some ⟨gi, 0, none⟩) (entF e).length ci) := by
    rw [World.cell?_of_block (w := w1) (a := ⟨gv, i + 1, none⟩) (hkeep gv hgv), HV.out.cellAt (i + 1) (by omega), ei]
   have kc' : wr.cell? ⟨gv, 1 + i, none⟩ = some (.slice (some ⟨gi, 0, none⟩) (entF e).length ci) := by rw [Nat.add_comm]; exact kc
   have hbR : Bytes wr (some ⟨gi, 0, none⟩) (entF e) := hbB.keep (fun q' o' e1 hq' => by injection e1 with e1; injection e1 with e1; subst e1; exact hkeep gi hgB) (by omega)
   have HG := As.mk (eget_a hokE hbR (by omega) ci)
   have hel := hokE.len
   generalize hnl : (entF e).length = nl at *
   have HNL := As.mk hnl
   clear hnl hrowi hbB hbR he ei hLi
   go_wp2_with fail
   refine HG.out.mono ?_
   rintro x w8 ⟨cE, rfl, q1, q2⟩
   have E8 := As.mk q1
   have B8 := As.mk q2
   have hcE := q1.len
   have hcone := q1.one
   have hs8 := q2.size
   have S8 := As.mk (HS.out.keep (W' := w8) (fun k _ hk => q2.block k hk) hs8)
   have hz : ∀ w, (zeroValue 41).run Tryz.prog w = .ok (.agg zero41) w := fun w => by kernel_rfl
   clear q1 q2 HG kc kc'
   go_upto_region 14 with (refine wpList_store_mid rfl 41 (.tmp 17) (.tmp 70) rfl w8.heap.size 0 cE.toArray rfl rfl (there_block (blk_new w8 _) 0 _ (by rw [List.size_toArray, hcE]; decide)) (by rw [List.size_toArray, hcE]; exact size41) (all_oneCell_toArray hcone) ?_)
   obtain ⟨b17, hb17⟩ : ∃ b17, b17 = w8.heap.size := ⟨_, rfl⟩
   have hsz9 : ((w8.alloc (.cells zero41 41)).setCells w8.heap.size 0 cE).heap.size = w8.heap.size + 1 := by rw [setCells_size]; simp
   have h17 : As (((w8.alloc (.cells zero41 41)).setCells w8.heap.size 0 cE).heap[w8.heap.size]? = some (.cells cE.toArray 41 (0, 0))) := ⟨row_over (xs := zero41) (t := 41) (blk_new w8 _) (by rw [hcE]; rfl)⟩
   have B9 : As (Below w8.heap.size w8 ((w8.alloc (.cells zero41 41)).setCells w8.heap.size 0 cE)) := ⟨((Below.refl _ w8).alloc (Nat.le_refl _) _).trans (setCells_below _ (Nat.le_refl _))⟩
   generalize (w8.alloc (.cells zero41 41)).setCells w8.heap.size 0 cE = w9 at *
   rw [← hb17] at h17 hsz9 ⊢
   have HB17 := As.mk hb17
   have hs9 := B9.out.size
   have S9 := As.mk (S8.out.keep (W' := w9) (fun k _ hk => B9.out.block k hk) hs9)
   have E9 := As.mk ((E8.out.mono (own' := fun k => wr.heap.size ≤ k ∧ k < b17) (fun k hk hlk => ⟨hk, by omega⟩)).keep (W' := w9) (fun k _ hlk => B9.out.block k hlk) hs9)
   have hFit : Calls Tryz.prog 71 #[.pointer (some ⟨p, 0, none⟩), .agg cE.toArray] w9 fun x W' => x = .returned (.bool true) ∧ Below w9.heap.size w9 W' := by
    by_cases h0 : i = 0
    ·subst h0
     exact fits_first S9.out rfl E9.out (by rw [hlsn]; rfl)
    ·have hul : (sg.upto i).l.length = i := by show (sg.l.take i).length = i; rw [List.length_take]; omega
     have hg1 : (sg.upto i).l[i - 1]? = some (sg.l[i - 1]'(by omega)) := by
      show (sg.l.take i)[i - 1]? = _
      rw [List.getElem?_take, if_pos (by omega), List.getElem?_eq_getElem (by omega)]
     exact fits_next S9.out (n := i - 1) (by omega) (by omega) hg1 (OK.out.ok _ (List.getElem_mem (by omega))) hokE E9.out (by
      rw [hlsn, OK.out.lsn (i - 1) _ (List.getElem?_eq_getElem (by omega))]
      omega)
   have hFit := As.mk hFit
   have HLSN := As.mk hlsn
   clear hlsn
   obtain ⟨ak, ck, ad, cd, rfl, hE2⟩ := E9.out
   have h17' : w9.heap[b17]? = some (.cells #[.int .i64 e.kind, .int .u64 e.lsn, .int .u32 1, .int .u32 e.order, .int .i64 e.step, .bool e.undo, .int .i64 e.tr, .int .i64 e.code, .int .u64 0, .slice ak e.key.length ck, .slice ad e.data.length cd] 41 (0, 0)) := h17.out
   obtain ⟨k0, k1, k2, k3, k4, k5, k6, k7, k8, k9, k10⟩ := cells11 h17'
   clear hz hb17 E8 h17' hE2
   go_wp2_with fail
   refine hFit.out.mono ?_
   rintro x w10 ⟨rfl, q2⟩
   have hs10 := q2.size
   have B10 := As.mk q2
   have S10 := As.mk (S9.out.keep (W' := w10) (fun k _ hk => q2.block k hk) hs10)
   have E10 := As.mk (E9.out.keep (W' := w10) (fun k _ hlk => q2.block k hlk) hs10)
   have h1710 := As.mk ((q2.block b17 (by omega)).trans h17.out)
   clear q2 hFit k0 k1 k2 k3 k4 k5 k6 k7 k8 k9 k10
   go_upto_region 15 with fail
   have E10' := E10.out
   have hc10 := h1710.out
   have hcEl : (entC e ak ck ad cd).length = 11 := rfl
   have hcEo := (E10.out).one
   generalize entC e ak ck ad cd = cE at *
   obtain ⟨cs, hcs1, hrow, hvlO, hcs4⟩ := S10.out.l
   have HROW := As.mk hrow
   have HCS := As.mk hcs4
   have HVL := As.mk hvlO
   obtain ⟨_, _, _, k4⟩ := S10.out.cells
   have f4 := blk_frozen S10.out.blk 1027
   have hr17 : w10.rangeAt b17 0 cE := fun j u hu => by
    rw [Nat.zero_add, blk_cell hc10, List.getElem?_toArray]
    exact hu
   have hul : (sg.upto i).l.length = i := by show (sg.l.take i).length = i; rw [List.length_take]; omega
   rw [hul] at hrow
   have HROWi := As.mk hrow
   clear hrow hcs4 hvlO hc10 E10'
   refine wp_region_plan_held 10 (fun w' => w'.cell? ⟨p, 1027, none⟩ = some vl ∧ w'.rangeAt b17 0 cE) [(1,0),(1,1),(1,2),(1,3),(0,4),(0,5),(2,6),(2,7),(1,8),(1,9),(2,10)] (by kernel_rfl) (by kernel_rfl) (by kernel_rfl) (by kernel_rfl) (fun _ _ _ _ _ h => h) ⟨k4, hr17⟩ ?_
   simp only [tagged, List.filterMap_cons, List.filterMap_nil, List.getElem?_toArray, List.getElem?_cons_succ, List.getElem?_cons_zero, Option.map_some]
   iterate 4 (refine wpHeld_sure (fun K hK => ?_); go_simp; refine hK _ ?_; clear hK K)
   refine wpHeld_take (fun K hK => ?_)
   rw [if_pos (by rfl)]
   apply Exists.intro
   refine ⟨fun w' hw' => ?_, hK _ ?_⟩
   ·obtain ⟨s0, s1⟩ := hw'
    go_simp
    rfl
   clear hK K
   refine wpHeld_take (fun K hK => ?_)
   rw [if_pos (by rfl)]
   refine ⟨.agg cE.toArray, fun w' hw' => ?_, hK _ ?_⟩
   ·exact exec_load_mid _ _ _ 41 (.tmp 17) rfl b17 0 rfl cE _ hw'.2 Tryz.underlying41 rfl (by rw [hcEl]; exact size41)
   clear hK K
   refine wpHeld_next (fun K hK => ?_)
   rw [if_pos (by rfl)]
   refine wp_build35 (.tmp 85) rfl cE rfl hcEl ?_
   have hW13 : (w10.drew.alloc (.cells cE.toArray 41 (0, 0))).heap.size = w10.heap.size + 1 := by simp
   have B13 : As (Below w10.heap.size w10 (w10.drew.alloc (.cells cE.toArray 41 (0, 0)))) := ⟨(Below.refl w10.heap.size w10).drew.alloc (Nat.le_refl _) _⟩
   have N13 : As ((w10.drew.alloc (.cells cE.toArray 41 (0, 0))).heap[w10.heap.size]? = some (.cells cE.toArray 41 (0, 0))) := ⟨blk_new w10.drew _⟩
   generalize w10.drew.alloc (.cells cE.toArray 41 (0, 0)) = w13 at *
   have hg13 : w10.grownBy w13 none := ⟨B13.out.os, B13.out.tape, B13.out.output, B13.out.size, fun k hk _ => B13.out.block k hk⟩
   have k4' : w13.cell? ⟨p, 1027, none⟩ = some vl := by
    rw [World.cell?_of_block (w := w10) (a := ⟨p, 1027, none⟩) (B13.out.block p S10.out.lt)]
    exact k4
   have hr17' : w13.rangeAt b17 0 cE := range_heap hr17 (B13.out.block b17 (by omega))
   refine hK _ _ (fun _ => ⟨k4', hr17'⟩) ?_
   clear hK K hr17 k4
   refine wpHeld_next (fun K hK => ?_)
   obtain ⟨i0, hi0, hz0, hz1, hz2⟩ := info_parts info41
   have HR13 := As.mk (own_keep (W' := w13) HROWi.out (fun g hg hlg => B13.out.block g hlg))
   refine step_append_lies w13 (by rfl) _ _ _ (by rfl) 0 41 i0 _ 11 112 Tryz.underlying35 hi0 hz0 hz1 hz2 (by rfl) (by omega) vl i cs.flatten (by rfl) HR13.out
    ⟨w10.heap.size, 0, none⟩ 1 1 cE (by rfl) hcEl (World.news_of_block N13.out) hcEo (by omega) (by unfold maxLen; omega) (by omega) (Nat.zero_le _) (w10.heap.size + 1) hW13 ?_
   intro gg cap w14 hown14 hgrow14 hat14 hlt14
   have hvll : ∀ k, vl.ownBlock = some k → k < w10.heap.size := fun k hk => own_lt HROWi.out k hk
   have hvlO := HVL.out
   have hpw : p < wr.heap.size := HS.out.lt
   have hvew : ∀ k, ve.ownBlock = some k → k < wr.heap.size := fun k hk => own_lt HS.out.ends k hk
   have hvlw : ∀ k, vl.ownBlock = some k → k < wr.heap.size := fun k hk => by
    obtain ⟨_, _, hr, _, _⟩ := HS.out.l
    exact own_lt hr k hk
   have hMM := HM.out
   have hgrow := hg13.size
   have S14 := SegAt.addL (w1 := w13) (w2 := w14) (e := e) (c := cE) (g := gg) (cap := cap) S10.out hcs1 HCS.out hvlO hvll (E10.out.mono (fun k hk hlk => by
    have hk1 := hk.1
    exact ⟨⟨by show M ≤ k; omega, by omega, fun h => by have := hvew k h; omega⟩, fun h => by have := hvlw k h; omega⟩)) hg13 (by rw [hul]; exact hown14) hgrow14 (by rcases hat14 with h | h; exact .inl h; exact .inr (by omega)) (fun k hk => by show M ≤ k; omega)
   rw [hul] at S14
   have hvM : ∀ k, vl.ownBlock = some k → M ≤ k ∧ k ≠ p := fun k hk => ⟨(hvlO k hk).1, (hvlO k hk).2.1⟩
   have hb14 : w14.heap[p]? = some (.cells (segC (sg.upto i).no (sg.upto i).first img ve vl).toArray 141 (0, 0)) := (hgrow14.block p (by omega) (fun h => (hvM p h.symm).2 rfl)).trans ((B13.out.block p (by omega)).trans S10.out.blk)
   have d4 : w14.cell? ⟨p, 1027, none⟩ = some vl := by rw [blk_cell hb14, List.getElem?_toArray]; exact segC_4 _ _ S10.out.il _ _
   have g4 := blk_frozen hb14 1027
   have hr14 : w14.rangeAt b17 0 cE := range_heap hr17' (hgrow14.block b17 (by omega) (fun h => by have := hvlw b17 h.symm; have := HB17.out; omega))
   have B15L : As (Below M w5 (w14.setCell ⟨p, 1027, none⟩ (.slice (some ⟨gg, 0, none⟩) (i + 1) cap))) := ⟨by
    have b1 : Below M w5 w13 := (((HB.out.trans (B8.out.mono (by omega))).trans (B9.out.mono (by omega))).trans (B10.out.mono (by omega))).trans (B13.out.mono (by omega))
    exact Below.setCell (p := ⟨p, 1027, none⟩) (Below.grown b1 hgrow14 (by omega) (fun k hk => (hvM k hk).1)) S10.out.po _⟩
   have S15 := As.mk S14
   have hgrow14s := As.mk hgrow14.size
   clear S14 hown14 hgrow14 hb14
   refine hK _ _ (fun _ => ⟨d4, hr14⟩) ?_
   clear hK K hr14 hr17' k4' f4
   iterate 2 (refine wpHeld_sure (fun K hK => ?_); go_simp; refine hK _ ?_; clear hK K)
   refine wpHeld_next (fun K hK => ?_)
   go_simp
   refine hK _ _ (fun h => absurd rfl h) ?_
   clear hK K
   refine wpHeld_nil ?_
   have hs15 : (w14.setCell ⟨p, 1027, none⟩ (.slice (some ⟨gg, 0, none⟩) (i + 1) cap)).heap.size = w14.heap.size := by simp
   generalize w14.setCell ⟨p, 1027, none⟩ (.slice (some ⟨gg, 0, none⟩) (i + 1) cap) = w15 at *
   have HS15 := As.mk hs15
   clear hs15
   go_upto_region 16 with fail
   obtain ⟨_, _, k3, k4⟩ := S15.out.cells
   have f3 := blk_frozen S15.out.blk 1026
   have f4 := blk_frozen S15.out.blk 1027
   have hwi : IntKind.i64.wrap (i : Int) = (i : Int) := by simp [IntKind.wrap, IntKind.bits, IntKind.signed]; omega
   have hup := endF_upto sg i
   have hendF : endF sg ≤ 1024 := by have h := HIL.out; rw [HI.out, List.length_append] at h; show (bodyF sg).length ≤ 1024; omega
   obtain ⟨m, hm⟩ : ∃ m, m = endF (sg.upto i) + (8 + nl) := ⟨_, rfl⟩
   have hwe : IntKind.i64.wrap (((endF (sg.upto i) : Nat) : Int) + (8 + (nl : Int))) = (m : Int) := by
    rw [IntKind.wrap_i64] <;> omega
   have HM2 := As.mk hm
   clear hm hup hendF
   have HFS := As.mk (fsize_a nl (by omega) w15.drew)
   have hEnd : (endsF (sg.upto i))[i]? = some (endF (sg.upto i)) := by
    have h := endsF_last (sg.upto i)
    rw [hul] at h
    exact h
   have HEND := As.mk (end_a (W := w15.drew) (S15.out.keep (W' := w15.drew) (fun k _ _ => rfl) (Nat.le_refl _)) i (endF (sg.upto i)) hEnd (by rw [endsF_len, hul]; omega))
   have HEL : As ((endsF (sg.upto i)).length = i + 1) := ⟨by rw [endsF_len, hul]⟩
   generalize hNE : endF (sg.upto i) = ne at *
   have HNE := As.mk hNE
   clear hNE hEnd
   refine wp_region_plan_held 21 (fun w' => w'.cell? ⟨p, 1026, none⟩ = some ve ∧ w'.cell? ⟨p, 1027, none⟩ = some (.slice (some ⟨gg, 0, none⟩) (i + 1) cap)) [(1,0),(1,1),(1,2),(1,3),(0,4),(1,5),(1,6),(1,7),(1,8),(0,9),(1,10),(1,11),(1,13),(1,14),(2,12),(2,15),(1,16),(2,17),(2,18),(1,19),(1,20),(2,21)] (by kernel_rfl) (by kernel_rfl) (by kernel_rfl) (by kernel_rfl) (fun _ _ _ _ _ h => h) ⟨k3, k4⟩ ?_
   simp only [tagged, List.filterMap_cons, List.filterMap_nil, List.getElem?_toArray, List.getElem?_cons_succ, List.getElem?_cons_zero, Option.map_some]
   iterate 4 (refine wpHeld_sure (fun K hK => ?_); go_simp; refine hK _ ?_; clear hK K)
   refine wpHeld_take (fun K hK => ?_)
   rw [if_pos (by rfl)]
   apply Exists.intro
   refine ⟨fun w' hw' => ?_, hK _ ?_⟩
   ·obtain ⟨s0, s1⟩ := hw'
    go_simp
    rfl
   clear hK K
   iterate 4 (refine wpHeld_sure (fun K hK => ?_); go_simp; refine hK _ ?_; clear hK K)
   refine wpHeld_take (fun K hK => ?_)
   rw [if_pos (by rfl)]
   apply Exists.intro
   refine ⟨fun w' hw' => ?_, hK _ ?_⟩
   ·obtain ⟨s0, s1⟩ := hw'
    go_simp
    rfl
   clear hK K
   iterate 4 (refine wpHeld_sure (fun K hK => ?_); go_simp; refine hK _ ?_; clear hK K)
   refine wpHeld_next (fun K hK => ?_)
   go_simp
   refine HEND.out.mono ?_
   rintro x w16 ⟨rfl, rfl⟩
   refine hK _ _ (fun _ => ⟨k3, k4⟩) ?_
   clear hK K
   refine wpHeld_next (fun K hK => ?_)
   go_simp
   refine HFS.out.mono ?_
   rintro x w16 ⟨rfl, rfl⟩
   refine hK _ _ (fun _ => ⟨k3, k4⟩) ?_
   clear hK K
   iterate 1 (refine wpHeld_sure (fun K hK => ?_); go_simp; refine hK _ ?_; clear hK K)
   refine wpHeld_next (fun K hK => ?_)
   go_simp
   have N17 := As.mk (blk_new w15 (.cells #[.int .i64 m] 3 (0, 0)))
   have B17 : As (Below w15.heap.size w15 (w15.alloc (.cells #[.int .i64 m] 3 (0, 0)))) := ⟨(Below.refl w15.heap.size w15).alloc (Nat.le_refl _) _⟩
   have hW17 : (w15.alloc (.cells #[.int .i64 m] 3 (0, 0))).heap.size = w15.heap.size + 1 := by simp
   have k3' : (w15.alloc (.cells #[.int .i64 m] 3 (0, 0))).cell? ⟨p, 1026, none⟩ = some ve := by
    rw [World.cell?_of_block (w := w15) (a := ⟨p, 1026, none⟩) (B17.out.block p S15.out.lt)]; exact k3
   have k4' : (w15.alloc (.cells #[.int .i64 m] 3 (0, 0))).cell? ⟨p, 1027, none⟩ = some (.slice (some ⟨gg, 0, none⟩) (i + 1) cap) := by
    rw [World.cell?_of_block (w := w15) (a := ⟨p, 1027, none⟩) (B17.out.block p S15.out.lt)]; exact k4
   generalize w15.alloc (.cells #[.int .i64 m] 3 (0, 0)) = w17 at *
   refine hK _ _ (fun _ => ⟨k3', k4'⟩) ?_
   clear hK K
   refine wpHeld_next (fun K hK => ?_)
   obtain ⟨i3, hi3, hy0, hy1, hy2⟩ := info_parts info3
   have HE17 := As.mk (own_keep (W' := w17) S15.out.ends (fun g hg hlg => B17.out.block g hlg))
   rw [HEL.out] at HE17
   refine step_append_lies w17.drew (by rfl) _ _ _ (by rfl) 0 3 i3 _ 1 8 Tryz.underlying139 hi3 hy0 hy1 hy2 (by rfl) (by omega) ve (i + 1) _ (by rfl) (HE17.out)
    ⟨w15.heap.size, 0, none⟩ 1 1 [.int .i64 m] (by rfl) (by rfl) (World.news_of_block (w := w17.drew) N17.out) (by simp [Value.oneCell']) (by omega) (by unfold maxLen; omega) (by omega) (Nat.zero_le _) (w15.heap.size + 1) hW17 ?_
   intro gh cap2 w18 hown18 hgrow18 hat18 hlt18
   have hgr17 := B17.out.size
   have hg17 : w15.grownBy w17.drew none := ⟨B17.out.os, B17.out.tape, B17.out.output, B17.out.size, fun k hk _ => B17.out.block k hk⟩
   have hveM : ∀ k, ve.ownBlock = some k → M ≤ k ∧ k ≠ p := fun k hk => ⟨S15.out.eo k hk, own_ne S15.out.ends S15.out.blk (by decide) k hk⟩
   have hp15 := S15.out.lt
   have hpo := S15.out.po
   have S18 := SegAt.addEnd (w1 := w17.drew) (w2 := w18) (g := gh) (cap := cap2) (m := m) S15.out hg17 (by rw [HEL.out]; exact hown18) hgrow18 (by rcases hat18 with h | h; exact .inl h; exact .inr (by omega)) (fun k hk => by
    have := HS15.out; have := hgrow14s.out; show M ≤ k; omega)
   rw [HEL.out] at S18
   have hb18 := (hgrow18.block p (by show p < w17.heap.size; omega) (fun h => (hveM p h.symm).2 rfl)).trans ((B17.out.block p hp15).trans S15.out.blk)
   have d3 : w18.cell? ⟨p, 1026, none⟩ = some ve := by rw [blk_cell hb18, List.getElem?_toArray]; exact segC_3 _ _ S15.out.il _ _
   have d4 : w18.cell? ⟨p, 1027, none⟩ = some (.slice (some ⟨gg, 0, none⟩) (i + 1) cap) := by rw [blk_cell hb18, List.getElem?_toArray]; exact segC_4 _ _ S15.out.il _ _
   have g3 := blk_frozen hb18 1026
   have B18L : As (Below M w5 (w18.setCell ⟨p, 1026, none⟩ (.slice (some ⟨gh, 0, none⟩) (i + 1 + 1) cap2))) := ⟨by
    have hM15 := B15L.out.size
    have b1 : Below M w5 w17.drew := (B15L.out.trans (B17.out.mono (by have := HS15.out; have := hgrow14s.out; omega))).drew
    exact Below.setCell (p := ⟨p, 1026, none⟩) (Below.grown b1 hgrow18 (by show M ≤ w17.heap.size; omega) (fun k hk => (hveM k hk).1)) hpo _⟩
   have S18 := As.mk S18
   clear hown18 hgrow18 hb18
   refine hK _ _ (fun _ => ⟨d3, d4⟩) ?_
   clear hK K k3 k4 k3' k4' f3
   iterate 2 (refine wpHeld_sure (fun K hK => ?_); go_simp; refine hK _ ?_; clear hK K)
   refine wpHeld_next (fun K hK => ?_)
   go_simp
   refine hK _ _ (fun h => absurd rfl h) ?_
   clear hK K
   refine wpHeld_nil ?_
   generalize w18.setCell ⟨p, 1026, none⟩ (.slice (some ⟨gh, 0, none⟩) (i + 1 + 1) cap2) = w19 at *
   have S19 : As (SegAt w19 (fun k => M ≤ k) p (sg.upto (i + 1)) img (endsF (sg.upto (i + 1))) (.slice (some ⟨gh, 0, none⟩) (i + 1 + 1) cap2) (.slice (some ⟨gg, 0, none⟩) (i + 1) cap)) := ⟨by
    rw [upto_succ sg i hlt, ← HE.out, endsF_add, HNE.out, HNL.out, ← HM2.out]
    exact S18.out⟩
   go_wp2_with fail
   go_roundg (sg.l.length - (i + 1))
   case measure => have := HK.out; omega
   case rel => exact ⟨i + 1, _, _, by go_num, ⟨rfl⟩, ⟨by omega⟩, S19, B18L⟩
  ·have hi : i = sg.l.length := by omega
   subst hi
   have e1 : sg.upto sg.l.length = sg := by unfold Seg.upto; rw [List.take_length]
   have S20 := HS.out
   rw [e1] at S20
   have S20 := As.mk S20
   clear HS e1
   go_wp2_with fail
   go_ret
   have hBM := B15.out.size
   have hMM := HM.out
   have hs05 := B5.out.size
   have hs01 := B1.out.size
   exact ⟨p, rfl, ⟨ve, vl, S20.out.mono (fun k hk _ => by have : M ≤ k := hk; omega)⟩, B15.out.trans (HB.out.mono (by omega))⟩
end Go.Proofs.YthfjhgdiakciaaaGreat.Bl
/- Do segments follow one another (joins)? Condition: they do, and none is empty. -/
namespace Go.Proofs.YthfjhgdiakciaaaGreat.Bl
open Go.RowKit
set_option linter.unusedVariables false
set_option linter.unusedSimpArgs false
/-- A segment in memory, its image whatever it is. -/
def SegX (W : World) (own : Nat → Prop) (p : Nat) (s : Seg) : Prop := ∃ img ve vl, SegAt W own p s img (endsF s) ve vl
theorem SegX.keep {W W' : World} {own : Nat → Prop} {p : Nat} {s : Seg} (h : SegX W own p s) (hk : ∀ k, own k → k < W.heap.size → W'.heap[k]? = W.heap[k]?) (hs : W.heap.size ≤ W'.heap.size) : SegX W' own p s := by
 obtain ⟨i, ve, vl, h⟩ := h
 exact ⟨i, ve, vl, h.keep hk hs⟩
theorem SegX.mono {W : World} {own own' : Nat → Prop} {p : Nat} {s : Seg} (h : SegX W own p s) (hs : ∀ k, own k → k < W.heap.size → own' k) : SegX W own' p s := by
 obtain ⟨i, ve, vl, h⟩ := h
 exact ⟨i, ve, vl, h.mono hs⟩
set_option maxHeartbeats 4000000 in
set_option maxRecDepth 100000 in
theorem joins_a {W : World} {o1 o2 : Nat → Prop} {p q g n c : Nat} {s t : Seg} (hp : SegX W o1 p s) (hq : SegX W o2 q t) (okp : SegOk s) (okq : SegOk t) (hcell : W.cell? ⟨g, 0, none⟩ = some (ptrV q)) (hn : t.first = s.first + s.l.length) (hgl : g < W.heap.size) (hnn : 0 < n) :
  Calls Tryz.prog 73 #[ptrV p, .slice (some ⟨g, 0, none⟩) n c] W fun x W' => x = .returned (.bool true) ∧ Below W.heap.size W W' := by
 obtain ⟨ip, vep, vlp, hp⟩ := hp
 obtain ⟨iq, veq, vlq, hq⟩ := hq
 obtain ⟨_, _, _, k4⟩ := hp.cells
 obtain ⟨_, m1, _, m4⟩ := hq.cells
 have hpl := hp.lt
 have hql := hq.lt
 obtain ⟨np, hnp⟩ : ∃ np, s.l.length = np + 1 := ⟨s.l.length - 1, by have := okp.ne; omega⟩
 obtain ⟨nq, hnq⟩ : ∃ nq, t.l.length = nq + 1 := ⟨t.l.length - 1, by have := okq.ne; omega⟩
 have gp : s.l[np]? = some (s.l[np]'(by omega)) := List.getElem?_eq_getElem (by omega)
 have gq : t.l[0]? = some (t.l[0]'(by omega)) := List.getElem?_eq_getElem (by omega)
 obtain ⟨_, _, hrowp, _⟩ := hp.l
 obtain ⟨_, _, hrowq, _⟩ := hq.l
 rw [hnp] at hrowp
 rw [hnq] at hrowq
 obtain ⟨g1, c1, rfl, _, hg1l⟩ := hrowp.form (by omega)
 obtain ⟨g2, c2, rfl, _, hg2l⟩ := hrowq.form (by omega)
 obtain ⟨x, hx, hrx⟩ := hp.l.at gp
 obtain ⟨y, hy, hry⟩ := hq.l.at gq
 have HF := As.mk (follows_e (W' := W) (W1 := W) (W2 := W) (okp.ok _ (List.getElem_mem (by omega))) (okq.ok _ (List.getElem_mem (by omega))) (by rw [okp.lsn _ _ gp, okq.lsn _ _ gq]; omega) hx hy)
 have hxl := hx.len
 have hyl := hy.len
 have HNX := As.mk (next_a (W := W.drew) (hp.keep (W' := W.drew) (fun k _ _ => rfl) (Nat.le_refl _)) (by have := okp.f2; omega) (by have := okp.len; omega))
 rw [← hn] at HNX
 have hnpb := okp.len
 rw [hnp] at hnpb
 rw [Nat.zero_mul] at hry
 have HP := As.mk hp
 have HNB := As.mk hnpb
 generalize t.first = tf at *
 have HN := As.mk hn
 clear hp hq okp okq gp gq hrowp hrowq hx hy hn hnpb
 unfold ptrV
 unfold ptrV at hcell
 go_enter Tryz.func73, Tryz.ntmps73
 go_upto_region 1 with fail
 refine wp_region_plan_kept (fun w' => w'.cell? ⟨g, 0, none⟩ = some (.pointer (some ⟨q, 0, none⟩)) ∧ w'.cell? ⟨q, 1, none⟩ = some (.int .u64 tf)) [(1,0),(1,2),(1,3),(0,4),(1,5),(1,6),(0,7),(2,1),(1,8)] (by kernel_rfl) (by kernel_rfl) (by kernel_rfl) (by kernel_rfl) (fun _ _ _ _ _ h => h) ⟨hcell, m1⟩ ?_
 simp only [tagged, List.filterMap_cons, List.filterMap_nil, List.getElem?_toArray, List.getElem?_cons_succ, List.getElem?_cons_zero, Option.map_some]
 iterate 3 (refine wpKept_sure (fun K hK => ?_); go_simp; refine hK _ ?_; clear hK K)
 refine wpKept_take (fun K hK => ?_)
 rw [if_pos (by rfl)]
 apply Exists.intro
 refine ⟨fun w' hw' => ?_, hK _ ?_⟩
 ·obtain ⟨s0, s1⟩ := hw'
  go_simp
  rfl
 clear hK K
 iterate 2 (refine wpKept_sure (fun K hK => ?_); go_simp; refine hK _ ?_; clear hK K)
 refine wpKept_take (fun K hK => ?_)
 rw [if_pos (by rfl)]
 apply Exists.intro
 refine ⟨fun w' hw' => ?_, hK _ ?_⟩
 ·obtain ⟨s0, s1⟩ := hw'
  go_simp
  rfl
 clear hK K
 refine wpKept_next (fun K hK => ?_)
 go_simp
 refine HNX.out.mono ?_
 rintro e w1 ⟨rfl, q1⟩
 have hd : W.drew.heap.size = W.heap.size := rfl
 rw [hd] at q1
 have B1 : As (Below W.heap.size W w1) := ⟨(Below.refl _ _).drew.trans q1⟩
 clear q1 hd
 have n1 : w1.cell? ⟨g, 0, none⟩ = some (.pointer (some ⟨q, 0, none⟩)) := by rw [World.cell?_of_block (w := W) (a := ⟨g, 0, none⟩) (B1.out.block g hgl)]; exact hcell
 have n2 : w1.cell? ⟨q, 1, none⟩ = some (.int .u64 tf) := by rw [World.cell?_of_block (w := W) (a := ⟨q, 1, none⟩) (B1.out.block q hql)]; exact m1
 have n4 : w1.cell? ⟨p, 1027, none⟩ = some (.slice (some ⟨g1, 0, none⟩) (np + 1) c1) := by rw [World.cell?_of_block (w := W) (a := ⟨p, 1027, none⟩) (B1.out.block p hpl)]; exact k4
 have n5 : w1.cell? ⟨q, 1027, none⟩ = some (.slice (some ⟨g2, 0, none⟩) (nq + 1) c2) := by rw [World.cell?_of_block (w := W) (a := ⟨q, 1027, none⟩) (B1.out.block q hql)]; exact m4
 have r1 : w1.rangeAt g1 (np * 11) x := range_heap hrx (B1.out.block g1 hg1l)
 have r2 : w1.rangeAt g2 0 y := range_heap hry (B1.out.block g2 hg2l)
 refine hK _ _ ⟨n1, n2⟩ ?_
 clear hK K hcell m1 k4 m4 hrx hry HNX
 iterate 1 (refine wpKept_sure (fun K hK => ?_); go_simp; refine hK _ ?_; clear hK K)
 refine wpKept_nil ?_
 go_wp2_with fail
 go_loopg [18] 1 (fun gk v18 w' => v18 = .int .i64 0 ∧ As (gk = 1) ∧ w' = w1)
 case atStart => exact ⟨rfl, ⟨rfl⟩, rfl⟩
 case round =>
  obtain ⟨rfl, HK, rfl⟩ := hrel
  go_upto_region 7 with fail
  have hwn : IntKind.i64.wrap (np : Int) = np := by have := HNB.out; rw [IntKind.wrap_i64]; omega
  have hb0 : (0 : Int) ≤ np ∧ (np : Int) < (np : Int) + 1 := ⟨by omega, by omega⟩
  have hb1 : (0 : Int) < (nq : Int) + 1 := by omega
  have hb2 : (((np : Int) + 1) == 0) = false := by simpa using (show ¬ (np : Int) + 1 = 0 by omega)
  refine wp_region_plan_kept (fun w' => w'.cell? ⟨p, 1027, none⟩ = some (.slice (some ⟨g1, 0, none⟩) (np + 1) c1) ∧ w'.cell? ⟨q, 1027, none⟩ = some (.slice (some ⟨g2, 0, none⟩) (nq + 1) c2) ∧ w'.rangeAt g1 (np * 11) x ∧ w'.rangeAt g2 0 y) [(1,0),(1,1),(1,2),(0,3),(1,4),(1,5),(1,6),(1,7),(1,8),(1,9),(0,10),(1,11),(1,12),(1,13),(0,14),(1,15),(1,16),(1,17),(0,18),(1,19),(1,20),(1,21),(0,22),(1,23),(0,24),(2,25),(2,26),(2,27)] (by kernel_rfl) (by kernel_rfl) (by kernel_rfl) (by kernel_rfl) (fun _ _ _ _ _ h => h) ⟨n4, n5, r1, r2⟩ ?_
  simp only [tagged, List.filterMap_cons, List.filterMap_nil, List.getElem?_toArray, List.getElem?_cons_succ, List.getElem?_cons_zero, Option.map_some]
  iterate 3 (refine wpKept_sure (fun K hK => ?_); go_simp; refine hK _ ?_; clear hK K)
  refine wpKept_take (fun K hK => ?_)
  rw [if_pos (by rfl)]
  apply Exists.intro
  refine ⟨fun w' hw' => ?_, hK _ ?_⟩
  ·obtain ⟨s0, s1, s2, s3⟩ := hw'
   go_simp
   rfl
  clear hK K
  iterate 6 (refine wpKept_sure (fun K hK => ?_); go_simp; refine hK _ ?_; clear hK K)
  refine wpKept_take (fun K hK => ?_)
  rw [if_pos (by rfl)]
  apply Exists.intro
  refine ⟨fun w' hw' => ?_, hK _ ?_⟩
  ·obtain ⟨s0, s1, s2, s3⟩ := hw'
   go_simp
   rfl
  clear hK K
  iterate 3 (refine wpKept_sure (fun K hK => ?_); go_simp; refine hK _ ?_; clear hK K)
  refine wpKept_take (fun K hK => ?_)
  rw [if_pos (by rfl)]
  apply Exists.intro
  refine ⟨fun w' hw' => ?_, hK _ ?_⟩
  ·obtain ⟨s0, s1, s2, s3⟩ := hw'
   go_simp
   rfl
  clear hK K
  iterate 2 (refine wpKept_sure (fun K hK => ?_); go_simp; refine hK _ ?_; clear hK K)
  refine wpKept_sure (fun K hK => ?_); go_simp
  refine hK _ ?_; clear hK K
  refine wpKept_take (fun K hK => ?_)
  rw [if_pos (by rfl)]
  refine ⟨.agg x.toArray, fun w' hw' => ?_, hK _ ?_⟩
  ·exact exec_load_mid _ _ _ 41 (.tmp 45) rfl g1 (np * 11) rfl x _ hw'.2.2.1 Tryz.underlying41 rfl (by rw [hxl]; exact size41)
  clear hK K
  iterate 3 (refine wpKept_sure (fun K hK => ?_); go_simp; refine hK _ ?_; clear hK K)
  refine wpKept_take (fun K hK => ?_)
  rw [if_pos (by rfl)]
  apply Exists.intro
  refine ⟨fun w' hw' => ?_, hK _ ?_⟩
  ·obtain ⟨s0, s1, s2, s3⟩ := hw'
   go_simp
   rfl
  clear hK K
  iterate 1 (refine wpKept_sure (fun K hK => ?_); go_simp; refine hK _ ?_; clear hK K)
  refine wpKept_take (fun K hK => ?_)
  rw [if_pos (by rfl)]
  refine ⟨.agg y.toArray, fun w' hw' => ?_, hK _ ?_⟩
  ·exact exec_load_mid _ _ _ 41 (.tmp 51) rfl g2 0 rfl y _ hw'.2.2.2 Tryz.underlying41 rfl (by rw [hyl]; exact size41)
  clear hK K
  refine wpKept_next (fun K hK => ?_)
  go_simp
  refine (HF.out wr.drew).mono ?_
  rintro e w2 ⟨rfl, q1⟩
  have hd : wr.drew.heap.size = wr.heap.size := rfl
  rw [hd] at q1
  have hsr := B1.out.size
  have B2 : As (Below W.heap.size W w2) := ⟨B1.out.trans ((Below.refl wr.heap.size wr).drew.trans q1 |>.mono hsr)⟩
  have hg1r : g1 < wr.heap.size := by omega
  have n4' : w2.cell? ⟨p, 1027, none⟩ = some (.slice (some ⟨g1, 0, none⟩) (np + 1) c1) := by rw [World.cell?_of_block (w := wr.drew) (a := ⟨p, 1027, none⟩) (q1.block p (by omega))]; exact n4
  have n5' : w2.cell? ⟨q, 1027, none⟩ = some (.slice (some ⟨g2, 0, none⟩) (nq + 1) c2) := by rw [World.cell?_of_block (w := wr.drew) (a := ⟨q, 1027, none⟩) (q1.block q (by omega))]; exact n5
  have r1' : w2.rangeAt g1 (np * 11) x := range_heap (W := wr.drew) r1 (q1.block g1 (by omega))
  have r2' : w2.rangeAt g2 0 y := range_heap (W := wr.drew) r2 (q1.block g2 (by omega))
  clear q1 hd
  refine hK _ _ ⟨n4', n5', r1', r2'⟩ ?_
  clear hK K
  refine wpKept_next (fun K hK => ?_)
  go_simp
  refine hK _ _ ⟨n4', n5', r1', r2'⟩ ?_
  clear hK K
  refine wpKept_next (fun K hK => ?_)
  go_simp
  refine hK _ _ ⟨n4', n5', r1', r2'⟩ ?_
  clear hK K
  refine wpKept_nil ?_
  go_wp2_with fail
  go_ret
  exact ⟨rfl, B2.out⟩
end Go.Proofs.YthfjhgdiakciaaaGreat.Bl
/- One pointer laid ahead of a row of pointers (slices.Insert at 0). Condition: the row is not empty, and lies in a block of its own. -/
namespace Go.Proofs.YthfjhgdiakciaaaGreat.Bl
open Go.RowKit Go.Lib
set_option linter.unusedVariables false
set_option linter.unusedSimpArgs false
theorem sz79 : (Tryz.prog.info? 79).map (·.size) = some 1 := by kernel_rfl
theorem sizeOf79 (w : World) : (Go.sizeOf 79).run Tryz.prog w = .ok 1 w := by kernel_rfl
set_option maxHeartbeats 4000000 in
set_option maxRecDepth 100000 in
theorem insert_room {W : World} {g n c vb : Nat} {cur : Array Value} {x : Value} (hb : W.heap[g]? = some (.cells cur 79 (0, 0))) (hc : cur.size = c) (hn : 0 < n) (hroom : n + 1 ≤ c) (hc63 : c ≤ maxLen) (h1 : ∀ v ∈ cur.toList.take n, v.oneCell' = true)
  (hv : W.heap[vb]? = some (.cells #[x] 79 (0, 0))) (hne : vb ≠ g) (hx : x.oneCell' = true) :
  Calls Tryz.prog 74 #[.slice (some ⟨g, 0, none⟩) n c, .int .i64 0, .slice (some ⟨vb, 0, none⟩) 1 1] W fun e W' =>
   e = .returned (.slice (some ⟨g, 0, none⟩) (n + 1) c) ∧ W' = (W.drew.setCells g 1 (cur.toList.take n)).setCells g 0 [x] := by
 unfold maxLen at hc63
 have hov : ∀ lb cb, (callFunc 108 #[.slice (some ⟨vb, 0, none⟩) 1 1, .slice (some ⟨g, 1, none⟩) lb cb]).run Tryz.prog W = .ok (.value (.bool false)) W := fun lb cb => by
  rw [run_callFunc_extern Tryz.func108 (by kernel_rfl) (by kernel_rfl) (by kernel_rfl) (e := Extern.SlicesOverlaps.overlaps #[71, 71] #[4]) (by kernel_rfl),
   Lib.run_overlaps_apart W 71 4 79 Tryz.underlying71 1 sizeOf79 ⟨vb, 0, none⟩ ⟨g, 1, none⟩ 1 1 lb cb hne 79 79 1 c (by simp [World.shape?, hv]) (by simp [World.shape?, hb, hc]) (by omega) (blk_frozen hv 0) (blk_frozen hv 1)]
  rfl
 have hlen : (cur.toList.take n).length = n := by rw [List.length_take, Array.length_toList]; omega
 have hcell : ∀ j, W.cell? ⟨g, j, none⟩ = cur[j]? := fun j => blk_cell hb j
 have hsome : ∀ j, j < c → (W.cell? ⟨g, j, none⟩).isSome = true := fun j hj => by rw [hcell, Array.getElem?_eq_getElem (by omega)]; rfl
 have hcp1 : ∀ ty dc sc, (Builtin.copy_ #[71, 71] ty #[.slice (some ⟨g, 1, none⟩) n dc, .slice (some ⟨g, 0, none⟩) (n + 1) sc]).run Tryz.prog W.drew = .ok (goInt (cur.toList.take n).length) (W.drew.setCells g 1 (cur.toList.take n)) := fun ty dc sc =>
  run_copy_cells W.drew _ _ ty 79 g 1 n dc ⟨g, 0, none⟩ (n + 1) sc (cur.toList.take n) Tryz.underlying71 sz79 (by rw [hlen]; exact (Nat.min_eq_right (by omega)).symm)
   (fun j v hj => by
    rw [Addr.add_lit, Nat.zero_add]
    show W.cell? _ = _
    rw [hcell]
    rw [List.getElem?_take] at hj
    split at hj
    ·rw [← Array.getElem?_toList]; exact hj
    ·cases hj)
   (fun j hj => hsome _ (by omega)) (fun j hj => blk_frozen hb _) h1
 obtain ⟨W1, hW1⟩ : ∃ W1, W1 = W.drew.setCells g 1 (cur.toList.take n) := ⟨_, rfl⟩
 have hcp2 : ∀ (W' : World), (∀ x, W'.cell? x = W1.cell? x) → (∀ x, W'.frozen? x = W1.frozen? x) → ∀ ty dc, (Builtin.copy_ #[71, 71] ty #[.slice (some ⟨g, 0, none⟩) (n + 1) dc, .slice (some ⟨vb, 0, none⟩) 1 1]).run Tryz.prog W' = .ok (goInt 1) (W'.setCells g 0 [x]) := fun W' hWc hWf ty dc =>
  run_copy_cells W' _ _ ty 79 g 0 (n + 1) dc ⟨vb, 0, none⟩ 1 1 [x] Tryz.underlying71 sz79 (by show 1 = _; exact (Nat.min_eq_left (by omega)).symm)
   (fun j v hj => by
    rw [Addr.add_lit, hWc, hW1, World.cell?_setCells_out g _ _ _ _ (fun h _ => absurd h hne), Nat.zero_add]
    show W.cell? _ = _
    rw [blk_cell hv j, ← Array.getElem?_toList]
    exact hj)
   (fun j hj => by
    rw [hWc, hW1]
    have hj0 : j = 0 := by simpa using hj
    subst hj0
    exact isSome_setCells g _ 1 W.drew (fun i hi => hsome _ (by rw [hlen] at hi; omega)) _ (hsome 0 (by omega))) (fun j hj => by rw [hWf, hW1, World.frozen?_setCells]; exact blk_frozen hb _) (fun v hv => by rw [List.mem_singleton.1 hv]; exact hx)
 rw [← hW1] at hcp1
 have hz3 : ¬ ((c : Int) < (n : Int) + 1) := by omega
 have hz2 : ¬ (0 : Int) = (n : Int) := by omega
 have hb2 : ¬ (c = 1) := by omega
 have hb3 : (0 : Int) ≤ (n : Int) + 1 ∧ (n : Int) + 1 ≤ (c : Int) := by omega
 have hb4 : (1 : Int) ≤ (n : Int) + 1 := by omega
 have htn : ((n : Int) + 1).toNat = n + 1 := by omega
 clear hb hv hcell hsome
 have hw1 : IntKind.i64.wrap 1 = 1 := by rfl
 have mixed : Tryz.prog.follows .mixedOrders = true := by kernel_rfl
 go_enter Tryz.func74, Tryz.ntmps74
 go_wp2_with (simp only [hov])
 go_region_law_o (refine step_copy_runI rfl _ _ 71 71 rfl _ _ (by simp [Act.eval, Act.put]) (by simp [Act.eval, Act.put]) (hcp1 _ _ _) ?_)
 go_wp2_with (at_builtin; refine wpList_copy_runI _ rfl _ _ 71 71 rfl _ _ rfl rfl (hcp2 _ (fun _ => rfl) (fun _ => rfl) _ _) ?_)
 go_ret
 exact ⟨rfl, rfl⟩
set_option maxHeartbeats 4000000 in
set_option maxRecDepth 100000 in
theorem insert_grow {W : World} {g n vb : Nat} {cur : Array Value} {x : Value} (hb : W.heap[g]? = some (.cells cur 79 (0, 0))) (hc : cur.size = n) (hn : 0 < n) (hn63 : n < 1000000) (h1 : ∀ v ∈ cur.toList, v.oneCell' = true)
  (hv : W.heap[vb]? = some (.cells #[x] 79 (0, 0))) (hne : vb ≠ g) (hx : x.oneCell' = true) :
  Calls Tryz.prog 74 #[.slice (some ⟨g, 0, none⟩) n n, .int .i64 0, .slice (some ⟨vb, 0, none⟩) 1 1] W fun e W' => ∃ G : Nat, n + 1 ≤ G ∧ G ≤ maxLen ∧
   e = .returned (.slice (some ⟨W.heap.size, 0, none⟩) (n + 1) G) ∧ W' = (((W.alloc (.cells (Array.replicate G (.pointer none)) 79)).drew.setCells W.heap.size 0 [x]).drew).setCells W.heap.size 1 cur.toList := by
 obtain ⟨i0, hi0, hz0, hzs, hzb⟩ := info_parts info79
 have hgl := blk_lt hb
 have hvl := blk_lt hv
 have hold : (Builtin.firstCells i0.size 0 (.slice (some ⟨g, 0, none⟩) 0 n)).run Tryz.prog W.drew = .ok ([] : List Value).toArray W.drew := by
  rw [hzs]
  exact run_firstCells_some W.drew 1 0 ⟨g, 0, none⟩ 0 n [] (by simp) (fun j v hj => by cases hj)
 obtain ⟨G, hG⟩ : ∃ G, G = grownCap W (n + 1) n 79 := ⟨_, rfl⟩
 have hGn : n + 1 ≤ G := by rw [hG]; exact grownCap_ge W _ _ _
 have hG63 : G ≤ maxLen := by rw [hG]; exact grownCap_le_maxLen W (n + 1) n 79 (by unfold maxLen; omega)
 have hrow : (([] : List Value).toArray ++ Builtin.zeroCells (Value.pointer none).cells (n + 1) ++ Builtin.zeroCells (Value.pointer none).cells (G - (n + 1))) = Array.replicate G (Value.pointer none) := by
  simp only [Builtin.zeroCells, Value.cells]
  apply Array.ext
  ·simp; omega
  ·intro i h1 h2
   simp [Nat.mod_one, Array.getElem_append]
 have hrz : ∀ ty, (Builtin.append_ #[71, 3] ty #[.slice (some ⟨g, 0, none⟩) 0 n, .int .i64 ((n : Int) + 1)]).run Tryz.prog W =
   .ok (.slice (some ⟨W.heap.size, 0, none⟩) (n + 1) G) (W.drew.alloc (.cells (Array.replicate G (.pointer none)) 79)) := fun ty => by
  have h := Lib.run_append_grow_zeros W 71 3 ty 79 i0 _ .i64 .i64 Tryz.underlying71 Tryz.underlying3 hi0 hz0 (some ⟨g, 0, none⟩) 0 n [] hold (n + 1) (by omega) (by omega) (by omega) (by omega) (by rw [hzb]; omega) (by rw [hzb, Nat.zero_add]; exact growslice_fits (by omega) (by omega))
  rw [Nat.zero_add, ← hG, hrow] at h
  exact h
 obtain ⟨W1, hW1⟩ : ∃ W1, W1 = W.drew.alloc (.cells (Array.replicate G (.pointer none)) 79) := ⟨_, rfl⟩
 rw [← hW1] at hrz
 have hN : W1.heap[W.heap.size]? = some (.cells (Array.replicate G (.pointer none)) 79 (0, 0)) := by rw [hW1]; exact blk_new W.drew _
 have hNs : ∀ j, j < G → (W1.cell? ⟨W.heap.size, j, none⟩).isSome = true := fun j hj => by rw [blk_cell hN, Array.getElem?_eq_getElem (by simpa using hj)]; rfl
 have hNf : ∀ j, W1.frozen? ⟨W.heap.size, j, none⟩ = false := fun j => blk_frozen hN j
 have hOb : W1.heap[g]? = some (.cells cur 79 (0, 0)) := by rw [hW1]; exact blk_old (W := W.drew) hb _
 have hOv : W1.heap[vb]? = some (.cells #[x] 79 (0, 0)) := by rw [hW1]; exact blk_old (W := W.drew) hv _
 have hcpA : ∀ (W' : World), (∀ x, W'.cell? x = W1.cell? x) → (∀ x, W'.frozen? x = W1.frozen? x) → ∀ ty dc, (Builtin.copy_ #[71, 71] ty #[.slice (some ⟨W.heap.size, 0, none⟩) (n + 1) dc, .slice (some ⟨vb, 0, none⟩) 1 1]).run Tryz.prog W' = .ok (goInt 1) (W'.setCells W.heap.size 0 [x]) := fun W' hWc hWf ty dc =>
  run_copy_cells W' _ _ ty 79 W.heap.size 0 (n + 1) dc ⟨vb, 0, none⟩ 1 1 [x] Tryz.underlying71 sz79 (by show 1 = _; exact (Nat.min_eq_left (by omega)).symm)
   (fun j v hj => by
    rw [Addr.add_lit, hWc, Nat.zero_add, blk_cell hOv j, ← Array.getElem?_toList]
    exact hj)
   (fun j hj => by
    rw [hWc]
    have hj0 : j = 0 := by simpa using hj
    exact hNs _ (by omega)) (fun j hj => by rw [hWf]; exact hNf _) (fun v hv => by rw [List.mem_singleton.1 hv]; exact hx)
 have hcl : cur.toList.length = n := by rw [Array.length_toList]; exact hc
 have hcpB : ∀ (W' : World), (∀ y, W'.cell? y = (W1.setCells W.heap.size 0 [x]).cell? y) → (∀ y, W'.frozen? y = (W1.setCells W.heap.size 0 [x]).frozen? y) → ∀ ty dc sc, (Builtin.copy_ #[71, 71] ty #[.slice (some ⟨W.heap.size, 1, none⟩) n dc, .slice (some ⟨g, 0, none⟩) n sc]).run Tryz.prog W' = .ok (goInt cur.toList.length) (W'.setCells W.heap.size 1 cur.toList) := fun W' hWc hWf ty dc sc =>
  run_copy_cells W' _ _ ty 79 W.heap.size 1 n dc ⟨g, 0, none⟩ n sc cur.toList Tryz.underlying71 sz79 (by rw [hcl]; exact (Nat.min_self n).symm)
   (fun j v hj => by
    rw [Addr.add_lit, hWc, World.cell?_setCells_out _ _ _ _ _ (fun h _ => absurd h (by show g ≠ W.heap.size; omega)), Nat.zero_add, blk_cell hOb j, ← Array.getElem?_toList]
    exact hj)
   (fun j hj => by rw [hWc]; exact isSome_setCells _ _ 0 _ (fun i hi => hNs _ (by simp at hi; omega)) _ (hNs _ (by omega)))
   (fun j hj => by rw [hWf, World.frozen?_setCells]; exact hNf _) h1
 subst hW1
 have hE1 : ∀ x, ((W.alloc (.cells (Array.replicate G (.pointer none)) 79)).drew).cell? x = (W.drew.alloc (.cells (Array.replicate G (.pointer none)) 79)).cell? x := fun x => rfl
 have hE2 : ∀ x, ((W.alloc (.cells (Array.replicate G (.pointer none)) 79)).drew).frozen? x = (W.drew.alloc (.cells (Array.replicate G (.pointer none)) 79)).frozen? x := fun x => rfl
 have hF1 : ∀ y, (((W.alloc (.cells (Array.replicate G (.pointer none)) 79)).drew.setCells W.heap.size 0 [x]).drew).cell? y = ((W.drew.alloc (.cells (Array.replicate G (.pointer none)) 79)).setCells W.heap.size 0 [x]).cell? y := fun x => rfl
 have hF2 : ∀ y, (((W.alloc (.cells (Array.replicate G (.pointer none)) 79)).drew.setCells W.heap.size 0 [x]).drew).frozen? y = ((W.drew.alloc (.cells (Array.replicate G (.pointer none)) 79)).setCells W.heap.size 0 [x]).frozen? y := fun x => rfl
 have hz2 : ¬ (0 : Int) = (n : Int) := by omega
 have hb2 : ¬ (G = 1) := by omega
 have hb3 : (n : Int) < (n : Int) + 1 := by omega
 have hb4 : (1 : Int) ≤ (n : Int) + 1 := by omega
 have hw1 : IntKind.i64.wrap 1 = 1 := by rfl
 have mixed : Tryz.prog.follows .mixedOrders = true := by kernel_rfl
 clear hb hv hN hNs hNf hOb hOv hrow hG hold
 go_enter Tryz.func74, Tryz.ntmps74
 go_wp2_with (first
  | (at_builtin; refine Lib.wpList_append_run _ rfl _ _ _ _ rfl _ _ rfl rfl _ _ (hrz _) ?_)
  | (at_builtin; refine wpList_copy_runI _ rfl _ _ 71 71 rfl _ _ rfl rfl (hcpA _ hE1 hE2 _ _) ?_))
 go_region_law_o (refine step_copy_runI rfl _ _ 71 71 rfl (.slice (some ⟨W.heap.size, 1, none⟩) n (G - 1)) (.slice (some ⟨g, 0, none⟩) n n) (by simp [Act.eval, Act.put]) (by simp [Act.eval, Act.put]) (hcpB _ hF1 hF2 3 (G - 1) n) ?_)
 go_wp2
 go_ret
 exact ⟨G, hGn, hG63, rfl, rfl⟩
theorem put_front1 (cs xs : List Value) (x : Value) (h : xs.length + 1 ≤ cs.length) : (putAt (putAt cs 1 xs) 0 [x]).take (xs.length + 1) = x :: xs := by
 apply List.ext_getElem?
 intro j
 rw [List.getElem?_take]
 by_cases hj : j < xs.length + 1
 ·rw [if_pos hj, putAt_get, putAt_get, putAt_len]
  cases j with
  | zero => rw [if_pos ⟨Nat.le_refl _, by simp, by omega⟩]; rfl
  | succ j =>
   rw [if_neg (by simp), if_pos ⟨by omega, by omega, by omega⟩]
   rfl
 ·rw [if_neg hj]
  rw [List.getElem?_eq_none (by rw [List.length_cons]; omega)]
theorem put_front2 (cs xs : List Value) (x : Value) (h : xs.length + 1 ≤ cs.length) : (putAt (putAt cs 0 [x]) 1 xs).take (xs.length + 1) = x :: xs := by
 apply List.ext_getElem?
 intro j
 rw [List.getElem?_take]
 by_cases hj : j < xs.length + 1
 ·rw [if_pos hj, putAt_get, putAt_get, putAt_len]
  cases j with
  | zero => rw [if_neg (by omega), if_pos ⟨Nat.le_refl _, by simp, by omega⟩]; rfl
  | succ j =>
   rw [if_pos ⟨by omega, by omega, by omega⟩]
   rfl
 ·rw [if_neg hj]
  rw [List.getElem?_eq_none (by rw [List.length_cons]; omega)]
theorem insert_a {W : World} {vs x : Value} {xs : List Value} {n vb : Nat} (hr : W.ownsRow 0 79 1 vs n xs) (hn : 0 < n) (hn2 : n < 1000000) (h1 : ∀ v ∈ xs, v.oneCell' = true) (hv : W.heap[vb]? = some (.cells #[x] 79 (0, 0))) (hne : ¬ vs.ownBlock = some vb) (hx : x.oneCell' = true) :
  Calls Tryz.prog 74 #[vs, .int .i64 0, .slice (some ⟨vb, 0, none⟩) 1 1] W fun e W' => ∃ v', e = .returned v' ∧ W'.ownsRow 0 79 1 v' (n + 1) (x :: xs) ∧ W.grownBy W' vs.ownBlock ∧ (∀ k, v'.ownBlock = some k → vs.ownBlock = some k ∨ W.heap.size ≤ k) := by
 obtain ⟨hl, h2⟩ := hr
 rcases h2 with ⟨_, h0⟩ | ⟨g, c, cur, rfl, _, hb, hnc, hcm, hcs, htk⟩
 ·omega
 rw [Nat.mul_one] at hl hcs htk
 have hgv : g ≠ vb := fun e => hne (by rw [e]; rfl)
 have hcl : cur.toList.length = c := by rw [Array.length_toList]; exact hcs
 by_cases hroom : n + 1 ≤ c
 ·refine (insert_room hb hcs hn hroom hcm (by rw [htk]; exact h1) hv (fun e => hgv e.symm) hx).mono ?_
  rintro e W' ⟨rfl, rfl⟩
  rw [htk]
  have hs := setCells_same [x] g 0 _ _ (setCells_same (t := 79) xs g 1 W.drew cur.toList (by rw [Array.toArray_toList]; exact hb))
  refine ⟨_, rfl, ⟨by rw [List.length_cons, hl, Nat.mul_one], .inr ⟨g, c, _, rfl, Nat.zero_le _, hs, hroom, hcm, ?_, ?_⟩⟩, ?_, fun k hk => .inl hk⟩
  ·rw [List.size_toArray, putAt_len, putAt_len, hcl, Nat.mul_one]
  ·rw [Nat.mul_one, ← hl]
   exact put_front1 _ _ _ (by rw [hl, hcl]; exact hroom)
  ·have b := ((setCells_below0 xs g 1 W.drew)).trans (setCells_below0 [x] g 0 _)
   refine ⟨b.os, b.tape, b.output, b.size, fun k hk hk2 => ?_⟩
   have hkg : k ≠ g := fun e => hk2 (by rw [e]; rfl)
   rw [setCells_far _ _ _ _ hkg, setCells_far _ _ _ _ hkg]
   rfl
 ·have hce : c = n := by omega
  subst hce
  have hall : cur.toList = xs := by rw [← htk, List.take_of_length_le (by omega)]
  refine (insert_grow hb hcs hn hn2 (by rw [hall]; exact h1) hv (fun e => hgv e.symm) hx).mono ?_
  rintro e W' ⟨G, hG, hGm, rfl, rfl⟩
  rw [hall]
  have h0 : (W.alloc (.cells (Array.replicate G (.pointer none)) 79)).heap[W.heap.size]? = some (.cells (Array.replicate G (Value.pointer none)).toList.toArray 79 (0, 0)) := by rw [Array.toArray_toList]; exact blk_new W _
  have hs := setCells_same (t := 79) xs W.heap.size 1 ((W.alloc (.cells (Array.replicate G (.pointer none)) 79)).drew.setCells W.heap.size 0 [x]).drew _ (setCells_same [x] W.heap.size 0 (W.alloc (.cells (Array.replicate G (.pointer none)) 79)).drew _ h0)
  have hrl : (Array.replicate G (Value.pointer none)).toList.length = G := by simp
  refine ⟨_, rfl, ⟨by rw [List.length_cons, hl, Nat.mul_one], .inr ⟨W.heap.size, G, _, rfl, Nat.zero_le _, hs, hG, hGm, ?_, ?_⟩⟩, ?_, fun k hk => .inr (by have := ob_eq hk; omega)⟩
  ·rw [List.size_toArray, putAt_len, putAt_len, hrl, Nat.mul_one]
  ·rw [Nat.mul_one, ← hl]
   exact put_front2 _ _ _ (by rw [hl, hrl]; exact hG)
  ·have b1 : Below W.heap.size W (W.alloc (.cells (Array.replicate G (.pointer none)) 79)).drew := ((Below.refl _ W).alloc (Nat.le_refl _) _).drew
   have b2 := (b1.trans (setCells_below (o := 0) [x] (Nat.le_refl _))).drew
   have b := b2.trans (setCells_below (o := 1) xs (Nat.le_refl W.heap.size))
   exact ⟨b.os, b.tape, b.output, b.size, fun k hk _ => b.block k hk⟩
end Go.Proofs.YthfjhgdiakciaaaGreat.Bl
