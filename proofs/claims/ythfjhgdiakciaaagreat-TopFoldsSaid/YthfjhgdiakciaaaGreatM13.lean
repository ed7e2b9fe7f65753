/- One more entry (Append). Condition: journal and disk lie in memory, the disk is lit, the entry may come. -/
import Derived.Test.YthfjhgdiakciaaaGreatM09
namespace Go.Proofs.YthfjhgdiakciaaaGreat.Bl
open Go.RowKit
set_option linter.unusedVariables false
set_option linter.unusedSimpArgs false
/-- The row of segments, and where the last one lies. -/
def JVP (W : World) (own : Nat → Prop) (vs : Value) (segs : List Seg) (po : Option Addr) : Prop :=
 (segs = [] ∧ vs = .slice none 0 0 ∧ po = none) ∨ ∃ old cur ps p B, segs = old ++ [cur] ∧ po = some ⟨p, 0, none⟩ ∧ JS W own vs old cur ps p B
theorem JVP.keep {W W' : World} {own : Nat → Prop} {vs : Value} {segs : List Seg} {po : Option Addr} (h : JVP W own vs segs po) (hk : ∀ k, own k → k < W.heap.size → W'.heap[k]? = W.heap[k]?) (hs : W.heap.size ≤ W'.heap.size) : JVP W' own vs segs po := by
 rcases h with h | ⟨old, cur, ps, p, B, e, e2, h⟩
 ·exact .inl h
 ·exact .inr ⟨old, cur, ps, p, B, e, e2, h.keep hk hs⟩
theorem cur_w {W : World} {own : Nat → Prop} {jb db : Nat} {vs : Value} {safe : Int} {segs : List Seg} (h : JBlk W jb db vs safe) (hj : JV W own vs segs) (ho : SegsOk segs) :
  ∃ po, JVP W own vs segs po ∧ Calls Tryz.prog 34 #[.pointer (some ⟨jb, 0, none⟩)] W fun e W' => e = .returned (.pointer po) ∧ Below W.heap.size W W' := by
 rcases hj with ⟨rfl, rfl⟩ | ⟨old, cur, ps, p, B, rfl, hj⟩
 ·refine ⟨none, .inl ⟨rfl, rfl, rfl⟩, (cur_none h).mono ?_⟩
  rintro e w ⟨rfl, rfl⟩
  exact ⟨rfl, Below.refl _ _⟩
 ·exact ⟨some ⟨p, 0, none⟩, .inr ⟨old, cur, ps, p, B, rfl, rfl, hj⟩, cur_a h hj (by have := ho.len; omega)⟩
structure SegOk0 (s : Seg) : Prop where
 n1 : s.no < 32
 f2 : s.first < 100000
 len : s.l.length < 1000
structure Apart (W : World) (OD OS : Nat → Prop) (jb : Nat) : Prop where
 d : ∀ k, OD k → k < W.heap.size ∧ ¬ OS k ∧ k ≠ jb
 s : ∀ k, OS k → k < W.heap.size
 j : ¬ OS jb
theorem Apart.grow {W W' : World} {OD OS : Nat → Prop} {jb : Nat} (h : Apart W OD OS jb) (hs : W.heap.size ≤ W'.heap.size) : Apart W' OD OS jb :=
 ⟨fun k hk => ⟨Nat.lt_of_lt_of_le (h.d k hk).1 hs, (h.d k hk).2⟩, fun k hk => Nat.lt_of_lt_of_le (h.s k hk) hs, h.j⟩
theorem info79 : (Tryz.prog.info? 79).map (fun i => (i.zero, i.size, i.bytes)) = some (some (.pointer none), 1, 8) := by kernel_rfl
set_option maxHeartbeats 4000000 in
set_option maxRecDepth 100000 in
theorem append_a {W : World} {OD OS oe : Nat → Prop} {jb db : Nat} {vs : Value} {safe : Int} {segs : List Seg} {s : St} {e : Ent} {c : List Value} (h : JBlk W jb db vs safe) (hd : Disk W OD db 512 s) (hl : LitS s) (hv : JV W OS vs segs) (ho : SegsOk segs) (hap : Apart W OD OS jb)
  (he : EntOk e) (hlsn : e.lsn = ((nextL segs : Nat) : Int)) (hsl : segs.length < 31) (hn1 : 1 ≤ nextL segs) (hn2 : nextL segs < 100000) (hc : EntAt W oe e c) (hw : s.wait.length < 800000) :
  Calls Tryz.prog 14 #[.pointer (some ⟨jb, 0, none⟩), .agg c.toArray] W fun x W' => ∃ OD' OS' vs', x = .returned (.int .i64 0) ∧ JBlk W' jb db vs' safe ∧ Disk W' OD' db 512 (appS segs s e).2 ∧ JV W' OS' vs' (appS segs s e).1 ∧ Apart W' OD' OS' jb ∧
   (∀ k, OD' k ∨ OS' k → OD k ∨ OS k ∨ W.heap.size ≤ k) ∧ Frame (fun k => OD k ∨ OS k ∨ k = jb) W W' := by
 have KJ : As (∀ w, Below W.heap.size W w → JBlk w jb db vs safe) := ⟨fun w hb => (hb.block jb (blk_lt h)).trans h⟩
 have KD : As (∀ w, Below W.heap.size W w → Disk w OD db 512 s) := ⟨fun w hb => hd.below hb (Nat.le_refl _)⟩
 have KV : As (∀ w, Below W.heap.size W w → JV w OS vs segs) := ⟨fun w hb => hv.keep (fun k _ hk => hb.block k hk) hb.size⟩
 have KE : As (∀ w, Below W.heap.size W w → EntAt w (fun k => oe k ∧ k < W.heap.size) e c) := ⟨fun w hb => (hc.mono (own' := fun k => oe k ∧ k < W.heap.size) (fun k hk hl => ⟨hk, hl⟩)).keep (fun k hk _ => hb.block k hk.2) hb.size⟩
 have HO := As.mk ho
 have HE := As.mk he
 have HLS := As.mk hlsn
 have HAP := As.mk hap
 have hcl := hc.len
 have hone := hc.one
 have hc1 : c.toArray[1]? = some (.int .u64 e.lsn) := by
  obtain ⟨_, _, _, _, rfl, _⟩ := hc
  rfl
 have hs41 : (Tryz.prog.info? 41).map (·.size) = some c.length := by rw [hcl]; exact size41
 have hjl := blk_lt h
 clear h hd hv hc ho he hlsn hap
 go_enter Tryz.func14, Tryz.ntmps14
 go_wp2_with fail
 obtain ⟨b3, hb3⟩ : ∃ b3, b3 = W.heap.size := ⟨_, rfl⟩
 have h3 : As ((W.alloc (.cells c.toArray 41)).heap[b3]? = some (.cells c.toArray 41 (0, 0))) := ⟨by rw [hb3]; exact blk_new W _⟩
 have B0 : As (Below W.heap.size W (W.alloc (.cells c.toArray 41))) := ⟨(Below.refl _ W).alloc (Nat.le_refl _) _⟩
 rw [← hb3]
 generalize W.alloc (.cells c.toArray 41) = w0 at *
 have HB3 := As.mk hb3
 have hb30 := blk_lt h3.out
 clear hb3
 refine (state_a (KJ.out _ B0.out)).mono ?_
 rintro x w1 ⟨rfl, rfl⟩
 go_wp2_with (refine wpList_load_row rfl 41 (.tmp 3) rfl b3 rfl 41 _ _ _ h3.out Tryz.underlying41 rfl (by rw [List.size_toArray]; exact hs41) ?_)
 refine (eput_a HE.out (KE.out _ B0.out)).mono ?_
 rintro x w1 ⟨v, rfl, q1, q2⟩
 have hbl := HE.out.len
 obtain ⟨gB, cB, rfl, hcB, hgB, hgB2, _, hbB⟩ := bytes_own q1 (by omega) HE.out.bytes
 have hs1 := q2.size
 have hs0 := B0.out.size
 have HBB := As.mk hbB
 have h31 := As.mk ((q2.block b3 hb30).trans h3.out)
 have B1 := As.mk (B0.out.trans (q2.mono hs0))
 clear q1 q2 hbB h3
 generalize hlen : (entF e).length = n at *
 have HLEN := As.mk hlen
 clear hlen
 go_wp2_with fail
 refine (lastE_v (KJ.out _ B1.out) (KV.out _ B1.out) HO.out).mono ?_
 rintro x w2 ⟨cl, bl, rfl, hL, q2⟩
 have hcl1 := hL.1
 have hcl2 := hL.2.1
 have hL := As.mk hL.2.2
 have hs2 := q2.size
 have h32 := As.mk ((q2.block b3 (by omega)).trans h31.out)
 have HBB2 := As.mk (HBB.out.below q2 (Nat.le_refl _))
 have B2 := As.mk (B1.out.trans (q2.mono (by omega)))
 clear q2 h31 HBB
 have hz : ∀ w, (zeroValue 41).run Tryz.prog w = .ok (.agg zero41) w := fun w => by kernel_rfl
 go_upto_region 8 with (refine wpList_store_mid rfl 41 (.tmp 8) (.tmp 33) rfl w2.heap.size 0 cl.toArray rfl rfl (there_block (blk_new w2 _) 0 _ (by rw [List.size_toArray, hcl1]; decide)) (by rw [List.size_toArray, hcl1]; exact size41) (all_oneCell_toArray hcl2) ?_)
 obtain ⟨b8, hb8⟩ : ∃ b8, b8 = w2.heap.size := ⟨_, rfl⟩
 have hsz3 : ((w2.alloc (.cells zero41 41)).setCells w2.heap.size 0 cl).heap.size = w2.heap.size + 1 := by rw [setCells_size]; simp
 have h8 : As (((w2.alloc (.cells zero41 41)).setCells w2.heap.size 0 cl).heap[w2.heap.size]? = some (.cells cl.toArray 41 (0, 0))) := ⟨row_over (xs := zero41) (t := 41) (blk_new w2 _) (by rw [hcl1]; rfl)⟩
 have q2 : Below w2.heap.size w2 ((w2.alloc (.cells zero41 41)).setCells w2.heap.size 0 cl) := ((Below.refl _ w2).alloc (Nat.le_refl _) _).trans (setCells_below _ (Nat.le_refl _))
 generalize (w2.alloc (.cells zero41 41)).setCells w2.heap.size 0 cl = w3 at *
 have h33 := As.mk ((q2.block b3 (by omega)).trans h32.out)
 have HBB3 := As.mk (HBB2.out.below q2 (Nat.le_refl _))
 have B3 := As.mk (B2.out.trans (q2.mono (by omega)))
 rw [← hb8] at h8 hsz3 ⊢
 have hb38 : b3 < b8 := by omega
 have hsW := B3.out.size
 clear q2 hb8 h32 HBB2
 have hlsub : IntKind.u64.wrap (e.lsn - 1) = ((nextL segs - 1 : Nat) : Int) := by rw [HLS.out]; simp [IntKind.wrap, IntKind.bits, IntKind.signed]; omega
 go_cut [49] from 35 to 49 (fun v49 wc => v49 = .bool false ∧ As (Below W.heap.size W wc) ∧ As (wc.heap[b3]? = some (.cells c.toArray 41 (0, 0))) ∧ As (Bytes wc (some ⟨gB, 0, none⟩) (entF e)) ∧ As (b8 < wc.heap.size))
 case first =>
  cases bl with
  | false =>
   refine wp_region_plan_kept (fun w' => w'.heap[b3]? = some (.cells c.toArray 41 (0, 0)) ∧ w'.heap[b8]? = some (.cells cl.toArray 41 (0, 0))) [(1,0),(0,1),(1,2),(1,3),(2,4),(1,5),(1,6),(1,7),(1,8),(1,9),(1,10),(2,11),(1,12),(1,13),(1,14)] (by kernel_rfl) (by kernel_rfl) (by kernel_rfl) (by kernel_rfl) (fun _ _ _ _ _ h => h) ⟨h33.out, h8.out⟩ ?_
   simp only [tagged, List.filterMap_cons, List.filterMap_nil, List.getElem?_toArray, List.getElem?_cons_succ, List.getElem?_cons_zero, Option.map_some]
   refine wpKept_sure (fun K hK => ?_); go_simp; refine hK _ ?_; clear hK K
   refine wpKept_take (fun K hK => ?_)
   rw [if_pos (by rfl)]
   apply Exists.intro
   refine ⟨fun w' hw' => ?_, hK _ ?_⟩
   ·have k1 : w'.cell? ⟨b3, 1, none⟩ = some (.int .u64 e.lsn) := by rw [blk_cell hw'.1]; exact hc1
    go_simp
    rfl
   clear hK K
   iterate 2 (refine wpKept_sure (fun K hK => ?_); go_simp; refine hK _ ?_; clear hK K)
   refine wpKept_next (fun K hK => ?_)
   go_simp
   refine (last8_v (KJ.out _ B3.out.drew) (KV.out _ B3.out.drew) HO.out).mono ?_
   rintro x w4 ⟨rfl, q2⟩
   have hs4 := q2.size
   have hd3 : w3.drew.heap.size = w3.heap.size := rfl
   have h34 := As.mk ((q2.block b3 (by omega)).trans h33.out)
   have h84 := As.mk ((q2.block b8 (by omega)).trans h8.out)
   have HBB4 : As (Bytes w4 (some ⟨gB, 0, none⟩) (entF e)) := ⟨Bytes.below (W := w3.drew) HBB3.out q2 (Nat.le_refl _)⟩
   have B4 := As.mk (B3.out.drew.trans (q2.mono (by omega)))
   clear q2
   refine hK _ _ ⟨h34.out, h84.out⟩ ?_
   clear hK K
   iterate 4 (refine wpKept_sure (fun K hK => ?_); go_simp; refine hK _ ?_; clear hK K)
   iterate 2 (refine wpKept_sure (fun K hK => ?_); go_simp; refine hK _ ?_; clear hK K)
   refine wpKept_next (fun K hK => ?_)
   go_simp
   clear hK K
   iterate 3 (refine wpKept_sure (fun K hK => ?_); go_simp; refine hK _ ?_; clear hK K)
   refine wpKept_nil ?_
   go_wp2_with fail
   go_meet
   case rel => exact ⟨rfl, B4, h34, HBB4, ⟨by have := blk_lt h84.out; omega⟩⟩
  | true =>
   refine wp_region_plan_kept (fun w' => w'.heap[b3]? = some (.cells c.toArray 41 (0, 0)) ∧ w'.heap[b8]? = some (.cells cl.toArray 41 (0, 0))) [(1,0),(0,1),(1,2),(1,3),(2,4),(1,5),(1,6),(1,7),(1,8),(0,9),(0,10),(2,11),(1,12),(1,13),(1,14)] (by kernel_rfl) (by kernel_rfl) (by kernel_rfl) (by kernel_rfl) (fun _ _ _ _ _ h => h) ⟨h33.out, h8.out⟩ ?_
   simp only [tagged, List.filterMap_cons, List.filterMap_nil, List.getElem?_toArray, List.getElem?_cons_succ, List.getElem?_cons_zero, Option.map_some]
   refine wpKept_sure (fun K hK => ?_); go_simp; refine hK _ ?_; clear hK K
   refine wpKept_take (fun K hK => ?_)
   rw [if_pos (by rfl)]
   apply Exists.intro
   refine ⟨fun w' hw' => ?_, hK _ ?_⟩
   ·have k1 : w'.cell? ⟨b3, 1, none⟩ = some (.int .u64 e.lsn) := by rw [blk_cell hw'.1]; exact hc1
    go_simp
    rfl
   clear hK K
   iterate 2 (refine wpKept_sure (fun K hK => ?_); go_simp; refine hK _ ?_; clear hK K)
   refine wpKept_next (fun K hK => ?_)
   go_simp
   refine (last8_v (KJ.out _ B3.out.drew) (KV.out _ B3.out.drew) HO.out).mono ?_
   rintro x w4 ⟨rfl, q2⟩
   have hs4 := q2.size
   have hd3 : w3.drew.heap.size = w3.heap.size := rfl
   have h34 := As.mk ((q2.block b3 (by omega)).trans h33.out)
   have h84 := As.mk ((q2.block b8 (by omega)).trans h8.out)
   have HBB4 : As (Bytes w4 (some ⟨gB, 0, none⟩) (entF e)) := ⟨Bytes.below (W := w3.drew) HBB3.out q2 (Nat.le_refl _)⟩
   have B4 := As.mk (B3.out.drew.trans (q2.mono (by omega)))
   clear q2
   refine hK _ _ ⟨h34.out, h84.out⟩ ?_
   clear hK K
   iterate 4 (refine wpKept_sure (fun K hK => ?_); go_simp; refine hK _ ?_; clear hK K)
   refine wpKept_take (fun K hK => ?_)
   rw [if_pos (by rfl)]
   refine ⟨.agg cl.toArray, fun w' hw' => ?_, hK _ ?_⟩
   ·exact exec_load_mid _ _ _ 41 (.tmp 8) rfl b8 0 rfl cl _ (fun j v hv => by rw [Nat.zero_add, blk_cell hw'.2, List.getElem?_toArray]; exact hv) Tryz.underlying41 rfl (by rw [hcl1]; exact size41)
   clear hK K
   refine wpKept_take (fun K hK => ?_)
   rw [if_pos (by rfl)]
   refine ⟨.agg c.toArray, fun w' hw' => ?_, hK _ ?_⟩
   ·exact exec_load_mid _ _ _ 41 (.tmp 3) rfl b3 0 rfl c _ (fun j v hv => by rw [Nat.zero_add, blk_cell hw'.1, List.getElem?_toArray]; exact hv) Tryz.underlying41 rfl hs41
   clear hK K
   refine wpKept_next (fun K hK => ?_)
   go_simp
   obtain ⟨el, Wl, ol, xl, okl, lsl⟩ : ∃ e W own, EntAt W own e cl ∧ EntOk e ∧ e.lsn = ((nextL segs - 1 : Nat) : Int) := by
    rcases hL.out with h | h
    ·exact absurd h (by decide)
    ·exact h.2
   refine (follows_e (W' := w4) okl HE.out (by rw [HLS.out, lsl]; omega) xl (KE.out _ (Below.refl _ _)) w4).mono ?_
   rintro x w5 ⟨rfl, q2⟩
   have h35 := As.mk ((q2.block b3 (blk_lt h34.out)).trans h34.out)
   have h85 := As.mk ((q2.block b8 (blk_lt h84.out)).trans h84.out)
   have HBB5 := As.mk (HBB4.out.below q2 (Nat.le_refl _))
   have B5 := As.mk (B4.out.trans (q2.mono (by omega)))
   clear q2
   refine hK _ _ ⟨h35.out, h85.out⟩ ?_
   clear hK K
   iterate 3 (refine wpKept_sure (fun K hK => ?_); go_simp; refine hK _ ?_; clear hK K)
   refine wpKept_nil ?_
   go_wp2_with fail
   go_meet
   case rel => exact ⟨rfl, B5, h35, HBB5, ⟨by have := blk_lt h85.out; omega⟩⟩
 case rest =>
  obtain ⟨rfl, B4, h34, HBB4, HB8⟩ := hcut
  clear h8 h33 HBB3 B3 hz hcl1 hcl2 hL
  have hsc := B4.out.size
  have hgBc := blk_lt h34.out
  obtain ⟨_, _, eq1, hgBc, _⟩ := HBB4.out.2 (by intro e'; have := HLEN.out; rw [e'] at this; simp at this; omega)
  injection eq1 with eq1
  injection eq1 with eq1 eq2
  subst eq1 eq2
  go_wp2_with fail
  have HF := fput_a HBB4.out hgBc (by rw [HLEN.out]; omega) (by rw [HLEN.out]; omega) cB
  rw [HLEN.out] at HF
  refine HF.mono ?_
  rintro x w5 ⟨v5, rfl, q1, q2⟩
  obtain ⟨gF, cF, rfl, hcF, hgF, hgF2, hFl, hbF⟩ := bytes_own q1 (by omega) (frameF_ok HE.out.bytes)
  have hs5 := q2.size
  have h35 := As.mk ((q2.block b3 (blk_lt h34.out)).trans h34.out)
  have HBB5 := As.mk (HBB4.out.below q2 (Nat.le_refl _))
  have HBF5 := As.mk hbF
  have B5 := As.mk (B4.out.trans (q2.mono hsc))
  have hsW5 := B5.out.size
  have hFL := As.mk hFl
  clear q1 q2 hbF HF h34 HBB4 B4 hFl
  obtain ⟨po, HPO, HCUR⟩ := cur_w (KJ.out _ B5.out) (KV.out _ B5.out) HO.out
  go_wp2_with fail
  refine HCUR.mono ?_
  rintro x w6 ⟨rfl, q2⟩
  have hs6 := q2.size
  have h36 := As.mk ((q2.block b3 (blk_lt h35.out)).trans h35.out)
  have HBB6 := As.mk (HBB5.out.below q2 (Nat.le_refl _))
  have HBF6 := As.mk (HBF5.out.below q2 (Nat.le_refl _))
  have B6 := As.mk (B5.out.trans (q2.mono hsW5))
  have HPO6 : As (JVP w6 OS vs segs po) := ⟨HPO.keep (fun k _ hk => q2.block k hk) hs6⟩
  clear q2 h35 HBB5 HBF5 B5 HPO HCUR
  obtain ⟨tb, htb⟩ : ∃ tb, tb = turnsF segs e := ⟨_, rfl⟩
  have HTB := As.mk htb
  clear htb
  go_upto_region 12 with fail
  go_cut [13] from 57 to 71 (fun v13 wc2 => v13 = .bool tb ∧ As (wc2 = w6))
  case first =>
   rcases HPO6.out with ⟨rfl, rfl, rfl⟩ | ⟨old, cur, ps, p, B, rfl, rfl, hjs⟩
   ·have e1 : tb = true := by rw [HTB.out]; rfl
    subst e1
    go_wp2_with fail
    go_meet
    case rel => exact ⟨rfl, ⟨rfl⟩⟩
   ·obtain ⟨ve, vl, hseg⟩ := hjs.cur
    clear hjs
    have e1 : tb = decide (1024 < endF cur + (8 + n)) := by rw [HTB.out, turnsF_snoc, HLEN.out]
    obtain ⟨_, _, _, k4⟩ := hseg.cells
    obtain ⟨cs, _, hrow, _⟩ := hseg.l
    obtain ⟨Al, al, rfl⟩ : ∃ A c, vl = .slice A cur.l.length c := by
     rcases hrow.2 with ⟨hv, h0⟩ | ⟨g, cap, _, hv, _⟩
     ·rw [h0]; exact ⟨_, _, hv⟩
     ·exact ⟨_, _, hv⟩
    obtain ⟨okc, noc⟩ := HO.out.cur
    have hln := okc.len
    have hfit := okc.fit
    have HEnd := As.mk (end_a hseg cur.l.length (endF cur) (endsF_last cur) (by rw [endsF_len]; omega))
    clear hseg hrow okc
    generalize endF cur = ec at *
    go_wp2_with fail
    refine HEnd.out.mono ?_
    rintro x w7 ⟨rfl, rfl⟩
    go_wp2_with fail
    go_meet
    case rel =>
     refine ⟨?_, ⟨rfl⟩⟩
     rw [e1]
     exact congrArg Value.bool (decide_eq_decide.2 (by omega))
  case rest =>
   obtain ⟨rfl, HWC⟩ := hcut
   obtain rfl := HWC.out
   obtain ⟨M, hM⟩ : ∃ M, M = wc.heap.size := ⟨_, rfl⟩
   have HM := As.mk hM
   have hWM : W.heap.size ≤ M := by rw [hM]; exact B6.out.size
   have hgBr : W.heap.size ≤ gB ∧ gB < M := by
    obtain ⟨_, _, e1, h, _⟩ := HBB6.out.2 (by intro e'; have := HLEN.out; rw [e'] at this; simp at this; omega)
    injection e1 with e1
    injection e1 with e1
    exact ⟨by omega, by omega⟩
   clear hM
   go_upto_if 72 with fail
   go_cut [7, 12] from 73 to 102 (fun v7 v12 wd => ∃ (old' : List Seg) (sg : Seg) (s1 : St) (ps' : List Nat) (q' B' : Nat) (OD' OS' : Nat → Prop) (vs' : Value), v12 = ptrV q' ∧ As (preS segs s e = (old', sg, s1)) ∧ As (endF sg + (8 + n) ≤ 1024 ∧ SegOk0 sg) ∧ As (JBlk wd jb db vs' safe) ∧ As (Disk wd OD' db 512 s1) ∧ As (LitS s1 ∧ s1.wait.length < 800016) ∧
     As (JS wd OS' vs' old' sg ps' q' B') ∧ As (Apart wd OD' OS' jb) ∧ As (∀ k, OD' k ∨ OS' k → OD k ∨ OS k ∨ M ≤ k) ∧ As (Frame (fun k => OD k ∨ OS k ∨ k = jb) W wd) ∧ As (wd.heap[b3]? = some (.cells c.toArray 41 (0, 0))) ∧ As (Bytes wd (some ⟨gB, 0, none⟩) (entF e)) ∧ As (Bytes wd (some ⟨gF, 0, none⟩) (frameF (entF e))) ∧ As (M ≤ wd.heap.size))
   case first =>
    cases tb with
    | false =>
     go_wp2_with fail
     go_meet
     case rel =>
      rw [HM.out]
      rcases HPO6.out with ⟨rfl, rfl, rfl⟩ | ⟨old, cur, ps, p, B, rfl, rfl, hj⟩
      ·exact absurd HTB.out (by simp [turnsF])
      ·obtain ⟨okc, noc⟩ := HO.out.cur
       have hfit : endF cur + (8 + n) ≤ 1024 := by
        have := HTB.out
        rw [turnsF_snoc, HLEN.out] at this
        simpa using this.symm
       exact ⟨old, cur, s, ps, p, B, OD, OS, vs, rfl, ⟨preS_stay _ _ _ _ HTB.out.symm⟩, ⟨hfit, okc.n1, okc.f2, okc.len⟩, ⟨KJ.out _ B6.out⟩, ⟨KD.out _ B6.out⟩, ⟨hl, by omega⟩, ⟨hj⟩, ⟨HAP.out.grow B6.out.size⟩, ⟨fun k hk => hk.elim .inl (fun h => .inr (.inl h))⟩, ⟨Frame.of_below B6.out (Nat.le_refl _)⟩, h36, HBB6, HBF6, ⟨Nat.le_refl _⟩⟩
    | true =>
     obtain ⟨psv, hpl, hrow, hvo, ⟨Av, cv, rfl⟩, hsegs⟩ := (KV.out _ B6.out).row
     have HROW := As.mk hrow
     have HSEGS := As.mk hsegs
     have HVO := As.mk hvo
     obtain ⟨j0, j1, j2, j3, j4⟩ := (KJ.out _ B6.out).cells
     have k1 : wc.cell? ⟨b3, 1, none⟩ = some (.int .u64 ((nextL segs : Nat) : Int)) := by rw [blk_cell h36.out, hc1, HLS.out]
     have hne32 : ((segs.length : Int) == 32) = false := by simpa using (show ¬ (segs.length : Int) = 32 by omega)
     obtain ⟨po2, HPO8, HC8⟩ := cur_w (KJ.out wc.drew B6.out.drew) (KV.out wc.drew B6.out.drew) HO.out
     have hod : ∀ k, OD k → k < wc.heap.size := fun k hk => by have := (HAP.out.d k hk).1; have := B6.out.size; omega
     have HT := As.mk (turn_a (W := wc.drew) (KJ.out wc.drew B6.out.drew) (KD.out wc.drew B6.out.drew) hl (fun h => (HAP.out.d jb h).2.2 rfl) hod segs.length (by omega) po2 HC8 (by
      rcases HPO8 with ⟨h1, h2, h3⟩ | ⟨old, cur, ps, p, B, h1, h2, h3⟩
      ·exact .inl ⟨h3, by rw [h1]; rfl⟩
      ·obtain ⟨ve, vl, h4⟩ := h3.cur
       refine .inr ⟨p, cur.no, h2, h4.cells.1, h4.lt, ?_⟩
       have := (h1 ▸ HO.out : SegsOk (old ++ [cur])).cur.2
       rw [this, h1]
       simp) (nextL segs) (by omega) (by omega))
     clear hrow hsegs hvo HPO8 HC8
     generalize hnl : nextL segs = nl at *
     have HNL := As.mk hnl
     clear hnl
     go_upto_region 14 with fail
     go_region
     have hneA : ((((segs.length : Nat) : Int)) == 32) = false := hne32
     clear k1
     have k1 : wc.drew.cell? ⟨b3, 1, none⟩ = some (.int .u64 (nl : Int)) := by
      show wc.cell? ⟨b3, 1, none⟩ = _
      rw [blk_cell h36.out, hc1, HLS.out]
     go_wp2_with fail
     refine HT.out.mono ?_
     rintro x w7 ⟨q, ON, rfl, q1, q2, ⟨ve, q3⟩, q4, q5⟩
     have hdw : wc.drew.heap.size = wc.heap.size := rfl
     rw [hdw] at q2 q4
     have F7 : As (Frame (fun k => OD k ∨ k = jb) wc w7) := ⟨(Frame.refl _ wc).drew.trans q5 (fun _ _ h => h)⟩
     have hs7 := F7.out.low.size
     have J7 := As.mk q1
     have D7 := As.mk q2
     have S7 := As.mk q3
     have N7 := As.mk q4
     clear q1 q2 q3 q4 q5 HT j0 j1 j2 j3 j4 k1
     obtain ⟨j0, j1, j2, j3, j4⟩ := J7.out.cells
     have g2 := blk_frozen J7.out 2
     have hOSk : As (∀ k, OS k → w7.heap[k]? = wc.heap[k]?) := ⟨fun k hk => F7.out.block k (by have := HAP.out.s k hk; have := B6.out.size; omega) (fun h => by
      rcases h with h | h
      ·exact (HAP.out.d k h).2.1 hk
      ·subst h; exact HAP.out.j hk)⟩
     have HR7 := As.mk (own_keep (W' := w7) HROW.out (fun g hg _ => hOSk.out g (HVO.out g hg)))
     obtain ⟨i9, hi9, hz0, hz1, hz2⟩ := info_parts info79
     have hq1 : As ((w7.alloc (.cells #[ptrV q] 79)).ownsRow 0 79 1 (.slice Av segs.length cv) segs.length (psv.map ptrV)) := ⟨HR7.out.alloc _⟩
     unfold ptrV at *
     go_wp2_with ((at_builtin; refine wpList_append_lies _ rfl _ _ 71 rfl 0 79 i9 (.pointer none) 1 8 Tryz.underlying71 hi9 hz0 hz1 hz2 rfl (by omega) _ _ _ rfl hq1.out ⟨w7.heap.size, 0, none⟩ 1 1 [.pointer (some ⟨q, 0, none⟩)] rfl rfl (World.news_of_block (blk_new w7 _)) (by simp [Value.oneCell']) (by omega) (by unfold maxLen; omega) (by omega) (Nat.zero_le _) _ rfl ?_))
     intro gg cap w9 hown9 hgrow9 hat9 hlt9
     have hW6 := B6.out.size
     have hvbO : ∀ k, (Value.slice Av segs.length cv).ownBlock = some k → OS k := fun k hk => HVO.out k hk
     have hvbL : ∀ k, (Value.slice Av segs.length cv).ownBlock = some k → k < W.heap.size := fun k hk => HAP.out.s k (hvbO k hk)
     have F9 : As (Frame (fun k => (Value.slice Av segs.length cv).ownBlock = some k) w7 w9) := ⟨((Frame.refl _ w7).alloc _).grown hgrow9 (fun k hk => .inl hk)⟩
     have hgg : As ((Value.slice Av segs.length cv).ownBlock = some gg ∨ gg = w7.heap.size + 1) := ⟨by
      rcases hat9 with h | h
      ·exact .inl h
      ·right; simpa using h⟩
     have J9 : As (JBlk w9 jb db (.slice Av segs.length cv) safe) := ⟨(F9.out.block jb (by omega) (fun h => HAP.out.j (hvbO jb h))).trans J7.out⟩
     have hggj : gg ≠ jb := fun e' => own_ne hown9 J9.out (by decide) gg rfl e'
     have HO9 := As.mk hown9
     have hlt9' := As.mk hlt9
     have hs9 := F9.out.low.size
     clear hown9 hgrow9 hat9 hlt9 j0 j1 j2 j3 j4 g2 hq1 HR7
     obtain ⟨j0, j1, j2, j3, j4⟩ := J9.out.cells
     have g2 := blk_frozen J9.out 2
     go_wp2_with fail
     go_meet
     case rel =>
      rw [HM.out]
      have hs10 : (w9.setCell ⟨jb, 2, none⟩ (.slice (some ⟨gg, 0, none⟩) (segs.length + 1) cap)).heap.size = w9.heap.size := by simp
      have J10 : JBlk (w9.setCell ⟨jb, 2, none⟩ (.slice (some ⟨gg, 0, none⟩) (segs.length + 1) cap)) jb db (.slice (some ⟨gg, 0, none⟩) (segs.length + 1) cap) safe := by
       unfold JBlk
       rw [blk_put J9.out 2]
       rfl
      have F10 : Frame (fun k => (Value.slice Av segs.length cv).ownBlock = some k ∨ k = jb) w7 (w9.setCell ⟨jb, 2, none⟩ (.slice (some ⟨gg, 0, none⟩) (segs.length + 1) cap)) := (F9.out.mono (fun k hk => .inl hk)).setCell (p := ⟨jb, 2, none⟩) (.inl (.inr rfl)) _
      have HO10 := own_keep (W' := w9.setCell ⟨jb, 2, none⟩ (.slice (some ⟨gg, 0, none⟩) (segs.length + 1) cap)) HO9.out (fun g' hg' _ => Below.heap_setCell _ _ _ _ (show g' ≠ jb by rw [← ob_eq hg']; exact hggj))
      generalize w9.setCell ⟨jb, 2, none⟩ (.slice (some ⟨gg, 0, none⟩) (segs.length + 1) cap) = w10 at *
      have hgk : ∀ k, k < w7.heap.size → ¬ (Value.slice Av segs.length cv).ownBlock = some k → ¬ (Value.slice (some ⟨gg, 0, none⟩) (segs.length + 1) cap).ownBlock = some k := fun k hk hv e' => by
       have e' := ob_eq e'
       rcases hgg.out with h | h
       ·exact hv (e' ▸ h)
       ·omega
      have hfr : ∀ k, W.heap.size ≤ k → k < wc.heap.size → w10.heap[k]? = wc.heap[k]? := fun k h1 h2 => (F10.block k (by omega) (fun h => by
       rcases h with h | h
       ·have := hvbL k h; omega
       ·omega)).trans (F7.out.block k h2 (fun h => by
        rcases h with h | h
        ·have := (HAP.out.d k h).1; omega
        ·omega))
      have hOS10 : ∀ k, OS k → ¬ (Value.slice Av segs.length cv).ownBlock = some k → w10.heap[k]? = wc.heap[k]? := fun k h1 h2 => (F10.block k (by have := HAP.out.s k h1; omega) (fun h => by
       rcases h with h | h
       ·exact h2 h
       ·subst h; exact HAP.out.j h1)).trans (hOSk.out k h1)
      have hlit : LitS (turnS s (newSeg segs)) := laid_lit _ hl
      have hwt : (turnS s (newSeg segs)).wait.length = s.wait.length + 16 := by unfold turnS; rw [laid_wait]; simp [downTo]
      have hen : endF (newSeg segs) = 21 := by unfold endF newSeg; rw [bodyF_nil, frameF_len, hdr_len]
      refine ⟨segs, newSeg segs, turnS s (newSeg segs), psv, q, wc.heap.size, (fun k => OD k ∨ (wc.heap.size ≤ k ∧ k < w7.heap.size ∧ ¬ ON k)), (fun k => OS k ∨ ON k ∨ gg = k), _, rfl, ⟨preS_turn _ _ _ HTB.out.symm⟩, ⟨by omega, ?_, ?_, ?_⟩, ⟨J10⟩, ⟨?_⟩, ⟨hlit, by omega⟩, ⟨?_⟩, ⟨?_⟩, ⟨?_⟩, ⟨?_⟩, ?_, ?_, ?_, ⟨by omega⟩⟩
      ·show segs.length < 32
       omega
      ·show nextL segs < 100000
       rw [HNL.out]; exact hn2
      ·show 0 < 1000
       omega
      ·have hD := D7.out.keep (W' := w10) (fun k hk hlk => F10.block k hlk (fun h => by
        rcases h with h | h
        ·rcases hk with hk | hk
         ·exact (HAP.out.d k hk).2.1 (hvbO k h)
         ·have := hvbL k h; omega
        ·rcases hk with hk | hk
         ·exact (HAP.out.d k hk).2.2 h
         ·omega))
       have e1 : laid s segs.length (img0 segs.length nl) (downTo 16) = turnS s (newSeg segs) := by unfold turnS newSeg; rw [HNL.out]
       rw [e1] at hD
       exact hD
      ·refine ⟨?_, hpl, fun g hg => .inr (.inr (ob_eq hg)), fun i sg hi => ?_, ⟨ve, .slice none 0 0, ?_⟩, by omega⟩
       ·rw [List.map_append]
        exact HO10
       ·obtain ⟨qq, a, b⟩ := HSEGS.out i sg hi
        refine ⟨qq, a, (b.keep (W' := w10) (fun k hk hlk => hOS10 k hk.1 hk.2) (by omega)).mono (fun k hk hlk => ⟨⟨.inl hk.1, ?_⟩, ?_⟩)⟩
        ·exact hgk k (by have := HAP.out.s k hk.1; omega) hk.2
        ·have := HAP.out.s k hk.1; omega
       ·have e1 : imgF (newSeg segs) = img0 segs.length nl := by unfold newSeg; rw [imgF_nil, HNL.out]
        have e2 : endsF (newSeg segs) = [21] := endsF_nil _ _
        have e3 : newSeg segs = ⟨segs.length, nl, []⟩ := by unfold newSeg; rw [HNL.out]
        rw [e1, e2, e3]
        refine (S7.out.keep (W' := w10) (fun k hk hlk => F10.block k hlk (fun h => ?_)) (by omega)).mono (fun k hk hlk => ⟨⟨.inr (.inl hk), hgk k (N7.out k hk).2 (fun h => ?_)⟩, (N7.out k hk).1⟩)
        ·have := N7.out k hk
         rcases h with h | h
         ·have := hvbL k h; omega
         ·omega
        ·have := hvbL k h
         have := N7.out k hk
         omega
      ·refine ⟨fun k hk => ?_, fun k hk => ?_, fun h => ?_⟩
       ·have hggk : gg = k → (Value.slice Av segs.length cv).ownBlock = some k ∨ k = w7.heap.size + 1 := fun e' => by
         rw [← e']; exact hgg.out
        rcases hk with hk | hk
        ·have h1 := HAP.out.d k hk
         refine ⟨by omega, fun h => ?_, h1.2.2⟩
         rcases h with h | h | h
         ·exact h1.2.1 h
         ·have := N7.out k h; omega
         ·rcases hggk h with h | h
          ·exact h1.2.1 (hvbO k h)
          ·omega
        ·refine ⟨by omega, fun h => ?_, by omega⟩
         rcases h with h | h | h
         ·have := HAP.out.s k h; omega
         ·exact hk.2.2 h
         ·rcases hggk h with h | h
          ·have := hvbL k h; omega
          ·omega
       ·rcases hk with hk | hk | hk
        ·have := HAP.out.s k hk; omega
        ·have := N7.out k hk; omega
        ·have := hlt9'.out; omega
       ·rcases h with h | h | h
        ·exact HAP.out.j h
        ·have := N7.out jb h; omega
        ·exact hggj h
      ·intro k hk
       rcases hk with (hk | hk) | hk | hk | hk
       ·exact .inl hk
       ·exact .inr (.inr hk.1)
       ·exact .inr (.inl hk)
       ·exact .inr (.inr (N7.out k hk).1)
       ·rcases hgg.out with h | h
        ·exact .inr (.inl (hk ▸ hvbO gg h))
        ·exact .inr (.inr (by omega))
      ·refine ((Frame.of_below (own := fun k => OD k ∨ OS k ∨ k = jb) B6.out (Nat.le_refl _)).trans (F7.out.mono (own' := fun k => OD k ∨ OS k ∨ k = jb) (fun k hk => hk.elim .inl (fun h => .inr (.inr h)))) (fun _ _ h => h)).trans (F10.mono (own' := fun k => OD k ∨ OS k ∨ k = jb) (fun k hk => hk.elim (fun h => .inr (.inl (hvbO k h))) (fun h => .inr (.inr h)))) (fun _ _ h => h)
      ·exact ⟨(hfr b3 (by have := HB3.out; omega) (blk_lt h36.out)).trans h36.out⟩
      ·exact ⟨HBB6.out.keep (fun q' o' e1 hq' => by injection e1 with e1; injection e1 with e1; subst e1; exact hfr _ (by omega) hq') (by omega)⟩
      ·exact ⟨HBF6.out.keep (fun q' o' e1 hq' => by injection e1 with e1; injection e1 with e1; subst e1; exact hfr _ (by omega) hq') (by omega)⟩
   case rest =>
    obtain ⟨old', sg, s1, ps', q', B', OD', OS', vs', rfl, HPRE, HFIT, HJ, HD, HLT, HJS, HAP', HSUB, HFR, H3, HB, HF, HSZ⟩ := hcut
    have hWd := HFR.out.low.size
    obtain ⟨ve, vl, hsg⟩ := HJS.out.cur
    have HVE : As (∀ k, ve.ownBlock = some k → (OS' k ∧ ¬ vs'.ownBlock = some k) ∧ B' ≤ k ∧ k < wc.heap.size) := ⟨fun k hk => ⟨(hsg.eo k hk).1, (hsg.eo k hk).2, own_lt hsg.ends k hk⟩⟩
    have hap' := HAP'.out
    have hLay := lay_a (OS := fun k => (OS' k ∧ ¬ vs'.ownBlock = some k) ∧ B' ≤ k) HJ.out HD.out HLT.out.1 (fun h => (hap'.d jb h).2.2 rfl) (fun h => hap'.j h.1.1) hsg (fun k hk h => (hap'.d k hk).2.1 h.1.1) (fun k hk => (hap'.d k hk).1) HFIT.out.2.n1 (endsF_len sg) (endsF_last sg) (by have := HFIT.out.2.len; omega) HF.out (by
     obtain ⟨_, _, e1, h, _⟩ := HF.out.2 (by intro e'; have := hFL.out; rw [e'] at this; simp at this; omega)
     injection e1 with e1
     injection e1 with e1
     omega) (by rw [hFL.out]; omega) (by rw [hFL.out]; exact HFIT.out.1) cF (by have := HLT.out.2; omega)
    rw [hFL.out] at hLay
    have hLay := As.mk hLay
    clear hsg hap'
    unfold ptrV
    go_wp2_with fail
    refine hLay.out.mono ?_
    rintro x w10 ⟨ve', rfl, q1, q2, q3, q4, q5⟩
    have hfre : ∀ k, W.heap.size ≤ k → k < M → ¬ OD' k ∧ ¬ OS' k := fun k h1 h2 => ⟨fun h => by
     rcases HSUB.out k (.inl h) with h | h | h
     ·have := (HAP.out.d k h).1; omega
     ·have := HAP.out.s k h; omega
     ·omega, fun h => by
     rcases HSUB.out k (.inr h) with h | h | h
     ·have := (HAP.out.d k h).1; omega
     ·have := HAP.out.s k h; omega
     ·omega⟩
    obtain ⟨ve0, vl0, hsg⟩ := HJS.out.cur
    have hq' := hsg.po.1.1
    have hqd : q' < wc.heap.size := hsg.lt
    have hMd := HSZ.out
    have hs10 := q5.low.size
    have J10 := As.mk q1
    have D10 := As.mk q2
    have S10 := As.mk q3
    have V10 := As.mk q4
    have F10 := As.mk q5
    clear q1 q2 q3 q4 q5 hLay hsg
    have hgBd := (hfre gB hgBr.1 hgBr.2)
    have HB10 : As (Bytes w10 (some ⟨gB, 0, none⟩) (entF e)) := ⟨HB.out.keep (fun q2 o2 e1 hq2 => by
     injection e1 with e1
     injection e1 with e1
     subst e1
     exact F10.out.block _ hq2 (fun h => by
      rcases h with h | h | h | h
      ·exact hgBd.1 h
      ·omega
      ·subst h; exact hgBd.2 hq'
      ·exact hgBd.2 (HVE.out _ h).1.1)) hs10⟩
    have HGET := eget_a HE.out HB10.out (by omega) cB
    rw [HLEN.out] at HGET
    have HGET := As.mk HGET
    clear HB HF H3 HB10 h36 HBB6 HBF6
    go_wp2_with fail
    refine HGET.out.mono ?_
    rintro x w11 ⟨cE, rfl, q1, q2⟩
    have E11 := As.mk q1
    have B11 := As.mk q2
    have hs11 := q2.size
    have hcE := q1.len
    have honeE := q1.one
    clear q1 q2 HGET
    have hz : ∀ w, (zeroValue 41).run Tryz.prog w = .ok (.agg zero41) w := fun w => by kernel_rfl
    go_upto_region 24 with (refine wpList_store_mid rfl 41 (.tmp 15) (.tmp 113) rfl w11.heap.size 0 cE.toArray rfl rfl (there_block (blk_new w11 _) 0 _ (by rw [List.size_toArray, hcE]; decide)) (by rw [List.size_toArray, hcE]; exact size41) (all_oneCell_toArray honeE) ?_)
    obtain ⟨b15, hb15⟩ : ∃ b15, b15 = w11.heap.size := ⟨_, rfl⟩
    have hsz12 : ((w11.alloc (.cells zero41 41)).setCells w11.heap.size 0 cE).heap.size = w11.heap.size + 1 := by rw [setCells_size]; simp
    have h15 : As (((w11.alloc (.cells zero41 41)).setCells w11.heap.size 0 cE).heap[w11.heap.size]? = some (.cells cE.toArray 41 (0, 0))) := ⟨row_over (xs := zero41) (t := 41) (blk_new w11 _) (by rw [hcE]; rfl)⟩
    have B12 : As (Below w11.heap.size w11 ((w11.alloc (.cells zero41 41)).setCells w11.heap.size 0 cE)) := ⟨((Below.refl _ w11).alloc (Nat.le_refl _) _).trans (setCells_below _ (Nat.le_refl _))⟩
    generalize (w11.alloc (.cells zero41 41)).setCells w11.heap.size 0 cE = w12 at *
    have B12r := B12
    have B12 := As.mk (B11.out.trans (B12.out.mono hs11))
    rw [← hb15] at h15 hsz12 ⊢
    have HB15 := As.mk hb15
    have E12 : As (EntAt w12 (fun k => w10.heap.size ≤ k ∧ k < b15) e cE) := ⟨(E11.out.mono (own' := fun k => w10.heap.size ≤ k ∧ k < b15) (fun k hk hlk => ⟨hk, by omega⟩)).keep (fun k hk hlk => B12r.out.block k hlk) B12r.out.size⟩
    have hs12 : w10.heap.size ≤ w12.heap.size := B12.out.size
    have hq10 : q' < w10.heap.size := by omega
    have S12 := As.mk (S10.out.keep (W' := w12) (fun k hk hlk => B12.out.block k hlk) hs12)
    obtain ⟨cs, hcs1, hrow, hvlO, hcs4⟩ := S12.out.l
    have HROW := As.mk hrow
    have HCS := As.mk hcs4
    have HVL := As.mk hvlO
    obtain ⟨_, _, _, k4⟩ := S12.out.cells
    have f4 := blk_frozen S12.out.blk 1027
    have hr15 : w12.rangeAt b15 0 cE := fun j u hu => by
     rw [Nat.zero_add, blk_cell h15.out, List.getElem?_toArray]
     exact hu
    have hsl3 := HFIT.out.2.len
    clear hb15 E11 hz hrow hcs4 hvlO B12r
    refine wp_region_plan_held 10 (fun w' => w'.cell? ⟨q', 1027, none⟩ = some vl ∧ w'.rangeAt b15 0 cE) [(1,0),(1,1),(1,2),(1,3),(0,4),(0,5),(2,6),(2,7),(1,8),(1,9),(2,10)] (by kernel_rfl) (by kernel_rfl) (by kernel_rfl) (by kernel_rfl) (fun _ _ _ _ _ h => h) ⟨k4, hr15⟩ ?_
    simp only [tagged, List.filterMap_cons, List.filterMap_nil, List.getElem?_toArray, List.getElem?_cons_succ, List.getElem?_cons_zero, Option.map_some]
    iterate 4 (refine wpHeld_sure (fun K hK => ?_); go_simp; refine hK _ ?_; clear hK K)
    refine wpHeld_take (fun K hK => ?_)
    rw [if_pos (by rfl)]
    apply Exists.intro
    refine ⟨fun w' hw' => ?_, hK _ ?_⟩
    ·obtain ⟨s0, s1⟩ := hw'
     go_simp
     rfl
    clear hK K
    refine wpHeld_take (fun K hK => ?_)
    rw [if_pos (by rfl)]
    refine ⟨.agg cE.toArray, fun w' hw' => ?_, hK _ ?_⟩
    ·exact exec_load_mid _ _ _ 41 (.tmp 15) rfl b15 0 rfl cE _ hw'.2 Tryz.underlying41 rfl (by rw [hcE]; exact size41)
    clear hK K
    refine wpHeld_next (fun K hK => ?_)
    rw [if_pos (by rfl)]
    refine wp_build35 (.tmp 120) rfl cE rfl hcE ?_
    have hW13 : (w12.drew.alloc (.cells cE.toArray 41 (0, 0))).heap.size = w12.heap.size + 1 := by simp
    have B13 : As (Below w12.heap.size w12 (w12.drew.alloc (.cells cE.toArray 41 (0, 0)))) := ⟨(Below.refl w12.heap.size w12).drew.alloc (Nat.le_refl _) _⟩
    have N13 : As ((w12.drew.alloc (.cells cE.toArray 41 (0, 0))).heap[w12.heap.size]? = some (.cells cE.toArray 41 (0, 0))) := ⟨blk_new w12.drew _⟩
    generalize w12.drew.alloc (.cells cE.toArray 41 (0, 0)) = w13 at *
    have S13 := As.mk (S12.out.keep (W' := w13) (fun k hk hlk => B13.out.block k hlk) (by omega))
    obtain ⟨_, _, _, k4'⟩ := S13.out.cells
    have hr15' : w13.rangeAt b15 0 cE := range_heap hr15 (B13.out.block b15 (by omega))
    refine hK _ _ (fun _ => ⟨k4', hr15'⟩) ?_
    clear hK K hr15 k4
    refine wpHeld_next (fun K hK => ?_)
    obtain ⟨i0, hi0, hz0, hz1, hz2⟩ := info_parts info41
    have HR13 := As.mk (own_keep (W' := w13) HROW.out (fun g hg hlg => B13.out.block g hlg))
    refine step_append_lies w13 (by rfl) _ _ _ (by rfl) 0 41 i0 _ 11 112 Tryz.underlying35 hi0 hz0 hz1 hz2 (by rfl) (by omega) vl sg.l.length cs.flatten (by rfl) HR13.out
     ⟨w12.heap.size, 0, none⟩ 1 1 cE (by rfl) hcE (World.news_of_block N13.out) honeE (by omega) (by unfold maxLen; omega) (by omega) (Nat.zero_le _) (w12.heap.size + 1) hW13 ?_
    intro gg cap w14 hown14 hgrow14 hat14 hlt14
    have hvlO : ∀ g, vl.ownBlock = some g → ((OS' g ∧ ¬ vs'.ownBlock = some g) ∧ B' ≤ g) ∧ g ≠ q' ∧ ¬ ve'.ownBlock = some g := fun g hg => by
     have h := HVL.out g hg
     rcases h.1 with h1 | h1
     ·exact ⟨h1, h.2⟩
     ·exact absurd h1 h.2.2
    have hOSl : ∀ k, OS' k → k < wc.heap.size := HAP'.out.s
    have hb14 : As (w14.heap[q']? = some (.cells (segC sg.no sg.first (putI (imgF sg) (endF sg) (frameF (entF e))) ve' vl).toArray 141 (0, 0))) := ⟨(hgrow14.block q' (by omega) (fun h => (hvlO q' h.symm).2.1 rfl)).trans S13.out.blk⟩
    have F14 : As (Frame (fun k => vl.ownBlock = some k ∨ k = q') w10 w14) := ⟨((Frame.of_below (own := fun k => vl.ownBlock = some k ∨ k = q') B12.out (Nat.le_refl _)).trans (Frame.of_below (own := fun k => vl.ownBlock = some k ∨ k = q') B13.out (Nat.le_refl _)) (fun _ _ h => h)).grown hgrow14 (fun k hk => .inl (.inl hk))⟩
    have hgg : As (vl.ownBlock = some gg ∨ gg = w12.heap.size + 1) := ⟨hat14⟩
    have hggq : gg ≠ q' := fun e' => own_ne hown14 hb14.out (by decide) gg rfl e'
    have HO14 := As.mk hown14
    have HG14 := As.mk hgrow14
    have hl14 := As.mk hlt14
    clear hown14 hgrow14 hat14 hlt14
    have d4 : w14.cell? ⟨q', 1027, none⟩ = some vl := by rw [blk_cell hb14.out, List.getElem?_toArray]; exact segC_4 _ _ S10.out.il _ _
    have g4 := blk_frozen hb14.out 1027
    have hr14 : w14.rangeAt b15 0 cE := range_heap hr15' (HG14.out.block b15 (by omega) (fun h => by have := HB15.out; have := hOSl b15 (hvlO b15 h.symm).1.1.1; omega))
    refine hK _ _ (fun _ => ⟨d4, hr14⟩) ?_
    clear hK K hr14 hr15' k4' f4
    iterate 2 (refine wpHeld_sure (fun K hK => ?_); go_simp; refine hK _ ?_; clear hK K)
    refine wpHeld_next (fun K hK => ?_)
    go_simp
    refine hK _ _ (fun h => absurd rfl h) ?_
    clear hK K
    refine wpHeld_nil ?_
    go_wp2_with fail
    go_ret
    have hs15 : (w14.setCell ⟨q', 1027, none⟩ (.slice (some ⟨gg, 0, none⟩) (sg.l.length + 1) cap)).heap.size = w14.heap.size := by simp
    have hb15' := blk_put hb14.out 1027 (.slice (some ⟨gg, 0, none⟩) (sg.l.length + 1) cap)
    rw [segC_l _ _ S10.out.il] at hb15'
    have F15 : Frame (fun k => vl.ownBlock = some k ∨ k = q') w10 (w14.setCell ⟨q', 1027, none⟩ (.slice (some ⟨gg, 0, none⟩) (sg.l.length + 1) cap)) := F14.out.setCell (p := ⟨q', 1027, none⟩) (.inl (.inr rfl)) _
    have HO15 := own_keep (W' := w14.setCell ⟨q', 1027, none⟩ (.slice (some ⟨gg, 0, none⟩) (sg.l.length + 1) cap)) HO14.out (fun g' hg' _ => Below.heap_setCell _ _ _ _ (show g' ≠ q' by rw [← ob_eq hg']; exact hggq))
    have hkeep15 : ∀ k, k < w12.heap.size → ¬ vl.ownBlock = some k → k ≠ q' → (w14.setCell ⟨q', 1027, none⟩ (.slice (some ⟨gg, 0, none⟩) (sg.l.length + 1) cap)).heap[k]? = w12.heap[k]? := fun k h1 h2 h3 => by
     rw [Below.heap_setCell _ _ _ _ (show k ≠ q' from h3), HG14.out.block k (by omega) (fun h => h2 h.symm), B13.out.block k h1]
    generalize w14.setCell ⟨q', 1027, none⟩ (.slice (some ⟨gg, 0, none⟩) (sg.l.length + 1) cap) = w15 at *
    have hF15s := F15.low.size
    have hW14 : w13.heap.size ≤ w14.heap.size := HG14.out.size
    have hapd := HAP'.out.d
    have hbl := HJS.out.bl
    have hveR := V10.out
    have hveL : ∀ k, ve'.ownBlock = some k → k < w10.heap.size := fun k hk => own_lt S10.out.ends k hk
    have hvsO : ∀ k, vs'.ownBlock = some k → OS' k := HJS.out.vo
    have hveq : ∀ k, ve'.ownBlock = some k → k ≠ q' := own_ne S10.out.ends S10.out.blk (by decide)
    have hnOD : ∀ k, OD' k → ¬ ve'.ownBlock = some k := fun k hk h => by
     rcases hveR k h with h1 | h1
     ·exact (hapd k hk).2.1 h1.1.1
     ·have := (hapd k hk).1; omega
    have hggO : ∀ k, gg = k → (vl.ownBlock = some k) ∨ k = w12.heap.size + 1 := fun k hk => by rw [← hk]; exact hgg.out
    -- the old world against the last one
    have hold : ∀ k, k < wc.heap.size → ¬ OD' k → k ≠ jb → k ≠ q' → ¬ ve.ownBlock = some k → ¬ vl.ownBlock = some k → w15.heap[k]? = wc.heap[k]? := fun k h0 h1 h2 h3 h4 h5 => (F15.block k (by omega) (fun h => h.elim h5 h3)).trans (F10.out.block k h0 (fun h => by
     rcases h with h | h | h | h
     ·exact h1 h
     ·exact h2 h
     ·exact h3 h
     ·exact h4 h))
    have hfit := HFIT.out.1
    have hla : (entF e).length = n := HLEN.out
    have eimg : imgF (sg.add e) = putI (imgF sg) (endF sg) (frameF (entF e)) := imgF_add sg e (by rw [hla]; exact hfit)
    have eends : endsF (sg.add e) = endsF sg ++ [endF sg + (8 + n)] := by rw [endsF_add, hla]
    have eapp : appS segs s e = (old' ++ [sg.add e], layS s1 sg e) := by unfold appS; rw [HPRE.out]
    rw [eapp]
    refine ⟨rfl, (fun k => OD' k ∨ (wc.heap.size ≤ k ∧ k < w10.heap.size ∧ ¬ ve'.ownBlock = some k)), (fun k => OS' k ∨ ve'.ownBlock = some k ∨ gg = k ∨ (w10.heap.size ≤ k ∧ k < b15)), vs', ?_, ?_, .inr ⟨old', sg.add e, ps', q', B', rfl, ?_⟩, ?_, ?_, ?_⟩
    ·exact (F15.block jb (by have := blk_lt J10.out; omega) (fun h => by
      rcases h with h | h
      ·exact HAP'.out.j (hvlO jb h).1.1.1
      ·exact HAP'.out.j (h ▸ hq'))).trans J10.out
    ·have hD := D10.out.keep (W' := w15) (fun k hk hlk => F15.block k hlk (fun h => by
      rcases hk with hk | hk
      ·rcases h with h | h
       ·exact (hapd k hk).2.1 (hvlO k h).1.1.1
       ·exact (hapd k hk).2.1 (h ▸ hq')
      ·rcases h with h | h
       ·have := hOSl k (hvlO k h).1.1.1; omega
       ·omega))
     have e1 : layS s1 sg e = laid s1 sg.no (putI (imgF sg) (endF sg) (frameF (entF e))) (List.range' (endF sg / 64) ((endF sg + (8 + n) + 63) / 64 - endF sg / 64)) := by unfold layS; rw [eimg, hla]
     rw [e1]
     exact hD
    ·refine ⟨?_, HJS.out.len, fun g hg => .inl (hvsO g hg), fun i s2 hi => ?_, ⟨ve', .slice (some ⟨gg, 0, none⟩) (sg.l.length + 1) cap, ?_⟩, by omega⟩
     ·refine own_keep HJS.out.row (fun g hg hlg => hold g hlg (fun h => (hapd g h).2.1 (hvsO g hg)) (fun h => HAP'.out.j (h ▸ hvsO g hg)) (fun h => ?_) (fun h => (HVE.out g h).1.2 hg) (fun h => (hvlO g h).1.1.2 hg))
      have hb := HJS.out.cur
      obtain ⟨_, _, hb⟩ := hb
      exact hb.po.1.2 (h ▸ hg)
     ·obtain ⟨q2, a, b⟩ := HJS.out.olds i s2 hi
      refine ⟨q2, a, (b.keep (W' := w15) (fun k hk hlk => hold k hlk (fun h => (hapd k h).2.1 hk.1.1) (fun h => HAP'.out.j (h ▸ hk.1.1)) (fun h => ?_) (fun h => ?_) (fun h => ?_)) (by omega)).mono (fun k hk hlk => ⟨⟨.inl hk.1.1, hk.1.2⟩, hk.2⟩)⟩
      ·obtain ⟨_, _, hb⟩ := HJS.out.cur
       have := hb.po.2
       omega
      ·have := (HVE.out k h).2.1; omega
      ·have := (hvlO k h).1.2; omega
     ·have hqB : B' ≤ q' := by
       obtain ⟨_, _, hb⟩ := HJS.out.cur
       exact hb.po.2
      have hqv : ¬ vs'.ownBlock = some q' := by
       obtain ⟨_, _, hb⟩ := HJS.out.cur
       exact hb.po.1.2
      rw [eimg, eends]
      refine ⟨hb15', S10.out.il, S10.out.iok, own_keep S10.out.ends (fun g hg hlg => F15.block g hlg (fun h => h.elim (fun h => (hvlO g h).2.2 hg) (hveq g hg))), fun g hg => ?_, ?_, ⟨⟨.inl hq', hqv⟩, hqB⟩⟩
      ·rcases hveR g hg with h1 | h1
       ·exact ⟨⟨.inl h1.1.1, h1.1.2⟩, h1.2⟩
       ·exact ⟨⟨.inr (.inl hg), fun h => by have := hOSl g (hvsO g h); omega⟩, by omega⟩
      ·refine EntRow.app (cs := cs) hcs1 (fun i x hx => ?_) HO15 ?_ ?_
       ·obtain ⟨y, a, b⟩ := HCS.out i x hx
        refine ⟨y, a, ((b.mono (own' := fun k => ((((OS' k ∧ ¬ vs'.ownBlock = some k) ∧ B' ≤ k ∨ ve'.ownBlock = some k) ∧ k ≠ q' ∧ ¬ ve'.ownBlock = some k) ∧ ¬ vl.ownBlock = some k) ∧ k < w12.heap.size) (fun k hk hlk => ⟨hk, hlk⟩)).keep (W' := w15) (fun k hk hlk => hkeep15 k hlk hk.1.2 hk.1.1.2.1) (by omega)).mono (fun k hk _ => ⟨?_, fun h => ?_⟩)⟩
        ·rcases hk.1.1.1 with h | h
         ·exact ⟨⟨⟨.inl h.1.1, h.1.2⟩, h.2⟩, hk.1.1.2⟩
         ·exact absurd h hk.1.1.2.2
        ·rcases hggO k (ob_eq h) with h | h
         ·exact hk.1.2 h
         ·omega
       ·rcases hgg.out with h | h
        ·obtain ⟨h1, h2, h3⟩ := hvlO gg h
         exact ⟨⟨⟨.inl h1.1.1, h1.1.2⟩, h1.2⟩, h2, h3⟩
        ·exact ⟨⟨⟨.inr (.inr (.inl rfl)), fun h2 => by have := hOSl gg (hvsO gg h2); omega⟩, by omega⟩, hggq, fun h2 => by have := hveL gg h2; omega⟩
       ·refine (E12.out.keep (W' := w15) (fun k hk hlk => hkeep15 k hlk (fun h => by have := hOSl k (hvlO k h).1.1.1; omega) (by omega)) (by omega)).mono (fun k hk hlk => ⟨⟨⟨⟨.inr (.inr (.inr hk)), fun h2 => by have := hOSl k (hvsO k h2); omega⟩, by omega⟩, by omega, fun h2 => by have := hveL k h2; omega⟩, fun h2 => by
         rcases hggO k (ob_eq h2) with h | h
         ·have := hOSl k (hvlO k h).1.1.1; omega
         ·omega⟩)
    ·refine ⟨fun k hk => ?_, fun k hk => ?_, fun h => ?_⟩
     ·rcases hk with hk | hk
      ·have h1 := hapd k hk
       refine ⟨by omega, fun h => ?_, h1.2.2⟩
       rcases h with h | h | h | h
       ·exact h1.2.1 h
       ·exact hnOD k hk h
       ·rcases hggO k h with h | h
        ·exact h1.2.1 (hvlO k h).1.1.1
        ·omega
       ·omega
      ·have hjl' : jb < wc.heap.size := by have := blk_lt HJ.out; exact this
       refine ⟨by omega, fun h => ?_, by omega⟩
       rcases h with h | h | h | h
       ·have := hOSl k h; omega
       ·exact hk.2.2 h
       ·rcases hggO k h with h | h
        ·have := hOSl k (hvlO k h).1.1.1; omega
        ·omega
       ·omega
     ·rcases hk with hk | hk | hk | hk
      ·have := hOSl k hk; omega
      ·have := hveL k hk; omega
      ·have := hl14.out; omega
      ·omega
     ·have hjl' : jb < wc.heap.size := blk_lt HJ.out
      rcases h with h | h | h | h
      ·exact HAP'.out.j h
      ·rcases hveR jb h with h1 | h1
       ·exact HAP'.out.j h1.1.1
       ·omega
      ·rcases hggO jb h with h | h
       ·exact HAP'.out.j (hvlO jb h).1.1.1
       ·omega
      ·omega
    ·intro k hk
     have hsub : ∀ k, OD' k ∨ OS' k → OD k ∨ OS k ∨ W.heap.size ≤ k := fun k hk => by
      rcases HSUB.out k hk with h | h | h
      ·exact .inl h
      ·exact .inr (.inl h)
      ·exact .inr (.inr (by omega))
     rcases hk with (hk | hk) | hk | hk | hk | hk
     ·exact hsub k (.inl hk)
     ·exact .inr (.inr (by omega))
     ·exact hsub k (.inr hk)
     ·rcases hveR k hk with h1 | h1
      ·exact hsub k (.inr h1.1.1)
      ·exact .inr (.inr (by omega))
     ·rcases hggO k hk with h | h
      ·exact hsub k (.inr (hvlO k h).1.1.1)
      ·exact .inr (.inr (by omega))
     ·exact .inr (.inr (by omega))
    ·have hlow : ∀ k, k < W.heap.size → (OD' k ∨ OS' k) → OD k ∨ OS k ∨ k = jb := fun k hk h => by
      rcases HSUB.out k h with h | h | h
      ·exact .inl h
      ·exact .inr (.inl h)
      ·omega
     refine (HFR.out.trans F10.out (fun k hk h => ?_)).trans F15 (fun k hk h => ?_)
     ·rcases h with h | h | h | h
      ·exact hlow k hk (.inl h)
      ·exact .inr (.inr h)
      ·exact hlow k hk (.inr (h ▸ hq'))
      ·exact hlow k hk (.inr (HVE.out k h).1.1)
     ·rcases h with h | h
      ·exact hlow k hk (.inr (hvlO k h).1.1.1)
      ·exact hlow k hk (.inr (h ▸ hq'))
end Go.Proofs.YthfjhgdiakciaaaGreat.Bl
