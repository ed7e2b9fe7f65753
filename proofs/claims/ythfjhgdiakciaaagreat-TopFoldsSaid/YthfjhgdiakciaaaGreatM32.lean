/- An entry comes (drayageref20's Apply): an order. Condition: Check says yes; the ledger lies in memory as it is told. -/
import Derived.Test.YthfjhgdiakciaaaGreatM18
import Derived.Test.YthfjhgdiakciaaaGreatM24
import Derived.Test.YthfjhgdiakciaaaGreatM27
import Derived.Test.YthfjhgdiakciaaaGreatM29
import Derived.Test.YthfjhgdiakciaaaGreatM31
namespace Go.Proofs.YthfjhgdiakciaaaGreat.Bl
open Go.RowKit Go.Maps
set_option linter.unusedVariables false
set_option linter.unusedSimpArgs false
theorem info118 : (Tryz.prog.info? 118).map (fun i => (i.zero, i.size, i.bytes)) = some (some (.agg #[.int .u32 0, .slice none 0 0, .slice none 0 0, .int .i64 0, .int .i64 0, .int .i64 0, .bool false, .int .i64 0, .bool false, .int .i64 0]), 10, 112) := by kernel_rfl
theorem info4 : (Tryz.prog.info? 4).map (fun i => (i.zero, i.size, i.bytes)) = some (some (.bool false), 1, 1) := by kernel_rfl
set_option maxRecDepth 100000 in
theorem wp_build61 {o : Oper} {a : Act} {w : World} {K : Act → World → Prop} {Q : Exit → Act → World → Prop} (x : Operand) (ho : o.op = .buildSlice 61 1 #[(0, x)]) (cs : List Value) (hx : a.eval x = .agg cs.toArray) (hl : cs.length = 10)
  (h : K (a.put o.dst (.slice (some ⟨w.heap.size, 0, none⟩) 1 1)) (w.alloc (.cells cs.toArray 118 (0, 0)))) : o.wp Tryz.prog a w K Q := by
 obtain ⟨i0, hi, hz0, hz1, hz2⟩ := info_parts info118
 refine wp_buildSlice 61 118 1 #[(0, x)] ho cs.toArray i0 _ Tryz.underlying61 hi hz0 (by rw [hz1]; decide) (by rw [hz1]; decide) ?_ h
 have := Great.fill_whole (s := 10) (by omega) [.agg cs.toArray] ((Array.range (1 * i0.size)).map ((Value.agg #[.int .u32 0, .slice none 0 0, .slice none 0 0, .int .i64 0, .int .i64 0, .int .i64 0, .bool false, .int .i64 0, .bool false, .int .i64 0]).cells[· % (Value.agg #[.int .u32 0, .slice none 0 0, .slice none 0 0, .int .i64 0, .int .i64 0, .int .i64 0, .bool false, .int .i64 0, .bool false, .int .i64 0]).cells.size]!)) (fun v hv => by
  obtain rfl : v = .agg cs.toArray := by simpa using hv
  show cs.toArray.size = 10
  rw [List.size_toArray, hl]) (by simp [hz1])
 rw [hz1] at this ⊢
 simp only [List.flatMap_cons, List.flatMap_nil, List.append_nil] at this
 refine Eq.trans ?_ (this.trans ?_)
 ·congr 1
  simp [hx]
 ·rfl
theorem ors_more {W w14 wn : World} {own : Nat → Prop} {n c gg cap k d gk gd kk kd M : Nat} {A : Option Addr} {l : List Or} {cs : List (List Value)} (hln : l.length = n) (r1 : cs.length = l.length)
  (r4 : ∀ (i : Nat) (o : Or), l[i]? = some o → ∃ c', cs[i]? = some c' ∧ OrAt W (fun k => own k ∧ ¬ (Value.slice A n c).ownBlock = some k) [] (i + 1) o c') (hv : ∀ q, (Value.slice A n c).ownBlock = some q → own q ∧ q < W.heap.size)
  (hown : w14.ownsRow 0 118 10 (.slice (some ⟨gg, 0, none⟩) (n + 1) cap) (n + 1) (cs.flatten ++ [.int .u32 ((n : Int) + 1), .slice (some ⟨gk, 0, none⟩) 1 kk, .slice (some ⟨gd, 0, none⟩) 1 kd, .int .i64 1, .int .i64 0, .int .i64 0, .bool false, .int .i64 0, .bool false, .int .i64 0])) (hat : (Value.slice A n c).ownBlock = some gg ∨ M ≤ gg) (hlt : gg < wn.heap.size) (hM : W.heap.size ≤ M ∧ gk < M ∧ gd < M ∧ W.heap.size ≤ gk ∧ W.heap.size ≤ gd ∧ M ≤ wn.heap.size)
  (hold : ∀ q, q < W.heap.size → own q → ¬ (Value.slice A n c).ownBlock = some q → wn.heap[q]? = W.heap[q]?) (hgg : wn.heap[gg]? = w14.heap[gg]?) (bk : Bytes wn (some ⟨gk, 0, none⟩) [(k : Int)]) (bd : Bytes wn (some ⟨gd, 0, none⟩) [(d : Int)]) :
  OrsAt wn (fun k => own k ∨ (W.heap.size ≤ k ∧ k < wn.heap.size)) 118 10 [] (.slice (some ⟨gg, 0, none⟩) (n + 1) cap) (l ++ [⟨k, d, startS⟩]) := by
 have hne : ∀ q, q < W.heap.size → ¬ (Value.slice A n c).ownBlock = some q → ¬ (Value.slice (some ⟨gg, 0, none⟩) (n + 1) cap).ownBlock = some q := fun q h1 h2 h3 => by
  have h3 := ob_eq h3
  rcases hat with h | h
  ·exact h2 (h3 ▸ h)
  ·omega
 have hnew : ∀ q, W.heap.size ≤ q → q < M → ¬ (Value.slice (some ⟨gg, 0, none⟩) (n + 1) cap).ownBlock = some q := fun q h1 h2 h3 => by
  have h3 := ob_eq h3
  rcases hat with h | h
  ·have := (hv gg h).2; omega
  ·omega
 subst hln
 refine OrsAt.app (cs := cs) (c := [.int .u32 ((l.length : Int) + 1), .slice (some ⟨gk, 0, none⟩) 1 kk, .slice (some ⟨gd, 0, none⟩) 1 kd, .int .i64 1, .int .i64 0, .int .i64 0, .bool false, .int .i64 0, .bool false, .int .i64 0]) r1 (fun i o ho => ?_) ?_ ?_ ?_
 ·obtain ⟨c', a, b⟩ := r4 i o ho
  have b1 := b.mono (own' := fun k => (own k ∧ ¬ (Value.slice A l.length c).ownBlock = some k) ∧ k < W.heap.size) (fun q hq hl => ⟨hq, hl⟩)
  exact ⟨c', a, (b1.keep (W' := wn) (fun q hq hl => hold q hl hq.1.1 hq.1.2) (by omega)).mono (fun q hq _ => ⟨.inl hq.1.1, hne q hq.2 hq.1.2⟩)⟩
 ·exact own_keep hown (fun q hq _ => by rw [← ob_eq hq]; exact hgg)
 ·rcases hat with h | h
  ·exact .inl (hv gg h).1
  ·exact .inr ⟨by omega, hlt⟩
 ·refine ⟨some ⟨gk, 0, none⟩, kk, some ⟨gd, 0, none⟩, kd, rfl, bk, bd, ?_, ?_⟩
  ·intro q o ha; injection ha with ha; injection ha with ha; subst ha; exact ⟨.inr ⟨by omega, by omega⟩, hnew gk (by omega) (by omega)⟩
  ·intro q o ha; injection ha with ha; injection ha with ha; subst ha; exact ⟨.inr ⟨by omega, by omega⟩, hnew gd (by omega) (by omega)⟩
theorem rledNext_of {W wn wf : World} {OP OL : Nat → Prop} {lb gg cap last : Nat} {pv lv lv' tv : Value} {tk nt y : Int} {ps : List (List Stp)} {l : List Or} {bs : List Bool} {o : Or} (h : RLedAt W OP OL lb pv lv tv ps l bs last tk nt) (hf : Frame (fun k => OL k ∨ k = lb) W wn)
  (hors : OrsAt wn (fun k => (OL k ∧ ¬ tv.ownBlock = some k) ∨ (W.heap.size ≤ k ∧ k < wn.heap.size)) 118 10 [] lv' (l ++ [o])) (hown : wf.ownsRow 0 4 1 (.slice (some ⟨gg, 0, none⟩) (l.length + 1) cap) (l.length + 1) (bs.map Value.bool ++ [.bool false]))
  (hat : tv.ownBlock = some gg ∨ wn.heap.size ≤ gg) (hlt : gg < wf.heap.size) (hff : ∀ q, q < wn.heap.size → ¬ tv.ownBlock = some q → q ≠ lb → wf.heap[q]? = wn.heap[q]?) (hlow : Below 0 wn wf)
  (hblk : wf.heap[lb]? = some (.cells #[pv, lv', .slice (some ⟨gg, 0, none⟩) (l.length + 1) cap, .int .u64 ((last : Int) + 1), .int .u32 1, .int .i64 1, .int .i64 y, .int .i64 nt] 64 (0, 0))) : RLedNext W wf OP OL lb pv ps (l ++ [o]) (last + 1) := by
 have s1 := h.s1
 have hsn := hf.low.size
 have hsf := hlow.size
 have hlb := blk_lt h.blk
 have htv : ∀ q, tv.ownBlock = some q → OL q ∧ q < W.heap.size := fun q hq => ⟨h.own q hq, own_lt h.told q hq⟩
 refine ⟨lv', .slice (some ⟨gg, 0, none⟩) (l.length + 1) cap, bs ++ [false], y, nt, fun k => OL k ∨ (W.heap.size ≤ k ∧ k < wf.heap.size), ⟨?_, ?_, ?_, ?_, ?_, ?_, ?_, ?_, ?_, ?_⟩, fun k hk => hk.imp id (fun h => h.1), ?_⟩
 ·rw [hblk, epF_succ, Int.natCast_add, Int.natCast_one]
 ·exact h.plans.keep (fun q ho hq => (hff q (by omega) (fun e => h.s2 q ho (htv q e).1) (fun e => s1.2 (e ▸ ho))).trans (hf.block q hq (fun e => e.elim (h.s2 q ho) (fun e => s1.2 (e ▸ ho))))) (by omega)
 ·have h1 : OrsAt wn (fun k => ((OL k ∧ ¬ tv.ownBlock = some k) ∨ (W.heap.size ≤ k ∧ k < wn.heap.size)) ∧ k < wn.heap.size) 118 10 [] lv' (l ++ [o]) := hors.mono (fun k hk hl => ⟨hk, hl⟩)
  refine (h1.keep (W' := wf) (fun q hq hl => hff q hl (fun e => ?_) (fun e => ?_)) hsf).mono (fun k hk _ => ⟨hk.1.imp (fun h => h.1) (fun h => ⟨h.1, by omega⟩), fun e => ?_⟩)
  ·rcases hq.1 with h' | h'
   ·exact h'.2 e
   ·have := (htv q e).2; omega
  ·rcases hq.1 with h' | h'
   ·exact s1.1 (e ▸ h'.1)
   ·omega
  ·have e := ob_eq e
   rcases hat with h' | h'
   ·rcases hk.1 with h2 | h2
    ·exact h2.2 (e ▸ h')
    ·have := (htv gg h').2; omega
   ·omega
 ·have e1 : (bs ++ [false]).map Value.bool = bs.map Value.bool ++ [.bool false] := by simp
  rw [e1, List.length_append]
  exact hown
 ·intro g hg
  have e := ob_eq hg
  subst e
  rcases hat with h' | h'
  ·exact .inl (htv gg h').1
  ·exact .inr ⟨by omega, hlt⟩
 ·simp [h.len]
 ·exact ⟨fun e => e.elim s1.1 (fun e => by omega), s1.2⟩
 ·exact fun q ho e => e.elim (h.s2 q ho) (fun e => by have := h.b1 q ho; omega)
 ·exact fun q ho => by have := h.b1 q ho; omega
 ·exact fun q ho => ho.elim (fun e => by have := h.b2 q e; omega) (fun e => e.2)
 ·exact ⟨hf.low.trans hlow, fun q hq ho => (hff q (by omega) (fun e => ho (.inl (htv q e).1)) (fun e => ho (.inr e))).trans (hf.block q hq ho)⟩
set_option maxHeartbeats 4000000 in
set_option maxRecDepth 100000 in
theorem rapply_order {W : World} {OP OL : Nat → Prop} {lb : Nat} {pv lv tv : Value} {ps : List (List Stp)} {l : List Or} {bs : List Bool} {last : Nat} {tk nt : Int} (h : RLedAt W OP OL lb pv lv tv ps l bs last tk nt) {n : Nat} (hln : l.length = n) (hn : n < 500) {ak ad : Option Addr} {ck cd k d : Nat} (hk : Bytes W ak [(k : Int)]) (hd : Bytes W ad [(d : Int)]) (hko : ∀ q o, ak = some ⟨q, o, none⟩ → q ≠ lb) (hdo : ∀ q o, ad = some ⟨q, o, none⟩ → q ≠ lb)
  (hC : ∀ w, Below W.heap.size W w → Calls Tryz.prog 57 #[.pointer (some ⟨lb, 0, none⟩), .agg #[.int .i64 2, .int .u64 ((last : Int) + 1), .int .u32 1, .int .u32 ((n : Int) + 1), .int .i64 0, .bool false, .int .i64 0, .int .i64 0, .int .u64 0, .slice ak 1 ck, .slice ad 1 cd]] w fun e W' => e = .returned (.int .i64 0) ∧ Below w.heap.size w W') :
  Calls Tryz.prog 19 #[.pointer (some ⟨lb, 0, none⟩), .agg #[.int .i64 2, .int .u64 ((last : Int) + 1), .int .u32 1, .int .u32 ((n : Int) + 1), .int .i64 0, .bool false, .int .i64 0, .int .i64 0, .int .u64 0, .slice ak 1 ck, .slice ad 1 cd]] W fun e W' => e = .returned (.int .i64 0) ∧ RLedNext W W' OP OL lb pv ps (l ++ [⟨k, d, startS⟩]) (last + 1) := by
 obtain ⟨A, c, rfl⟩ := h.slice
 rw [hln] at h
 have hbk := h.blk
 have hlb := blk_lt hbk
 have HR := As.mk h
 have HC := As.mk hC
 generalize hep : epF last = ep at hbk
 have HB := As.mk hbk
 have HLN := As.mk hln
 have HK : As (∀ w, Frame (fun k => k = lb) W w → Bytes w ak [(k : Int)]) := ⟨fun w hw => hk.keep (fun q o ha hq => hw.block q hq (hko q o ha)) hw.low.size⟩
 have HD : As (∀ w, Frame (fun k => k = lb) W w → Bytes w ad [(d : Int)]) := ⟨fun w hw => hd.keep (fun q o ha hq => hw.block q hq (hdo q o ha)) hw.low.size⟩
 have hwi : IntKind.i64.wrap ((n : Int) + 1) = (n : Int) + 1 := by simp [IntKind.wrap, IntKind.bits, IntKind.signed]; omega
 have hw1 : wrap64 ((n : Int) + 1 - 1) = n := by simp [wrap64, IntKind.wrap, IntKind.bits, IntKind.signed]; omega
 clear h hbk hep hC hln hk hd hko hdo
 go_enter Tryz.func19, Tryz.ntmps19
 go_wp2_with fail
 refine (HC.out _ ((Below.refl _ W).alloc (Nat.le_refl _) _)).mono ?_
 rintro e w1 ⟨rfl, q1⟩
 have hbox1 := As.mk ((q1.block W.heap.size (by simp)).trans (heap_alloc_new W _))
 have B1 : As (Below W.heap.size W w1) := ⟨((Below.refl _ W).alloc (Nat.le_refl _) _).trans (q1.mono (by simp))⟩
 have hb1 := As.mk ((B1.out.block lb hlb).trans HB.out)
 have hs1 := B1.out.size
 obtain ⟨k0, k1, k2, k3, k4, k5, k6, k7, k8, k9, k10⟩ := cells11 hbox1.out
 have c6 := (blk_cell hb1.out 6).trans rfl
 have f6 := blk_frozen hb1.out 6
 have c3 := (blk_cell hb1.out 3).trans rfl
 have f3 := blk_frozen hb1.out 3
 have c4 := (blk_cell hb1.out 4).trans rfl
 have f4 := blk_frozen hb1.out 4
 clear q1 HC
 obtain ⟨b3, hb3⟩ : ∃ b3, b3 = W.heap.size := ⟨_, rfl⟩
 have hb3l : lb < b3 := by omega
 have hb3n : ¬ b3 = lb := by omega
 have hb3m : ¬ lb = b3 := by omega
 rw [← hb3] at hbox1 k0 k1 k2 k3 k4 k5 k6 k7 k8 k9 k10 ⊢
 have HB3 := As.mk hb3
 clear hb3
 go_upto_region 11 with fail
 have F3 : As (Frame (fun k => k = lb) W (((w1.setCell ⟨lb, 6, none⟩ (.int .i64 (wrap64 (tk + 1)))).setCell ⟨lb, 3, none⟩ (.int .u64 ((last : Int) + 1))).setCell ⟨lb, 4, none⟩ (.int .u32 1))) := ⟨(((Frame.of_below (own := fun k => k = lb) B1.out (Nat.le_refl _)).setCell (p := ⟨lb, 6, none⟩) (.inl rfl) _).setCell (p := ⟨lb, 3, none⟩) (.inl rfl) _).setCell (p := ⟨lb, 4, none⟩) (.inl rfl) _⟩
 obtain ⟨y, hy⟩ : ∃ y, y = wrap64 (tk + 1) := ⟨_, rfl⟩
 have hb3w : (((w1.setCell ⟨lb, 6, none⟩ (.int .i64 (wrap64 (tk + 1)))).setCell ⟨lb, 3, none⟩ (.int .u64 ((last : Int) + 1))).setCell ⟨lb, 4, none⟩ (.int .u32 1)).heap[lb]? = some (.cells #[pv, .slice A n c, tv, .int .u64 ((last : Int) + 1), .int .u32 1, .int .i64 1, .int .i64 y, .int .i64 nt] 64 (0, 0)) := by
  rw [blk_put (blk_put (blk_put hb1.out 6 _) 3 _) 4 _, hy]
  rfl
 have hx3 : (((w1.setCell ⟨lb, 6, none⟩ (.int .i64 (wrap64 (tk + 1)))).setCell ⟨lb, 3, none⟩ (.int .u64 ((last : Int) + 1))).setCell ⟨lb, 4, none⟩ (.int .u32 1)).heap[b3]? = some (.cells #[.int .i64 2, .int .u64 ((last : Int) + 1), .int .u32 1, .int .u32 ((n : Int) + 1), .int .i64 0, .bool false, .int .i64 0, .int .i64 0, .int .u64 0, .slice ak 1 ck, .slice ad 1 cd] 41 (0, 0)) := blk_far (blk_far (blk_far hbox1.out (by omega) _) (by omega) _) (by omega) _
 generalize (((w1.setCell ⟨lb, 6, none⟩ (.int .i64 (wrap64 (tk + 1)))).setCell ⟨lb, 3, none⟩ (.int .u64 ((last : Int) + 1))).setCell ⟨lb, 4, none⟩ (.int .u32 1)) = w3 at *
 clear c3 c4 c6 f3 f4 f6 k0 k1 k2 k3 k4 k5 k6 k7 k8 k9 k10 hbox1 hb1 B1 hs1 hwi hw1 hb3l hb3n hb3m hy
 have HL3 := As.mk (HR.out.bump F3.out hb3w)
 have HCK : As (∀ w, Below w3.heap.size w3 w → Calls Tryz.prog 58 #[.slice ak 1 ck] w fun e W' => (∃ g k', e = .returned (.slice (some ⟨g, 0, none⟩) 1 k') ∧ w.heap.size ≤ g ∧ g < W'.heap.size ∧ Bytes W' (some ⟨g, 0, none⟩) [(k : Int)] ∧ 1 ≤ k') ∧ Below w.heap.size w W') := ⟨fun w hw => rcopy_a (HK.out w (F3.out.trans (Frame.of_below (own := fun k => k = lb) hw (Nat.le_refl _)) (fun k _ h => h))) (by simp) (by simp) ck⟩
 have HCD : As (∀ w, Below w3.heap.size w3 w → Calls Tryz.prog 58 #[.slice ad 1 cd] w fun e W' => (∃ g k', e = .returned (.slice (some ⟨g, 0, none⟩) 1 k') ∧ w.heap.size ≤ g ∧ g < W'.heap.size ∧ Bytes W' (some ⟨g, 0, none⟩) [(d : Int)] ∧ 1 ≤ k') ∧ Below w.heap.size w W') := ⟨fun w hw => rcopy_a (HD.out w (F3.out.trans (Frame.of_below (own := fun k => k = lb) hw (Nat.le_refl _)) (fun k _ h => h))) (by simp) (by simp) cd⟩
 have HSZ3 := As.mk F3.out.low.size
 refine wp_region_plan_held 19 (fun w' => w'.heap[lb]? = some (.cells #[pv, .slice A n c, tv, .int .u64 ((last : Int) + 1), .int .u32 1, .int .i64 1, .int .i64 y, .int .i64 nt] 64 (0, 0)) ∧ w'.heap[b3]? = some (.cells #[.int .i64 2, .int .u64 ((last : Int) + 1), .int .u32 1, .int .u32 ((n : Int) + 1), .int .i64 0, .bool false, .int .i64 0, .int .i64 0, .int .u64 0, .slice ak 1 ck, .slice ad 1 cd] 41 (0, 0))) [(1,0),(1,1),(1,2),(1,3),(0,4),(1,5),(0,6),(1,7),(0,8),(1,10),(0,11),(1,13),(2,9),(2,12),(1,14),(2,15),(2,16),(1,17),(1,18),(2,19)] (by kernel_rfl) (by kernel_rfl) (by kernel_rfl) (by kernel_rfl) (fun _ _ _ _ _ h => h) ⟨hb3w, hx3⟩ ?_
 simp only [tagged, List.filterMap_cons, List.filterMap_nil, List.getElem?_toArray, List.getElem?_cons_succ, List.getElem?_cons_zero, Option.map_some]
 iterate 4 (with_reducible refine wpHeld_sure (fun K hK => ?_); go_simp; with_reducible refine hK _ ?_; clear hK K)
 refine wpHeld_take (fun K hK => ?_)
 rw [if_pos (by rfl)]
 apply Exists.intro
 refine ⟨fun w' hw' => ?_, hK _ ?_⟩
 ·have j0 := (blk_cell hw'.1 1).trans rfl
  go_simp
  rfl
 clear hK K
 iterate 1 (with_reducible refine wpHeld_sure (fun K hK => ?_); go_simp; with_reducible refine hK _ ?_; clear hK K)
 refine wpHeld_take (fun K hK => ?_)
 rw [if_pos (by rfl)]
 apply Exists.intro
 refine ⟨fun w' hw' => ?_, hK _ ?_⟩
 ·have j0 := (blk_cell hw'.2 3).trans rfl
  go_simp
  rfl
 clear hK K
 iterate 1 (with_reducible refine wpHeld_sure (fun K hK => ?_); go_simp; with_reducible refine hK _ ?_; clear hK K)
 refine wpHeld_take (fun K hK => ?_)
 rw [if_pos (by rfl)]
 apply Exists.intro
 refine ⟨fun w' hw' => ?_, hK _ ?_⟩
 ·have j0 := (blk_cell hw'.2 9).trans rfl
  go_simp
  rfl
 clear hK K
 iterate 1 (with_reducible refine wpHeld_sure (fun K hK => ?_); go_simp; with_reducible refine hK _ ?_; clear hK K)
 refine wpHeld_take (fun K hK => ?_)
 rw [if_pos (by rfl)]
 apply Exists.intro
 refine ⟨fun w' hw' => ?_, hK _ ?_⟩
 ·have j0 := (blk_cell hw'.2 10).trans rfl
  go_simp
  rfl
 clear hK K
 iterate 1 (with_reducible refine wpHeld_sure (fun K hK => ?_); go_simp; with_reducible refine hK _ ?_; clear hK K)
 have Xd : As (w3.drew.heap[lb]? = some (.cells #[pv, .slice A n c, tv, .int .u64 ((last : Int) + 1), .int .u32 1, .int .i64 1, .int .i64 y, .int .i64 nt] 64 (0, 0)) ∧ w3.drew.heap[b3]? = some (.cells #[.int .i64 2, .int .u64 ((last : Int) + 1), .int .u32 1, .int .u32 ((n : Int) + 1), .int .i64 0, .bool false, .int .i64 0, .int .i64 0, .int .u64 0, .slice ak 1 ck, .slice ad 1 cd] 41 (0, 0))) := ⟨hb3w, hx3⟩
 have Bd : As (Below w3.heap.size w3 w3.drew) := ⟨(Below.refl _ w3).drew⟩
 have hsd : w3.heap.size ≤ w3.drew.heap.size := Nat.le_refl _
 generalize w3.drew = wd at *
 clear hb3w hx3
 with_reducible refine wpHeld_next (fun K hK => ?_)
 go_simp
 refine (HCK.out _ Bd.out).mono ?_
 rintro e w11 ⟨⟨gk, kk, rfl, g1, g2, g3, g4⟩, q1⟩
 have B11 : As (Below w3.heap.size w3 w11) := ⟨Bd.out.trans (q1.mono hsd)⟩
 have X11 := As.mk (And.intro ((q1.block lb (blk_lt Xd.out.1)).trans Xd.out.1) ((q1.block b3 (blk_lt Xd.out.2)).trans Xd.out.2))
 have hs11 := B11.out.size
 have OK : As (w3.heap.size ≤ gk ∧ gk < w11.heap.size) := ⟨by omega, g2⟩
 have GK := As.mk g3
 refine hK _ _ (fun _ => X11.out) ?_
 clear hK K q1 g1 g2 g3 g4
 with_reducible refine wpHeld_next (fun K hK => ?_)
 go_simp
 refine (HCD.out _ B11.out).mono ?_
 rintro e w12 ⟨⟨gd, kd, rfl, g1, g2, g3, g4⟩, q1⟩
 have B12 : As (Below w3.heap.size w3 w12) := ⟨B11.out.trans (q1.mono hs11)⟩
 have X12 := As.mk (And.intro ((q1.block lb (blk_lt X11.out.1)).trans X11.out.1) ((q1.block b3 (blk_lt X11.out.2)).trans X11.out.2))
 have hs12 := B12.out.size
 have OD : As (w3.heap.size ≤ gd ∧ gd < w12.heap.size ∧ gk < w12.heap.size) := ⟨by omega, g2, by have := OK.out; have := q1.size; omega⟩
 have GD := As.mk g3
 have GK2 := As.mk (GK.out.keep (W' := w12) (fun q o ha hq => q1.block q hq) q1.size)
 refine hK _ _ (fun _ => X12.out) ?_
 clear hK K q1 g1 g2 g3 g4
 iterate 1 (with_reducible refine wpHeld_sure (fun K hK => ?_); go_simp; with_reducible refine hK _ ?_; clear hK K)
 with_reducible refine wpHeld_next (fun K hK => ?_)
 rw [if_pos (by rfl)]
 refine wp_build61 (.tmp 63) rfl [.int .u32 ((n : Int) + 1), .slice (some ⟨gk, 0, none⟩) 1 kk, .slice (some ⟨gd, 0, none⟩) 1 kd, .int .i64 1, .int .i64 0, .int .i64 0, .bool false, .int .i64 0, .bool false, .int .i64 0] rfl rfl ?_
 obtain ⟨b13, hb13⟩ : ∃ b13, b13 = w12.heap.size := ⟨_, rfl⟩
 have hW13 : (w12.alloc (.cells ([.int .u32 ((n : Int) + 1), .slice (some ⟨gk, 0, none⟩) 1 kk, .slice (some ⟨gd, 0, none⟩) 1 kd, .int .i64 1, .int .i64 0, .int .i64 0, .bool false, .int .i64 0, .bool false, .int .i64 0] : List Value).toArray 118 (0, 0))).heap.size = b13 + 1 := by rw [hb13]; simp
 have B13 : As (Below w12.heap.size w12 (w12.alloc (.cells ([.int .u32 ((n : Int) + 1), .slice (some ⟨gk, 0, none⟩) 1 kk, .slice (some ⟨gd, 0, none⟩) 1 kd, .int .i64 1, .int .i64 0, .int .i64 0, .bool false, .int .i64 0, .bool false, .int .i64 0] : List Value).toArray 118 (0, 0)))) := ⟨(Below.refl _ _).alloc (Nat.le_refl _) _⟩
 have N13 : As ((w12.alloc (.cells ([.int .u32 ((n : Int) + 1), .slice (some ⟨gk, 0, none⟩) 1 kk, .slice (some ⟨gd, 0, none⟩) 1 kd, .int .i64 1, .int .i64 0, .int .i64 0, .bool false, .int .i64 0, .bool false, .int .i64 0] : List Value).toArray 118 (0, 0))).heap[b13]? = some (.cells ([.int .u32 ((n : Int) + 1), .slice (some ⟨gk, 0, none⟩) 1 kk, .slice (some ⟨gd, 0, none⟩) 1 kd, .int .i64 1, .int .i64 0, .int .i64 0, .bool false, .int .i64 0, .bool false, .int .i64 0] : List Value).toArray 118 (0, 0))) := ⟨by rw [hb13]; exact blk_new w12 _⟩
 rw [← hb13]
 generalize w12.alloc (.cells ([.int .u32 ((n : Int) + 1), .slice (some ⟨gk, 0, none⟩) 1 kk, .slice (some ⟨gd, 0, none⟩) 1 kd, .int .i64 1, .int .i64 0, .int .i64 0, .bool false, .int .i64 0, .bool false, .int .i64 0] : List Value).toArray 118 (0, 0)) = w13 at *
 have X13 := As.mk (And.intro ((B13.out.block lb (blk_lt X12.out.1)).trans X12.out.1) ((B13.out.block b3 (blk_lt X12.out.2)).trans X12.out.2))
 refine hK _ _ (fun _ => X13.out) ?_
 clear hK K
 with_reducible refine wpHeld_next (fun K hK => ?_)
 obtain ⟨i0, hi0, hz0, hz1, hz2⟩ := info_parts info118
 have B13w : As (Below w3.heap.size w3 w13) := ⟨B12.out.trans (B13.out.mono hs12)⟩
 obtain ⟨cs, r1, r2, r3, r4⟩ := HL3.out.ors
 have R1 := As.mk r1
 have R4 := As.mk r4
 have R13 : As (w13.ownsRow 0 118 10 (.slice A n c) n cs.flatten) := ⟨by rw [HLN.out] at r2; exact own_keep r2 (fun q _ hq => B13w.out.block q hq)⟩
 have HV : As (∀ q, (Value.slice A n c).ownBlock = some q → (OL q ∧ ¬ tv.ownBlock = some q) ∧ q < w3.heap.size) := ⟨fun q hq => ⟨r3 q hq, own_lt r2 q hq⟩⟩
 clear r1 r2 r3 r4
 refine step_append_lies w13 (by rfl) _ _ _ (by rfl) 0 118 i0 _ 10 112 Tryz.underlying61 hi0 hz0 hz1 hz2 (by rfl) (by omega) (.slice A n c) n cs.flatten (by rfl) R13.out ⟨b13, 0, none⟩ 1 1 [.int .u32 ((n : Int) + 1), .slice (some ⟨gk, 0, none⟩) 1 kk, .slice (some ⟨gd, 0, none⟩) 1 kd, .int .i64 1, .int .i64 0, .int .i64 0, .bool false, .int .i64 0, .bool false, .int .i64 0] (by rfl) rfl (World.news_of_block N13.out) (orC_one _ _ _ _ _) (by omega) (by unfold maxLen; omega) (by omega) (Nat.zero_le _) (b13 + 1) hW13 ?_
 intro gg cap w14 hown14 hgrow14 hat14 hlt14
 have HB13 : As (b13 = w12.heap.size ∧ w13.heap.size = b13 + 1) := ⟨hb13, hW13⟩
 have N14 : As (∀ q, q < w13.heap.size → ¬ (Value.slice A n c).ownBlock = some q → w14.heap[q]? = w13.heap[q]?) := ⟨fun q hq ho => hgrow14.block q hq (fun e => ho e.symm)⟩
 have HG14 : As (Below 0 w13 w14) := ⟨(Below.refl 0 w13).grown hgrow14 (Nat.zero_le _) (fun _ _ => Nat.zero_le _)⟩
 have hlbA : ¬ (Value.slice A n c).ownBlock = some lb := fun e => HL3.out.s1.1 (HV.out lb e).1.1
 have h14 : As (w14.heap[lb]? = some (.cells #[pv, .slice A n c, tv, .int .u64 ((last : Int) + 1), .int .u32 1, .int .i64 1, .int .i64 y, .int .i64 nt] 64 (0, 0)) ∧ w14.heap[b3]? = some (.cells #[.int .i64 2, .int .u64 ((last : Int) + 1), .int .u32 1, .int .u32 ((n : Int) + 1), .int .i64 0, .bool false, .int .i64 0, .int .i64 0, .int .u64 0, .slice ak 1 ck, .slice ad 1 cd] 41 (0, 0))) := ⟨(N14.out lb (blk_lt X13.out.1) hlbA).trans X13.out.1, (N14.out b3 (blk_lt X13.out.2) (fun e => by have h2 := HL3.out.b2 b3 (HV.out b3 e).1.1; have h3 := HR.out.b2 b3 (HV.out b3 e).1.1; have := HB3.out; omega)).trans X13.out.2⟩
 refine hK _ _ (fun _ => h14.out) ?_
 clear hK K
 have HO14 := As.mk hown14
 have HAT14 := As.mk hat14
 have HLT14 := As.mk hlt14
 clear hown14 hgrow14 hat14 hlt14 hz0 hz1 hz2 hi0 i0 hb13 hW13
 iterate 2 (with_reducible refine wpHeld_sure (fun K hK => ?_); go_simp; with_reducible refine hK _ ?_; clear hK K)
 have c1 := (blk_cell h14.out.1 1).trans rfl
 have f1 := blk_frozen h14.out.1 1
 with_reducible refine wpHeld_next (fun K hK => ?_)
 go_simp
 refine hK _ _ (fun h => absurd rfl h) ?_
 clear hK K
 refine wpHeld_nil ?_
 have hsN : (w14.setCell ⟨lb, 1, none⟩ (.slice (some ⟨gg, 0, none⟩) (n + 1) cap)).heap.size = w14.heap.size := by simp
 have hbN : As ((w14.setCell ⟨lb, 1, none⟩ (.slice (some ⟨gg, 0, none⟩) (n + 1) cap)).heap[lb]? = some (.cells #[pv, .slice (some ⟨gg, 0, none⟩) (n + 1) cap, tv, .int .u64 ((last : Int) + 1), .int .u32 1, .int .i64 1, .int .i64 y, .int .i64 nt] 64 (0, 0))) := ⟨(blk_put h14.out.1 1 _).trans rfl⟩
 have hfN : As (∀ q, q ≠ lb → (w14.setCell ⟨lb, 1, none⟩ (.slice (some ⟨gg, 0, none⟩) (n + 1) cap)).heap[q]? = w14.heap[q]?) := ⟨fun q hq => Below.heap_setCell _ _ _ _ hq⟩
 have hBN : As (Below 0 w14 (w14.setCell ⟨lb, 1, none⟩ (.slice (some ⟨gg, 0, none⟩) (n + 1) cap))) := ⟨(Below.refl _ _).setCell (p := ⟨lb, 1, none⟩) (Nat.zero_le _) _⟩
 generalize w14.setCell ⟨lb, 1, none⟩ (.slice (some ⟨gg, 0, none⟩) (n + 1) cap) = wn at *
 have HSN := As.mk hsN
 clear c1 f1 hsN
 have SZ : As (W.heap.size ≤ w3.heap.size ∧ w3.heap.size ≤ w12.heap.size ∧ w13.heap.size ≤ w14.heap.size ∧ lb < W.heap.size) := ⟨HSZ3.out, hs12, HG14.out.size, hlb⟩
 -- where the blocks stand
 have KN : As (∀ q, q < w13.heap.size → ¬ (Value.slice A n c).ownBlock = some q → q ≠ lb → wn.heap[q]? = w13.heap[q]?) := ⟨fun q h1 h2 h3 => (hfN.out q h3).trans (N14.out q h1 h2)⟩
 have FN : As (Frame (fun k => OL k ∨ k = lb) W wn) := ⟨((F3.out.low.trans (B13w.out.mono (Nat.zero_le _))).trans HG14.out).trans hBN.out, fun q hq ho => (KN.out q (by have := HB13.out; have := SZ.out; omega) (fun e => ho (.inl (HV.out q e).1.1)) (fun e => ho (.inr e))).trans ((B13w.out.block q (by have := SZ.out; omega)).trans (F3.out.block q hq (fun e => ho (.inr e))))⟩
 have HORS : As (OrsAt wn (fun k => (OL k ∧ ¬ tv.ownBlock = some k) ∨ (w3.heap.size ≤ k ∧ k < wn.heap.size)) 118 10 [] (.slice (some ⟨gg, 0, none⟩) (n + 1) cap) (l ++ [⟨k, d, startS⟩])) := ⟨by
  have hgl : gg ≠ lb := fun e => by
   rcases HAT14.out with h | h
   ·exact HL3.out.s1.1 (e ▸ (HV.out gg h).1.1)
   ·have := SZ.out; have := HB13.out; omega
  refine ors_more (W := w3) (w14 := w14) (M := w13.heap.size) HLN.out R1.out R4.out HV.out HO14.out (HAT14.out.imp id (fun h => by have := HB13.out; omega)) (by have := HLT14.out; have := HSN.out; omega) ?_ (fun q h1 h2 h3 => ?_) (hfN.out gg hgl) ?_ ?_
  ·have h1 := OK.out; have h2 := OD.out; have h3 := SZ.out; have h4 := HB13.out; have h5 := HSN.out
   exact ⟨by omega, by omega, by omega, by omega, by omega, by omega⟩
  ·exact (KN.out q (by have := HB13.out; have := SZ.out; omega) h3 (fun e => HL3.out.s1.1 (e ▸ h2.1))).trans (B13w.out.block q h1)
  ·exact GK2.out.keep (fun q o ha hq => by
    injection ha with ha; injection ha with ha; subst ha
    exact (KN.out gk (by have := HB13.out; have := OD.out; omega) (fun e => by have := (HV.out gk e).2; have := OK.out; omega) (by have := OK.out; have := SZ.out; omega)).trans (B13.out.block gk OD.out.2.2)) (by have := HB13.out; have := SZ.out; have := HSN.out; omega)
  ·exact GD.out.keep (fun q o ha hq => by
    injection ha with ha; injection ha with ha; subst ha
    exact (KN.out gd (by have := HB13.out; have := OD.out; omega) (fun e => by have := (HV.out gd e).2; have := OD.out; omega) (by have := OD.out; have := SZ.out; omega)).trans (B13.out.block gd OD.out.2.1)) (by have := HB13.out; have := SZ.out; have := HSN.out; omega)⟩
 have HTV : As (∀ q, tv.ownBlock = some q → OL q ∧ q < W.heap.size) := ⟨fun q hq => ⟨HR.out.own q hq, own_lt HR.out.told q hq⟩⟩
 have HTOLD : As (wn.ownsRow 0 4 1 tv n (bs.map Value.bool)) := ⟨by
  have h0 := HR.out.told
  rw [HLN.out] at h0
  exact own_keep h0 (fun q hq hl => (KN.out q (by have := HB13.out; have := SZ.out; omega) (fun e => (HV.out q e).1.2 hq) (fun e => HL3.out.s1.1 (e ▸ (HTV.out q hq).1))).trans ((B13w.out.block q (by have := SZ.out; omega)).trans (F3.out.block q hl (fun e => HL3.out.s1.1 (e ▸ (HTV.out q hq).1)))))⟩
 have hbn := hbN.out
 have c2 := (blk_cell hbn 2).trans rfl
 have HNL : As (lb < wn.heap.size) := ⟨blk_lt hbn⟩
 clear hbn
 obtain ⟨i4, hi4, hb0, hb1, hb2⟩ := info_parts info4
 have HBw : As (∀ x, (wn.alloc x).ownsRow 0 4 1 tv n (bs.map Value.bool)) := ⟨fun x => World.ownsRow.alloc HTOLD.out x⟩
 go_wp2_with ((at_builtin; refine wpList_append_lies _ rfl _ _ 62 rfl 0 4 i4 _ 1 1 Tryz.underlying62 hi4 hb0 hb1 hb2 rfl (by omega) tv n (bs.map Value.bool) rfl (HBw.out _) ⟨wn.heap.size, 0, none⟩ 1 1 [.bool false] rfl rfl (World.news_of_block (blk_new wn _)) (fun v hv => by rw [List.mem_singleton.1 hv]; rfl) (by omega) (by unfold maxLen; omega) (by omega) (Nat.zero_le _) _ rfl ?_))
 intro gt ct w4 q1 q2 q3 q4
 have KA : As (∀ q, q < wn.heap.size → ¬ tv.ownBlock = some q → w4.heap[q]? = wn.heap[q]?) := ⟨fun q h1 h2 => (q2.block q (by simp; omega) (fun e => h2 e.symm)).trans (Below.heap_alloc _ _ _ h1)⟩
 have hb4 : w4.heap[lb]? = some (.cells #[pv, .slice (some ⟨gg, 0, none⟩) (n + 1) cap, tv, .int .u64 ((last : Int) + 1), .int .u32 1, .int .i64 1, .int .i64 y, .int .i64 nt] 64 (0, 0)) := (KA.out lb HNL.out (fun e => HR.out.s1.1 (HTV.out lb e).1)).trans hbN.out
 have c2' := (blk_cell hb4 2).trans rfl
 have f2' := blk_frozen hb4 2
 have HB4 := As.mk hb4
 have Q1 := As.mk q1
 have Q3 : As (tv.ownBlock = some gt ∨ wn.heap.size ≤ gt) := ⟨q3.imp id (fun h => by omega)⟩
 have Q4 := As.mk q4
 have QB : As (Below 0 wn w4) := ⟨((Below.refl 0 wn).alloc (Nat.zero_le _) _).trans ((Below.refl 0 _).grown q2 (Nat.zero_le _) (fun _ _ => Nat.zero_le _))⟩
 clear q1 q2 q3 q4 hb4 c2
 go_wp2_with fail
 go_ret
 have hgt : gt ≠ lb := fun e => by
  rcases Q3.out with h | h
  ·exact HR.out.s1.1 (e ▸ (HTV.out gt h).1)
  ·have := HNL.out; omega
 have hsz : (w4.setCell ⟨lb, 2, none⟩ (.slice (some ⟨gt, 0, none⟩) (n + 1) ct)).heap.size = w4.heap.size := by simp
 have hl := HLN.out
 subst hl
 refine ⟨rfl, rledNext_of HR.out FN.out (HORS.out.mono (fun k hk _ => hk.imp id (fun h => ⟨Nat.le_trans HSZ3.out h.1, h.2⟩))) (own_keep Q1.out (fun q hq _ => Below.heap_setCell _ _ _ _ (by rw [← ob_eq hq]; exact hgt))) Q3.out (by rw [hsz]; exact Q4.out) (fun q h1 h2 h3 => (Below.heap_setCell _ _ _ _ h3).trans (KA.out q h1 h2)) (QB.out.trans ((Below.refl _ _).setCell (p := ⟨lb, 2, none⟩) (Nat.zero_le _) _)) ((blk_put HB4.out 2 _).trans rfl)⟩
end Go.Proofs.YthfjhgdiakciaaaGreat.Bl
/- An entry that may come, comes (drayageref20's Apply). Condition: the ledger lies in memory as it is told; the entry is one that may come. -/
namespace Go.Proofs.YthfjhgdiakciaaaGreat.Bl
open Go.RowKit Go.Maps
set_option linter.unusedVariables false
set_option linter.unusedSimpArgs false
theorem rapply_ok {W : World} {OP OL oe : Nat → Prop} {lb : Nat} {pv lv tv : Value} {ps : List (List Stp)} {l l' : List Or} {bs : List Bool} {last : Nat} {tk nt : Int} (h : RLedAt W OP OL lb pv lv tv ps l bs last tk nt) (hps : PsOk ps) (hlo : LOk ps l) {e : Ent} (hok : EntOk e) (hlsn : e.lsn = (last : Int) + 1) (hla : last < 1000000)
  {c : List Value} (hc : EntAt W oe e c) (hoe : ∀ k, oe k → k ≠ lb) (hs : Step ps l e l') :
  Calls Tryz.prog 19 #[.pointer (some ⟨lb, 0, none⟩), .agg c.toArray] W fun x W' => x = .returned (.int .i64 0) ∧ RLedNext W W' OP OL lb pv ps l' (last + 1) := by
 obtain ⟨ak, ck, ad, cd, rfl, b1, b2, q1, q2, a1, a2⟩ := hc
 have hchk : ∀ w, Below W.heap.size W w → _ := fun w (hw : Below W.heap.size W w) => rchk_a (W := w) hok (ak := ak) (ad := ad) ck cd (b1.below hw (Nat.le_refl _)) (b2.below hw (Nat.le_refl _))
 have hR : ∀ w, Below W.heap.size W w → RLedAt w OP OL lb pv lv tv ps l bs last tk nt := fun w hw => h.keep (fun k _ hk => hw.block k hk) hw.size
 have hep := epF_le last
 obtain ⟨kind, lsn, order, step, undo, tr, code, key, data⟩ := e
 simp only at hlsn
 subst hlsn
 cases hs with
 | order k d h1 h2 h3 h4 h5 h6 h7 =>
  simp only at h1 h2 h3 h4
  subst h1 h2 h3 h4
  have hst : step = 0 ∧ undo = false ∧ tr = 0 ∧ code = 0 := by
   rcases hok.kind with ⟨_, _, _, _, _, a, b, d, f⟩ | ⟨a, _⟩ | ⟨a, _⟩
   ·exact ⟨a, b, d, f⟩
   ·cases a
   ·cases a
  obtain ⟨rfl, rfl, rfl, rfl⟩ := hst
  exact rapply_order h rfl hlo.len b1 b2 (fun q o e => hoe q (a1 (by simp) q o e)) (fun q o e => hoe q (a2 (by simp) q o e)) (fun w hw => rcheck_b ((hR w hw).blk) hep hla (fun w2 hw2 => hchk w2 (hw.trans (hw2.mono hw.size)))
   (fun w2 hw2 => rfits_order (hR w2 (hw.trans (hw2.mono hw.size))) hps.len hlo.len (b1.below (hw.trans (hw2.mono hw.size)) (Nat.le_refl _)) (b2.below (hw.trans (hw2.mono hw.size)) (Nat.le_refl _)) h5 h6 (fun o ho => ⟨h7 o ho, (hlo.ok o ho).1⟩)))
 | intent i o dn h1 h2 h3 h4 h5 h6 h7 =>
  simp only at h1 h2 h5 h6 h7
  subst h1 h2 h5 h6 h7
  have hst : key = [] ∧ data = [] ∧ code = 0 := by
   rcases hok.kind with ⟨a, _⟩ | ⟨_, a, b, _, _, _, _, d⟩ | ⟨a, _⟩
   ·cases a
   ·exact ⟨a, b, d⟩
   ·cases a
  obtain ⟨rfl, rfl, rfl⟩ := hst
  obtain ⟨p, hp, hsg⟩ := hlo.at h3
  exact rapply_intent h hps hlo.len h3 hp hsg h4 (fun w hw => rcheck_b ((hR w hw).blk) hep hla (fun w2 hw2 => hchk w2 (hw.trans (hw2.mono hw.size)))
   (fun w2 hw2 => rfits_intent (hR w2 (hw.trans (hw2.mono hw.size))) hps hlo.len h3 hp hsg h4))
 | result i o p co h1 h2 h3 h4 h5 h6 h7 h8 h9 h10 =>
  simp only at h1 h2 h6 h7 h8 h9
  subst h1 h2 h6 h7 h8 h9
  have hst : key = [] ∧ data = [] := by
   rcases hok.kind with ⟨a, _⟩ | ⟨a, _⟩ | ⟨_, a, b, _⟩
   ·cases a
   ·cases a
   ·exact ⟨a, b⟩
  obtain ⟨rfl, rfl⟩ := hst
  obtain ⟨p', hp', hsg⟩ := hlo.at h3
  obtain rfl : p' = p := by rw [h5] at hp'; exact (Option.some.inj hp').symm
  have hw : ∃ ph st tr, (ph = 1 ∨ ph = 2) ∧ o.sg = ⟨ph, st, tr, true, 0⟩ := by
   generalize o.sg = s at *
   cases hsg with
   | over c a b => cases h4
   | idle ph st tr x a b c => cases h4
   | wait ph st tr x a b c d => exact ⟨ph, st, tr, b.imp id (fun h => h.1), rfl⟩
  obtain ⟨ph, st, tr, hph, e⟩ := hw
  refine rapply_result h hps hlo.len h3 h5 hsg h4 h10 rfl (fun w hw => rcheck_b ((hR w hw).blk) hep hla (fun w2 hw2 => hchk w2 (hw.trans (hw2.mono hw.size))) (fun w2 hw2 => ?_))
  have hf := rfits_result (code := co) (ak := ak) (ad := ad) (ck := ck) (cd := cd) (lsn := (last : Int) + 1) (hR w2 (hw.trans (hw2.mono hw.size))) hps hlo.len h3 h5 e hph
  rw [e]
  have e2 : (((ph : Nat) : Int) == 2) = (ph == 2) := by rcases hph with rfl | rfl <;> rfl
  exact hf
end Go.Proofs.YthfjhgdiakciaaaGreat.Bl
/- The same lists of entries (Sames). Condition: the rows lie in memory as they are told. -/
namespace Go.Proofs.YthfjhgdiakciaaaGreat.Bl
open Go.RowKit
set_option linter.unusedVariables false
set_option linter.unusedSimpArgs false
theorem EntRow.form {W : World} {own : Nat → Prop} {v : Value} {l : List Ent} (h : EntRow W own v l) : ∃ A c, v = .slice A l.length c := by
 obtain ⟨cs, _, h2, _, _⟩ := h
 rcases h2.2 with ⟨hv, h0⟩ | ⟨g, cap, _, hv, _⟩
 ·rw [h0]; exact ⟨_, _, hv⟩
 ·exact ⟨_, _, hv⟩
theorem EntRow.at' {W : World} {own : Nat → Prop} {A : Option Addr} {n c : Nat} {l : List Ent} (h : EntRow W own (.slice A n c) l) {i : Nat} {e : Ent} (he : l[i]? = some e) : ∃ g x, A = some ⟨g, 0, none⟩ ∧ g < W.heap.size ∧ EntAt W own e x ∧ W.rangeAt g (i * 11) x := by
 have h0 := h
 obtain ⟨cs, h1, h2, h3, h4⟩ := h
 have hil := (List.getElem?_eq_some_iff.1 he).1
 obtain ⟨g, c, hv, _, hgl⟩ := World.ownsRow.form h2 (by omega)
 injection hv with hA _ _
 subst hA
 obtain ⟨x, hx, hr⟩ := h0.at he
 exact ⟨g, x, rfl, hgl, hx, hr⟩
set_option maxHeartbeats 4000000 in
set_option maxRecDepth 100000 in
theorem sames_a {W : World} {own1 own2 : Nat → Prop} {v1 v2 : Value} {L : List Ent} (h1 : EntRow W own1 v1 L) (h2 : EntRow W own2 v2 L) (hl : L.length < 10000) : Calls Tryz.prog 20 #[v1, v2] W fun e W' => e = .returned (.bool true) ∧ Below W.heap.size W W' := by
 obtain ⟨A1, c1, rfl⟩ := h1.form
 obtain ⟨A2, c2, rfl⟩ := h2.form
 have H1 := As.mk h1
 have H2 := As.mk h2
 clear h1 h2
 go_enter Tryz.func20, Tryz.ntmps20
 go_wp2_with fail
 go_loopg [5] L.length (fun gk v5 w' => ∃ i : Nat, v5 = .int .i64 i ∧ As (gk = L.length - i) ∧ As (i ≤ L.length) ∧ As (Below W.heap.size W w'))
 case atStart => exact ⟨0, rfl, ⟨rfl⟩, ⟨Nat.zero_le _⟩, ⟨Below.refl _ _⟩⟩
 case round =>
  obtain ⟨i, rfl, HK, HI, HB⟩ := hrel
  by_cases hlt : i < L.length
  ·obtain ⟨g1, x1, e1, l1, t1, r1⟩ := H1.out.at' (List.getElem?_eq_getElem hlt)
   obtain ⟨g2, x2, e2, l2, t2, r2⟩ := H2.out.at' (List.getElem?_eq_getElem hlt)
   subst e1 e2
   have q1 := range_heap r1 (HB.out.block g1 l1)
   have q2 := range_heap r2 (HB.out.block g2 l2)
   generalize L[i] = u at *
   obtain ⟨ak, ck, ad, cd, e1, k1, d1, _⟩ := t1
   obtain ⟨ak', ck', ad', cd', e2, k2, d2, _⟩ := t2
   subst e1 e2
   have HC : As (∀ w, Below W.heap.size W w → Calls Tryz.prog 62 #[.agg #[.int .i64 u.kind, .int .u64 u.lsn, .int .u32 1, .int .u32 u.order, .int .i64 u.step, .bool u.undo, .int .i64 u.tr, .int .i64 u.code, .int .u64 0, .slice ak u.key.length ck, .slice ad u.data.length cd], .agg #[.int .i64 u.kind, .int .u64 u.lsn, .int .u32 1, .int .u32 u.order, .int .i64 u.step, .bool u.undo, .int .i64 u.tr, .int .i64 u.code, .int .u64 0, .slice ak' u.key.length ck', .slice ad' u.data.length cd']] w fun e W' => e = .returned (.bool true) ∧ Below w.heap.size w W') := ⟨fun w hw => same_l (k1.below hw (Nat.le_refl _)) (d1.below hw (Nat.le_refl _)) (k2.below hw (Nat.le_refl _)) (d2.below hw (Nat.le_refl _))⟩
   unfold entC at q1 q2
   clear r1 r2 k1 d1 k2 d2
   generalize hn1 : u.key.length = n1 at *
   generalize hn2 : u.data.length = n2 at *
   clear hn1 hn2
   go_upto_region 6 with fail
   refine wp_region_plan_kept (fun w' => w'.rangeAt g1 (i * 11) [.int .i64 u.kind, .int .u64 u.lsn, .int .u32 1, .int .u32 u.order, .int .i64 u.step, .bool u.undo, .int .i64 u.tr, .int .i64 u.code, .int .u64 0, .slice ak n1 ck, .slice ad n2 cd] ∧ w'.rangeAt g2 (i * 11) [.int .i64 u.kind, .int .u64 u.lsn, .int .u32 1, .int .u32 u.order, .int .i64 u.step, .bool u.undo, .int .i64 u.tr, .int .i64 u.code, .int .u64 0, .slice ak' n1 ck', .slice ad' n2 cd']) [(1,0),(1,1),(1,2),(0,3),(1,4),(1,5),(1,6),(0,7),(2,8),(1,9)] (by kernel_rfl) (by kernel_rfl) (by kernel_rfl) (by kernel_rfl) (fun _ _ _ _ _ h => h) ⟨q1, q2⟩ ?_
   simp only [tagged, List.filterMap_cons, List.filterMap_nil, List.getElem?_toArray, List.getElem?_cons_succ, List.getElem?_cons_zero, Option.map_some]
   iterate 3 (with_reducible refine wpKept_sure (fun K hK => ?_); go_simp; with_reducible refine hK _ ?_; clear hK K)
   refine wpKept_take (fun K hK => ?_)
   rw [if_pos (by rfl)]
   refine ⟨.agg #[.int .i64 u.kind, .int .u64 u.lsn, .int .u32 1, .int .u32 u.order, .int .i64 u.step, .bool u.undo, .int .i64 u.tr, .int .i64 u.code, .int .u64 0, .slice ak n1 ck, .slice ad n2 cd], fun w' hw' => exec_load_mid _ _ _ 41 (.tmp 19) rfl g1 (i * 11) rfl [.int .i64 u.kind, .int .u64 u.lsn, .int .u32 1, .int .u32 u.order, .int .i64 u.step, .bool u.undo, .int .i64 u.tr, .int .i64 u.code, .int .u64 0, .slice ak n1 ck, .slice ad n2 cd] _ hw'.1 Tryz.underlying41 rfl size41, hK _ ?_⟩
   clear hK K
   iterate 3 (with_reducible refine wpKept_sure (fun K hK => ?_); go_simp; with_reducible refine hK _ ?_; clear hK K)
   refine wpKept_take (fun K hK => ?_)
   rw [if_pos (by rfl)]
   refine ⟨.agg #[.int .i64 u.kind, .int .u64 u.lsn, .int .u32 1, .int .u32 u.order, .int .i64 u.step, .bool u.undo, .int .i64 u.tr, .int .i64 u.code, .int .u64 0, .slice ak' n1 ck', .slice ad' n2 cd'], fun w' hw' => exec_load_mid _ _ _ 41 (.tmp 23) rfl g2 (i * 11) rfl [.int .i64 u.kind, .int .u64 u.lsn, .int .u32 1, .int .u32 u.order, .int .i64 u.step, .bool u.undo, .int .i64 u.tr, .int .i64 u.code, .int .u64 0, .slice ak' n1 ck', .slice ad' n2 cd'] _ hw'.2 Tryz.underlying41 rfl size41, hK _ ?_⟩
   clear hK K
   have Bd : As (Below W.heap.size W wr.drew) := ⟨HB.out.drew⟩
   have R1 : As (wr.drew.rangeAt g1 (i * 11) [.int .i64 u.kind, .int .u64 u.lsn, .int .u32 1, .int .u32 u.order, .int .i64 u.step, .bool u.undo, .int .i64 u.tr, .int .i64 u.code, .int .u64 0, .slice ak n1 ck, .slice ad n2 cd]) := ⟨q1⟩
   have R2 : As (wr.drew.rangeAt g2 (i * 11) [.int .i64 u.kind, .int .u64 u.lsn, .int .u32 1, .int .u32 u.order, .int .i64 u.step, .bool u.undo, .int .i64 u.tr, .int .i64 u.code, .int .u64 0, .slice ak' n1 ck', .slice ad' n2 cd']) := ⟨q2⟩
   have hgl1 : g1 < wr.drew.heap.size := by have := Bd.out.size; omega
   have hgl2 : g2 < wr.drew.heap.size := by have := Bd.out.size; omega
   clear q1 q2
   have hsd : W.heap.size ≤ wr.drew.heap.size := Bd.out.size
   generalize wr.drew = wd at *
   with_reducible refine wpKept_next (fun K hK => ?_)
   go_simp
   refine (HC.out _ Bd.out).mono ?_
   rintro e w11 ⟨rfl, q3⟩
   have B11 : As (Below W.heap.size W w11) := ⟨Bd.out.trans (q3.mono hsd)⟩
   refine hK _ _ ⟨range_heap R1.out (q3.block g1 hgl1), range_heap R2.out (q3.block g2 hgl2)⟩ ?_
   clear hK K
   iterate 1 (with_reducible refine wpKept_sure (fun K hK => ?_); go_simp; with_reducible refine hK _ ?_; clear hK K)
   refine wpKept_nil ?_
   go_wp2_with fail
   go_roundg (L.length - (i + 1))
   case measure => have := HK.out; omega
   case rel => exact ⟨i + 1, by go_num, ⟨rfl⟩, ⟨by omega⟩, B11⟩
  ·have hi : i = L.length := by have := HI.out; omega
   subst hi
   go_wp2_with fail
   go_ret
   exact ⟨rfl, HB.out⟩
end Go.Proofs.YthfjhgdiakciaaaGreat.Bl
/- The law's state behind its loop: what the crash and the second journal leave; two ledgers that take the same entries. Plain. No condition. -/
namespace Go.Proofs.YthfjhgdiakciaaaGreat.Bl
open Go.RowKit Go.Maps
set_option linter.unusedVariables false
set_option linter.unusedSimpArgs false
section
variable {W w w1 w2 : World} {db jb lb mb i last : Nat} {sv vs pv lv : Value} {segs safe : List Seg} {s : St} {l ls : List Or} {OD OS OP OL OE : Nat → Prop} {sf tk nt : Int}
/-- Behind the crash. -/
theorem TopAt.crash (h : TopAt W w db jb lb mb i sv segs safe s l ls OD OS OP OL OE vs pv lv sf last tk nt) (hi : i ≤ 100) {c : Nat} (hc : c < 3) (hd : Disk w1 (And' OD w) db 512 (crashF s 0 c)) (hf : Frame OD w w1) :
  Disk w1 (fun k => And' OD w k ∧ k < w1.heap.size) db 512 (crashF s 0 c) ∧ LitS (crashF s 0 c) ∧ Slots (crashF s 0 c).now safe ∧ SegsOk safe ∧ EntRow w1 OE sv (allE safe) ∧ Below W.heap.size W w1 :=
 ⟨hd.mono (fun k a b => ⟨a, b⟩), ⟨rfl, rfl, h.inv.lit.limit⟩, h.inv.slots h.d.ok.b2.1 (by have := h.n; omega) hc, h.inv.oks, h.row.keep (fun k hk hl => hf.block k hl (fun e => (h.x1 k (.inl e)).2.2.2.2 hk)) hf.low.size,
  h.low.trans ⟨hf.low.os, hf.low.tape, hf.low.output, hf.low.size, fun k hk => hf.block k (by have := h.low.size; omega) (fun e => by have := h.lo k (.inl e); omega)⟩⟩
/-- Behind the second journal. -/
theorem TopAt.again (h : TopAt W w db jb lb mb i sv segs safe s l ls OD OS OP OL OE vs pv lv sf last tk nt) (hs : w.heap.size ≤ w1.heap.size) (hr : EntRow w1 OE sv (allE safe)) (hb : Below W.heap.size W w1) (hf : Frame (fun k => And' OD w k ∧ k < w1.heap.size) w1 w2) : EntRow w2 OE sv (allE safe) ∧ Below W.heap.size W w2 := by
 have hno : ∀ k, OE k → ¬ (And' OD w k ∧ k < w1.heap.size) := fun k hk e => e.1.elim (fun e => (h.x1 k (.inl e)).2.2.2.2 hk) (fun e => by have := h.oe k hk; omega)
 refine ⟨hr.keep (fun k hk hl => hf.block k hl (hno k hk)) hf.low.size, hb.trans ⟨hf.low.os, hf.low.tape, hf.low.output, hf.low.size, fun k hk => hf.block k (by have := hb.size; omega) (fun e => e.1.elim (fun e => by have := h.lo k (.inl e); omega) (fun e => by have := h.low.size; omega))⟩⟩
end
theorem Step.func {ps : List (List Stp)} {l l1 l2 : List Or} {e : Ent} (h1 : Step ps l e l1) (h2 : Step ps l e l2) : l1 = l2 := by
 cases h1 with
 | order k d a1 a2 a3 a4 a5 a6 a7 => cases h2 with
  | order k' d' b1 b2 b3 b4 b5 b6 b7 =>
   rw [a3] at b3
   rw [a4] at b4
   have e1 : k = k' := by have := (List.cons.inj b3).1; omega
   have e2 : d = d' := by have := (List.cons.inj b4).1; omega
   subst e1 e2
   rfl
  | intent i o dn b1 => omega
  | result i o p c b1 => omega
 | intent i o dn a1 a2 a3 a4 => cases h2 with
  | order k' d' b1 => omega
  | intent i' o' dn' b1 b2 b3 b4 =>
   have e1 : i = i' := by omega
   subst e1
   rw [a3] at b3
   rw [Option.some.inj b3]
  | result i o p c b1 => omega
 | result i o p c a1 a2 a3 a4 a5 a6 a7 a8 a9 => cases h2 with
  | order k' d' b1 => omega
  | intent i' o' dn' b1 => omega
  | result i' o' p' c' b1 b2 b3 b4 b5 b6 b7 b8 b9 =>
   have e1 : i = i' := by omega
   have e2 : c = c' := by omega
   subst e1 e2
   rw [a3] at b3
   have e3 := Option.some.inj b3
   subst e3
   rw [a5] at b5
   rw [Option.some.inj b5]
theorem Fold.inv {ps : List (List Stp)} {es : List Ent} {l : List Or} (h : Fold ps es l) : (es = [] ∧ l = []) ∨ ∃ es0 e l0, es = es0 ++ [e] ∧ Fold ps es0 l0 ∧ Step ps l0 e l := by
 cases h with
 | nil => exact .inl ⟨rfl, rfl⟩
 | snoc a b c d => exact .inr ⟨_, _, _, rfl, a, b⟩
theorem Fold.func {ps : List (List Stp)} {es : List Ent} {l : List Or} (h : Fold ps es l) : ∀ l', Fold ps es l' → l = l' := by
 induction h with
 | nil =>
  intro l' h'
  rcases h'.inv with ⟨_, e⟩ | ⟨_, _, _, e, _⟩
  ·exact e.symm
  ·exact absurd (congrArg List.length e) (by simp)
 | snoc a b c d ih =>
  intro l' h'
  rcases h'.inv with ⟨e, _⟩ | ⟨es0, e0, l0, e, f, s⟩
  ·exact absurd (congrArg List.length e) (by simp)
  ·obtain ⟨e1, e2⟩ := List.append_inj' e rfl
   have e3 := (List.cons.inj e2).1
   subst e1 e3
   rw [← ih l0 f] at s
   exact b.func s
/-- Both ledgers, i entries taken. -/
structure RepAt (wb w : World) (es : List Ent) (lb mb lc i : Nat) (l : List Or) (OP OL OP' OL' : Nat → Prop) (pv lv pv' lv' tv : Value) (bs : List Bool) (tk nt tk' nt' : Int) : Prop where
 led : LedAt w OP OL lb mb pv lv planL l i tk nt
 rled : RLedAt w OP' OL' lc pv' lv' tv planL l bs i tk' nt'
 f : Fold planL (es.take i) l
 x : ∀ k, (OP k ∨ OL k ∨ k = lb ∨ k = mb) → ¬ OP' k ∧ ¬ OL' k ∧ k ≠ lc
 lo : ∀ k, (OP k ∨ OL k ∨ k = lb ∨ k = mb ∨ OP' k ∨ OL' k ∨ k = lc) → wb.heap.size ≤ k
 low : Below wb.heap.size wb w
def RepI (wb w : World) (es : List Ent) (lb mb lc i : Nat) : Prop := ∃ l OP OL OP' OL' pv lv pv' lv' tv bs tk nt tk' nt', RepAt wb w es lb mb lc i l OP OL OP' OL' pv lv pv' lv' tv bs tk nt tk' nt'
theorem rep_new {wb w1 w2 w3 w4 : World} {es : List Ent} {lb mb lc : Nat} {pv pv' : Value} {OP : Nat → Prop} (b1 : Below wb.heap.size wb w1) (hl : LedAt w2 OP (fun _ => False) lb mb pv (.slice none 0 0) planL [] 0 0 0) (hlb : w1.heap.size ≤ lb) (hmb : w1.heap.size ≤ mb) (hop : ∀ k, OP k → w1.heap.size ≤ k) (b2 : Below w1.heap.size w1 w2)
  (hp : PlansRow w3 (fun k => w2.heap.size ≤ k ∧ k < w3.heap.size) pv' planL) (b3 : Below w2.heap.size w2 w3) (hlc : w3.heap.size ≤ lc) (hc : w4.heap[lc]? = some (.cells #[pv', .slice none 0 0, .slice none 0 0, .int .u64 0, .int .u32 0, .int .i64 1, .int .i64 0, .int .i64 0] 64 (0, 0))) (b4 : Below w3.heap.size w3 w4) : RepI wb w4 es lb mb lc 0 := by
 have s1 := b1.size
 have s2 := b2.size
 have s3 := b3.size
 have s4 := b4.size
 have hlc4 := blk_lt hc
 have b24 : Below w2.heap.size w2 w4 := b3.trans (b4.mono s3)
 have hlbl := blk_lt hl.blk
 have hmbl := hl.mlt
 refine ⟨[], OP, fun _ => False, fun k => w2.heap.size ≤ k ∧ k < w3.heap.size, fun _ => False, pv, .slice none 0 0, pv', .slice none 0 0, .slice none 0 0, [], 0, 0, 0, 0, hl.keep (fun k _ hk => b24.block k hk) b24.size, ⟨hc, hp.keep (fun k _ hk => b4.block k hk) b4.size, OrsAt.nil _ _ _ _ _, World.ownsRow_nil _ _ _ _, fun g hg => by simp [Value.ownBlock] at hg, rfl, ⟨id, fun e => by omega⟩, fun k _ e => e, fun k hk => by omega, fun k hk => hk.elim⟩, ?_, fun k hk => ?_, fun k hk => ?_, ?_⟩
 ·rw [List.take_zero]; exact .nil
 ·have : k < w2.heap.size := by
   rcases hk with hk | hk | hk | hk
   ·exact hl.b1 k hk
   ·exact hk.elim
   ·omega
   ·omega
  exact ⟨fun e => by omega, id, by omega⟩
 ·rcases hk with hk | hk | hk | hk | hk | hk | hk
  ·have := hop k hk; omega
  ·exact hk.elim
  ·omega
  ·omega
  ·omega
  ·exact hk.elim
  ·omega
 ·exact ((b1.trans (b2.mono s1)).trans (b3.mono (by omega))).trans (b4.mono (by omega))
section
variable {wb w w1 w2 : World} {es : List Ent} {lb mb lc i : Nat} {l : List Or} {OP OL OP' OL' : Nat → Prop} {pv lv pv' lv' tv : Value} {bs : List Bool} {tk nt tk' nt' : Int}
theorem RepAt.mid (h : RepAt wb w es lb mb lc i l OP OL OP' OL' pv lv pv' lv' tv bs tk nt tk' nt') (hf : Frame (fun k => OL k ∨ k = lb ∨ k = mb) w w1) : RLedAt w1 OP' OL' lc pv' lv' tv planL l bs i tk' nt' ∧ Below wb.heap.size wb w1 := by
 refine ⟨h.rled.keep (fun k hk hl => hf.block k hl (fun e => ?_)) hf.low.size, h.low.trans ⟨hf.low.os, hf.low.tape, hf.low.output, hf.low.size, fun k hk => hf.block k (by have := h.low.size; omega) (fun e => ?_)⟩⟩
 ·obtain ⟨a, b, c⟩ := h.x k (.inr e)
  rcases hk with hk | hk | hk
  ·exact a hk
  ·exact b hk
  ·exact c hk
 ·have := h.lo k (e.elim (fun e => .inr (.inl e)) (fun e => e.elim (fun e => .inr (.inr (.inl e))) (fun e => .inr (.inr (.inr (.inl e))))))
  omega
/-- An entry came to both. -/
theorem RepAt.step (h : RepAt wb w es lb mb lc i l OP OL OP' OL' pv lv pv' lv' tv bs tk nt tk' nt') {l' : List Or} (hf : Fold planL (es.take (i + 1)) l') (h1 : LedNext w w1 OP OL lb mb pv planL l' (i + 1) nt) (h2 : RLedNext w1 w2 OP' OL' lc pv' planL l' (i + 1)) : RepI wb w2 es lb mb lc (i + 1) := by
 obtain ⟨lv1, y, OL1, hl, hol, hf1⟩ := h1
 obtain ⟨lv2, tv2, bs2, y2, nt2, OL2, hr, hor, hf2⟩ := h2
 have s1 := hf1.low.size
 have s2 := hf2.low.size
 have hlow := h.low.size
 have hlb := blk_lt hl.blk
 have hmb := hl.mlt
 have hlc := blk_lt h.rled.blk
 have xx : ∀ k, (OP k ∨ OL1 k ∨ k = lb ∨ k = mb) → ¬ OP' k ∧ ¬ OL' k ∧ k ≠ lc := fun k hk => by
  rcases hk with hk | hk | hk | hk
  ·exact h.x k (.inl hk)
  ·exact (hol k hk).elim (fun e => h.x k (.inr (.inl e))) (fun e => ⟨fun e' => by have := h.rled.b1 k e'; omega, fun e' => by have := h.rled.b2 k e'; omega, by omega⟩)
  ·exact h.x k (.inr (.inr (.inl hk)))
  ·exact h.x k (.inr (.inr (.inr hk)))
 have hl2 : LedAt w2 OP OL1 lb mb pv lv1 planL l' (i + 1) y nt := hl.keep (fun k hk hlt => hf2.block k hlt (fun e => e.elim (xx k hk).2.1 (xx k hk).2.2)) s2
 have hlb' : lb < w.heap.size := blk_lt h.led.blk
 have hmb' := h.led.mlt
 refine ⟨l', OP, OL1, OP', OL2, pv, lv1, pv', lv2, tv2, bs2, y, nt, y2, nt2, hl2, hr, hf, fun k hk => ?_, fun k hk => ?_, ?_⟩
 ·obtain ⟨a, b, c⟩ := xx k hk
  refine ⟨a, fun e => (hor k e).elim b (fun e' => ?_), c⟩
  rcases hk with hk | hk | hk | hk
  ·have := hl.b1 k hk; omega
  ·have := hl.b2 k hk; omega
  ·omega
  ·omega
 ·rcases hk with hk | hk | hk | hk | hk | hk | hk
  ·exact h.lo k (.inl hk)
  ·exact (hol k hk).elim (fun e => h.lo k (.inr (.inl e))) (fun e => by omega)
  ·exact h.lo k (.inr (.inr (.inl hk)))
  ·exact h.lo k (.inr (.inr (.inr (.inl hk))))
  ·exact h.lo k (.inr (.inr (.inr (.inr (.inl hk)))))
  ·exact (hor k hk).elim (fun e => h.lo k (.inr (.inr (.inr (.inr (.inr (.inl e))))))) (fun e => by omega)
  ·exact h.lo k (.inr (.inr (.inr (.inr (.inr (.inr hk))))))
 ·refine (h.mid hf1).2.trans ⟨hf2.low.os, hf2.low.tape, hf2.low.output, hf2.low.size, fun k hk => hf2.block k (by omega) (fun e => ?_)⟩
  have := h.lo k (e.elim (fun e => .inr (.inr (.inr (.inr (.inr (.inl e)))))) (fun e => .inr (.inr (.inr (.inr (.inr (.inr e)))))))
  omega
theorem RepAt.keep (h : RepAt wb w es lb mb lc i l OP OL OP' OL' pv lv pv' lv' tv bs tk nt tk' nt') (hb : Below w.heap.size w w1) : RepAt wb w1 es lb mb lc i l OP OL OP' OL' pv lv pv' lv' tv bs tk nt tk' nt' :=
 ⟨h.led.keep (fun k _ hk => hb.block k hk) hb.size, h.rled.keep (fun k _ hk => hb.block k hk) hb.size, h.f, h.x, h.lo, h.low.trans (hb.mono h.low.size)⟩
end
end Go.Proofs.YthfjhgdiakciaaaGreat.Bl
/- The same things to be done (SameDue). Condition: the rows lie in memory as they are told. -/
namespace Go.Proofs.YthfjhgdiakciaaaGreat.Bl
open Go.RowKit Go.Maps
set_option linter.unusedVariables false
set_option linter.unusedSimpArgs false
theorem flatMap_at {L : List Du} {i j : Nat} {u : Du} (hu : L[i]? = some u) (hj : j < 4) : (L.flatMap duC)[i * 4 + j]? = (duC u)[j]? := by
 have hall : ∀ y ∈ L.map duC, y.length = 4 := fun y hy => by
  obtain ⟨x, _, rfl⟩ := List.mem_map.1 hy
  rfl
 rw [List.flatMap_def, chunk_get (show 0 < 4 by omega) _ hall, show (i * 4 + j) / 4 = i by omega, show (i * 4 + j) % 4 = j by omega, List.getElem?_map, hu]
 rfl
theorem DueRow.at {W : World} {base : Nat} {v : Value} {L : List Du} (h : DueRow W base v L) {i : Nat} {u : Du} (hu : L[i]? = some u) : ∃ g c, v = .slice (some ⟨g, 0, none⟩) L.length c ∧ g < W.heap.size ∧ W.rangeAt g (i * 4) (duC u) := by
 have hil := (List.getElem?_eq_some_iff.1 hu).1
 obtain ⟨g, c, rfl, _, hgl⟩ := World.ownsRow.form h (by omega)
 refine ⟨g, c, rfl, hgl, own_range h (i * 4) (duC u) (fun j v hv => ?_)⟩
 have hj : j < 4 := (List.getElem?_eq_some_iff.1 hv).1
 rw [flatMap_at hu hj]
 exact hv
set_option maxHeartbeats 2000000 in
set_option maxRecDepth 100000 in
theorem samedue_a {W : World} {b1 b2 : Nat} {v1 v2 : Value} {L : List Du} (h1 : DueRow W b1 v1 L) (h2 : DueRow W b2 v2 L) (hl : L.length < 1000) : Calls Tryz.prog 21 #[v1, v2] W fun e W' => e = .returned (.bool true) ∧ Below W.heap.size W W' := by
 obtain ⟨A1, c1, rfl⟩ := h1.form
 obtain ⟨A2, c2, rfl⟩ := h2.form
 have H1 := As.mk h1
 have H2 := As.mk h2
 clear h1 h2
 go_enter Tryz.func21, Tryz.ntmps21
 go_wp2_with fail
 go_loopg [5] L.length (fun gk v5 w' => ∃ i : Nat, v5 = .int .i64 i ∧ As (gk = L.length - i) ∧ As (i ≤ L.length) ∧ As (Below W.heap.size W w'))
 case atStart => exact ⟨0, rfl, ⟨rfl⟩, ⟨Nat.zero_le _⟩, ⟨Below.refl _ _⟩⟩
 case round =>
  obtain ⟨i, rfl, HK, HI, HB⟩ := hrel
  by_cases hlt : i < L.length
  ·obtain ⟨g1, d1, e1, l1, r1⟩ := H1.out.at (List.getElem?_eq_getElem hlt)
   obtain ⟨g2, d2, e2, l2, r2⟩ := H2.out.at (List.getElem?_eq_getElem hlt)
   injection e1 with e1 _ e3
   injection e2 with e2 _ e4
   subst e1 e2 e3 e4
   have q1 := range_heap r1 (HB.out.block g1 l1)
   have q2 := range_heap r2 (HB.out.block g2 l2)
   unfold duC at q1 q2
   generalize L[i] = u at *
   clear r1 r2
   go_upto_region 6 with fail
   refine wp_region_plan_kept (fun w' => w'.rangeAt g1 (i * 4) [.int .u32 u.no, .int .i64 u.d.st, .bool u.d.undo, .int .i64 u.d.tr] ∧ w'.rangeAt g2 (i * 4) [.int .u32 u.no, .int .i64 u.d.st, .bool u.d.undo, .int .i64 u.d.tr]) [(1,0),(1,1),(1,2),(0,3),(1,4),(1,5),(1,6),(0,7),(1,8)] (by kernel_rfl) (by kernel_rfl) (by kernel_rfl) (by kernel_rfl) (fun _ _ _ _ _ h => h) ⟨q1, q2⟩ ?_
   simp only [tagged, List.filterMap_cons, List.filterMap_nil, List.getElem?_toArray, List.getElem?_cons_succ, List.getElem?_cons_zero, Option.map_some]
   iterate 2 (with_reducible refine wpKept_sure (fun K hK => ?_); go_simp; with_reducible refine hK _ ?_; clear hK K)
   iterate 1 (with_reducible refine wpKept_sure (fun K hK => ?_); go_simp; with_reducible refine hK _ ?_; clear hK K)
   refine wpKept_take (fun K hK => ?_)
   rw [if_pos (by rfl)]
   refine ⟨.agg #[.int .u32 u.no, .int .i64 u.d.st, .bool u.d.undo, .int .i64 u.d.tr], fun w' hw' => exec_load_mid _ _ _ 51 (.tmp 19) rfl g1 (i * 4) rfl [.int .u32 u.no, .int .i64 u.d.st, .bool u.d.undo, .int .i64 u.d.tr] _ hw'.1 Tryz.underlying51 rfl size51, hK _ ?_⟩
   clear hK K
   iterate 2 (with_reducible refine wpKept_sure (fun K hK => ?_); go_simp; with_reducible refine hK _ ?_; clear hK K)
   iterate 1 (with_reducible refine wpKept_sure (fun K hK => ?_); go_simp; with_reducible refine hK _ ?_; clear hK K)
   refine wpKept_take (fun K hK => ?_)
   rw [if_pos (by rfl)]
   refine ⟨.agg #[.int .u32 u.no, .int .i64 u.d.st, .bool u.d.undo, .int .i64 u.d.tr], fun w' hw' => exec_load_mid _ _ _ 51 (.tmp 23) rfl g2 (i * 4) rfl [.int .u32 u.no, .int .i64 u.d.st, .bool u.d.undo, .int .i64 u.d.tr] _ hw'.2 Tryz.underlying51 rfl size51, hK _ ?_⟩
   clear hK K
   iterate 1 (with_reducible refine wpKept_sure (fun K hK => ?_); go_simp; with_reducible refine hK _ ?_; clear hK K)
   refine wpKept_nil ?_
   go_wp2_with fail
   go_roundg (L.length - (i + 1))
   case measure => have := HK.out; omega
   case rel => exact ⟨i + 1, by go_num, ⟨rfl⟩, ⟨by omega⟩, ⟨HB.out.drew⟩⟩
  ·have hi : i = L.length := by have := HI.out; omega
   subst hi
   go_wp2_with fail
   go_ret
   exact ⟨rfl, HB.out⟩
end Go.Proofs.YthfjhgdiakciaaaGreat.Bl
