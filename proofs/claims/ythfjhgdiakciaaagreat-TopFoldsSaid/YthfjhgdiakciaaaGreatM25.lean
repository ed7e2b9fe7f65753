/- A ledger of the reference in memory; an order's plan (Plan). Condition: the ledger lies in memory as it is told. -/
import Derived.Test.YthfjhgdiakciaaaGreatM24
namespace Go.Proofs.YthfjhgdiakciaaaGreat.Bl
open Go.RowKit Go.Maps
set_option linter.unusedVariables false
set_option linter.unusedSimpArgs false
structure RLedAt (W : World) (OP OL : Nat → Prop) (lb : Nat) (pv lv tv : Value) (ps : List (List Stp)) (l : List Or) (bs : List Bool) (last : Nat) (tk nt : Int) : Prop where
 blk : W.heap[lb]? = some (.cells #[pv, lv, tv, .int .u64 last, .int .u32 (epF last), .int .i64 1, .int .i64 tk, .int .i64 nt] 64 (0, 0))
 plans : PlansRow W OP pv ps
 ors : OrsAt W (fun k => OL k ∧ ¬ tv.ownBlock = some k) 118 10 [] lv l
 told : W.ownsRow 0 4 1 tv l.length (bs.map Value.bool)
 own : ∀ g, tv.ownBlock = some g → OL g
 len : bs.length = l.length
 s1 : ¬ OL lb ∧ ¬ OP lb
 s2 : ∀ k, OP k → ¬ OL k
 b1 : ∀ k, OP k → k < W.heap.size
 b2 : ∀ k, OL k → k < W.heap.size
theorem RLedAt.keep {W W' : World} {OP OL : Nat → Prop} {lb : Nat} {pv lv tv : Value} {ps : List (List Stp)} {l : List Or} {bs : List Bool} {last : Nat} {tk nt : Int} (h : RLedAt W OP OL lb pv lv tv ps l bs last tk nt)
  (hk : ∀ k, OP k ∨ OL k ∨ k = lb → k < W.heap.size → W'.heap[k]? = W.heap[k]?) (hs : W.heap.size ≤ W'.heap.size) : RLedAt W' OP OL lb pv lv tv ps l bs last tk nt :=
 ⟨(hk lb (.inr (.inr rfl)) (blk_lt h.blk)).trans h.blk, h.plans.keep (fun k a b => hk k (.inl a) b) hs, h.ors.keep (fun k a b => hk k (.inr (.inl a.1)) b) hs, own_keep h.told (fun g hg hl => hk g (.inr (.inl (h.own g hg))) hl), h.own, h.len, h.s1, h.s2,
  fun k hk' => Nat.lt_of_lt_of_le (h.b1 k hk') hs, fun k hk' => Nat.lt_of_lt_of_le (h.b2 k hk') hs⟩
set_option maxHeartbeats 2000000 in
set_option maxRecDepth 100000 in
theorem rplan_a {W : World} {OP OL : Nat → Prop} {lb : Nat} {pv lv tv : Value} {ps : List (List Stp)} {l : List Or} {bs : List Bool} {last : Nat} {tk nt : Int} (h : RLedAt W OP OL lb pv lv tv ps l bs last tk nt)
  {i : Nat} {o : Or} (ho : l[i]? = some o) {p : List Stp} (hp : ps[o.pl]? = some p) (hps : ps.length ≤ 8) (hl : l.length < 1000) :
  Calls Tryz.prog 60 #[.pointer (some ⟨lb, 0, none⟩), .int .i64 i] W fun e W' => ∃ sv, e = .returned sv ∧ PlanAt W' OP sv p ∧ Below W.heap.size W W' := by
 obtain ⟨g, c, x, rfl, hgl, _, hO, hr⟩ := h.ors.at rfl ho
 obtain ⟨ak, ck, ad, cd, rfl, _, hd, _⟩ := hO
 obtain ⟨gd, od, rfl, hdl, hdr⟩ := hd.2 (by simp)
 obtain ⟨vs, hv1, hv2, _, hv4⟩ := h.plans
 obtain ⟨sv, hsv, hpl⟩ := hv4 o.pl p hp
 have hpn := (List.getElem?_eq_some_iff.1 hp).1
 obtain ⟨gp, cp, rfl, _, hgpl⟩ := hv2.form (by omega)
 have HPL := As.mk (hpl.mono (own' := OP) (fun k hk _ => hk.1))
 have f1 : W.cell? ⟨g, i * 10 + 2, none⟩ = some (.slice (some ⟨gd, od, none⟩) 1 cd) := hr 2 _ rfl
 have f2 : W.cell? ⟨gd, od, none⟩ = some (.int .u8 o.pl) := hdr 0 _ rfl
 have f3 : W.cell? ⟨gp, o.pl, none⟩ = some sv := (hv2.cellAt o.pl (by omega)).trans hsv
 have f0 := h.blk
 have hil : i < l.length := (List.getElem?_eq_some_iff.1 ho).1
 generalize epF last = ep at *
 generalize hn : l.length = n at *
 generalize hm : ps.length = m at *
 generalize o.pl = k at *
 have hk8 : k < 8 := by omega
 have hkm : k < m := by omega
 have hwk : IntKind.i64.wrap (k : Int) = k := by simp [IntKind.wrap, IntKind.bits, IntKind.signed]; omega
 have hkb : (0 ≤ (k : Int) ∧ (k : Int) < (m : Int)) = True := eq_true ⟨by omega, by omega⟩
 clear hn hm hr hdr hv2 hv4 h hpl hsv hp ho hd hdl hgl hgpl
 go_enter Tryz.func60, Tryz.ntmps60
 go_upto_region 1 with fail
 refine wp_region_plan_kept (fun w' => w'.heap[lb]? = some (.cells #[(.slice (some ⟨gp, 0, none⟩) m cp), .slice (some ⟨g, 0, none⟩) n c, tv, .int .u64 last, .int .u32 ep, .int .i64 1, .int .i64 tk, .int .i64 nt] 64 (0, 0)) ∧ w'.cell? ⟨g, i * 10 + 2, none⟩ = some (.slice (some ⟨gd, od, none⟩) 1 cd) ∧ w'.cell? ⟨gd, od, none⟩ = some (.int .u8 k) ∧ w'.cell? ⟨gp, k, none⟩ = some sv) [(1,0),(1,1),(1,2),(0,3),(1,4),(1,5),(1,6),(0,7),(1,8),(1,9),(1,10),(0,11),(1,12),(0,13),(1,14),(1,15),(0,16),(1,17)] (by kernel_rfl) (by kernel_rfl) (by kernel_rfl) (by kernel_rfl) (fun _ _ _ _ _ h => h) ⟨f0, f1, f2, f3⟩ ?_
 simp only [tagged, List.filterMap_cons, List.filterMap_nil, List.getElem?_toArray, List.getElem?_cons_succ, List.getElem?_cons_zero, Option.map_some]
 iterate 3 (with_reducible refine wpKept_sure (fun K hK => ?_); go_simp; with_reducible refine hK _ ?_; clear hK K)
 refine wpKept_take (fun K hK => ?_)
 rw [if_pos (by rfl)]
 apply Exists.intro
 refine ⟨fun w' hw' => ?_, hK _ ?_⟩
 ·have j0 := (blk_cell hw'.1 0).trans rfl
  go_simp
  rfl
 clear hK K
 iterate 3 (with_reducible refine wpKept_sure (fun K hK => ?_); go_simp; with_reducible refine hK _ ?_; clear hK K)
 refine wpKept_take (fun K hK => ?_)
 rw [if_pos (by rfl)]
 apply Exists.intro
 refine ⟨fun w' hw' => ?_, hK _ ?_⟩
 ·have j0 := (blk_cell hw'.1 1).trans rfl
  go_simp
  rfl
 clear hK K
 iterate 3 (with_reducible refine wpKept_sure (fun K hK => ?_); go_simp; with_reducible refine hK _ ?_; clear hK K)
 refine wpKept_take (fun K hK => ?_)
 rw [if_pos (by rfl)]
 apply Exists.intro
 refine ⟨fun w' hw' => ?_, hK _ ?_⟩
 ·obtain ⟨_, j1, _, _⟩ := hw'
  go_simp
  rfl
 clear hK K
 iterate 1 (with_reducible refine wpKept_sure (fun K hK => ?_); go_simp; with_reducible refine hK _ ?_; clear hK K)
 refine wpKept_take (fun K hK => ?_)
 rw [if_pos (by rfl)]
 apply Exists.intro
 refine ⟨fun w' hw' => ?_, hK _ ?_⟩
 ·obtain ⟨_, _, j1, _⟩ := hw'
  go_simp
  rfl
 clear hK K
 iterate 1 (with_reducible refine wpKept_sure (fun K hK => ?_); go_simp; with_reducible refine hK _ ?_; clear hK K)
 with_reducible refine wpKept_sure (fun K hK => ?_)
 go_simp
 refine hK _ ?_
 clear hK K
 refine wpKept_take (fun K hK => ?_)
 rw [if_pos (by rfl)]
 apply Exists.intro
 refine ⟨fun w' hw' => ?_, hK _ ?_⟩
 ·obtain ⟨_, _, _, j1⟩ := hw'
  go_simp
  rfl
 clear hK K
 iterate 1 (with_reducible refine wpKept_sure (fun K hK => ?_); go_simp; with_reducible refine hK _ ?_; clear hK K)
 refine wpKept_nil ?_
 go_wp2_with fail
 go_ret
 exact ⟨_, rfl, HPL.out, (Below.refl _ W).drew⟩
end Go.Proofs.YthfjhgdiakciaaaGreat.Bl
/- What the reference's ledger waits for (Asked). Condition: the ledger lies in memory as it is told. -/
namespace Go.Proofs.YthfjhgdiakciaaaGreat.Bl
open Go.RowKit Go.Maps
set_option linter.unusedVariables false
set_option linter.unusedSimpArgs false
theorem RLedAt.slice {W : World} {OP OL : Nat → Prop} {lb : Nat} {pv lv tv : Value} {ps : List (List Stp)} {l : List Or} {bs : List Bool} {last : Nat} {tk nt : Int} (h : RLedAt W OP OL lb pv lv tv ps l bs last tk nt) : ∃ A c, lv = .slice A l.length c := by
 obtain ⟨cs, _, r, _⟩ := h.ors
 rcases r.2 with ⟨hv, h0⟩ | ⟨g, cap, _, hv, _⟩
 ·rw [h0]; exact ⟨_, _, hv⟩
 ·exact ⟨_, _, hv⟩
/-- An order's number and its state. -/
theorem OrAt.num {W : World} {own : Nat → Prop} {tl : List Value} {n g o : Nat} {x : Or} {c : List Value} (h : OrAt W own tl n x c) (hr : W.rangeAt g o c) : W.cell? ⟨g, o, none⟩ = some (.int .u32 n) ∧ W.rangeAt g (o + 3) (sgC x.sg) := by
 obtain ⟨ad, cd, hc, _⟩ := h.cells hr
 obtain ⟨_, _, _, _, rfl, _⟩ := h
 exact ⟨hr 0 _ rfl, hc.sg⟩
set_option maxRecDepth 100000 in
theorem wp_build42 {o : Oper} {a : Act} {w : World} {K : Act → World → Prop} {Q : Exit → Act → World → Prop} (x : Operand) (ho : o.op = .buildSlice 42 1 #[(0, x)]) (cs : List Value) (hx : a.eval x = .agg cs.toArray) (hl : cs.length = 4)
  (h : K (a.put o.dst (.slice (some ⟨w.heap.size, 0, none⟩) 1 1)) (w.alloc (.cells cs.toArray 51 (0, 0)))) : o.wp Tryz.prog a w K Q := by
 obtain ⟨i0, hi, hz0, hz1, hz2⟩ := info_parts info51
 refine wp_buildSlice 42 51 1 #[(0, x)] ho cs.toArray i0 _ Tryz.underlying42 hi hz0 (by rw [hz1]; decide) (by rw [hz1]; decide) ?_ h
 have := Great.fill_whole (s := 4) (by omega) [.agg cs.toArray] ((Array.range (1 * i0.size)).map ((Value.agg #[.int .u32 0, .int .i64 0, .bool false, .int .i64 0]).cells[· % (Value.agg #[.int .u32 0, .int .i64 0, .bool false, .int .i64 0]).cells.size]!)) (fun v hv => by
  obtain rfl : v = .agg cs.toArray := by simpa using hv
  show cs.toArray.size = 4
  rw [List.size_toArray, hl]) (by simp [hz1])
 rw [hz1] at this ⊢
 simp only [List.flatMap_cons, List.flatMap_nil, List.append_nil] at this
 refine Eq.trans ?_ (this.trans ?_)
 ·congr 1
  simp [hx]
 ·rfl
set_option maxHeartbeats 4000000 in
set_option maxRecDepth 100000 in
theorem rasked_a {W : World} {OP OL : Nat → Prop} {lb : Nat} {pv lv tv : Value} {ps : List (List Stp)} {l : List Or} {bs : List Bool} {last : Nat} {tk nt : Int} (h : RLedAt W OP OL lb pv lv tv ps l bs last tk nt) (hlo : LOk ps l) :
  Calls Tryz.prog 23 #[.pointer (some ⟨lb, 0, none⟩)] W fun e W' => SomeDue W W' e (colL askedS 1 l) := by
 obtain ⟨A, c, rfl⟩ := h.slice
 have hbk := h.blk
 have hlbl := blk_lt hbk
 obtain ⟨i1, hi1, hz0, hz1, hz2⟩ := info_parts info51
 have HO := As.mk h.ors
 have HLO := As.mk hlo
 have hl5 := hlo.len
 clear h hlo
 generalize epF last = ep at *
 have HBK := As.mk hbk
 clear hbk
 go_enter Tryz.func23, Tryz.ntmps23
 go_wp2_with fail
 go_loopg [3, 4] l.length (fun gk v3 v4 w' => ∃ (i : Nat) (v : Value), v4 = .int .i64 i ∧ v3 = v ∧ As (gk = l.length - i) ∧ As (i ≤ l.length) ∧ As (DueRow w' W.heap.size v (colL askedS 1 (l.take i))) ∧ As (Below W.heap.size W w'))
 case atStart => exact ⟨0, _, rfl, rfl, ⟨rfl⟩, ⟨Nat.zero_le _⟩, ⟨World.ownsRow_nil _ _ _ _⟩, ⟨Below.refl _ _⟩⟩
 case round =>
  obtain ⟨i, v, rfl, hv3, HK, HI, HR, HB⟩ := hrel
  have hv3 := hv3.symm
  subst hv3
  have hs := HB.out.size
  have hbr := (HB.out.block lb hlbl).trans HBK.out
  have c1 : wr.cell? ⟨lb, 1, none⟩ = some (.slice A l.length c) := (blk_cell hbr 1).trans rfl
  have hlr : lb < wr.heap.size := by omega
  by_cases hlt : i < l.length
  ·obtain ⟨g, c', x, hv, hgl, _, hx, hr⟩ := HO.out.at rfl (List.getElem?_eq_getElem hlt)
   injection hv with e1 _ e2
   subst e1 e2
   obtain ⟨k1, k2⟩ := hx.num hr
   have HK1 := As.mk k1
   have hgr := HB.out.block g hgl
   have k1r : wr.cell? ⟨g, i * 10, none⟩ = some (.int .u32 ((i : Int) + 1)) := (World.cell?_of_block (w := W) (a := ⟨g, i * 10, none⟩) hgr).trans k1
   have hr1 := As.mk (range_heap k2 hgr)
   have hglr : g < wr.heap.size := by omega
   have HT : As (colL askedS 1 (l.take (i + 1)) = colL askedS 1 (l.take i) ++ oneL askedS (i + 1) l[i]) := ⟨by rw [colL_take _ _ _ _ hlt, Nat.add_comm 1 i]⟩
   obtain ⟨p, _, hsg⟩ := HLO.out.at (List.getElem?_eq_getElem hlt)
   have hlen := colL_len askedS (l.take i) 1
   rw [List.length_take] at hlen
   clear hr hx k1 k2
   unfold sgC at hr1
   generalize colL askedS 1 (l.take i) = L at *
   obtain ⟨L', hL'⟩ : ∃ L', L' = colL askedS 1 (l.take (i + 1)) := ⟨_, rfl⟩
   rw [← hL'] at HT
   have HL' := As.mk hL'
   clear hL'
   unfold oneL at HT
   generalize l[i] = o at *
   obtain ⟨okey, opl, s⟩ := o
   simp only at hr1 HT hsg
   have hskip : s.asked = false ∨ ∃ ph st tr, (ph = 1 ∨ ph = 2) ∧ s = ⟨ph, st, tr, true, 0⟩ := by
    cases hsg with
    | over c a b => exact .inl rfl
    | idle ph st tr x a b c => exact .inl rfl
    | wait ph st tr x a b c d => exact .inr ⟨ph, st, tr, b.imp id (fun h => h.1), rfl⟩
   clear hsg
   rcases hskip with ha | ⟨ph, st, tr, hph, rfl⟩
   ·rw [ha] at hr1
    have HT' : As (L' = L) := ⟨by rw [HT.out]; unfold askedS; rw [if_neg (by rw [ha]; decide)]; simp⟩
    clear ha HT
    go_wp2_with (refine wpList_load_mid rfl 116 (.tmp 21) rfl g (i * 10 + 3) rfl _ _ hr1.out Tryz.underlying116 rfl size116 ?_)
    go_roundg (l.length - (i + 1))
    case measure => have := HK.out; omega
    case rel => exact ⟨i + 1, _, by go_num, rfl, ⟨rfl⟩, ⟨by omega⟩, ⟨by rw [← HL'.out, HT'.out]; exact World.ownsRow.alloc HR.out _⟩, ⟨HB.out.alloc hs _⟩⟩
   ·obtain ⟨A1, c1', rfl⟩ := HR.out.form
    have HT' : As (L' = L ++ [⟨i + 1, st, ph == 2, tr⟩]) := ⟨by rw [HT.out]; rfl⟩
    clear HT
    go_upto_region 7 with (refine wpList_load_mid rfl 116 (.tmp 21) rfl g (i * 10 + 3) rfl _ _ hr1.out Tryz.underlying116 rfl size116 ?_)
    have HPH : As (ph = 1 ∨ ph = 2) := ⟨hph⟩
    obtain ⟨b5, hb5⟩ : ∃ b5, b5 = wr.heap.size := ⟨_, rfl⟩
    have h5 : (wr.alloc (.cells #[.int .i64 ph, .int .i64 st, .int .i64 tr, .bool true, .int .i64 (leftF true), .bool false, .int .i64 0] 116)).heap[b5]? = some (.cells #[.int .i64 ph, .int .i64 st, .int .i64 tr, .bool true, .int .i64 (leftF true), .bool false, .int .i64 0] 116 (0, 0)) := by rw [hb5]; exact blk_new wr _
    have BW : As (Below W.heap.size W (wr.alloc (.cells #[.int .i64 ph, .int .i64 st, .int .i64 tr, .bool true, .int .i64 (leftF true), .bool false, .int .i64 0] 116))) := ⟨HB.out.alloc hs _⟩
    have R2 : As ((wr.alloc (.cells #[.int .i64 ph, .int .i64 st, .int .i64 tr, .bool true, .int .i64 (leftF true), .bool false, .int .i64 0] 116)).ownsRow W.heap.size 51 4 (.slice A1 L.length c1') L.length (L.flatMap duC)) := ⟨World.ownsRow.alloc HR.out _⟩
    have c1 : (wr.alloc (.cells #[.int .i64 ph, .int .i64 st, .int .i64 tr, .bool true, .int .i64 (leftF true), .bool false, .int .i64 0] 116)).cell? ⟨lb, 1, none⟩ = some (.slice (some ⟨g, 0, none⟩) l.length c) := (blk_cell (blk_old hbr _) 1).trans rfl
    have k1 : (wr.alloc (.cells #[.int .i64 ph, .int .i64 st, .int .i64 tr, .bool true, .int .i64 (leftF true), .bool false, .int .i64 0] 116)).cell? ⟨g, i * 10, none⟩ = some (.int .u32 ((i : Int) + 1)) := (World.cell?_of_block (w := wr) (a := ⟨g, i * 10, none⟩) (Below.heap_alloc wr _ _ hglr)).trans k1r
    rw [← hb5]
    have HB5e := As.mk hb5
    generalize wr.alloc (.cells #[.int .i64 ph, .int .i64 st, .int .i64 tr, .bool true, .int .i64 (leftF true), .bool false, .int .i64 0] 116) = wc at *
    have hsc := BW.out.size
    clear hb5 hbr k1r
    have HNE : As (∀ q, (Value.slice A1 L.length c1').ownBlock = some q → q ≠ b5) := ⟨fun q hq => by have := (World.ownsRow.lt HR.out q hq).2; have := HB5e.out; omega⟩
    have hown5 : As (wc.heap[b5]? = some (.cells #[.int .i64 ph, .int .i64 st, .int .i64 tr, .bool true, .int .i64 (leftF true), .bool false, .int .i64 0] 116 (0, 0)) ∧ b5 < wc.heap.size ∧ lb < wc.heap.size ∧ g < wc.heap.size) := ⟨h5, blk_lt h5, by omega, by omega⟩
    obtain ⟨kb, hkb⟩ : ∃ kb, ((ph : Int) == 2) = kb := ⟨_, rfl⟩
    have HKB : As ((ph == 2) = kb) := ⟨by rw [← hkb]; rcases HPH.out with rfl | rfl <;> rfl⟩
    refine wp_region_plan_kept (fun w' => w'.cell? ⟨lb, 1, none⟩ = some (.slice (some ⟨g, 0, none⟩) l.length c) ∧ w'.cell? ⟨g, i * 10, none⟩ = some (.int .u32 ((i : Int) + 1)) ∧ w'.heap[b5]? = some (.cells #[.int .i64 ph, .int .i64 st, .int .i64 tr, .bool true, .int .i64 (leftF true), .bool false, .int .i64 0] 116 (0, 0))) [(1,0),(1,1),(1,2),(1,3),(0,4),(1,5),(1,6),(1,7),(0,8),(1,9),(0,10),(1,11),(0,12),(1,13),(1,14),(0,15),(1,16),(1,17),(2,18),(2,19),(1,20)] (by kernel_rfl) (by kernel_rfl) (by kernel_rfl) (by kernel_rfl) (fun _ _ _ _ _ h => h) ⟨c1, k1, h5⟩ ?_
    simp only [tagged, List.filterMap_cons, List.filterMap_nil, List.getElem?_toArray, List.getElem?_cons_succ, List.getElem?_cons_zero, Option.map_some]
    iterate 4 (with_reducible refine wpKept_sure (fun K hK => ?_); go_simp; with_reducible refine hK _ ?_; clear hK K)
    refine wpKept_take (fun K hK => ?_)
    rw [if_pos (by rfl)]
    apply Exists.intro
    refine ⟨fun w' hw' => ?_, hK _ ?_⟩
    ·have j0 := hw'.1
     go_simp
     rfl
    clear hK K
    iterate 3 (with_reducible refine wpKept_sure (fun K hK => ?_); go_simp; with_reducible refine hK _ ?_; clear hK K)
    refine wpKept_take (fun K hK => ?_)
    rw [if_pos (by rfl)]
    apply Exists.intro
    refine ⟨fun w' hw' => ?_, hK _ ?_⟩
    ·have j0 := hw'.2.1
     go_simp
     rfl
    clear hK K
    iterate 1 (with_reducible refine wpKept_sure (fun K hK => ?_); go_simp; with_reducible refine hK _ ?_; clear hK K)
    refine wpKept_take (fun K hK => ?_)
    rw [if_pos (by rfl)]
    apply Exists.intro
    refine ⟨fun w' hw' => ?_, hK _ ?_⟩
    ·have j0 := (blk_cell hw'.2.2 1).trans rfl
     go_simp
     rfl
    clear hK K
    iterate 1 (with_reducible refine wpKept_sure (fun K hK => ?_); go_simp; with_reducible refine hK _ ?_; clear hK K)
    refine wpKept_take (fun K hK => ?_)
    rw [if_pos (by rfl)]
    apply Exists.intro
    refine ⟨fun w' hw' => ?_, hK _ ?_⟩
    ·have j0 := (blk_cell hw'.2.2 0).trans rfl
     go_simp
     rfl
    clear hK K
    iterate 2 (with_reducible refine wpKept_sure (fun K hK => ?_); go_simp; with_reducible refine hK _ ?_; clear hK K)
    refine wpKept_take (fun K hK => ?_)
    rw [if_pos (by rfl)]
    apply Exists.intro
    refine ⟨fun w' hw' => ?_, hK _ ?_⟩
    ·have j0 := (blk_cell hw'.2.2 2).trans rfl
     go_simp
     rfl
    clear hK K
    iterate 2 (with_reducible refine wpKept_sure (fun K hK => ?_); go_simp; with_reducible refine hK _ ?_; clear hK K)
    with_reducible refine wpKept_next (fun K hK => ?_)
    rw [if_pos (by rfl)]
    refine wp_build42 (.tmp 42) rfl [.int .u32 ((i : Int) + 1), .int .i64 st, .bool kb, .int .i64 tr] rfl rfl ?_
    have R3 : As ((wc.drew.alloc (.cells ([.int .u32 ((i : Int) + 1), .int .i64 st, .bool kb, .int .i64 tr] : List Value).toArray 51 (0, 0))).ownsRow W.heap.size 51 4 (.slice A1 L.length c1') L.length (L.flatMap duC)) := ⟨World.ownsRow.alloc (World.ownsRow.drew R2.out) _⟩
    refine hK _ _ ⟨by rw [World.cell?_of_block (w := wc) (a := ⟨lb, 1, none⟩) (Below.heap_alloc wc.drew _ _ hown5.out.2.2.1)]; exact c1, by rw [World.cell?_of_block (w := wc) (a := ⟨g, i * 10, none⟩) (Below.heap_alloc wc.drew _ _ hown5.out.2.2.2)]; exact k1, (Below.heap_alloc wc.drew _ _ hown5.out.2.1).trans h5⟩ ?_
    clear hK K
    with_reducible refine wpKept_next (fun K hK => ?_)
    refine step_append_lies (wc.drew.alloc (.cells ([.int .u32 ((i : Int) + 1), .int .i64 st, .bool kb, .int .i64 tr] : List Value).toArray 51 (0, 0))) (by rfl) _ _ _ (by rfl) W.heap.size 51 i1 _ 4 32 Tryz.underlying42 hi1 hz0 hz1 hz2 (by rfl) (by omega) (.slice A1 L.length c1') L.length (L.flatMap duC) (by rfl) R3.out
     ⟨wc.heap.size, 0, none⟩ 1 1 [.int .u32 ((i : Int) + 1), .int .i64 st, .bool kb, .int .i64 tr] (by rfl) rfl (World.news_of_block (blk_new wc.drew _)) (duC_one _ _ _ _) (by omega) (by unfold maxLen; omega) (by omega) (by simp; omega) _ rfl ?_
    intro gg cap w4 q1 q2 q3 q4
    have B4 : As (Below W.heap.size W w4) := ⟨(BW.out.drew.alloc hsc _).grown q2 (by simp; omega) (fun q hq => (R2.out.lt q hq).1)⟩
    have R4 : As (DueRow w4 W.heap.size (.slice (some ⟨gg, 0, none⟩) (L.length + 1) cap) L') := ⟨by
     rw [HT'.out, HKB.out]
     unfold DueRow
     rw [List.length_append, List.flatMap_append]
     simpa [duC] using q1⟩
    refine hK _ _ ⟨by rw [World.cell?_of_block (w := W) (a := ⟨lb, 1, none⟩) (B4.out.block lb hlbl)]; exact (blk_cell HBK.out 1).trans rfl, by rw [World.cell?_of_block (w := W) (a := ⟨g, i * 10, none⟩) (B4.out.block g hgl)]; exact HK1.out, (q2.block b5 (by have := hown5.out.2.1; simp; omega) (fun e => HNE.out b5 e.symm rfl)).trans ((Below.heap_alloc wc.drew _ _ hown5.out.2.1).trans h5)⟩ ?_
    clear hK K q1 q2 q3 q4
    iterate 1 (with_reducible refine wpKept_sure (fun K hK => ?_); go_simp; with_reducible refine hK _ ?_; clear hK K)
    refine wpKept_nil ?_
    go_wp2_with fail
    go_roundg (l.length - (i + 1))
    case measure => have := HK.out; omega
    case rel => exact ⟨i + 1, _, by go_num, rfl, ⟨rfl⟩, ⟨by omega⟩, ⟨by rw [← HL'.out]; exact R4.out⟩, B4⟩
  ·have hi : i = l.length := by have := HI.out; omega
   subst hi
   go_wp2_with fail
   go_ret
   refine ⟨_, rfl, ?_, HB.out⟩
   have := HR.out
   rw [List.take_length] at this
   exact this
end Go.Proofs.YthfjhgdiakciaaaGreat.Bl
/- May an order come now, by its kind (drayageref20's fits)? Condition: the ledger lies in memory as it is told; the order's key is a new one. -/
namespace Go.Proofs.YthfjhgdiakciaaaGreat.Bl
open Go.RowKit Go.Maps
set_option linter.unusedVariables false
set_option linter.unusedSimpArgs false
set_option maxHeartbeats 4000000 in
set_option maxRecDepth 100000 in
theorem rfits_order {W : World} {OP OL : Nat → Prop} {lb : Nat} {pv lv tv : Value} {ps : List (List Stp)} {l : List Or} {bs : List Bool} {last : Nat} {tk nt : Int} (h : RLedAt W OP OL lb pv lv tv ps l bs last tk nt) (hps : ps.length ≤ 8) (hn : l.length < 500) {ak ad : Option Addr} {ck cd k d : Nat} {lsn : Int} (hk : Bytes W ak [(k : Int)]) (hd : Bytes W ad [(d : Int)]) (hk2 : k < 256) (hd2 : d < ps.length) (hkey : ∀ o ∈ l, o.key ≠ k ∧ o.key < 256) :
  Calls Tryz.prog 102 #[.pointer (some ⟨lb, 0, none⟩), .agg #[.int .i64 2, .int .u64 lsn, .int .u32 1, .int .u32 ((l.length : Int) + 1), .int .i64 0, .bool false, .int .i64 0, .int .i64 0, .int .u64 0, .slice ak 1 ck, .slice ad 1 cd]] W fun e W' => e = .returned (.bool true) ∧ Below W.heap.size W W' := by
 obtain ⟨A, c, rfl⟩ := h.slice
 have hbk := h.blk
 have hlb := blk_lt hbk
 generalize epF last = ep at *
 have hbox : (W.alloc (.cells #[.int .i64 2, .int .u64 lsn, .int .u32 1, .int .u32 ((l.length : Int) + 1), .int .i64 0, .bool false, .int .i64 0, .int .i64 0, .int .u64 0, .slice ak 1 ck, .slice ad 1 cd] 41)).heap[W.heap.size]? = some (.cells #[.int .i64 2, .int .u64 lsn, .int .u32 1, .int .u32 ((l.length : Int) + 1), .int .i64 0, .bool false, .int .i64 0, .int .i64 0, .int .u64 0, .slice ak 1 ck, .slice ad 1 cd] 41 (0, 0)) := blk_new W _
 have B0 : As (Below W.heap.size W (W.alloc (.cells #[.int .i64 2, .int .u64 lsn, .int .u32 1, .int .u32 ((l.length : Int) + 1), .int .i64 0, .bool false, .int .i64 0, .int .i64 0, .int .u64 0, .slice ak 1 ck, .slice ad 1 cd] 41))) := ⟨(Below.refl _ W).alloc (Nat.le_refl _) _⟩
 have HO := As.mk h.ors
 have HK := As.mk hk
 have HKEY := As.mk hkey
 obtain ⟨gp, cp, rfl, hgpl⟩ : ∃ g c, pv = .slice (some ⟨g, 0, none⟩) ps.length c ∧ g < W.heap.size := by
  obtain ⟨vs, v1, v2, _, _⟩ := h.plans
  obtain ⟨g, c, e, _, hg⟩ := v2.form (by omega)
  exact ⟨g, c, e, hg⟩
 obtain ⟨gd, od, rfl, hdl, hdr⟩ := hd.2 (by simp)
 have f2 : W.cell? ⟨gd, od, none⟩ = some (.int .u8 d) := hdr 0 _ rfl
 have HBK := As.mk hbk
 have HF2 := As.mk f2
 have hwn : IntKind.i64.wrap ((l.length : Int) + 1) = (l.length : Int) + 1 := by simp [IntKind.wrap, IntKind.bits, IntKind.signed]; omega
 have c1 : (W.alloc (.cells #[.int .i64 2, .int .u64 lsn, .int .u32 1, .int .u32 ((l.length : Int) + 1), .int .i64 0, .bool false, .int .i64 0, .int .i64 0, .int .u64 0, .slice ak 1 ck, .slice (some ⟨gd, od, none⟩) 1 cd] 41)).cell? ⟨lb, 1, none⟩ = some (.slice A l.length c) := (blk_cell (blk_old hbk _) 1).trans rfl
 have k0 : (W.alloc (.cells #[.int .i64 2, .int .u64 lsn, .int .u32 1, .int .u32 ((l.length : Int) + 1), .int .i64 0, .bool false, .int .i64 0, .int .i64 0, .int .u64 0, .slice ak 1 ck, .slice (some ⟨gd, od, none⟩) 1 cd] 41)).cell? ⟨W.heap.size, 0, none⟩ = some (.int .i64 2) := (blk_cell hbox 0).trans rfl
 clear h hk hd hkey hbk hdr f2
 go_enter Tryz.func102, Tryz.ntmps102
 go_wp2_with fail
 obtain ⟨b3, hb3⟩ : ∃ b3, b3 = W.heap.size := ⟨_, rfl⟩
 rw [← hb3] at hbox ⊢
 generalize W.alloc (.cells #[.int .i64 2, .int .u64 lsn, .int .u32 1, .int .u32 ((l.length : Int) + 1), .int .i64 0, .bool false, .int .i64 0, .int .i64 0, .int .u64 0, .slice ak 1 ck, .slice (some ⟨gd, od, none⟩) 1 cd] 41) = w0 at *
 have HBX := As.mk hbox
 have hs0 := B0.out.size
 have HB3 := As.mk hb3
 clear hbox hb3 c1 k0
 go_loopg [6] l.length (fun gk v6 w' => ∃ i : Nat, v6 = .int .i64 i ∧ As (gk = l.length - i) ∧ As (i ≤ l.length) ∧ As (Below w0.heap.size w0 w'))
 case atStart => exact ⟨0, rfl, ⟨rfl⟩, ⟨Nat.zero_le _⟩, ⟨Below.refl _ _⟩⟩
 case round =>
  obtain ⟨i, rfl, HKK, HI, HB⟩ := hrel
  have BW : As (Below W.heap.size W wr) := ⟨B0.out.trans (HB.out.mono hs0)⟩
  have hbr := (BW.out.block lb hlb).trans HBK.out
  have hbx := (HB.out.block b3 (blk_lt HBX.out)).trans HBX.out
  by_cases hlt : i < l.length
  ·obtain ⟨g, c', x, hv, hgl, _, hx, hr⟩ := HO.out.at rfl (List.getElem?_eq_getElem hlt)
   injection hv with e1 _ e2
   subst e1 e2
   obtain ⟨oak, ock, oad, ocd, rfl, hok, _⟩ := hx
   have hgr := BW.out.block g hgl
   have c1 : wr.cell? ⟨lb, 1, none⟩ = some (.slice (some ⟨g, 0, none⟩) l.length c) := (blk_cell hbr 1).trans rfl
   have k1 : wr.cell? ⟨g, i * 10 + 1, none⟩ = some (.slice oak 1 ock) := (World.cell?_of_block (w := W) (a := ⟨g, i * 10 + 1, none⟩) hgr).trans (hr 1 _ rfl)
   have k9 : wr.cell? ⟨b3, 9, none⟩ = some (.slice ak 1 ck) := (blk_cell hbx 9).trans rfl
   have hne := HKEY.out _ (List.getElem_mem hlt)
   generalize l[i].key = x at *
   have hs : ((strOfNums [(x : Int)]).toList == (strOfNums [(k : Int)]).toList) = false := by
    rw [ByteArray.toList_eq, ByteArray.toList_eq]
    exact beq_eq_false_iff_ne.2 (fun h => hne.1 (strOf_inj hne.2 hk2 h))
   have hok1 := hok.below BW.out (Nat.le_refl _)
   have hk1 := HK.out.below BW.out (Nat.le_refl _)
   clear hr hok hbr hbx hne
   go_upto_region 6 with fail
   refine wp_region_plan_kept (fun w' => w'.cell? ⟨lb, 1, none⟩ = some (.slice (some ⟨g, 0, none⟩) l.length c) ∧ w'.cell? ⟨g, i * 10 + 1, none⟩ = some (.slice oak 1 ock) ∧ Bytes w' oak [(x : Int)] ∧ w'.cell? ⟨b3, 9, none⟩ = some (.slice ak 1 ck) ∧ Bytes w' ak [(k : Int)]) [(1,0),(1,1),(1,2),(0,3),(1,4),(1,5),(1,6),(0,7),(0,8),(1,9),(0,10),(0,11),(1,12)] (by kernel_rfl) (by kernel_rfl) (by kernel_rfl) (by kernel_rfl) (fun _ _ _ _ _ h => h) ⟨c1, k1, hok1, k9, hk1⟩ ?_
   simp only [tagged, List.filterMap_cons, List.filterMap_nil, List.getElem?_toArray, List.getElem?_cons_succ, List.getElem?_cons_zero, Option.map_some]
   iterate 3 (with_reducible refine wpKept_sure (fun K hK => ?_); go_simp; with_reducible refine hK _ ?_; clear hK K)
   refine wpKept_take (fun K hK => ?_)
   rw [if_pos (by rfl)]
   apply Exists.intro
   refine ⟨fun w' hw' => ?_, hK _ ?_⟩
   ·obtain ⟨j0, _⟩ := hw'
    go_simp
    rfl
   clear hK K
   iterate 3 (with_reducible refine wpKept_sure (fun K hK => ?_); go_simp; with_reducible refine hK _ ?_; clear hK K)
   refine wpKept_take (fun K hK => ?_)
   rw [if_pos (by rfl)]
   apply Exists.intro
   refine ⟨fun w' hw' => ?_, hK _ ?_⟩
   ·obtain ⟨_, j0, _⟩ := hw'
    go_simp
    rfl
   clear hK K
   refine wpKept_take (fun K hK => ?_)
   rw [if_pos (by rfl)]
   apply Exists.intro
   refine ⟨fun w' hw' => ?_, hK _ ?_⟩
   ·have j0 : (convert 39 9 (.slice oak 1 ock)).run Tryz.prog w' = .ok (.string (strOfNums [(x : Int)])) w' := conv_bytes hw'.2.2.1 ock
    go_simp
    rfl
   clear hK K
   iterate 1 (with_reducible refine wpKept_sure (fun K hK => ?_); go_simp; with_reducible refine hK _ ?_; clear hK K)
   refine wpKept_take (fun K hK => ?_)
   rw [if_pos (by rfl)]
   apply Exists.intro
   refine ⟨fun w' hw' => ?_, hK _ ?_⟩
   ·obtain ⟨_, _, _, j0, _⟩ := hw'
    go_simp
    rfl
   clear hK K
   refine wpKept_take (fun K hK => ?_)
   rw [if_pos (by rfl)]
   apply Exists.intro
   refine ⟨fun w' hw' => ?_, hK _ ?_⟩
   ·have j0 : (convert 39 9 (.slice ak 1 ck)).run Tryz.prog w' = .ok (.string (strOfNums [(k : Int)])) w' := conv_bytes hw'.2.2.2.2 ck
    go_simp
    rfl
   clear hK K
   iterate 1 (with_reducible refine wpKept_sure (fun K hK => ?_); go_simp; with_reducible refine hK _ ?_; clear hK K)
   refine wpKept_nil ?_
   go_wp2_with fail
   go_roundg (l.length - (i + 1))
   case measure => have := HKK.out; omega
   case rel => exact ⟨i + 1, by go_num, ⟨rfl⟩, ⟨by omega⟩, ⟨HB.out.drew⟩⟩
  ·have hi : i = l.length := by have := HI.out; omega
   subst hi
   have c0 : wr.cell? ⟨lb, 0, none⟩ = some (.slice (some ⟨gp, 0, none⟩) ps.length cp) := (blk_cell hbr 0).trans rfl
   have k3 : wr.cell? ⟨b3, 3, none⟩ = some (.int .u32 ((l.length : Int) + 1)) := (blk_cell hbx 3).trans rfl
   have k10 : wr.cell? ⟨b3, 10, none⟩ = some (.slice (some ⟨gd, od, none⟩) 1 cd) := (blk_cell hbx 10).trans rfl
   have kd : wr.cell? ⟨gd, od, none⟩ = some (.int .u8 d) := (World.cell?_of_block (w := W) (a := ⟨gd, od, none⟩) (BW.out.block gd hdl)).trans HF2.out
   have hwd : IntKind.i64.wrap (d : Int) = d := by simp [IntKind.wrap, IntKind.bits, IntKind.signed]; omega
   have hn5 : decide ((l.length : Int) < 500) = true := by simp; omega
   have hdm : decide ((d : Int) < (ps.length : Int)) = true := by simp; omega
   clear hbr hbx
   generalize ps.length = m at *
   generalize l.length = n at *
   go_upto_region 8 with fail
   refine wp_region_plan_kept (fun w' => w'.cell? ⟨lb, 0, none⟩ = some (.slice (some ⟨gp, 0, none⟩) m cp) ∧ w'.cell? ⟨b3, 3, none⟩ = some (.int .u32 ((n : Int) + 1)) ∧ w'.cell? ⟨b3, 10, none⟩ = some (.slice (some ⟨gd, od, none⟩) 1 cd) ∧ w'.cell? ⟨gd, od, none⟩ = some (.int .u8 d)) [(1,0),(0,1),(1,2),(1,3),(1,4),(1,5),(1,6),(1,7),(1,8),(1,9),(1,10),(1,11),(0,12),(1,13),(1,14),(1,15),(1,16),(1,17),(0,18),(1,19),(0,20),(1,21),(1,22),(1,23),(1,24),(0,25),(1,26),(1,27),(1,28),(1,29)] (by kernel_rfl) (by kernel_rfl) (by kernel_rfl) (by kernel_rfl) (fun _ _ _ _ _ h => h) ⟨c0, k3, k10, kd⟩ ?_
   simp only [tagged, List.filterMap_cons, List.filterMap_nil, List.getElem?_toArray, List.getElem?_cons_succ, List.getElem?_cons_zero, Option.map_some]
   clear c0 k3 k10 kd
   iterate 1 (with_reducible refine wpKept_sure (fun K hK => ?_); go_simp; with_reducible refine hK _ ?_; clear hK K)
   refine wpKept_take (fun K hK => ?_)
   rw [if_pos (by rfl)]
   apply Exists.intro
   refine ⟨fun w' hw' => ?_, hK _ ?_⟩
   ·obtain ⟨j0, j3, j10, jd⟩ := hw'
    go_simp
    rfl
   clear hK K
   iterate 10 (with_reducible refine wpKept_sure (fun K hK => ?_); go_simp; with_reducible refine hK _ ?_; clear hK K)
   refine wpKept_take (fun K hK => ?_)
   rw [if_pos (by rfl)]
   apply Exists.intro
   refine ⟨fun w' hw' => ?_, hK _ ?_⟩
   ·obtain ⟨j0, j3, j10, jd⟩ := hw'
    go_simp
    rfl
   clear hK K
   iterate 5 (with_reducible refine wpKept_sure (fun K hK => ?_); go_simp; with_reducible refine hK _ ?_; clear hK K)
   refine wpKept_take (fun K hK => ?_)
   rw [if_pos (by rfl)]
   apply Exists.intro
   refine ⟨fun w' hw' => ?_, hK _ ?_⟩
   ·obtain ⟨j0, j3, j10, jd⟩ := hw'
    go_simp
    rfl
   clear hK K
   iterate 1 (with_reducible refine wpKept_sure (fun K hK => ?_); go_simp; with_reducible refine hK _ ?_; clear hK K)
   refine wpKept_take (fun K hK => ?_)
   rw [if_pos (by rfl)]
   apply Exists.intro
   refine ⟨fun w' hw' => ?_, hK _ ?_⟩
   ·obtain ⟨j0, j3, j10, jd⟩ := hw'
    go_simp
    rfl
   clear hK K
   iterate 4 (with_reducible refine wpKept_sure (fun K hK => ?_); go_simp; with_reducible refine hK _ ?_; clear hK K)
   refine wpKept_take (fun K hK => ?_)
   rw [if_pos (by rfl)]
   apply Exists.intro
   refine ⟨fun w' hw' => ?_, hK _ ?_⟩
   ·obtain ⟨j0, j3, j10, jd⟩ := hw'
    go_simp
    rfl
   clear hK K
   iterate 4 (with_reducible refine wpKept_sure (fun K hK => ?_); go_simp; with_reducible refine hK _ ?_; clear hK K)
   refine wpKept_nil ?_
   go_wp2_with fail
   go_ret
   exact ⟨rfl, BW.out.drew⟩
end Go.Proofs.YthfjhgdiakciaaaGreat.Bl
