/- Steps in new memory (ledger.own). Condition: the plan lies in memory as it is told. -/
import Derived.Test.YthfjhgdiakciaaaGreatM09
import Derived.Test.YthfjhgdiakciaaaGreatM19
namespace Go.Proofs.YthfjhgdiakciaaaGreat.Bl
open Go.RowKit Go.Maps
set_option linter.unusedVariables false
set_option linter.unusedSimpArgs false
theorem wpList_build94 {ops : Array Oper} {rest : List Oper} {o : Oper} {a : Act} {w : World} {Q : Exit → Act → World → Prop} (hgd : o.guard = none) (x : Operand) (ho : o.op = .buildSlice 94 1 #[(0, x)]) (cs : List Value) (hx : a.eval x = .agg cs.toArray) (hl : cs.length = 6)
  (h : wpList Tryz.prog ops Q rest (a.put o.dst (.slice (some ⟨w.heap.size, 0, none⟩) 1 1)) (w.alloc (.cells cs.toArray 112 (0, 0)))) : wpList Tryz.prog ops Q (o :: rest) a w := by
 obtain ⟨i1, hi1, ha0, ha1, ha2⟩ := info_parts info112
 refine wpList_buildRow hgd 94 112 1 _ ho 6 i1 _ Tryz.underlying94 hi1 ha0 ha1 (by omega) (by omega) [.agg cs.toArray] (by simp [hx]) rfl (fun v hv => ?_) ?_
 ·rw [List.mem_singleton.1 hv]; simpa [Value.cells] using hl
 ·simpa [Value.cells] using h
theorem PlanAt.app {W' : World} {own' : Nat → Prop} {l : List Stp} {g cap : Nat} {o : Stp} {c : List Value} {cs : List (List Value)} (h1 : cs.length = l.length)
  (h4 : ∀ (i : Nat) (o : Stp), l[i]? = some o → ∃ c, cs[i]? = some c ∧ StpAt W' (fun k => own' k ∧ ¬ (Value.slice (some ⟨g, 0, none⟩) (l.length + 1) cap).ownBlock = some k) o c)
  (hn : W'.ownsRow 0 112 6 (.slice (some ⟨g, 0, none⟩) (l.length + 1) cap) (l.length + 1) (cs.flatten ++ c)) (hg : own' g) (he : StpAt W' (fun k => own' k ∧ ¬ (Value.slice (some ⟨g, 0, none⟩) (l.length + 1) cap).ownBlock = some k) o c) : PlanAt W' own' (.slice (some ⟨g, 0, none⟩) (l.length + 1) cap) (l ++ [o]) := by
 refine ⟨cs ++ [c], by simp [h1], ?_, fun g' hg' => by rw [← ob_eq hg']; exact hg, fun i x hx => ?_⟩
 ·have e1 : (cs ++ [c]).flatten = cs.flatten ++ c := by simp
  rw [e1, List.length_append]
  exact hn
 ·by_cases hi : i < l.length
  ·rw [List.getElem?_append_left hi] at hx
   obtain ⟨y, a, b⟩ := h4 i x hx
   exact ⟨y, by rw [List.getElem?_append_left (by omega)]; exact a, b⟩
  ·have : i = l.length := by
    have := (List.getElem?_eq_some_iff.1 hx).1
    rw [List.length_append] at this
    simp at this
    omega
   subst this
   rw [List.getElem?_append_right (Nat.le_refl _), Nat.sub_self] at hx
   obtain rfl : o = x := by simpa using hx
   exact ⟨c, by rw [List.getElem?_append_right (by omega), h1, Nat.sub_self]; rfl, he⟩
def NewPlan (W W' : World) (e : Ending) (p : List Stp) : Prop := ∃ v, e = .returned v ∧ PlanAt W' (fun k => W.heap.size ≤ k ∧ k < W'.heap.size) v p ∧ Below W.heap.size W W'
set_option maxHeartbeats 4000000 in
set_option maxRecDepth 100000 in
theorem lown_a {W : World} {own : Nat → Prop} {v : Value} {p : List Stp} (h : PlanAt W own v p) (hp : PlanOk p) : Calls Tryz.prog 31 #[v] W fun e W' => NewPlan W W' e p := by
 obtain ⟨hl1, hl2, hok⟩ := hp
 obtain ⟨g, c, _, rfl, hgl, _⟩ := h.at (List.getElem?_eq_getElem (show 0 < p.length by omega))
 obtain ⟨i1, hi1, hz0, hz1, hz2⟩ := info_parts info112
 have H := As.mk h
 have HOK := As.mk hok
 clear h hok
 go_enter Tryz.func31, Tryz.ntmps31
 go_wp2_with fail
 go_loopg [3, 8] p.length (fun gk v3 v8 w' => ∃ (i : Nat) (v : Value), v8 = .int .i64 i ∧ v3 = v ∧ As (gk = p.length - i) ∧ As (i ≤ p.length) ∧ As (PlanAt w' (fun k => W.heap.size ≤ k ∧ k < w'.heap.size) v (p.take i)) ∧ As (Below W.heap.size W w'))
 case atStart => exact ⟨0, _, rfl, rfl, ⟨rfl⟩, ⟨Nat.zero_le _⟩, ⟨⟨[], rfl, World.ownsRow_nil _ _ _ _, fun g hg => by simp [Value.ownBlock] at hg, fun i s hs => by simp at hs⟩⟩, ⟨Below.refl _ _⟩⟩
 case round =>
  obtain ⟨i, v, rfl, hv3, HK, HI, HR, HB⟩ := hrel
  have hv3 := hv3.symm
  subst hv3
  have hs := HB.out.size
  by_cases hlt : i < p.length
  ·obtain ⟨g', c', x, hv, _, _, hx, hr⟩ := H.out.at (List.getElem?_eq_getElem hlt)
   injection hv with e1 _ e2
   injection e1 with e1
   injection e1 with e1
   subst e1 e2
   have hr1 := As.mk (range_heap hr (HB.out.block g hgl))
   obtain ⟨a, k, rfl, hb, hnk, _⟩ := hx
   have HTK : As (p.take (i + 1) = p.take i ++ [p[i]]) := ⟨by rw [List.take_add_one, List.getElem?_eq_getElem hlt]; rfl⟩
   have hkind := (HOK.out _ (List.getElem_mem hlt)).kind
   have hnl : p[i].name.length ≤ 3 := by
    rcases hkind with ⟨_, _, _, h⟩ | ⟨_, _, h⟩ | ⟨_, _, _, h⟩ | ⟨_, _, h⟩
    ·exact h.2.1
    ·rw [h]; simp
    ·rw [h]; simp
    ·exact h.2.1
   have HBY : As (∀ w, Below W.heap.size W w → Bytes w a p[i].name) := ⟨fun w hw => hb.below hw (Nat.le_refl _)⟩
   have HBO := As.mk hb.1
   obtain ⟨cs, r1, r2, r3, r4⟩ := HR.out
   have htl : (p.take i).length = i := by rw [List.length_take]; omega
   obtain ⟨A, cv, rfl⟩ : ∃ A cv, v = .slice A i cv := by
    rw [htl] at r2
    rcases r2.2 with ⟨hv, h0⟩ | ⟨g, cap, _, hv, _⟩
    ·rw [h0]; exact ⟨_, _, hv⟩
    ·exact ⟨_, _, hv⟩
   have R1 := As.mk r1
   have R2 := As.mk r2
   have R3 : As (∀ q, (Value.slice A i cv).ownBlock = some q → W.heap.size ≤ q ∧ q < wr.heap.size) := ⟨r3⟩
   have R4 := As.mk r4
   have HTL := As.mk htl
   obtain ⟨M, hM⟩ : ∃ M, M = p.take i := ⟨_, rfl⟩
   obtain ⟨M', hM'⟩ : ∃ M', M' = p.take (i + 1) := ⟨_, rfl⟩
   have HM' := As.mk hM'
   rw [← hM] at R1 R2 R4 HTL HTK
   rw [← hM'] at HTK
   clear hr hb hnk hkind r1 r2 r3 r4 htl hM hM'
   unfold stC at hr1
   generalize p[i] = s at *
   obtain ⟨nm, hnm⟩ : ∃ nm, nm = s.name := ⟨_, rfl⟩
   have HNM := As.mk hnm
   rw [← hnm] at HBY HBO hr1 hnl
   clear hnm
   go_upto_region 5 with (refine wpList_load_mid rfl 112 (.tmp 10) rfl g (i * 6) rfl _ _ hr1.out Tryz.underlying112 rfl size112 ?_)
   obtain ⟨b5, hb5⟩ : ∃ b5, b5 = wr.heap.size := ⟨_, rfl⟩
   have h5 : As ((wr.alloc (.cells #[.int .i64 s.what, .int .i64 s.n, .slice a nm.length k, .int .i64 2, .int .i64 5, .bool s.back] 112)).heap[b5]? = some (.cells #[.int .i64 s.what, .int .i64 s.n, .slice a nm.length k, .int .i64 2, .int .i64 5, .bool s.back] 112 (0, 0))) := ⟨by rw [hb5]; exact blk_new wr _⟩
   have B1 : As (Below wr.heap.size wr (wr.alloc (.cells #[.int .i64 s.what, .int .i64 s.n, .slice a nm.length k, .int .i64 2, .int .i64 5, .bool s.back] 112))) := ⟨(Below.refl _ wr).alloc (Nat.le_refl _) _⟩
   have hw1 : (wr.alloc (.cells #[.int .i64 s.what, .int .i64 s.n, .slice a nm.length k, .int .i64 2, .int .i64 5, .bool s.back] 112)).heap.size = b5 + 1 := by rw [hb5]; simp
   rw [← hb5]
   generalize wr.alloc (.cells #[.int .i64 s.what, .int .i64 s.n, .slice a nm.length k, .int .i64 2, .int .i64 5, .bool s.back] 112) = w1 at *
   have HB5 := As.mk hb5
   have hw1a : b5 + 1 ≤ w1.heap.size := Nat.le_of_eq hw1.symm
   have hw1b : w1.heap.size ≤ b5 + 1 := Nat.le_of_eq hw1
   have hb5l : b5 < w1.heap.size := by omega
   clear hb5 hr1 hw1
   have BW1 := As.mk (HB.out.trans (B1.out.mono hs))
   have hown : As ((w1.alloc (.cells #[] 5 (0, 0))).ownsRow W.heap.size 5 1 (.slice (some ⟨w1.heap.size, 0, none⟩) 0 0) 0 []) := ⟨World.ownsRow_lit w1 #[] 0 (by have := HB5.out; omega) (Nat.zero_le _) rfl⟩
   have Y := As.mk (HBY.out (w1.alloc (.cells #[] 5 (0, 0))) (BW1.out.alloc (by have := HB5.out; omega) _))
   have hbs : W.heap.size ≤ (w1.alloc (.cells #[] 5)).heap.size := by simp; have := HB5.out; omega
   have y2 := (blk_cell h5.out 2).trans rfl
   go_wp2_with ((at_builtin; refine wpList_append_five rfl _ _ rfl W.heap.size w1.heap.size rfl hown.out _ nm.length _ nm rfl rfl Y.out (by omega) hbs _ rfl ?_))
   intro gk ck' m q1 q2 q3 q4
   have G := As.mk (own_bytes q1 HBO.out)
   have hms := q2.size
   have hsz1 : (w1.alloc (.cells #[] 5)).heap.size = b5 + 2 := by simp; omega
   have hm5 : As (m.heap[b5]? = some (.cells #[.int .i64 s.what, .int .i64 s.n, .slice a nm.length k, .int .i64 2, .int .i64 5, .bool s.back] 112 (0, 0))) := ⟨(q2.block b5 (by omega) (fun h => by injection h with h; omega)).trans (blk_old h5.out _)⟩
   have hmo : As (∀ q, q < wr.heap.size → m.heap[q]? = wr.heap[q]?) := ⟨fun q hq => (q2.block q (by have := HB5.out; omega) (fun h => by injection h with h; have := HB5.out; omega)).trans ((Below.heap_alloc _ _ _ (by have := HB5.out; omega)).trans (B1.out.block q hq))⟩
   have hBm : As (Below W.heap.size W m) := ⟨(BW1.out.alloc (by have := HB5.out; omega) _).grown q2 hbs (fun q hq => by injection hq with hq; have := HB5.out; omega)⟩
   have hgk : b5 + 1 ≤ gk ∧ gk < m.heap.size := ⟨by omega, G.out.2.2.2.2⟩
   have hms2 : b5 + 2 ≤ m.heap.size := by omega
   clear q1 q2 q3 hown Y y2 hms hbs hsz1
   have f2 := blk_frozen hm5.out 2
   have y2 := (blk_cell hm5.out 2).trans rfl
   go_upto_region 6 with fail
   have h6 : As ((m.setCell ⟨b5, 2, none⟩ (.slice (some ⟨gk, 0, none⟩) nm.length ck')).heap[b5]? = some (.cells #[.int .i64 s.what, .int .i64 s.n, .slice (some ⟨gk, 0, none⟩) nm.length ck', .int .i64 2, .int .i64 5, .bool s.back] 112 (0, 0))) := ⟨(blk_put hm5.out 2 _).trans rfl⟩
   have hmo2 : As (∀ q, q ≠ b5 → (m.setCell ⟨b5, 2, none⟩ (.slice (some ⟨gk, 0, none⟩) nm.length ck')).heap[q]? = m.heap[q]?) := ⟨fun q hq => Below.heap_setCell _ _ _ _ hq⟩
   have hBm2 : As (Below W.heap.size W (m.setCell ⟨b5, 2, none⟩ (.slice (some ⟨gk, 0, none⟩) nm.length ck'))) := ⟨hBm.out.setCell (p := ⟨b5, 2, none⟩) (by have := HB5.out; show W.heap.size ≤ b5; omega) _⟩
   have hsz2 : (m.setCell ⟨b5, 2, none⟩ (.slice (some ⟨gk, 0, none⟩) nm.length ck')).heap.size = m.heap.size := by simp
   generalize m.setCell ⟨b5, 2, none⟩ (.slice (some ⟨gk, 0, none⟩) nm.length ck') = w2 at *
   have hsz2a : w2.heap.size ≤ m.heap.size := Nat.le_of_eq hsz2
   have hsz2b : m.heap.size ≤ w2.heap.size := Nat.le_of_eq hsz2.symm
   clear hsz2
   have hN : As (∀ q, q < wr.heap.size → w2.heap[q]? = wr.heap[q]?) := ⟨fun q hq => (hmo2.out q (by have := HB5.out; omega)).trans (hmo.out q hq)⟩
   have hGB : As (Bytes w2 (some ⟨gk, 0, none⟩) nm) := ⟨G.out.1.keep (fun q o ha hq => by injection ha with ha; injection ha with ha; subst ha; exact hmo2.out gk (by omega)) (by omega)⟩
   have RR : As ((w2.alloc (.cells #[.int .i64 s.what, .int .i64 s.n, .slice (some ⟨gk, 0, none⟩) nm.length ck', .int .i64 2, .int .i64 5, .bool s.back] 112 (0, 0))).ownsRow 0 112 6 (.slice A i cv) i cs.flatten) := ⟨by
    have h := own_keep (W' := w2) R2.out (fun q hq hl => hN.out q hl)
    rw [HTL.out] at h
    exact h.alloc _⟩
   clear f2 y2
   go_wp2_with (first | (refine wpList_load_row rfl 112 (.tmp 5) rfl b5 rfl 112 _ _ _ h6.out Tryz.underlying112 rfl size112 ?_) | (refine wpList_build94 rfl (.tmp 20) rfl [.int .i64 s.what, .int .i64 s.n, .slice (some ⟨gk, 0, none⟩) nm.length ck', .int .i64 2, .int .i64 5, .bool s.back] rfl rfl ?_) | ((at_builtin; refine wpList_append_lies _ rfl _ _ 94 rfl 0 112 i1 _ 6 64 Tryz.underlying94 hi1 hz0 hz1 hz2 rfl (by omega) _ _ _ rfl RR.out ⟨w2.heap.size, 0, none⟩ 1 1 [.int .i64 s.what, .int .i64 s.n, .slice (some ⟨gk, 0, none⟩) nm.length ck', .int .i64 2, .int .i64 5, .bool s.back] rfl rfl (World.news_of_block (blk_new w2 _)) (stC_one ⟨s.what, s.n, nm, s.back⟩ (some ⟨gk, 0, none⟩) ck') (by omega) (by unfold maxLen; omega) (by omega) (Nat.zero_le _) _ rfl ?_)))
   intro gg cap w4 q1 q2 q3 q4
   have hw2a : (w2.alloc (.cells #[.int .i64 s.what, .int .i64 s.n, .slice (some ⟨gk, 0, none⟩) nm.length ck', .int .i64 2, .int .i64 5, .bool s.back] 112)).heap.size = w2.heap.size + 1 := by simp
   have B4 : As (Below W.heap.size W w4) := ⟨(hBm2.out.alloc hBm2.out.size _).grown q2 (by have := hBm2.out.size; omega) (fun q hq => (R3.out q hq).1)⟩
   have hs4 := q2.size
   have hNN : ∀ q, q < w2.heap.size → ¬ (Value.slice A i cv).ownBlock = some q → w4.heap[q]? = w2.heap[q]? := fun q hq hne => (q2.block q (by omega) (fun h => hne h.symm)).trans (Below.heap_alloc _ _ _ hq)
   have P4 : As (PlanAt w4 (fun k => W.heap.size ≤ k ∧ k < w4.heap.size) (.slice (some ⟨gg, 0, none⟩) (i + 1) cap) M') := ⟨by
    rw [HTK.out]
    have hMl := HTL.out
    have hb5 := HB5.out
    have hggne : ∀ q, q < wr.heap.size → ¬ (Value.slice A i cv).ownBlock = some q → ¬ (Value.slice (some ⟨gg, 0, none⟩) (M.length + 1) cap).ownBlock = some q := fun q h1 h2 h3 => by
     have h3 := ob_eq h3
     rcases q3 with h | h
     ·exact h2 (h3 ▸ h)
     ·omega
    have hgkne : ¬ (Value.slice (some ⟨gg, 0, none⟩) (M.length + 1) cap).ownBlock = some gk := fun h3 => by
     have h3 := ob_eq h3
     rcases q3 with h | h
     ·have := (R3.out gg h).2; omega
     ·omega
    have key := PlanAt.app (W' := w4) (own' := fun k => W.heap.size ≤ k ∧ k < w4.heap.size) (l := M) (g := gg) (cap := cap) (o := s) (c := [.int .i64 s.what, .int .i64 s.n, .slice (some ⟨gk, 0, none⟩) nm.length ck', .int .i64 2, .int .i64 5, .bool s.back]) (cs := cs) R1.out (fun j o hj => ?_) (by rw [hMl]; exact q1) ?_ ?_
    ·rw [hMl] at key
     exact key
    ·obtain ⟨c', e1, e2⟩ := R4.out j o hj
     have e3 := e2.mono (own' := fun k => ((W.heap.size ≤ k ∧ k < wr.heap.size) ∧ ¬ (Value.slice A i cv).ownBlock = some k)) (fun q hq _ => hq)
     exact ⟨c', e1, (e3.keep (W' := w4) (fun q hq _ => (hNN q (by omega) hq.2).trans (hN.out q hq.1.2)) (by omega)).mono (fun q hq _ => ⟨⟨hq.1.1, by omega⟩, hggne q hq.1.2 hq.2⟩)⟩
    ·rcases q3 with h | h
     ·have := R3.out gg h; exact ⟨this.1, q4⟩
     ·exact ⟨by omega, q4⟩
    ·refine ⟨some ⟨gk, 0, none⟩, ck', by rw [HNM.out]; rfl, ?_, by rw [← HNM.out]; omega, fun _ q o ha => by injection ha with ha; injection ha with ha; subst ha; exact ⟨⟨by omega, by omega⟩, hgkne⟩⟩
     rw [← HNM.out]
     exact hGB.out.keep (fun q o ha hq => by injection ha with ha; injection ha with ha; subst ha; exact hNN gk (by omega) (fun h => by have := (R3.out gk h).2; omega)) (by omega)⟩
   clear q1 q2 q3 q4 hNN
   go_wp2_with fail
   go_roundg (p.length - (i + 1))
   case measure => have := HK.out; omega
   case rel => exact ⟨i + 1, _, by go_num, rfl, ⟨rfl⟩, ⟨by omega⟩, ⟨by rw [← HM'.out]; exact P4.out⟩, B4⟩
  ·have hi : i = p.length := by have := HI.out; omega
   subst hi
   go_wp2_with fail
   go_ret
   refine ⟨_, rfl, ?_, HB.out⟩
   have := HR.out
   rw [List.take_length] at this
   exact this
end Go.Proofs.YthfjhgdiakciaaaGreat.Bl
/- A ledger without orders (ledger.New). Condition: the plans lie in memory as it is told. -/
namespace Go.Proofs.YthfjhgdiakciaaaGreat.Bl
open Go.RowKit Go.Maps
set_option linter.unusedVariables false
set_option linter.unusedSimpArgs false
theorem info96 : (Tryz.prog.info? 96).map (fun i => (i.zero, i.size, i.bytes)) = some (some (.pointer none), 1, 8) := by kernel_rfl
set_option maxRecDepth 100000 in
theorem wp_build83 {o : Oper} {a : Act} {w : World} {K : Act → World → Prop} {Q : Exit → Act → World → Prop} (x : Operand) (ho : o.op = .buildSlice 83 1 #[(0, x)]) (p : Nat) (hx : a.eval x = ptrV p)
  (h : K (a.put o.dst (.slice (some ⟨w.heap.size, 0, none⟩) 1 1)) (w.alloc (.cells #[ptrV p] 96 (0, 0)))) : o.wp Tryz.prog a w K Q := by
 obtain ⟨i0, hi, hz0, hz1, hz2⟩ := info_parts info96
 refine wp_buildSlice 83 96 1 #[(0, x)] ho #[ptrV p] i0 _ Tryz.underlying83 hi hz0 (by rw [hz1]; decide) (by rw [hz1]; decide) ?_ h
 have := Great.fill_whole (s := 1) (by omega) [ptrV p] ((Array.range (1 * i0.size)).map ((Value.pointer none).cells[· % (Value.pointer none).cells.size]!)) (fun v hv => by
  rw [List.mem_singleton.1 hv]; rfl) (by simp [hz1])
 rw [hz1] at this ⊢
 refine Eq.trans ?_ (this.trans ?_)
 ·congr 1
  simp [hx]
 ·rfl
/-- Rules, none of whose blocks is the row's. -/
def RulesX (W : World) (own : Nat → Prop) (pv : Value) (ps : List (List Stp)) : Prop :=
 ∃ qs : List Nat, qs.length = ps.length ∧ W.ownsRow 0 96 1 pv ps.length (qs.map ptrV) ∧ (∀ g, pv.ownBlock = some g → own g) ∧ ∀ (i : Nat) (p : List Stp), ps[i]? = some p → ∃ q, qs[i]? = some q ∧ (own q ∧ ¬ pv.ownBlock = some q) ∧ RuleAt W (fun k => own k ∧ ¬ pv.ownBlock = some k) q p
theorem RulesX.keep {W W' : World} {own : Nat → Prop} {pv : Value} {ps : List (List Stp)} (h : RulesX W own pv ps) (hk : ∀ k, own k → k < W.heap.size → W'.heap[k]? = W.heap[k]?) (hs : W.heap.size ≤ W'.heap.size) : RulesX W' own pv ps := by
 obtain ⟨qs, h1, h2, h3, h4⟩ := h
 refine ⟨qs, h1, own_keep h2 (fun g hg hl => hk g (h3 g hg) hl), h3, fun i p hp => ?_⟩
 obtain ⟨q, a, b, c⟩ := h4 i p hp
 exact ⟨q, a, b, c.keep b (fun k hk' hl => hk k hk'.1 hl) hs⟩
theorem RulesX.out {W : World} {own : Nat → Prop} {pv : Value} {ps : List (List Stp)} (h : RulesX W own pv ps) : RulesAt W own pv ps := by
 obtain ⟨qs, h1, h2, h3, h4⟩ := h
 refine ⟨qs, h1, h2, h3, fun i p hp => ?_⟩
 obtain ⟨q, a, b, c⟩ := h4 i p hp
 exact ⟨q, a, b.1, c.mono (fun k hk _ => hk.1)⟩
theorem RulesX.app {w : World} {own : Nat → Prop} {ps : List (List Stp)} {g cap q : Nat} {p : List Stp} {qs : List Nat} (h1 : qs.length = ps.length) (h4 : ∀ (i : Nat) (p : List Stp), ps[i]? = some p → ∃ q, qs[i]? = some q ∧ (own q ∧ ¬ (Value.slice (some ⟨g, 0, none⟩) (ps.length + 1) cap).ownBlock = some q) ∧ RuleAt w (fun k => own k ∧ ¬ (Value.slice (some ⟨g, 0, none⟩) (ps.length + 1) cap).ownBlock = some k) q p)
  (hn : w.ownsRow 0 96 1 (.slice (some ⟨g, 0, none⟩) (ps.length + 1) cap) (ps.length + 1) (qs.map ptrV ++ [ptrV q])) (hg : own g) (hq : own q ∧ ¬ (Value.slice (some ⟨g, 0, none⟩) (ps.length + 1) cap).ownBlock = some q) (hr : RuleAt w (fun k => own k ∧ ¬ (Value.slice (some ⟨g, 0, none⟩) (ps.length + 1) cap).ownBlock = some k) q p) : RulesX w own (.slice (some ⟨g, 0, none⟩) (ps.length + 1) cap) (ps ++ [p]) := by
 refine ⟨qs ++ [q], by simp [h1], ?_, fun g' hg' => by rw [← ob_eq hg']; exact hg, fun i x hx => ?_⟩
 ·rw [List.length_append, List.map_append]; exact hn
 ·by_cases hi : i < ps.length
  ·rw [List.getElem?_append_left hi] at hx
   obtain ⟨y, a, b⟩ := h4 i x hx
   exact ⟨y, by rw [List.getElem?_append_left (by omega)]; exact a, b⟩
  ·have : i = ps.length := by
    have := (List.getElem?_eq_some_iff.1 hx).1
    rw [List.length_append] at this
    simp at this
    omega
   subst this
   rw [List.getElem?_append_right (Nat.le_refl _), Nat.sub_self] at hx
   obtain rfl : p = x := by simpa using hx
   exact ⟨q, by rw [List.getElem?_append_right (by omega), h1, Nat.sub_self]; rfl, hq, hr⟩
/-- A new ledger. -/
def NewLed (W W' : World) (e : Ending) (ps : List (List Stp)) : Prop :=
 ∃ lb mb pv OP, e = .returned (.tuple #[.pointer (some ⟨lb, 0, none⟩), .int .i64 0]) ∧ LedAt W' OP (fun _ => False) lb mb pv (.slice none 0 0) ps [] 0 0 0 ∧ W.heap.size ≤ lb ∧ W.heap.size ≤ mb ∧ (∀ k, OP k → W.heap.size ≤ k) ∧ Below W.heap.size W W'
theorem keys_nil : KeysAre (.map []) [] := fun k hk => by
 rw [decide_eq_false (by rintro ⟨o, ho, _⟩; cases ho)]
 rfl
set_option maxHeartbeats 4000000 in
set_option maxRecDepth 100000 in
theorem lnew_a {W : World} {own : Nat → Prop} {v : Value} {ps : List (List Stp)} (h : PlansRow W own v ps) (hps : PsOk ps) (h0 : 0 < ps.length) : Calls Tryz.prog 6 #[v] W fun e W' => NewLed W W' e ps := by
 obtain ⟨vs, h1, h2, h3, h4⟩ := h
 obtain ⟨g, c, rfl, _, hgl⟩ := h2.form (by omega)
 have hl8 := hps.len
 obtain ⟨i1, hi1, hz0, hz1, hz2⟩ := info_parts info96
 have hmm := @run_makeMap Tryz.prog
 have HV := As.mk h2
 have H4 : As (∀ w, Below W.heap.size W w → ∀ (i : Nat) (p : List Stp), ps[i]? = some p → ∃ sv, vs[i]? = some sv ∧ PlanAt w (fun k => own k ∧ ¬ (Value.slice (some ⟨g, 0, none⟩) ps.length c).ownBlock = some k) sv p) := ⟨fun w hw i p hp => by
  obtain ⟨sv, a, b⟩ := h4 i p hp
  exact ⟨sv, a, b.keep (fun k _ hk => hw.block k hk) hw.size⟩⟩
 have HPS := As.mk hps
 have hlt0 : decide ((ps.length : Int) < 1) = false := by simp; omega
 have hlt8 : decide ((8 : Int) < (ps.length : Int)) = false := by simp; omega
 clear h1 h2 h3 h4 hps
 go_enter Tryz.func6, Tryz.ntmps6
 go_wp2_with fail
 obtain ⟨lb, hlb⟩ : ∃ lb, lb = W.heap.size + 1 := ⟨_, rfl⟩
 have L0 : As (((W.alloc (.map #[] 0)).alloc (.cells #[.slice none 0 0, .slice none 0 0, .map (some W.heap.size), .int .u64 0, .int .u32 0, .int .i64 1, .int .i64 0, .int .i64 0] 93)).heap[lb]? = some (.cells #[.slice none 0 0, .slice none 0 0, .map (some W.heap.size), .int .u64 0, .int .u32 0, .int .i64 1, .int .i64 0, .int .i64 0] 93 (0, 0))) := ⟨by rw [hlb]; exact heap_alloc2_new W _ _⟩
 have M0 : As (((W.alloc (.map #[] 0)).alloc (.cells #[.slice none 0 0, .slice none 0 0, .map (some W.heap.size), .int .u64 0, .int .u32 0, .int .i64 1, .int .i64 0, .int .i64 0] 93)).heap[W.heap.size]? = some (.map #[] 0)) := ⟨heap_alloc2_old W _ _⟩
 have B0 : As (Below W.heap.size W ((W.alloc (.map #[] 0)).alloc (.cells #[.slice none 0 0, .slice none 0 0, .map (some W.heap.size), .int .u64 0, .int .u32 0, .int .i64 1, .int .i64 0, .int .i64 0] 93))) := ⟨((Below.refl _ W).alloc (Nat.le_refl _) _).alloc (by simp) _⟩
 rw [← hlb]
 have HLB := As.mk hlb
 clear hlb hmm
 generalize (W.alloc (.map #[] 0)).alloc (.cells #[.slice none 0 0, .slice none 0 0, .map (some W.heap.size), .int .u64 0, .int .u32 0, .int .i64 1, .int .i64 0, .int .i64 0] 93) = wI at *
 go_loopg [21] ps.length (fun gk v21 w' => ∃ (i : Nat) (pv : Value), v21 = .int .i64 i ∧ As (gk = ps.length - i) ∧ As (i ≤ ps.length) ∧ As (w'.heap[lb]? = some (.cells #[pv, .slice none 0 0, .map (some W.heap.size), .int .u64 0, .int .u32 0, .int .i64 1, .int .i64 0, .int .i64 0] 93 (0, 0))) ∧ As (w'.heap[W.heap.size]? = some (.map #[] 0)) ∧ As (RulesX w' (fun k => W.heap.size + 2 ≤ k ∧ k < w'.heap.size) pv (ps.take i)) ∧ As (Below W.heap.size W w'))
 case atStart => exact ⟨0, .slice none 0 0, rfl, ⟨rfl⟩, ⟨Nat.zero_le _⟩, L0, M0, ⟨[], rfl, World.ownsRow_nil _ _ _ _, fun g hg => by simp [Value.ownBlock] at hg, fun i p hp => by simp at hp⟩, B0⟩
 case round =>
  obtain ⟨i, pv, rfl, HK, HI, HL, HM, HR, HB⟩ := hrel
  have hs := HB.out.size
  by_cases hlt : i < ps.length
  ·obtain ⟨sv, hsv, _⟩ := H4.out W (Below.refl _ _) i ps[i] (List.getElem?_eq_getElem hlt)
   have c1 : wr.cell? ⟨g, i, none⟩ = some sv := by
    rw [World.cell?_of_block (w := W) (a := ⟨g, i, none⟩) (HB.out.block g hgl), HV.out.cellAt i (by omega)]
    exact hsv
   have HP : As (∀ w, Below W.heap.size W w → PlanAt w (fun k => own k ∧ ¬ (Value.slice (some ⟨g, 0, none⟩) ps.length c).ownBlock = some k) sv ps[i]) := ⟨fun w hw => by
    obtain ⟨sv', a, b⟩ := H4.out w hw i ps[i] (List.getElem?_eq_getElem hlt)
    rw [hsv] at a
    rw [Option.some.inj a]
    exact b⟩
   have HPO := As.mk (HPS.out.ok ps[i] (List.getElem_mem hlt))
   have HTK : As (ps.take (i + 1) = ps.take i ++ [ps[i]]) := ⟨by rw [List.take_add_one, List.getElem?_eq_getElem hlt]; rfl⟩
   have HTL : As ((ps.take i).length = i) := ⟨by rw [List.length_take]; omega⟩
   have hlbl := blk_lt HL.out
   clear hsv
   go_wp2_with fail
   refine (pcheck_a (HP.out wr HB.out) HPO.out).mono ?_
   rintro e w1 ⟨rfl, q1⟩
   have B1 := As.mk (HB.out.trans (q1.mono hs))
   have L1 := As.mk ((q1.block lb hlbl).trans HL.out)
   have M1 := As.mk ((q1.block W.heap.size (blk_lt HM.out)).trans HM.out)
   have R1 := As.mk (HR.out.keep (W' := w1) (fun k hk hl => q1.block k hl) q1.size)
   have hs1 := q1.size
   clear q1 c1
   go_upto_region 10 with fail
   refine wp_region_plan_held 15 (fun w' => w'.heap[lb]? = some (.cells #[pv, .slice none 0 0, .map (some W.heap.size), .int .u64 0, .int .u32 0, .int .i64 1, .int .i64 0, .int .i64 0] 93 (0, 0))) [(1,0),(1,1),(1,2),(1,3),(1,4),(0,5),(1,6),(2,7),(1,8),(2,9),(2,10),(2,11),(1,12),(1,13),(1,14),(2,15)] (by kernel_rfl) (by kernel_rfl) (by kernel_rfl) (by kernel_rfl) (fun _ _ _ _ _ h => h) L1.out ?_
   simp only [tagged, List.filterMap_cons, List.filterMap_nil, List.getElem?_toArray, List.getElem?_cons_succ, List.getElem?_cons_zero, Option.map_some]
   iterate 5 (with_reducible refine wpHeld_sure (fun K hK => ?_); go_simp; with_reducible refine hK _ ?_; clear hK K)
   refine wpHeld_take (fun K hK => ?_)
   rw [if_pos (by rfl)]
   apply Exists.intro
   refine ⟨fun w' hw' => ?_, hK _ ?_⟩
   ·have j0 := (blk_cell hw' 0).trans rfl
    go_simp
    rfl
   clear hK K
   iterate 1 (with_reducible refine wpHeld_sure (fun K hK => ?_); go_simp; with_reducible refine hK _ ?_; clear hK K)
   with_reducible refine wpHeld_next (fun K hK => ?_)
   go_simp
   refine (lown_a (HP.out w1.drew B1.out.drew) HPO.out).mono ?_
   rintro e w2 ⟨pn, rfl, hpn, q1⟩
   obtain ⟨gp, cp, _, rfl, _⟩ := hpn.at (List.getElem?_eq_getElem (show 0 < ps[i].length from HPO.out.l1))
   have PN : As (PlanAt w2 (fun k => w1.heap.size ≤ k ∧ k < w2.heap.size) (.slice (some ⟨gp, 0, none⟩) ps[i].length cp) ps[i]) := ⟨hpn⟩
   have B2 := As.mk (B1.out.drew.trans (q1.mono (B1.out.size)))
   have L2 := As.mk ((q1.block lb (blk_lt L1.out)).trans L1.out)
   have M2 := As.mk ((q1.block W.heap.size (blk_lt M1.out)).trans M1.out)
   have N2 : As (∀ k, k < w1.heap.size → w2.heap[k]? = w1.heap[k]?) := ⟨fun k hk => q1.block k hk⟩
   have hs2 : w1.heap.size ≤ w2.heap.size := q1.size
   refine hK _ _ (fun _ => L2.out) ?_
   clear hK K q1 hpn
   iterate 1 (with_reducible refine wpHeld_sure (fun K hK => ?_); go_simp; with_reducible refine hK _ ?_; clear hK K)
   with_reducible refine wpHeld_next (fun K hK => ?_)
   go_simp
   obtain ⟨q, hq⟩ : ∃ q, q = w2.heap.size := ⟨_, rfl⟩
   have A3 : As ((w2.alloc (.cells #[.slice (some ⟨gp, 0, none⟩) ps[i].length cp, .int .u32 0, .int .i32 0, .int .u32 0, .string { data := #[] }] 108)).heap[q]? = some (.cells #[.slice (some ⟨gp, 0, none⟩) ps[i].length cp, .int .u32 0, .int .i32 0, .int .u32 0, .string { data := #[] }] 108 (0, 0))) := ⟨by rw [hq]; exact blk_new w2 _⟩
   have L3 : As ((w2.alloc (.cells #[.slice (some ⟨gp, 0, none⟩) ps[i].length cp, .int .u32 0, .int .i32 0, .int .u32 0, .string { data := #[] }] 108)).heap[lb]? = some (.cells #[pv, .slice none 0 0, .map (some W.heap.size), .int .u64 0, .int .u32 0, .int .i64 1, .int .i64 0, .int .i64 0] 93 (0, 0))) := ⟨blk_old L2.out _⟩
   have hs3 : (w2.alloc (.cells #[.slice (some ⟨gp, 0, none⟩) ps[i].length cp, .int .u32 0, .int .i32 0, .int .u32 0, .string { data := #[] }] 108)).heap.size = q + 1 := by rw [hq]; simp
   have N3 : As (∀ k, k < w2.heap.size → (w2.alloc (.cells #[.slice (some ⟨gp, 0, none⟩) ps[i].length cp, .int .u32 0, .int .i32 0, .int .u32 0, .string { data := #[] }] 108)).heap[k]? = w2.heap[k]?) := ⟨fun k hk => Below.heap_alloc _ _ _ hk⟩
   have B3 : As (Below W.heap.size W (w2.alloc (.cells #[.slice (some ⟨gp, 0, none⟩) ps[i].length cp, .int .u32 0, .int .i32 0, .int .u32 0, .string { data := #[] }] 108))) := ⟨B2.out.alloc B2.out.size _⟩
   rw [← hq]
   have HQ := As.mk hq
   refine hK _ _ (fun _ => L3.out) ?_
   clear hK K hq
   generalize w2.alloc (.cells #[.slice (some ⟨gp, 0, none⟩) ps[i].length cp, .int .u32 0, .int .i32 0, .int .u32 0, .string { data := #[] }] 108) = w3 at *
   have HS3 := As.mk hs3
   clear hs3
   with_reducible refine wpHeld_next (fun K hK => ?_)
   rw [if_pos (by rfl)]
   refine wp_build83 (.tmp 39) rfl q rfl ?_
   obtain ⟨b, hb⟩ : ∃ b, b = w3.heap.size := ⟨_, rfl⟩
   have A4 : As ((w3.alloc (.cells #[ptrV q] 96 (0, 0))).heap[b]? = some (.cells #[ptrV q] 96 (0, 0))) := ⟨by rw [hb]; exact blk_new w3 _⟩
   have L4 : As ((w3.alloc (.cells #[ptrV q] 96 (0, 0))).heap[lb]? = some (.cells #[pv, .slice none 0 0, .map (some W.heap.size), .int .u64 0, .int .u32 0, .int .i64 1, .int .i64 0, .int .i64 0] 93 (0, 0))) := ⟨blk_old L3.out _⟩
   have hs4 : (w3.alloc (.cells #[ptrV q] 96 (0, 0))).heap.size = b + 1 := by rw [hb]; simp
   have N4 : As (∀ k, k < w3.heap.size → (w3.alloc (.cells #[ptrV q] 96 (0, 0))).heap[k]? = w3.heap[k]?) := ⟨fun k hk => Below.heap_alloc _ _ _ hk⟩
   have B4 : As (Below W.heap.size W (w3.alloc (.cells #[ptrV q] 96 (0, 0)))) := ⟨B3.out.alloc B3.out.size _⟩
   rw [← hb]
   have HB4 := As.mk hb
   refine hK _ _ (fun _ => L4.out) ?_
   clear hK K hb
   generalize w3.alloc (.cells #[ptrV q] 96 (0, 0)) = w4 at *
   obtain ⟨qs, r1, r2, r3, r4⟩ := R1.out
   have hv3 : ∀ k, pv.ownBlock = some k → W.heap.size + 2 ≤ k ∧ k < w1.heap.size := fun k hk => ⟨(r3 k hk).1, Nat.lt_of_lt_of_le (r3 k hk).2 hs1⟩
   have R4 : As (w4.ownsRow 0 96 1 pv i (qs.map ptrV)) := ⟨by
    have h := own_keep (W' := w4) r2 (fun k hk hl => (N4.out k (by have := HS3.out; have := HQ.out; omega)).trans ((N3.out k (by omega)).trans (N2.out k hl)))
    rwa [HTL.out] at h⟩
   with_reducible refine wpHeld_next (fun K hK => ?_)
   refine step_append_lies w4 (by rfl) _ _ _ (by rfl) 0 96 i1 _ 1 8 Tryz.underlying83 hi1 hz0 hz1 hz2 (by rfl) (by omega) pv i (qs.map ptrV) (by rfl) R4.out ⟨b, 0, none⟩ 1 1 [ptrV q] (by rfl) rfl (World.news_of_block A4.out) (fun v hv => by rw [List.mem_singleton.1 hv]; rfl) (by omega) (by unfold maxLen; omega) (by omega) (Nat.zero_le _) (b + 1) hs4 ?_
   intro gg cap w5 hown hgrow hat hlt5
   have hpvlb : ¬ pv.ownBlock = some lb := fun h => by have := hv3 lb h; have := HLB.out; omega
   have L5 : As (w5.heap[lb]? = some (.cells #[pv, .slice none 0 0, .map (some W.heap.size), .int .u64 0, .int .u32 0, .int .i64 1, .int .i64 0, .int .i64 0] 93 (0, 0))) := ⟨(hgrow.block lb (blk_lt L4.out) (fun h => hpvlb h.symm)).trans L4.out⟩
   refine hK _ _ (fun _ => L5.out) ?_
   clear hK K
   have N5 : As (∀ k, k < w4.heap.size → ¬ pv.ownBlock = some k → w5.heap[k]? = w4.heap[k]?) := ⟨fun k hk hne => hgrow.block k hk (fun h => hne h.symm)⟩
   have B5 : As (Below W.heap.size W w5) := ⟨B4.out.grown hgrow B4.out.size (fun k hk => by have := hv3 k hk; omega)⟩
   have HO5 := As.mk hown
   have HA5 := As.mk hat
   have HL5 := As.mk hlt5
   have HG5 := As.mk hgrow.size
   have HV3 := As.mk hv3
   have RQ := As.mk (And.intro r1 r4)
   have HS4 := As.mk hs4
   clear hown hgrow hat hlt5 r1 r2 r3 r4 hs4 hv3
   iterate 3 (with_reducible refine wpHeld_sure (fun K hK => ?_); go_simp; with_reducible refine hK _ ?_; clear hK K)
   have c0 := (blk_cell L5.out 0).trans rfl
   have f0 := blk_frozen L5.out 0
   with_reducible refine wpHeld_next (fun K hK => ?_)
   go_simp
   refine hK _ _ (fun h => absurd rfl h) ?_
   clear hK K c0 f0
   refine wpHeld_nil ?_
   have L6 : As ((w5.setCell ⟨lb, 0, none⟩ (.slice (some ⟨gg, 0, none⟩) (i + 1) cap)).heap[lb]? = some (.cells #[.slice (some ⟨gg, 0, none⟩) (i + 1) cap, .slice none 0 0, .map (some W.heap.size), .int .u64 0, .int .u32 0, .int .i64 1, .int .i64 0, .int .i64 0] 93 (0, 0))) := ⟨(blk_put L5.out 0 _).trans rfl⟩
   have N6 : As (∀ k, k ≠ lb → (w5.setCell ⟨lb, 0, none⟩ (.slice (some ⟨gg, 0, none⟩) (i + 1) cap)).heap[k]? = w5.heap[k]?) := ⟨fun k hk => Below.heap_setCell _ _ _ _ hk⟩
   have B6 : As (Below W.heap.size W (w5.setCell ⟨lb, 0, none⟩ (.slice (some ⟨gg, 0, none⟩) (i + 1) cap))) := ⟨B5.out.setCell (p := ⟨lb, 0, none⟩) (by have := HLB.out; show W.heap.size ≤ lb; omega) _⟩
   have S6 : As ((w5.setCell ⟨lb, 0, none⟩ (.slice (some ⟨gg, 0, none⟩) (i + 1) cap)).heap.size = w5.heap.size) := ⟨by simp⟩
   generalize w5.setCell ⟨lb, 0, none⟩ (.slice (some ⟨gg, 0, none⟩) (i + 1) cap) = w6 at *
   have FIN : As (RulesX w6 (fun k => W.heap.size + 2 ≤ k ∧ k < w6.heap.size) (.slice (some ⟨gg, 0, none⟩) (i + 1) cap) (ps.take (i + 1)) ∧ w6.heap[W.heap.size]? = some (.map #[] 0)) := ⟨by
    obtain ⟨r1, r4⟩ := RQ.out
    have hq := HQ.out
    have hb := HB4.out
    have e3 := HS3.out
    have e4 := HS4.out
    have e5 := HG5.out
    have e6 := S6.out
    have elb := HLB.out
    have hv3 := HV3.out
    have hWs := B1.out.size
    have hw1 : W.heap.size + 2 ≤ w1.heap.size := by have := blk_lt L1.out; omega
    have nn : ∀ k, k < w4.heap.size → k ≠ lb → ¬ pv.ownBlock = some k → w6.heap[k]? = w4.heap[k]? := fun k a b d => (N6.out k b).trans (N5.out k a d)
    have old : ∀ k, k < w1.heap.size → k ≠ lb → ¬ pv.ownBlock = some k → w6.heap[k]? = w1.heap[k]? := fun k a b d => (nn k (by omega) b d).trans ((N4.out k (by omega)).trans ((N3.out k (by omega)).trans (N2.out k a)))
    have new2 : ∀ k, w1.heap.size ≤ k → k < w2.heap.size → w6.heap[k]? = w2.heap[k]? := fun k a b => (nn k (by omega) (by omega) (fun h => by have := hv3 k h; omega)).trans ((N4.out k (by omega)).trans (N3.out k b))
    have ggnew : ∀ k, w1.heap.size ≤ k → k ≤ b → ¬ (Value.slice (some ⟨gg, 0, none⟩) ((ps.take i).length + 1) cap).ownBlock = some k := fun k h1 h2 h3 => by
     have h3 := ob_eq h3
     rcases HA5.out with h | h
     ·have := hv3 gg h; omega
     ·omega
    refine ⟨?_, ?_⟩
    ·rw [HTK.out]
     have hx := RulesX.app (w := w6) (own := fun k => W.heap.size + 2 ≤ k ∧ k < w6.heap.size) (ps := ps.take i) (g := gg) (cap := cap) (q := q) (p := ps[i]) (qs := qs) r1 (fun j p hp => ?_) ?_ ?_ ?_ ?_
     ·rw [HTL.out] at hx
      exact hx
     ·obtain ⟨q', a, b, d⟩ := r4 j p hp
      have ggne : ∀ k, k < w1.heap.size → ¬ pv.ownBlock = some k → ¬ (Value.slice (some ⟨gg, 0, none⟩) ((ps.take i).length + 1) cap).ownBlock = some k := fun k h1 h2 h3 => by
       have h3 := ob_eq h3
       rcases HA5.out with h | h
       ·exact h2 (h3 ▸ h)
       ·omega
      refine ⟨q', a, ⟨⟨b.1.1, by omega⟩, ggne q' (Nat.lt_of_lt_of_le b.1.2 hs1) b.2⟩, ?_⟩
      exact (d.keep (W' := w6) b (fun k hk _ => old k (Nat.lt_of_lt_of_le hk.1.2 hs1) (by omega) hk.2) (by omega)).mono (fun k hk _ => ⟨⟨hk.1.1, by omega⟩, ggne k (Nat.lt_of_lt_of_le hk.1.2 hs1) hk.2⟩)
     ·rw [HTL.out]
      exact own_keep HO5.out (fun k hk _ => N6.out k (fun h => by
       have := ob_eq hk
       rcases HA5.out with h' | h'
       ·have := hv3 gg h'; omega
       ·omega))
     ·rcases HA5.out with h | h
      ·have := hv3 gg h; exact ⟨by omega, by have := HL5.out; omega⟩
      ·exact ⟨by omega, by have := HL5.out; omega⟩
     ·exact ⟨⟨by omega, by omega⟩, ggnew q (by omega) (by omega)⟩
     ·refine ⟨_, _, _, _, _, (nn q (by omega) (by omega) (fun h => by have := hv3 q h; omega)).trans ((N4.out q (by omega)).trans A3.out), (PN.out.keep (W' := w6) (fun k hk _ => new2 k hk.1 hk.2) (by omega)).mono (fun k hk _ => ⟨⟨by omega, by omega⟩, ggnew k hk.1 (by omega)⟩)⟩
    ·exact (old W.heap.size (by omega) (by omega) (fun h => by have := hv3 _ h; omega)).trans M1.out⟩
   go_wp2_with fail
   go_roundg (ps.length - (i + 1))
   case measure => have := HK.out; omega
   case rel => exact ⟨i + 1, .slice (some ⟨gg, 0, none⟩) (i + 1) cap, by go_num, ⟨rfl⟩, ⟨by omega⟩, L6, ⟨FIN.out.2⟩, ⟨FIN.out.1⟩, B6⟩
  ·have hi : i = ps.length := by have := HI.out; omega
   subst hi
   go_wp2_with fail
   go_ret2
   have hR := HR.out
   rw [List.take_length] at hR
   have hlb := HLB.out
   have hlbl := blk_lt HL.out
   refine ⟨lb, W.heap.size, pv, fun k => W.heap.size + 2 ≤ k ∧ k < wr.heap.size, rfl, ⟨HL.out, hR.out, OrsAt.nil _ _ _ _ _, ⟨.map [], ?_, keys_nil⟩, ⟨id, id, fun h => by omega, fun h => by omega⟩, fun _ _ h => h, fun k hk => hk.2, fun _ h => h.elim⟩, by omega, Nat.le_refl _, fun k hk => by omega, HB.out⟩
   exact ownsMap_keep (World.ownsMap_made W Tryz.prog 9 (plainElem Tryz.prog 38)) (by rw [HM.out]; exact (blk_new W _).symm)
end Go.Proofs.YthfjhgdiakciaaaGreat.Bl
/- May an entry stand behind those of a segment (fits)? Condition: it may. -/
namespace Go.Proofs.YthfjhgdiakciaaaGreat.Bl
open Go.RowKit
set_option linter.unusedVariables false
set_option linter.unusedSimpArgs false
section
variable {W : World} {own oe : Nat → Prop} {p : Nat} {s : Seg} {img : List Int} {ends : List Nat} {ve vl : Value} {e : Ent} {c : List Value}
theorem fits_first (h : SegAt W own p s img ends ve vl) (h0 : s.l = []) (hc : EntAt W oe e c) (hl : e.lsn = (s.first : Int)) :
  Calls Tryz.prog 71 #[.pointer (some ⟨p, 0, none⟩), .agg c.toArray] W fun x W' => x = .returned (.bool true) ∧ Below W.heap.size W W' := by
 obtain ⟨k0, k1, k3, k4⟩ := h.cells
 obtain ⟨cs, _, hrow, _⟩ := h.l
 obtain ⟨A, cl, rfl⟩ : ∃ A cl, vl = .slice A 0 cl := by
  rw [h0] at hrow
  rcases hrow.2 with ⟨hv, h1⟩ | ⟨g, cap, _, hv, _⟩
  ·exact ⟨none, 0, hv⟩
  ·exact ⟨_, _, hv⟩
 have hpl := h.lt
 have hc1 : c.toArray[1]? = some (.int .u64 (s.first : Int)) := by
  obtain ⟨_, _, _, _, rfl, _⟩ := hc
  rw [← hl]
  rfl
 clear h hrow hc
 go_enter Tryz.func71, Tryz.ntmps71
 go_upto_region 2 with fail
 obtain ⟨b3, hb3⟩ : ∃ b3, b3 = W.heap.size := ⟨_, rfl⟩
 have h3 : As ((W.alloc (.cells c.toArray 41)).heap[b3]? = some (.cells c.toArray 41 (0, 0))) := ⟨by rw [hb3]; exact blk_new W _⟩
 have B0 : As (Below W.heap.size W (W.alloc (.cells c.toArray 41))) := ⟨(Below.refl _ W).alloc (Nat.le_refl _) _⟩
 have d1 : (W.alloc (.cells c.toArray 41)).cell? ⟨p, 1, none⟩ = some (.int .u64 s.first) := by rw [World.cell?_alloc_lt _ _ _ hpl]; exact k1
 rw [← hb3]
 generalize W.alloc (.cells c.toArray 41) = w0 at *
 have d3 : w0.cell? ⟨b3, 1, none⟩ = some (.int .u64 s.first) := by rw [blk_cell h3.out]; exact hc1
 clear hb3 k0 k1 k3 k4
 go_region
 go_wp2_with fail
 go_ret
 exact ⟨rfl, B0.out.drew⟩
set_option maxHeartbeats 4000000 in
set_option maxRecDepth 100000 in
theorem fits_next (h : SegAt W own p s img ends ve vl) {n : Nat} {l : Ent} (hn : s.l.length = n + 1) (hnb : n < 100000) (hgl : s.l[n]? = some l) (hok : EntOk l) (hoe : EntOk e) (hc : EntAt W oe e c) (hl : e.lsn = l.lsn + 1) :
  Calls Tryz.prog 71 #[.pointer (some ⟨p, 0, none⟩), .agg c.toArray] W fun x W' => x = .returned (.bool true) ∧ Below W.heap.size W W' := by
 obtain ⟨k0, k1, k3, k4⟩ := h.cells
 obtain ⟨cs, _, hrow, _⟩ := h.l
 obtain ⟨g, cl, rfl, _, hgll⟩ := hrow.form (by omega)
 obtain ⟨x, hx, hr⟩ := h.l.at hgl
 have HX := As.mk hx
 have HR := As.mk hr
 have HC := As.mk hc
 have hxl := hx.len
 have hcl := hc.len
 have hpl := h.lt
 have HOK := As.mk hok
 have HOE := As.mk hoe
 have HL := As.mk hl
 clear h hrow hx hr hc hgl hok hoe hl
 have hwn : IntKind.i64.wrap (n : Int) = n := by simp [IntKind.wrap, IntKind.bits, IntKind.signed]; omega
 rw [hn] at *
 go_enter Tryz.func71, Tryz.ntmps71
 go_upto_region 3 with fail
 obtain ⟨b3, hb3⟩ : ∃ b3, b3 = W.heap.size := ⟨_, rfl⟩
 have h3 : As ((W.alloc (.cells c.toArray 41)).heap[b3]? = some (.cells c.toArray 41 (0, 0))) := ⟨by rw [hb3]; exact blk_new W _⟩
 have B0 : As (Below W.heap.size W (W.alloc (.cells c.toArray 41))) := ⟨(Below.refl _ W).alloc (Nat.le_refl _) _⟩
 have d4 : (W.alloc (.cells c.toArray 41)).cell? ⟨p, 1027, none⟩ = some (.slice (some ⟨g, 0, none⟩) (n + 1) cl) := by rw [World.cell?_alloc_lt _ _ _ hpl]; exact k4
 have hr0 : (W.alloc (.cells c.toArray 41)).rangeAt g (n * 11) x := range_heap HR.out (Below.heap_alloc _ _ _ hgll)
 rw [← hb3]
 generalize W.alloc (.cells c.toArray 41) = w0 at *
 clear hb3 k0 k1 k3 k4
 refine wp_region_plan_kept (fun w' => w'.cell? ⟨p, 1027, none⟩ = some (.slice (some ⟨g, 0, none⟩) (n + 1) cl) ∧ w'.rangeAt g (n * 11) x ∧ w'.heap[b3]? = some (.cells c.toArray 41 (0, 0))) [(1,0),(1,1),(1,2),(0,3),(1,4),(1,5),(1,6),(0,7),(1,8),(1,9),(1,10),(0,11),(0,12),(2,13),(2,14)] (by kernel_rfl) (by kernel_rfl) (by kernel_rfl) (by kernel_rfl) (fun _ _ _ _ _ h => h) ⟨d4, hr0, h3.out⟩ ?_
 simp only [tagged, List.filterMap_cons, List.filterMap_nil, List.getElem?_toArray, List.getElem?_cons_succ, List.getElem?_cons_zero, Option.map_some]
 iterate 3 (refine wpKept_sure (fun K hK => ?_); go_simp; refine hK _ ?_; clear hK K)
 refine wpKept_take (fun K hK => ?_)
 rw [if_pos (by rfl)]
 apply Exists.intro
 refine ⟨fun w' hw' => ?_, hK _ ?_⟩
 ·obtain ⟨s0, _, _⟩ := hw'
  go_simp
  rfl
 clear hK K
 iterate 3 (refine wpKept_sure (fun K hK => ?_); go_simp; refine hK _ ?_; clear hK K)
 refine wpKept_take (fun K hK => ?_)
 rw [if_pos (by rfl)]
 apply Exists.intro
 refine ⟨fun w' hw' => ?_, hK _ ?_⟩
 ·obtain ⟨s0, _, _⟩ := hw'
  go_simp
  rfl
 clear hK K
 iterate 2 (refine wpKept_sure (fun K hK => ?_); go_simp; refine hK _ ?_; clear hK K)
 refine wpKept_sure (fun K hK => ?_); go_simp
 have hcond : (0 : Int) ≤ n ∧ (n : Int) < (n : Int) + 1 := ⟨by omega, by omega⟩
 simp only [hcond, and_self, if_true]
 refine ⟨.pointer (some ⟨g, n * 11, none⟩), fun w' => by simp, hK _ ?_⟩
 clear hK K hcond
 refine wpKept_take (fun K hK => ?_)
 rw [if_pos (by rfl)]
 refine ⟨.agg x.toArray, fun w' hw' => ?_, hK _ ?_⟩
 ·exact exec_load_mid _ _ _ 41 (.tmp 28) rfl g (n * 11) rfl x _ hw'.2.1 Tryz.underlying41 rfl (by rw [hxl]; exact size41)
 clear hK K
 refine wpKept_take (fun K hK => ?_)
 rw [if_pos (by rfl)]
 refine ⟨.agg c.toArray, fun w' hw' => ?_, hK _ ?_⟩
 ·exact exec_load_mid _ _ _ 41 (.tmp 3) rfl b3 0 rfl c _ (fun j v hv => by rw [Nat.zero_add, blk_cell hw'.2.2, List.getElem?_toArray]; exact hv) Tryz.underlying41 rfl (by rw [hcl]; exact size41)
 clear hK K
 refine wpKept_next (fun K hK => ?_)
 go_simp
 refine (follows_e (W' := W) HOK.out HOE.out HL.out HX.out HC.out w0.drew).mono ?_
 rintro y w1 ⟨rfl, q1⟩
 have B1 := As.mk (B0.out.drew.trans (q1.mono B0.out.size))
 have h31 := As.mk ((q1.block b3 (blk_lt h3.out)).trans h3.out)
 have hs0 := B0.out.size
 have d41 : w1.cell? ⟨p, 1027, none⟩ = some (.slice (some ⟨g, 0, none⟩) (n + 1) cl) := by
  rw [World.cell?_of_block (w := w0.drew) (a := ⟨p, 1027, none⟩) (q1.block p (show p < w0.heap.size by omega))]
  exact d4
 have hr1 : w1.rangeAt g (n * 11) x := range_heap (W := w0.drew) hr0 (q1.block g (show g < w0.heap.size by omega))
 clear q1
 refine hK _ _ ⟨d41, hr1, h31.out⟩ ?_
 clear hK K
 refine wpKept_next (fun K hK => ?_)
 go_simp
 refine hK _ _ ⟨d41, hr1, h31.out⟩ ?_
 clear hK K
 refine wpKept_nil ?_
 go_wp2_with fail
 go_ret
 exact ⟨rfl, B1.out⟩
end
end Go.Proofs.YthfjhgdiakciaaaGreat.Bl
/- A segment in memory, one entry more, one end more. Condition: the rows were appended to. -/
namespace Go.Proofs.YthfjhgdiakciaaaGreat.Bl
open Go.RowKit
set_option linter.unusedVariables false
set_option linter.unusedSimpArgs false
theorem SegAt.addL {w w1 w2 : World} {own : Nat → Prop} {p : Nat} {s : Seg} {img : List Int} {ends : List Nat} {ve vl : Value} {e : Ent} {c : List Value} {cs : List (List Value)} {g cap : Nat}
  (h : SegAt w own p s img ends ve vl) (hcs : cs.length = s.l.length) (hc4 : ∀ (i : Nat) (e : Ent), s.l[i]? = some e → ∃ c, cs[i]? = some c ∧ EntAt w (fun k => (own k ∧ k ≠ p ∧ ¬ ve.ownBlock = some k) ∧ ¬ vl.ownBlock = some k) e c)
  (hvl : ∀ k, vl.ownBlock = some k → own k ∧ k ≠ p ∧ ¬ ve.ownBlock = some k) (hvll : ∀ k, vl.ownBlock = some k → k < w.heap.size)
  (he : EntAt w (fun k => (own k ∧ k ≠ p ∧ ¬ ve.ownBlock = some k) ∧ ¬ vl.ownBlock = some k) e c) (hg1 : w.grownBy w1 none)
  (hn : w2.ownsRow 0 41 11 (.slice (some ⟨g, 0, none⟩) (s.l.length + 1) cap) (s.l.length + 1) (cs.flatten ++ c)) (hg2 : w1.grownBy w2 vl.ownBlock) (hgg : vl.ownBlock = some g ∨ w.heap.size ≤ g) (hown : ∀ k, w.heap.size ≤ k → own k) :
  SegAt (w2.setCell ⟨p, 1027, none⟩ (.slice (some ⟨g, 0, none⟩) (s.l.length + 1) cap)) own p (s.add e) img ends ve (.slice (some ⟨g, 0, none⟩) (s.l.length + 1) cap) := by
 have hs1 := hg1.size
 have hs2 := hg2.size
 have hpl := h.lt
 have hvp : ∀ k, vl.ownBlock = some k → k ≠ p := fun k hk => (hvl k hk).2.1
 have h2 : ∀ k, k < w.heap.size → ¬ vl.ownBlock = some k → w2.heap[k]? = w.heap[k]? := fun k hk hv => (hg2.block k (by omega) (fun e => hv e.symm)).trans (hg1.block k hk (fun e => by cases e))
 have hb2 : w2.heap[p]? = some (.cells (segC s.no s.first img ve vl).toArray 141 (0, 0)) := (h2 p hpl (fun e => hvp p e rfl)).trans h.blk
 have h3 : ∀ k, k < w.heap.size → ¬ vl.ownBlock = some k → k ≠ p → (w2.setCell ⟨p, 1027, none⟩ (.slice (some ⟨g, 0, none⟩) (s.l.length + 1) cap)).heap[k]? = w.heap[k]? := fun k hk hv hp => (Below.heap_setCell _ _ _ _ (show k ≠ p from hp)).trans (h2 k hk hv)
 have hs3 : (w2.setCell ⟨p, 1027, none⟩ (.slice (some ⟨g, 0, none⟩) (s.l.length + 1) cap)).heap.size = w2.heap.size := by simp
 have hgp : g ≠ p := fun e' => own_ne hn hb2 (by decide) g rfl e'
 have hep : ∀ k, ve.ownBlock = some k → k ≠ p := own_ne h.ends h.blk (by decide)
 have hel : ∀ k, ve.ownBlock = some k → k < w.heap.size := fun k hk => own_lt h.ends k hk
 have hggO : ∀ k, g = k → vl.ownBlock = some k ∨ w.heap.size ≤ k := fun k hk => by rw [← hk]; exact hgg
 have key : ∀ {e : Ent} {c : List Value}, EntAt w (fun k => (own k ∧ k ≠ p ∧ ¬ ve.ownBlock = some k) ∧ ¬ vl.ownBlock = some k) e c → EntAt (w2.setCell ⟨p, 1027, none⟩ (.slice (some ⟨g, 0, none⟩) (s.l.length + 1) cap)) (fun k => (own k ∧ k ≠ p ∧ ¬ ve.ownBlock = some k) ∧ ¬ (Value.slice (some ⟨g, 0, none⟩) (s.l.length + 1) cap).ownBlock = some k) e c := fun hx =>
  ((hx.mono (own' := fun k => ((own k ∧ k ≠ p ∧ ¬ ve.ownBlock = some k) ∧ ¬ vl.ownBlock = some k) ∧ k < w.heap.size) (fun k hk hlk => ⟨hk, hlk⟩)).keep (fun k hk hlk => h3 k hlk hk.1.2 hk.1.1.2.1) (by omega)).mono (fun k hk _ => ⟨hk.1.1, fun e' => by
   rcases hggO k (ob_eq e') with h' | h'
   ·exact hk.1.2 h'
   ·omega⟩)
 refine ⟨?_, h.il, h.iok, own_keep h.ends (fun k hk hlk => h3 k hlk (fun e' => (hvl k e').2.2 hk) (hep k hk)), h.eo, ?_, h.po⟩
 ·rw [blk_put hb2 1027, segC_l _ _ h.il]
  rfl
 ·refine EntRow.app (cs := cs) hcs (fun i x hx => ?_) (own_keep hn (fun k hk _ => Below.heap_setCell _ _ _ _ (show k ≠ p by rw [← ob_eq hk]; exact hgp))) ?_ (key he)
  ·obtain ⟨y, a, b⟩ := hc4 i x hx
   exact ⟨y, a, key b⟩
  ·rcases hgg with h' | h'
   ·exact hvl g h'
   ·exact ⟨hown g h', hgp, fun e' => by have := hel g e'; omega⟩
theorem SegAt.addEnd {w w1 w2 : World} {own : Nat → Prop} {p : Nat} {s : Seg} {img : List Int} {ends : List Nat} {ve vl : Value} {g cap m : Nat}
  (h : SegAt w own p s img ends ve vl) (hg1 : w.grownBy w1 none) (hn : w2.ownsRow 0 3 1 (.slice (some ⟨g, 0, none⟩) (ends.length + 1) cap) (ends.length + 1) (ends.map endV ++ [endV m])) (hg2 : w1.grownBy w2 ve.ownBlock)
  (hgg : ve.ownBlock = some g ∨ w.heap.size ≤ g) (hown : ∀ k, w.heap.size ≤ k → own k) :
  SegAt (w2.setCell ⟨p, 1026, none⟩ (.slice (some ⟨g, 0, none⟩) (ends.length + 1) cap)) own p s img (ends ++ [m]) (.slice (some ⟨g, 0, none⟩) (ends.length + 1) cap) vl := by
 have hs1 := hg1.size
 have hs2 := hg2.size
 have hpl := h.lt
 have hep : ∀ k, ve.ownBlock = some k → k ≠ p := own_ne h.ends h.blk (by decide)
 have h2 : ∀ k, k < w.heap.size → ¬ ve.ownBlock = some k → w2.heap[k]? = w.heap[k]? := fun k hk hv => (hg2.block k (by omega) (fun e => hv e.symm)).trans (hg1.block k hk (fun e => by cases e))
 have hb2 : w2.heap[p]? = some (.cells (segC s.no s.first img ve vl).toArray 141 (0, 0)) := (h2 p hpl (fun e => hep p e rfl)).trans h.blk
 have hgp : g ≠ p := fun e' => own_ne hn hb2 (by decide) g rfl e'
 have hs3 : (w2.setCell ⟨p, 1026, none⟩ (.slice (some ⟨g, 0, none⟩) (ends.length + 1) cap)).heap.size = w2.heap.size := by simp
 have h3 : ∀ k, k < w.heap.size → ¬ ve.ownBlock = some k → k ≠ p → (w2.setCell ⟨p, 1026, none⟩ (.slice (some ⟨g, 0, none⟩) (ends.length + 1) cap)).heap[k]? = w.heap[k]? := fun k hk hv hp => (Below.heap_setCell _ _ _ _ (show k ≠ p from hp)).trans (h2 k hk hv)
 have hggO : ∀ k, g = k → ve.ownBlock = some k ∨ w.heap.size ≤ k := fun k hk => by rw [← hk]; exact hgg
 refine ⟨?_, h.il, h.iok, ?_, fun k hk => ?_, ?_, h.po⟩
 ·rw [blk_put hb2 1026, segC_ends _ _ h.il]
 ·have e1 : (ends ++ [m]).length = ends.length + 1 := by simp
  rw [e1, List.map_append]
  exact own_keep hn (fun k hk _ => Below.heap_setCell _ _ _ _ (show k ≠ p by rw [← ob_eq hk]; exact hgp))
 ·rcases hggO k (ob_eq hk) with h' | h'
  ·exact h.eo k h'
  ·exact hown k h'
 ·refine ((h.l.mono (own' := fun k => (own k ∧ k ≠ p ∧ ¬ ve.ownBlock = some k) ∧ k < w.heap.size) (fun k hk hlk => ⟨hk, hlk⟩)).keep (fun k hk hlk => h3 k hlk hk.1.2.2 hk.1.2.1) (by omega)).mono (fun k hk _ => ⟨hk.1.1, hk.1.2.1, fun e' => ?_⟩)
  rcases hggO k (ob_eq e') with h' | h'
  ·exact hk.1.2.2 h'
  ·omega
end Go.Proofs.YthfjhgdiakciaaaGreat.Bl
