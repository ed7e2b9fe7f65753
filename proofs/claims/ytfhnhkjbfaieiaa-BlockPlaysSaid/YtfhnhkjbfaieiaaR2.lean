/- The document's disk is flushed (Flush). Condition: the receiver is such a disk. -/
import Derived.Test.YtfhnhkjbfaieiaaR1
namespace Go.Proofs.Ytfhnhkjbfaieiaa.Bl
open Go.RowKit
set_option linter.unusedVariables false
set_option linter.unusedSimpArgs false
/-- The disk whose writes are all sure: a new row, nothing waits. -/
theorem RAt.fin {w : World} {own : Nat → Prop} {b n : Nat} {r : RSt} {vs vw v : Value} {l : List RW}
    (hb : w.heap[b]? = some (.cells #[.int .i64 n, vs, vw, .int .i64 r.limit, .int .i64 r.left, .bool r.dim] 53 (0, 0)))
    (hr : w.ownsRow 0 71 2 v l.length (flatR l)) (ob : own b) (og : ∀ g, v.ownBlock = some g → own g) (hd : ∀ y ∈ l, Data w own n y) :
    RAt ((w.setCell ⟨b, 1, none⟩ v).setCell ⟨b, 2, none⟩ (.slice none 0 0)) own b n { r with sure := l, wait := [] } v (.slice none 0 0) := by
  have hb1 : (w.setCell ⟨b, 1, none⟩ v).heap[b]? = some (.cells #[.int .i64 n, v, vw, .int .i64 r.limit, .int .i64 r.left, .bool r.dim] 53 (0, 0)) := by rw [blk_put hb 1]; simp
  have hk : ∀ k, k ≠ b → ((w.setCell ⟨b, 1, none⟩ v).setCell ⟨b, 2, none⟩ (.slice none 0 0)).heap[k]? = w.heap[k]? := fun k hk =>
    (Below.heap_setCell _ _ _ _ hk).trans (Below.heap_setCell _ _ _ _ hk)
  refine ⟨by rw [blk_put hb1 2]; simp, ?_, World.ownsRow_nil _ _ _ _, fun g _ e => by simp [Value.ownBlock] at e, ob, og, fun g e => by simp [Value.ownBlock] at e, fun y hy => (hd y hy).keep (hk _ ((hd y hy).ne hb (by decide))), fun y hy => by cases hy⟩
  exact own_keep hr (fun g hg _ => hk g (own_ne hr hb (by decide) g hg))
theorem run_append_none_of (base : Nat) (t ty e : TypeId) (i : TypeInfo) (size : Nat) {P : Program} {w : World} (ht : P.underlying t = some (.slice e)) (hi : P.info? e = some i)
    (v : Value) (n : Nat) (xs : List Value) (hown : w.ownsRow base e size v n xs) (A : Option Addr) (c : Nat) :
    (Builtin.append_ #[t, t] ty #[v, .slice A 0 c]).run P w = .ok v w := by
  rcases hown.2 with ⟨rfl, rfl⟩ | ⟨g, cap, cur, rfl, _, _, hnc, _⟩
  · cases A <;> simp [Builtin.append_, run_underlying ht, sizeOf, typeInfo, hi, Builtin.lenOf, Builtin.firstCells, loadCells, loadCellsFrom, storeCells]
  · cases A <;> simp [Builtin.append_, run_underlying ht, sizeOf, typeInfo, hi, Builtin.lenOf, Builtin.firstCells, hnc, storeCells, loadCells, loadCellsFrom]
theorem step_append_none {P : Program} {ops : Array Oper} {o : Oper} {a : Act} {w : World} {K : Act → World → Prop} {Q : Exit → Act → World → Prop} {E : Prop} (hgd : o.guard = none) (s x : Operand) (t : TypeId)
    (ho : o.op = .call { callee := .builtin .append, args := #[s, x], argTypes := #[t, t] }) (base : Nat) (e : TypeId) (i : TypeInfo) (size : Nat) (ht : P.underlying t = some (.slice e)) (hi : P.info? e = some i)
    (v : Value) (n : Nat) (xs : List Value) (hs : a.eval s = v) (hown : w.ownsRow base e size v n xs) (A : Option Addr) (c : Nat) (hx : a.eval x = .slice A 0 c) (h : K (a.put o.dst v) w) :
    if Region.wanted o (yielded ops a.tmps) = true then Oper.wp P o a w K Q else E := by
  have hw : Region.wanted o (yielded ops a.tmps) = true := by simp [Region.wanted, hgd]
  rw [if_pos hw]
  have hr := run_append_none_of base t o.type e i size ht hi v n xs hown A c
  unfold Oper.wp execOp
  simp only [ho, resolve, invoke, builtin, Sem.run_bind, Sem.run_pure, Result.andThen_ok, List.map_toArray, List.map_cons, List.map_nil, hs, hx, hr]
  exact h
def rflushF (r : RSt) : Int × RSt := if (ractF r).1 = true then (0, { (ractF r).2 with sure := r.sure ++ r.wait, wait := [] }) else (6, (ractF r).2)
section
variable {W : World} {own : Nat → Prop} {b n : Nat} {r : RSt}
theorem rflush_gone (h : RDisk W own b n r) (ha : (ractF r).1 = false) :
    Calls Try.prog 32 #[.pointer (some ⟨b, 0, none⟩)] W fun e W' => e = .returned (.int .i64 6) ∧ RDisk W' own b n (ractF r).2 ∧ Frame own W W' := by
  obtain ⟨hok, vs, vw, h⟩ := h
  have OK := As.mk (ract_ok hok)
  have HA := ract_at h hok
  rw [ha] at HA
  have HA := As.mk HA
  clear h hok ha
  go_enter Try.func32, Try.ntmps32
  go_wp2_with fail
  refine HA.out.mono ?_
  rintro e w1 ⟨rfl, q1, q2, _, _⟩
  have Q1 := As.mk q1
  have Q2 := As.mk q2
  clear q1 q2 HA
  go_wp2_with fail
  go_ret
  exact ⟨rfl, ⟨OK.out, vs, vw, Q1.out⟩, Q2.out⟩
set_option maxHeartbeats 4000000 in
set_option maxRecDepth 100000 in
theorem rflush_none (h : RDisk W own b n r) (ha : (ractF r).1 = true) (hm : r.wait = []) :
    Calls Try.prog 32 #[.pointer (some ⟨b, 0, none⟩)] W fun e W' => e = .returned (.int .i64 0) ∧ RDisk W' own b n { (ractF r).2 with sure := r.sure ++ r.wait, wait := [] } ∧ Frame own W W' := by
  obtain ⟨hok, vs, vw, h⟩ := h
  have OK := As.mk (ract_ok hok)
  have HA := ract_at h hok
  rw [ha] at HA
  have HA := As.mk HA
  have E1 := As.mk (ract_same r)
  have HM := As.mk hm
  have hv : ∃ A c, vw = .slice A 0 c := by
    have := h.wait
    rw [hm] at this
    rcases this.2 with ⟨rfl, _⟩ | ⟨g, cap, cur, rfl, _⟩
    · exact ⟨none, 0, rfl⟩
    · exact ⟨_, cap, rfl⟩
  obtain ⟨A, c, rfl⟩ := hv
  have hv : ∃ A m c, vs = .slice A m c := by
    rcases h.sure.2 with ⟨hv, _⟩ | ⟨g, cap, _, hv, _⟩
    · exact ⟨_, _, _, hv⟩
    · exact ⟨_, _, _, hv⟩
  obtain ⟨A2, m2, c2, rfl⟩ := hv
  clear h hok ha hm
  obtain ⟨i0, hi0, hz0, hz1, hz2⟩ := info_parts info71
  go_enter Try.func32, Try.ntmps32
  go_wp2_with fail
  refine HA.out.mono ?_
  rintro e w1 ⟨rfl, q1, q2, _, _⟩
  have Q1 := As.mk q1
  have Q2 := As.mk q2
  clear q1 q2 HA
  obtain ⟨d0, d1, d2, d3, d4, d5⟩ := Q1.out.cells
  go_upto_region 4 with fail
  refine wp_region_plan_held 12 (fun w' => w'.cell? ⟨b, 1, none⟩ = some (.slice A2 m2 c2) ∧ w'.cell? ⟨b, 2, none⟩ = some (.slice A 0 c)) [(1, 0), (1, 1), (1, 2), (1, 3), (0, 4), (1, 5), (1, 6), (1, 7), (0, 8), (2, 9), (1, 10), (1, 11), (2, 12)] (by kernel_rfl) (by kernel_rfl) (by kernel_rfl) (by kernel_rfl) (fun _ _ _ _ _ h => h) ⟨d1, d2⟩ ?_
  simp only [tagged, List.filterMap_cons, List.filterMap_nil, List.getElem?_toArray, List.getElem?_cons_succ, List.getElem?_cons_zero, Option.map_some]
  iterate 4 (refine wpHeld_sure (fun K hK => ?_); go_simp; refine hK _ ?_; clear hK K)
  refine wpHeld_take (fun K hK => ?_)
  rw [if_pos (by rfl)]
  apply Exists.intro
  refine ⟨fun w' hw' => ?_, hK _ ?_⟩
  · obtain ⟨hw1, hw2⟩ := hw'
    go_simp
    rfl
  clear hK K
  iterate 3 (refine wpHeld_sure (fun K hK => ?_); go_simp; refine hK _ ?_; clear hK K)
  refine wpHeld_take (fun K hK => ?_)
  rw [if_pos (by rfl)]
  apply Exists.intro
  refine ⟨fun w' hw' => ?_, hK _ ?_⟩
  · obtain ⟨hw1, hw2⟩ := hw'
    go_simp
    rfl
  clear hK K
  refine wpHeld_next (fun K hK => ?_)
  refine step_append_none (w := w1.drew) (by rfl) _ _ _ (by rfl) 0 71 i0 2 Try.underlying51 hi0 (.slice A2 m2 c2) _ _ (by rfl) (own_keep (W' := w1.drew) Q1.out.sure (fun _ _ _ => rfl)) A c (by rfl) ?_
  refine hK _ _ (fun _ => ⟨d1, d2⟩) ?_
  clear hK K
  iterate 2 (refine wpHeld_sure (fun K hK => ?_); go_simp; refine hK _ ?_; clear hK K)
  have f1 := blk_frozen Q1.out.blk 1
  refine wpHeld_next (fun K hK => ?_)
  go_simp
  refine hK _ _ (fun h => absurd rfl h) ?_
  clear hK K
  refine wpHeld_nil ?_
  have hb1 : (w1.setCell ⟨b, 1, none⟩ (.slice A2 m2 c2)).heap[b]? = some (.cells #[.int .i64 n, (.slice A2 m2 c2), .slice A 0 c, .int .i64 (ractF r).2.limit, .int .i64 (ractF r).2.left, .bool (ractF r).2.dim] 53 (0, 0)) := by rw [blk_put Q1.out.blk 1]; simp
  have e2 := (blk_cell hb1 2).trans rfl
  have f2 := blk_frozen hb1 2
  clear hb1
  go_wp2_with fail
  go_ret
  refine ⟨rfl, ⟨⟨OK.out.n1, OK.out.n2, OK.out.l1, OK.out.l2, fun y hy => by cases hy⟩, .slice A2 m2 c2, .slice none 0 0, ?_⟩, ((Q2.out.setCell (p := ⟨b, 1, none⟩) (.inl Q1.out.o0) _).setCell (p := ⟨b, 2, none⟩) (.inl Q1.out.o0) _).drew⟩
  have e : r.sure ++ r.wait = (ractF r).2.sure := by rw [HM.out, List.append_nil, E1.out.1]
  rw [e]
  exact (RAt.fin Q1.out.blk Q1.out.sure Q1.out.o0 Q1.out.o1 Q1.out.d1).keep (fun _ _ _ => rfl)
set_option maxHeartbeats 4000000 in
set_option maxRecDepth 100000 in
theorem rflush_some (h : RDisk W own b n r) (ha : (ractF r).1 = true) (hm : 0 < r.wait.length) (hw : r.sure.length + r.wait.length < 1000000) :
    Calls Try.prog 32 #[.pointer (some ⟨b, 0, none⟩)] W fun e W' => e = .returned (.int .i64 0) ∧ RDisk W' (And' own W) b n { (ractF r).2 with sure := r.sure ++ r.wait, wait := [] } ∧ Frame own W W' := by
  obtain ⟨hok, vs, vw, h⟩ := h
  obtain ⟨g, c, rfl, _, hgl⟩ := h.wait.form hm
  have OK := As.mk (ract_ok hok)
  have HA := ract_at h hok
  rw [ha] at HA
  have HA := As.mk HA
  have E1 := As.mk (ract_same r)
  have H := As.mk h
  clear h hok ha
  obtain ⟨i0, hi0, hz0, hz1, hz2⟩ := info_parts info71
  go_enter Try.func32, Try.ntmps32
  go_wp2_with fail
  refine HA.out.mono ?_
  rintro e w1 ⟨rfl, q1, q2, _, q4⟩
  have Q1 := As.mk q1
  have Q2 := As.mk q2
  have Q4 := As.mk q4
  clear q1 q2 q4 HA
  generalize hra : (ractF r).2 = ra at *
  have HRA := As.mk hra
  clear hra
  have hws : r.wait.length = ra.wait.length := by rw [E1.out.2.1]
  have hss : r.sure.length = ra.sure.length := by rw [E1.out.1]
  obtain ⟨d0, d1, d2, d3, d4, d5⟩ := Q1.out.cells
  rw [hws] at hm
  rw [hws, hss] at hw
  simp only [hws] at *
  go_upto_region 4 with fail
  refine wp_region_plan_held 12 (fun w' => w'.cell? ⟨b, 1, none⟩ = some vs ∧ w'.cell? ⟨b, 2, none⟩ = some (.slice (some ⟨g, 0, none⟩) ra.wait.length c)) [(1, 0), (1, 1), (1, 2), (1, 3), (0, 4), (1, 5), (1, 6), (1, 7), (0, 8), (2, 9), (1, 10), (1, 11), (2, 12)] (by kernel_rfl) (by kernel_rfl) (by kernel_rfl) (by kernel_rfl) (fun _ _ _ _ _ h => h) ⟨d1, d2⟩ ?_
  simp only [tagged, List.filterMap_cons, List.filterMap_nil, List.getElem?_toArray, List.getElem?_cons_succ, List.getElem?_cons_zero, Option.map_some]
  iterate 4 (refine wpHeld_sure (fun K hK => ?_); go_simp; refine hK _ ?_; clear hK K)
  refine wpHeld_take (fun K hK => ?_)
  rw [if_pos (by rfl)]
  apply Exists.intro
  refine ⟨fun w' hw' => ?_, hK _ ?_⟩
  · obtain ⟨hw1, hw2⟩ := hw'
    go_simp
    rfl
  clear hK K
  iterate 3 (refine wpHeld_sure (fun K hK => ?_); go_simp; refine hK _ ?_; clear hK K)
  refine wpHeld_take (fun K hK => ?_)
  rw [if_pos (by rfl)]
  apply Exists.intro
  refine ⟨fun w' hw' => ?_, hK _ ?_⟩
  · obtain ⟨hw1, hw2⟩ := hw'
    go_simp
    rfl
  clear hK K
  refine wpHeld_next (fun K hK => ?_)
  refine step_append_lies w1.drew (by rfl) _ _ _ (by rfl) 0 71 i0 _ 2 32 Try.underlying51 hi0 hz0 hz1 hz2 (by rfl) (by omega) vs ra.sure.length (flatR ra.sure) (by rfl) (own_keep (W' := w1.drew) Q1.out.sure (fun _ _ _ => rfl))
    ⟨g, 0, none⟩ ra.wait.length c (flatR ra.wait) (by rfl) (flatR_len _) (fun j u hu => ?_) (flatR_ones _) hm (by unfold maxLen; omega) (by omega) (by omega) w1.heap.size rfl ?_
  · rw [add0]
    have hj : j < ra.wait.length * 2 := by rw [← flatR_len]; exact (List.getElem?_eq_some_iff.1 hu).1
    exact (Q1.out.wait.cellAt j hj).trans hu
  intro gg gcap w7 hown7 hgrow7 hat7 hlt7
  have hne5 : ∀ (g t : Nat) (cs : Array Value), w1.heap[g]? = some (.cells cs t (0, 0)) → t ≠ 71 → vs.ownBlock ≠ some g := fun g t cs hg ht e => own_ne Q1.out.sure hg ht g e rfl
  have hkp : ∀ g, g < w1.heap.size → vs.ownBlock ≠ some g → w7.heap[g]? = w1.heap[g]? := fun g hg hv => hgrow7.block g hg (fun e => hv e.symm)
  have hBR7 : As (w7.heap[b]? = some (.cells #[.int .i64 n, vs, .slice (some ⟨g, 0, none⟩) ra.wait.length c, .int .i64 ra.limit, .int .i64 ra.left, .bool ra.dim] 53 (0, 0))) := ⟨(hkp b (blk_lt Q1.out.blk) (hne5 _ _ _ Q1.out.blk (by decide))).trans Q1.out.blk⟩
  have hdat : ∀ y : RW, Data w1 (And' own W) n y → Data w7 (And' own W) n y := fun y hy => hy.keep (by
    obtain ⟨cur, hc, _⟩ := own_block hy.row
    exact hkp _ (blk_lt hc) (hne5 _ _ _ hc (by decide)))
  have hD : As (∀ y ∈ ra.sure ++ ra.wait, Data w7 (And' own W) n y) := ⟨fun y hy => by
    rcases List.mem_append.1 hy with hy | hy
    · exact hdat y ((Q1.out.d1 y hy).mono (fun h _ => .inl h))
    · exact hdat y ((Q1.out.d2 y hy).mono (fun h _ => .inl h))⟩
  have hF7 : As (Frame own W w7) := ⟨Frame.grown (W1 := w1.drew) (Q2.out.drew) hgrow7 (fun k hk => .inl (Q1.out.o1 k hk))⟩
  have hwt7 : As (w7.ownsRow 0 71 2 (.slice (some ⟨gg, 0, none⟩) (ra.sure.length + ra.wait.length) gcap) (ra.sure ++ ra.wait).length (flatR (ra.sure ++ ra.wait))) := ⟨by rw [flatR_app, List.length_append]; exact hown7⟩
  have hgg7 : As (own gg ∨ W.heap.size ≤ gg) := ⟨by
    rcases hat7 with h | h
    · exact .inl (Q1.out.o1 gg h)
    · right; have := Q4.out; omega⟩
  have hO0 := As.mk Q1.out.o0
  clear hown7 hgrow7 hat7 hlt7 hkp hdat hne5 d0 d1 d2 d3 d4 d5
  have d1 := (blk_cell hBR7.out 1).trans rfl
  have d2 := (blk_cell hBR7.out 2).trans rfl
  have f1 := blk_frozen hBR7.out 1
  refine hK _ _ (fun _ => ⟨d1, d2⟩) ?_
  clear hK K
  iterate 2 (refine wpHeld_sure (fun K hK => ?_); go_simp; refine hK _ ?_; clear hK K)
  refine wpHeld_next (fun K hK => ?_)
  go_simp
  refine hK _ _ (fun h => absurd rfl h) ?_
  clear hK K
  refine wpHeld_nil ?_
  generalize hv9 : Value.slice (some ⟨gg, 0, none⟩) (ra.sure.length + ra.wait.length) gcap = v9 at *
  have hb1 : (w7.setCell ⟨b, 1, none⟩ v9).heap[b]? = some (.cells #[.int .i64 n, v9, .slice (some ⟨g, 0, none⟩) ra.wait.length c, .int .i64 ra.limit, .int .i64 ra.left, .bool ra.dim] 53 (0, 0)) := by rw [blk_put hBR7.out 1]; simp
  have e2 := (blk_cell hb1 2).trans rfl
  have f2 := blk_frozen hb1 2
  clear hb1
  go_wp2_with fail
  go_ret
  rw [HRA.out]
  refine ⟨rfl, ⟨⟨OK.out.n1, OK.out.n2, OK.out.l1, OK.out.l2, fun y hy => by cases hy⟩, v9, .slice none 0 0, ?_⟩, (hF7.out.setCell (p := ⟨b, 1, none⟩) (.inl hO0.out) _).setCell (p := ⟨b, 2, none⟩) (.inl hO0.out) _⟩
  rw [← E1.out.1, ← E1.out.2.1]
  exact RAt.fin hBR7.out hwt7.out (.inl hO0.out) (fun k hk => by
    subst hv9
    rw [← ob_eq hk]
    exact hgg7.out) hD.out
theorem rflush_a (h : RDisk W own b n r) (hw : r.sure.length + r.wait.length < 1000000) :
    Calls Try.prog 32 #[.pointer (some ⟨b, 0, none⟩)] W fun e W' => e = .returned (.int .i64 (rflushF r).1) ∧ RDisk W' (And' own W) b n (rflushF r).2 ∧ Frame own W W' := by
  unfold rflushF
  cases ha : (ractF r).1 with
  | false =>
    refine (rflush_gone h ha).mono ?_
    rintro e W' ⟨rfl, q1, q2⟩
    exact ⟨rfl, q1.mono (fun _ h _ => .inl h), q2⟩
  | true =>
    by_cases hm : r.wait = []
    · refine (rflush_none h ha hm).mono ?_
      rintro e W' ⟨rfl, q1, q2⟩
      exact ⟨rfl, q1.mono (fun _ h _ => .inl h), q2⟩
    · refine (rflush_some h ha (List.length_pos_iff.2 hm) hw).mono ?_
      rintro e W' ⟨rfl, q1, q2⟩
      exact ⟨rfl, q1, q2⟩
end
end Go.Proofs.Ytfhnhkjbfaieiaa.Bl
