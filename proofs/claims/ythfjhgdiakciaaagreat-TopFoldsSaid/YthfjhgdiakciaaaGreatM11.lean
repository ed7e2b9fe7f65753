/- What is to be done for an order (saga.Next); it is being done (saga.Ask). Condition: the state is one that may be; for Ask: there is something to be done. -/
import Derived.Test.YthfjhgdiakciaaaGreatM10
namespace Go.Proofs.YthfjhgdiakciaaaGreat.Bl
open Go.RowKit
set_option linter.unusedVariables false
set_option linter.unusedSimpArgs false
/-- What is to be done: the step, whether back, which try. -/
structure Dn where
 st : Nat
 undo : Bool
 tr : Nat
def dnC (d : Dn) : List Value := [.int .i64 d.st, .bool d.undo, .int .i64 d.tr]
def nextS (s : Sg) : Option Dn := if s.ph = 3 ∨ s.asked = true then none else some ⟨s.st, s.ph == 2, s.tr + 1⟩
def dn0 : Array Value := #[.int .i64 0, .bool false, .int .i64 0]
def nextV : Option Dn → Value
 | none => .tuple #[.agg dn0, .bool false]
 | some d => .tuple #[.agg (dnC d).toArray, .bool true]
theorem size49 : (Tryz.prog.info? 49).map (·.size) = some 3 := by kernel_rfl
/-- A struct is stored into a block of its own. -/
theorem wpList_storeC {ops : Array Oper} {rest : List Oper} {o : Oper} {a : Act} {w : World} {Q : Exit → Act → World → Prop} (hgd : o.guard = none) (T : TypeId) (x y : Operand) (ho : o.op = .store T x y) (b T' : Nat) (cs : List Value) (z : Array Value)
  (hx : a.eval x = .pointer (some ⟨b, 0, none⟩)) (hy : a.eval y = .agg cs.toArray) (h0 : w.heap[b]? = some (.cells z T' (0, 0))) (hz : cs.length = z.size) (hsz : (Tryz.prog.info? T).map (·.size) = some cs.length) (h1 : ∀ v ∈ cs, v.oneCell' = true)
  (h : ∀ w1 : World, w1.heap[b]? = some (.cells cs.toArray T' (0, 0)) → (∀ B, B ≤ b → Below B w w1) → w1.heap.size = w.heap.size → (∀ k, k ≠ b → w1.heap[k]? = w.heap[k]?) → wpList Tryz.prog ops Q rest (a.put o.dst undef) w1) : wpList Tryz.prog ops Q (o :: rest) a w :=
 wpList_store_mid hgd T x y ho b 0 cs.toArray hx hy (there_block h0 0 _ (by rw [List.size_toArray, hz]; omega)) (by rw [List.size_toArray]; exact hsz) (all_oneCell_toArray h1) (h _ (row_over h0 hz) (fun B hB => setCells_below _ hB) (setCells_size _ _ _ _) (fun k hk => setCells_far _ _ _ _ hk))
theorem dnC_one (d : Dn) : ∀ v ∈ dnC d, v.oneCell' = true := fun v hv => by
 simp only [dnC, List.mem_cons, List.not_mem_nil, or_false] at hv
 rcases hv with rfl | rfl | rfl <;> rfl
set_option maxHeartbeats 1000000 in
set_option maxRecDepth 100000 in
theorem next_over {W : World} {own : Nat → Prop} {v : Value} {p : List Stp} (h : PlanAt W own v p) (hp : PlanOk p) (c : Nat) (h1 : 1 ≤ c) (h2 : c ≤ 3) :
  Calls Tryz.prog 36 #[v, .agg #[.int .i64 3, .int .i64 0, .int .i64 0, .bool false, .int .i64 0, .bool false, .int .i64 c]] W fun e W' => e = .returned (nextV none) ∧ Below W.heap.size W W' := by
 have HP : As (∀ w', Below W.heap.size W w' → Calls Tryz.prog 77 #[v, .agg #[.int .i64 3, .int .i64 0, .int .i64 0, .bool false, .int .i64 0, .bool false, .int .i64 c]] w' fun e W' => e = .returned (.int .i64 0) ∧ Below w'.heap.size w' W') := ⟨fun w' hw => scheck_over (h.keep (W' := w') (fun k _ hk => hw.block k hk) hw.size) hp c h1 h2⟩
 clear h hp
 go_enter Tryz.func36, Tryz.ntmps36
 go_wp2_with fail
 refine (HP.out _ (((Below.refl _ _).alloc (Nat.le_refl _) _).alloc (by simp) _)).mono ?_
 rintro e w1 ⟨rfl, q1⟩
 have hbk := (q1.block W.heap.size (by simp; omega)).trans (heap_alloc2_old W _ _)
 have hbk2 := As.mk ((q1.block (W.heap.size + 1) (by simp)).trans (heap_alloc2_new W _ _))
 have B1 : As (Below W.heap.size W w1) := ⟨(((Below.refl _ _).alloc (Nat.le_refl _) _).alloc (by simp) _).trans (q1.mono (by simp; omega))⟩
 obtain ⟨k0, k1, k2, k3, k4, k5, k6⟩ := cells7 hbk
 have hs1 := B1.out.size
 have hlt := blk_lt hbk
 clear q1 hbk
 go_upto_region 2 with fail
 go_wp2_with (refine wpList_storeC rfl 49 (.tmp 4) (.tmp 19) rfl (W.heap.size + 1) 49 [.int .i64 0, .bool false, .int .i64 0] _ rfl rfl hbk2.out rfl size49 (dnC_one ⟨0, false, 0⟩) ?_; intro w2 q1 q2 q3 q4)
 refine bodyPost_ret (results_cell_tmp_row rfl _ _ (W.heap.size + 1) 49 [.int .i64 0, .bool false, .int .i64 0].toArray (0, 0) _ rfl q1 Tryz.underlying49 rfl size49) rfl ⟨rfl, B1.out.trans (q2 _ (by omega))⟩
set_option maxHeartbeats 1000000 in
set_option maxRecDepth 100000 in
theorem next_wait1 {W : World} {own : Nat → Prop} {v : Value} {p : List Stp} (h : PlanAt W own v p) (hp : PlanOk p) (st tr : Nat) (x : Stp) (hx : p[st]? = some x)  (h1 : 1 ≤ tr) (h2 : tr ≤ 2) :
  Calls Tryz.prog 36 #[v, .agg #[.int .i64 1, .int .i64 st, .int .i64 tr, .bool true, .int .i64 5, .bool false, .int .i64 0]] W fun e W' => e = .returned (nextV none) ∧ Below W.heap.size W W' := by
 have HP : As (∀ w', Below W.heap.size W w' → Calls Tryz.prog 77 #[v, .agg #[.int .i64 1, .int .i64 st, .int .i64 tr, .bool true, .int .i64 5, .bool false, .int .i64 0]] w' fun e W' => e = .returned (.int .i64 0) ∧ Below w'.heap.size w' W') := ⟨fun w' hw => scheck_live (h.keep (W' := w') (fun k _ hk => hw.block k hk) hw.size) hp 1 st tr true x hx (.inl rfl) (.inr ⟨rfl, h1, h2⟩)⟩
 clear h hp
 go_enter Tryz.func36, Tryz.ntmps36
 go_wp2_with fail
 refine (HP.out _ (((Below.refl _ _).alloc (Nat.le_refl _) _).alloc (by simp) _)).mono ?_
 rintro e w1 ⟨rfl, q1⟩
 have hbk := (q1.block W.heap.size (by simp; omega)).trans (heap_alloc2_old W _ _)
 have hbk2 := As.mk ((q1.block (W.heap.size + 1) (by simp)).trans (heap_alloc2_new W _ _))
 have B1 : As (Below W.heap.size W w1) := ⟨(((Below.refl _ _).alloc (Nat.le_refl _) _).alloc (by simp) _).trans (q1.mono (by simp; omega))⟩
 obtain ⟨k0, k1, k2, k3, k4, k5, k6⟩ := cells7 hbk
 have hs1 := B1.out.size
 have hlt := blk_lt hbk
 clear q1 hbk
 go_upto_region 2 with fail
 go_wp2_with (refine wpList_storeC rfl 49 (.tmp 4) (.tmp 19) rfl (W.heap.size + 1) 49 [.int .i64 0, .bool false, .int .i64 0] _ rfl rfl hbk2.out rfl size49 (dnC_one ⟨0, false, 0⟩) ?_; intro w2 q1 q2 q3 q4)
 refine bodyPost_ret (results_cell_tmp_row rfl _ _ (W.heap.size + 1) 49 [.int .i64 0, .bool false, .int .i64 0].toArray (0, 0) _ rfl q1 Tryz.underlying49 rfl size49) rfl ⟨rfl, B1.out.trans (q2 _ (by omega))⟩
set_option maxHeartbeats 1000000 in
set_option maxRecDepth 100000 in
theorem next_idle1 {W : World} {own : Nat → Prop} {v : Value} {p : List Stp} (h : PlanAt W own v p) (hp : PlanOk p) (st tr : Nat) (x : Stp) (hx : p[st]? = some x)  (h2 : tr ≤ 1) :
  Calls Tryz.prog 36 #[v, .agg #[.int .i64 1, .int .i64 st, .int .i64 tr, .bool false, .int .i64 0, .bool false, .int .i64 0]] W fun e W' => e = .returned (nextV (some ⟨st, false, tr + 1⟩)) ∧ Below W.heap.size W W' := by
 have HP : As (∀ w', Below W.heap.size W w' → Calls Tryz.prog 77 #[v, .agg #[.int .i64 1, .int .i64 st, .int .i64 tr, .bool false, .int .i64 0, .bool false, .int .i64 0]] w' fun e W' => e = .returned (.int .i64 0) ∧ Below w'.heap.size w' W') := ⟨fun w' hw => scheck_live (h.keep (W' := w') (fun k _ hk => hw.block k hk) hw.size) hp 1 st tr false x hx (.inl rfl) (.inl ⟨rfl, h2⟩)⟩
 clear h hp
 go_enter Tryz.func36, Tryz.ntmps36
 go_wp2_with fail
 refine (HP.out _ (((Below.refl _ _).alloc (Nat.le_refl _) _).alloc (by simp) _)).mono ?_
 rintro e w1 ⟨rfl, q1⟩
 have hbk := (q1.block W.heap.size (by simp; omega)).trans (heap_alloc2_old W _ _)
 have hbk2 := As.mk ((q1.block (W.heap.size + 1) (by simp)).trans (heap_alloc2_new W _ _))
 have B1 : As (Below W.heap.size W w1) := ⟨(((Below.refl _ _).alloc (Nat.le_refl _) _).alloc (by simp) _).trans (q1.mono (by simp; omega))⟩
 obtain ⟨k0, k1, k2, k3, k4, k5, k6⟩ := cells7 hbk
 have hs1 := B1.out.size
 have hlt := blk_lt hbk
 clear q1 hbk
 go_upto_region 3 with fail
 go_wp2_with (refine wpList_storeC rfl 49 (.tmp 4) (.tmp 28) rfl (W.heap.size + 1) 49 (dnC ⟨st, false, tr + 1⟩) _ rfl rfl hbk2.out rfl size49 (dnC_one _) ?_; intro w2 q1 q2 q3 q4)
 refine bodyPost_ret (results_cell_tmp_row rfl _ _ (W.heap.size + 1) 49 (dnC ⟨st, false, tr + 1⟩).toArray (0, 0) _ rfl q1 Tryz.underlying49 rfl size49) rfl ⟨rfl, B1.out.trans (q2 _ (by omega))⟩
set_option maxHeartbeats 1000000 in
set_option maxRecDepth 100000 in
theorem next_wait2 {W : World} {own : Nat → Prop} {v : Value} {p : List Stp} (h : PlanAt W own v p) (hp : PlanOk p) (st tr : Nat) (x : Stp) (hx : p[st]? = some x) (hb : x.back = true) (h1 : 1 ≤ tr) (h2 : tr ≤ 2) :
  Calls Tryz.prog 36 #[v, .agg #[.int .i64 2, .int .i64 st, .int .i64 tr, .bool true, .int .i64 5, .bool false, .int .i64 0]] W fun e W' => e = .returned (nextV none) ∧ Below W.heap.size W W' := by
 have HP : As (∀ w', Below W.heap.size W w' → Calls Tryz.prog 77 #[v, .agg #[.int .i64 2, .int .i64 st, .int .i64 tr, .bool true, .int .i64 5, .bool false, .int .i64 0]] w' fun e W' => e = .returned (.int .i64 0) ∧ Below w'.heap.size w' W') := ⟨fun w' hw => scheck_live (h.keep (W' := w') (fun k _ hk => hw.block k hk) hw.size) hp 2 st tr true x hx (.inr ⟨rfl, hb⟩) (.inr ⟨rfl, h1, h2⟩)⟩
 clear h hp
 go_enter Tryz.func36, Tryz.ntmps36
 go_wp2_with fail
 refine (HP.out _ (((Below.refl _ _).alloc (Nat.le_refl _) _).alloc (by simp) _)).mono ?_
 rintro e w1 ⟨rfl, q1⟩
 have hbk := (q1.block W.heap.size (by simp; omega)).trans (heap_alloc2_old W _ _)
 have hbk2 := As.mk ((q1.block (W.heap.size + 1) (by simp)).trans (heap_alloc2_new W _ _))
 have B1 : As (Below W.heap.size W w1) := ⟨(((Below.refl _ _).alloc (Nat.le_refl _) _).alloc (by simp) _).trans (q1.mono (by simp; omega))⟩
 obtain ⟨k0, k1, k2, k3, k4, k5, k6⟩ := cells7 hbk
 have hs1 := B1.out.size
 have hlt := blk_lt hbk
 clear q1 hbk
 go_upto_region 2 with fail
 go_wp2_with (refine wpList_storeC rfl 49 (.tmp 4) (.tmp 19) rfl (W.heap.size + 1) 49 [.int .i64 0, .bool false, .int .i64 0] _ rfl rfl hbk2.out rfl size49 (dnC_one ⟨0, false, 0⟩) ?_; intro w2 q1 q2 q3 q4)
 refine bodyPost_ret (results_cell_tmp_row rfl _ _ (W.heap.size + 1) 49 [.int .i64 0, .bool false, .int .i64 0].toArray (0, 0) _ rfl q1 Tryz.underlying49 rfl size49) rfl ⟨rfl, B1.out.trans (q2 _ (by omega))⟩
set_option maxHeartbeats 1000000 in
set_option maxRecDepth 100000 in
theorem next_idle2 {W : World} {own : Nat → Prop} {v : Value} {p : List Stp} (h : PlanAt W own v p) (hp : PlanOk p) (st tr : Nat) (x : Stp) (hx : p[st]? = some x) (hb : x.back = true) (h2 : tr ≤ 1) :
  Calls Tryz.prog 36 #[v, .agg #[.int .i64 2, .int .i64 st, .int .i64 tr, .bool false, .int .i64 0, .bool false, .int .i64 0]] W fun e W' => e = .returned (nextV (some ⟨st, true, tr + 1⟩)) ∧ Below W.heap.size W W' := by
 have HP : As (∀ w', Below W.heap.size W w' → Calls Tryz.prog 77 #[v, .agg #[.int .i64 2, .int .i64 st, .int .i64 tr, .bool false, .int .i64 0, .bool false, .int .i64 0]] w' fun e W' => e = .returned (.int .i64 0) ∧ Below w'.heap.size w' W') := ⟨fun w' hw => scheck_live (h.keep (W' := w') (fun k _ hk => hw.block k hk) hw.size) hp 2 st tr false x hx (.inr ⟨rfl, hb⟩) (.inl ⟨rfl, h2⟩)⟩
 clear h hp
 go_enter Tryz.func36, Tryz.ntmps36
 go_wp2_with fail
 refine (HP.out _ (((Below.refl _ _).alloc (Nat.le_refl _) _).alloc (by simp) _)).mono ?_
 rintro e w1 ⟨rfl, q1⟩
 have hbk := (q1.block W.heap.size (by simp; omega)).trans (heap_alloc2_old W _ _)
 have hbk2 := As.mk ((q1.block (W.heap.size + 1) (by simp)).trans (heap_alloc2_new W _ _))
 have B1 : As (Below W.heap.size W w1) := ⟨(((Below.refl _ _).alloc (Nat.le_refl _) _).alloc (by simp) _).trans (q1.mono (by simp; omega))⟩
 obtain ⟨k0, k1, k2, k3, k4, k5, k6⟩ := cells7 hbk
 have hs1 := B1.out.size
 have hlt := blk_lt hbk
 clear q1 hbk
 go_upto_region 3 with fail
 go_wp2_with (refine wpList_storeC rfl 49 (.tmp 4) (.tmp 28) rfl (W.heap.size + 1) 49 (dnC ⟨st, true, tr + 1⟩) _ rfl rfl hbk2.out rfl size49 (dnC_one _) ?_; intro w2 q1 q2 q3 q4)
 refine bodyPost_ret (results_cell_tmp_row rfl _ _ (W.heap.size + 1) 49 (dnC ⟨st, true, tr + 1⟩).toArray (0, 0) _ rfl q1 Tryz.underlying49 rfl size49) rfl ⟨rfl, B1.out.trans (q2 _ (by omega))⟩
theorem snext_a {W : World} {own : Nat → Prop} {v : Value} {p : List Stp} (h : PlanAt W own v p) (hp : PlanOk p) {s : Sg} (hs : SgOk p s) :
  Calls Tryz.prog 36 #[v, .agg (sgC s).toArray] W fun e W' => e = .returned (nextV (nextS s)) ∧ Below W.heap.size W W' := by
 cases hs with
 | over c h1 h2 => exact next_over h hp c h1 h2
 | idle ph st tr x hx hph ht =>
  rcases hph with rfl | ⟨rfl, hb⟩
  ·exact next_idle1 h hp st tr x hx ht
  ·exact next_idle2 h hp st tr x hx hb ht
 | wait ph st tr x hx hph h1 h2 =>
  rcases hph with rfl | ⟨rfl, hb⟩
  ·exact next_wait1 h hp st tr x hx h1 h2
  ·exact next_wait2 h hp st tr x hx hb h1 h2
set_option maxHeartbeats 1000000 in
set_option maxRecDepth 100000 in
theorem ask_1 {W : World} {own : Nat → Prop} {v : Value} {p : List Stp} (h : PlanAt W own v p) (hp : PlanOk p) (st tr : Nat) (x : Stp) (hx : p[st]? = some x)  (h2 : tr ≤ 1) :
  Calls Tryz.prog 43 #[v, .agg #[.int .i64 1, .int .i64 st, .int .i64 tr, .bool false, .int .i64 0, .bool false, .int .i64 0]] W fun e W' => e = .returned (.tuple #[.agg (sgC ⟨1, st, tr + 1, true, 0⟩).toArray, .int .i64 0]) ∧ Below W.heap.size W W' := by
 have HP : As (∀ w', Below W.heap.size W w' → Calls Tryz.prog 77 #[v, .agg #[.int .i64 1, .int .i64 st, .int .i64 tr, .bool false, .int .i64 0, .bool false, .int .i64 0]] w' fun e W' => e = .returned (.int .i64 0) ∧ Below w'.heap.size w' W') := ⟨fun w' hw => scheck_live (h.keep (W' := w') (fun k _ hk => hw.block k hk) hw.size) hp 1 st tr false x hx (.inl rfl) (.inl ⟨rfl, h2⟩)⟩
 have HN : As (∀ w', Below W.heap.size W w' → Calls Tryz.prog 36 #[v, .agg #[.int .i64 1, .int .i64 st, .int .i64 tr, .bool false, .int .i64 0, .bool false, .int .i64 0]] w' fun e W' => e = .returned (.tuple #[.agg #[.int .i64 st, .bool false, .int .i64 ((tr : Int) + 1)], .bool true]) ∧ Below w'.heap.size w' W') := ⟨fun w' hw => next_idle1 (h.keep (W' := w') (fun k _ hk => hw.block k hk) hw.size) hp st tr x hx  h2⟩
 obtain ⟨g, c, y, rfl, hgl, _, hy, hr⟩ := h.at hx
 have hst : st < p.length := (List.getElem?_eq_some_iff.1 hx).1
 obtain ⟨a, k, rfl, _⟩ := hy
 have hl2 := hp.l2
 have HR := As.mk hr
 clear h hp hx hr
 unfold stC at *
 generalize p.length = n at *
 go_enter Tryz.func43, Tryz.ntmps43
 go_wp2_with fail
 refine (HP.out _ (((Below.refl _ _).alloc (Nat.le_refl _) _).alloc (by simp) _)).mono ?_
 rintro e w1 ⟨rfl, q1⟩
 have hbk := As.mk ((q1.block W.heap.size (by simp; omega)).trans (heap_alloc2_old W _ _))
 have hbk2 := As.mk ((q1.block (W.heap.size + 1) (by simp)).trans (heap_alloc2_new W _ _))
 have B1 : As (Below W.heap.size W w1) := ⟨(((Below.refl _ _).alloc (Nat.le_refl _) _).alloc (by simp) _).trans (q1.mono (by simp; omega))⟩
 obtain ⟨k0, k1, k2, k3, k4, k5, k6⟩ := cells7 hbk.out
 have hs1 := B1.out.size
 have hlt := blk_lt hbk.out
 have hlt2 := blk_lt hbk2.out
 clear q1
 go_wp2_with fail
 refine (HN.out _ B1.out).mono ?_
 rintro e w2 ⟨rfl, q1⟩
 have B2 : As (Below W.heap.size W w2) := ⟨B1.out.trans (q1.mono hs1)⟩
 have hbk3 := As.mk ((q1.block W.heap.size hlt).trans hbk.out)
 have hbk4 := As.mk ((q1.block (W.heap.size + 1) hlt2).trans hbk2.out)
 have hs2 := q1.size
 clear q1 k0 k1 k2 k3 k4 k5 k6 hbk hbk2
 go_upto_region 7 with fail
 obtain ⟨b7, hb7⟩ : ∃ b7, b7 = w2.heap.size := ⟨_, rfl⟩
 have h49 : As ((w2.alloc (.cells #[.int .i64 st, .bool false, .int .i64 ((tr : Int) + 1)] 49)).heap[b7]? = some (.cells #[.int .i64 st, .bool false, .int .i64 ((tr : Int) + 1)] 49 (0, 0))) := ⟨by rw [hb7]; exact blk_new w2 _⟩
 have hr3 : As ((w2.alloc (.cells #[.int .i64 st, .bool false, .int .i64 ((tr : Int) + 1)] 49)).rangeAt g (st * 6) [.int .i64 x.what, .int .i64 x.n, .slice a x.name.length k, .int .i64 2, .int .i64 5, .bool x.back]) := ⟨range_heap HR.out ((Below.heap_alloc _ _ _ (by omega)).trans (B2.out.block g hgl))⟩
 have hb3 : As ((w2.alloc (.cells #[.int .i64 st, .bool false, .int .i64 ((tr : Int) + 1)] 49)).heap[W.heap.size]? = _) := ⟨blk_old hbk3.out _⟩
 have hb4 : As ((w2.alloc (.cells #[.int .i64 st, .bool false, .int .i64 ((tr : Int) + 1)] 49)).heap[W.heap.size + 1]? = _) := ⟨blk_old hbk4.out _⟩
 have B3 : As (Below W.heap.size W (w2.alloc (.cells #[.int .i64 st, .bool false, .int .i64 ((tr : Int) + 1)] 49))) := ⟨B2.out.alloc (by omega) _⟩
 rw [← hb7]
 generalize w2.alloc (.cells #[.int .i64 st, .bool false, .int .i64 ((tr : Int) + 1)] 49) = w3 at *
 generalize hb : W.heap.size = b at *
 have HBe := As.mk hb
 clear hb hb7 hbk3 hbk4 B1 B2
 have m2 := (blk_cell h49.out 2).trans rfl
 have m4 := hr3.out 4 _ rfl
 have m1 := (blk_cell hb3.out 1).trans rfl
 have e2 := (blk_cell hb3.out 2).trans rfl
 have e3 := (blk_cell hb3.out 3).trans rfl
 have e4 := (blk_cell hb3.out 4).trans rfl
 have f2 := blk_frozen hb3.out 2
 have f3 := blk_frozen hb3.out 3
 have f4 := blk_frozen hb3.out 4
 go_region
 have H5 : As ((((w3.setCell ⟨b, 2, none⟩ (.int .i64 ((tr : Int) + 1))).setCell ⟨b, 3, none⟩ (.bool true)).setCell ⟨b, 4, none⟩ (.int .i64 5)).drew.heap[b]? = some (.cells (sgC ⟨1, st, tr + 1, true, 0⟩).toArray 116 (0, 0))) := ⟨by
  show (((w3.setCell ⟨b, 2, none⟩ (.int .i64 ((tr : Int) + 1))).setCell ⟨b, 3, none⟩ (.bool true)).setCell ⟨b, 4, none⟩ (.int .i64 5)).heap[b]? = _
  rw [blk_put (blk_put (blk_put hb3.out 2 _) 3 _) 4 _]
  rfl⟩
 have H6 : As ((((w3.setCell ⟨b, 2, none⟩ (.int .i64 ((tr : Int) + 1))).setCell ⟨b, 3, none⟩ (.bool true)).setCell ⟨b, 4, none⟩ (.int .i64 5)).drew.heap[b + 1]? = _) := ⟨blk_far (blk_far (blk_far hb4.out (by omega) _) (by omega) _) (by omega) _⟩
 have B5 : As (Below b W (((w3.setCell ⟨b, 2, none⟩ (.int .i64 ((tr : Int) + 1))).setCell ⟨b, 3, none⟩ (.bool true)).setCell ⟨b, 4, none⟩ (.int .i64 5)).drew) := ⟨(((B3.out.setCell (p := ⟨b, 2, none⟩) (Nat.le_refl _) _).setCell (p := ⟨b, 3, none⟩) (Nat.le_refl _) _).setCell (p := ⟨b, 4, none⟩) (Nat.le_refl _) _).drew⟩
 generalize (((w3.setCell ⟨b, 2, none⟩ (.int .i64 ((tr : Int) + 1))).setCell ⟨b, 3, none⟩ (.bool true)).setCell ⟨b, 4, none⟩ (.int .i64 5)).drew = w4 at *
 clear m2 m4 m1 e2 e3 e4 f2 f3 f4 hb3 hb4 h49 hr3 B3
 go_wp2_with (first | (refine wpList_load_row rfl 116 (.tmp 3) rfl b rfl 116 _ _ _ H5.out Tryz.underlying116 rfl size116 ?_) | (refine wpList_storeC rfl 116 (.tmp 4) (.tmp 36) rfl (b + 1) 116 (sgC ⟨1, st, tr + 1, true, 0⟩) _ rfl rfl H6.out rfl size116 (sgC_one _) ?_; intro w5 q1 q2 q3 q4))
 refine bodyPost_ret (results_cell_tmp_row rfl _ _ (b + 1) 116 (sgC ⟨1, st, tr + 1, true, 0⟩).toArray (0, 0) _ rfl q1 Tryz.underlying116 rfl size116) rfl ⟨rfl, ?_⟩
 rw [HBe.out]
 exact B5.out.trans (q2 _ (by omega))
set_option maxHeartbeats 1000000 in
set_option maxRecDepth 100000 in
theorem ask_2 {W : World} {own : Nat → Prop} {v : Value} {p : List Stp} (h : PlanAt W own v p) (hp : PlanOk p) (st tr : Nat) (x : Stp) (hx : p[st]? = some x) (hb : x.back = true) (h2 : tr ≤ 1) :
  Calls Tryz.prog 43 #[v, .agg #[.int .i64 2, .int .i64 st, .int .i64 tr, .bool false, .int .i64 0, .bool false, .int .i64 0]] W fun e W' => e = .returned (.tuple #[.agg (sgC ⟨2, st, tr + 1, true, 0⟩).toArray, .int .i64 0]) ∧ Below W.heap.size W W' := by
 have HP : As (∀ w', Below W.heap.size W w' → Calls Tryz.prog 77 #[v, .agg #[.int .i64 2, .int .i64 st, .int .i64 tr, .bool false, .int .i64 0, .bool false, .int .i64 0]] w' fun e W' => e = .returned (.int .i64 0) ∧ Below w'.heap.size w' W') := ⟨fun w' hw => scheck_live (h.keep (W' := w') (fun k _ hk => hw.block k hk) hw.size) hp 2 st tr false x hx (.inr ⟨rfl, hb⟩) (.inl ⟨rfl, h2⟩)⟩
 have HN : As (∀ w', Below W.heap.size W w' → Calls Tryz.prog 36 #[v, .agg #[.int .i64 2, .int .i64 st, .int .i64 tr, .bool false, .int .i64 0, .bool false, .int .i64 0]] w' fun e W' => e = .returned (.tuple #[.agg #[.int .i64 st, .bool true, .int .i64 ((tr : Int) + 1)], .bool true]) ∧ Below w'.heap.size w' W') := ⟨fun w' hw => next_idle2 (h.keep (W' := w') (fun k _ hk => hw.block k hk) hw.size) hp st tr x hx hb h2⟩
 obtain ⟨g, c, y, rfl, hgl, _, hy, hr⟩ := h.at hx
 have hst : st < p.length := (List.getElem?_eq_some_iff.1 hx).1
 obtain ⟨a, k, rfl, _⟩ := hy
 have hl2 := hp.l2
 have HR := As.mk hr
 clear h hp hx hr
 unfold stC at *
 generalize p.length = n at *
 go_enter Tryz.func43, Tryz.ntmps43
 go_wp2_with fail
 refine (HP.out _ (((Below.refl _ _).alloc (Nat.le_refl _) _).alloc (by simp) _)).mono ?_
 rintro e w1 ⟨rfl, q1⟩
 have hbk := As.mk ((q1.block W.heap.size (by simp; omega)).trans (heap_alloc2_old W _ _))
 have hbk2 := As.mk ((q1.block (W.heap.size + 1) (by simp)).trans (heap_alloc2_new W _ _))
 have B1 : As (Below W.heap.size W w1) := ⟨(((Below.refl _ _).alloc (Nat.le_refl _) _).alloc (by simp) _).trans (q1.mono (by simp; omega))⟩
 obtain ⟨k0, k1, k2, k3, k4, k5, k6⟩ := cells7 hbk.out
 have hs1 := B1.out.size
 have hlt := blk_lt hbk.out
 have hlt2 := blk_lt hbk2.out
 clear q1
 go_wp2_with fail
 refine (HN.out _ B1.out).mono ?_
 rintro e w2 ⟨rfl, q1⟩
 have B2 : As (Below W.heap.size W w2) := ⟨B1.out.trans (q1.mono hs1)⟩
 have hbk3 := As.mk ((q1.block W.heap.size hlt).trans hbk.out)
 have hbk4 := As.mk ((q1.block (W.heap.size + 1) hlt2).trans hbk2.out)
 have hs2 := q1.size
 clear q1 k0 k1 k2 k3 k4 k5 k6 hbk hbk2
 go_upto_region 7 with fail
 obtain ⟨b7, hb7⟩ : ∃ b7, b7 = w2.heap.size := ⟨_, rfl⟩
 have h49 : As ((w2.alloc (.cells #[.int .i64 st, .bool true, .int .i64 ((tr : Int) + 1)] 49)).heap[b7]? = some (.cells #[.int .i64 st, .bool true, .int .i64 ((tr : Int) + 1)] 49 (0, 0))) := ⟨by rw [hb7]; exact blk_new w2 _⟩
 have hr3 : As ((w2.alloc (.cells #[.int .i64 st, .bool true, .int .i64 ((tr : Int) + 1)] 49)).rangeAt g (st * 6) [.int .i64 x.what, .int .i64 x.n, .slice a x.name.length k, .int .i64 2, .int .i64 5, .bool x.back]) := ⟨range_heap HR.out ((Below.heap_alloc _ _ _ (by omega)).trans (B2.out.block g hgl))⟩
 have hb3 : As ((w2.alloc (.cells #[.int .i64 st, .bool true, .int .i64 ((tr : Int) + 1)] 49)).heap[W.heap.size]? = _) := ⟨blk_old hbk3.out _⟩
 have hb4 : As ((w2.alloc (.cells #[.int .i64 st, .bool true, .int .i64 ((tr : Int) + 1)] 49)).heap[W.heap.size + 1]? = _) := ⟨blk_old hbk4.out _⟩
 have B3 : As (Below W.heap.size W (w2.alloc (.cells #[.int .i64 st, .bool true, .int .i64 ((tr : Int) + 1)] 49))) := ⟨B2.out.alloc (by omega) _⟩
 rw [← hb7]
 generalize w2.alloc (.cells #[.int .i64 st, .bool true, .int .i64 ((tr : Int) + 1)] 49) = w3 at *
 generalize hb : W.heap.size = b at *
 have HBe := As.mk hb
 clear hb hb7 hbk3 hbk4 B1 B2
 have m2 := (blk_cell h49.out 2).trans rfl
 have m4 := hr3.out 4 _ rfl
 have m1 := (blk_cell hb3.out 1).trans rfl
 have e2 := (blk_cell hb3.out 2).trans rfl
 have e3 := (blk_cell hb3.out 3).trans rfl
 have e4 := (blk_cell hb3.out 4).trans rfl
 have f2 := blk_frozen hb3.out 2
 have f3 := blk_frozen hb3.out 3
 have f4 := blk_frozen hb3.out 4
 go_region
 have H5 : As ((((w3.setCell ⟨b, 2, none⟩ (.int .i64 ((tr : Int) + 1))).setCell ⟨b, 3, none⟩ (.bool true)).setCell ⟨b, 4, none⟩ (.int .i64 5)).drew.heap[b]? = some (.cells (sgC ⟨2, st, tr + 1, true, 0⟩).toArray 116 (0, 0))) := ⟨by
  show (((w3.setCell ⟨b, 2, none⟩ (.int .i64 ((tr : Int) + 1))).setCell ⟨b, 3, none⟩ (.bool true)).setCell ⟨b, 4, none⟩ (.int .i64 5)).heap[b]? = _
  rw [blk_put (blk_put (blk_put hb3.out 2 _) 3 _) 4 _]
  rfl⟩
 have H6 : As ((((w3.setCell ⟨b, 2, none⟩ (.int .i64 ((tr : Int) + 1))).setCell ⟨b, 3, none⟩ (.bool true)).setCell ⟨b, 4, none⟩ (.int .i64 5)).drew.heap[b + 1]? = _) := ⟨blk_far (blk_far (blk_far hb4.out (by omega) _) (by omega) _) (by omega) _⟩
 have B5 : As (Below b W (((w3.setCell ⟨b, 2, none⟩ (.int .i64 ((tr : Int) + 1))).setCell ⟨b, 3, none⟩ (.bool true)).setCell ⟨b, 4, none⟩ (.int .i64 5)).drew) := ⟨(((B3.out.setCell (p := ⟨b, 2, none⟩) (Nat.le_refl _) _).setCell (p := ⟨b, 3, none⟩) (Nat.le_refl _) _).setCell (p := ⟨b, 4, none⟩) (Nat.le_refl _) _).drew⟩
 generalize (((w3.setCell ⟨b, 2, none⟩ (.int .i64 ((tr : Int) + 1))).setCell ⟨b, 3, none⟩ (.bool true)).setCell ⟨b, 4, none⟩ (.int .i64 5)).drew = w4 at *
 clear m2 m4 m1 e2 e3 e4 f2 f3 f4 hb3 hb4 h49 hr3 B3
 go_wp2_with (first | (refine wpList_load_row rfl 116 (.tmp 3) rfl b rfl 116 _ _ _ H5.out Tryz.underlying116 rfl size116 ?_) | (refine wpList_storeC rfl 116 (.tmp 4) (.tmp 36) rfl (b + 1) 116 (sgC ⟨2, st, tr + 1, true, 0⟩) _ rfl rfl H6.out rfl size116 (sgC_one _) ?_; intro w5 q1 q2 q3 q4))
 refine bodyPost_ret (results_cell_tmp_row rfl _ _ (b + 1) 116 (sgC ⟨2, st, tr + 1, true, 0⟩).toArray (0, 0) _ rfl q1 Tryz.underlying116 rfl size116) rfl ⟨rfl, ?_⟩
 rw [HBe.out]
 exact B5.out.trans (q2 _ (by omega))
def askS (s : Sg) : Sg := ⟨s.ph, s.st, s.tr + 1, true, 0⟩
theorem ask_a {W : World} {own : Nat → Prop} {v : Value} {p : List Stp} (h : PlanAt W own v p) (hp : PlanOk p) {s : Sg} (hs : SgOk p s) {d : Dn} (hn : nextS s = some d) :
  Calls Tryz.prog 43 #[v, .agg (sgC s).toArray] W fun e W' => e = .returned (.tuple #[.agg (sgC (askS s)).toArray, .int .i64 0]) ∧ Below W.heap.size W W' := by
 cases hs with
 | over c h1 h2 => cases hn
 | idle ph st tr x hx hph ht =>
  rcases hph with rfl | ⟨rfl, hb⟩
  ·exact ask_1 h hp st tr x hx ht
  ·exact ask_2 h hp st tr x hx hb ht
 | wait ph st tr x hx hph h1 h2 =>
  unfold nextS at hn
  rw [if_pos (.inr rfl)] at hn
  cases hn
theorem askS_ok {p : List Stp} {s : Sg} (hs : SgOk p s) {d : Dn} (hn : nextS s = some d) : SgOk p (askS s) := by
 cases hs with
 | over c h1 h2 => cases hn
 | idle ph st tr x hx hph ht => exact .wait ph st (tr + 1) x hx hph (by omega) (by omega)
 | wait ph st tr x hx hph h1 h2 =>
  unfold nextS at hn
  rw [if_pos (.inr rfl)] at hn
  cases hn
end Go.Proofs.YthfjhgdiakciaaaGreat.Bl
/- What came of a step: forward (saga.forward), back (saga.undone), told (saga.Tell). Condition: an answer is waited for, of that very step. -/
namespace Go.Proofs.YthfjhgdiakciaaaGreat.Bl
open Go.RowKit
set_option linter.unusedVariables false
set_option linter.unusedSimpArgs false
def tellS (p : List Stp) (s : Sg) (code : Nat) : Sg :=
 if s.ph = 1 then
  if code = 2 then backS p s.st
  else if code = 3 then if s.tr < 2 then ⟨1, s.st, s.tr, false, 0⟩ else backS p (s.st + 1)
  else if s.st + 1 = p.length then overS 1 else ⟨1, s.st + 1, 0, false, 0⟩
 else if code = 1 then backS p s.st
  else if s.tr = 2 then overS 3 else ⟨2, s.st, s.tr, false, 0⟩
set_option maxHeartbeats 1000000 in
set_option maxRecDepth 100000 in
theorem fwd_2 {W : World} {own : Nat → Prop} {v : Value} {p : List Stp} (h : PlanAt W own v p) (hp : PlanOk p) (st tr : Nat) (x : Stp) (hx : p[st]? = some x) (h1 : 1 ≤ tr) (h2 : tr ≤ 2) :
  Calls Tryz.prog 83 #[v, .agg #[.int .i64 1, .int .i64 st, .int .i64 tr, .bool true, .int .i64 5, .bool false, .int .i64 0], .int .i64 2] W fun e W' => e = .returned (.agg (sgC (backS p st)).toArray) ∧ Below W.heap.size W W' := by
 have HB : As (∀ w', Below W.heap.size W w' → ∀ n, n ≤ p.length → ∀ k : Int, k = (n : Int) - 1 → Calls Tryz.prog 117 #[v, .int .i64 k] w' fun e W' => e = .returned (.agg (sgC (backS p n)).toArray) ∧ Below w'.heap.size w' W') := ⟨fun w' hw n hn k hk => back_a (h.keep (W' := w') (fun k _ hk => hw.block k hk) hw.size) hp n hn k hk⟩
 obtain ⟨g, c, y, rfl, hgl, _, hy, hr⟩ := h.at hx
 have hst : st < p.length := (List.getElem?_eq_some_iff.1 hx).1
 have t3 := (hy.c5 hr).1
 have hl2 := hp.l2
 clear h hp hx hr hy
 go_enter Tryz.func83, Tryz.ntmps83
 go_wp2_with fail
 refine (HB.out _ (((Below.refl _ _).alloc (Nat.le_refl _) _).alloc (by simp) _) st (by omega) _ rfl).mono ?_
 rintro e w1 ⟨rfl, q1⟩
 have hB1 := ((((Below.refl W.heap.size W).alloc (Nat.le_refl _) _).alloc (by simp) _).trans (q1.mono (by simp; omega)))
 have hbk2 := As.mk ((q1.block (W.heap.size + 1) (by simp)).trans (heap_alloc2_new W _ _))
 clear q1
 go_wp2_with (refine wpList_storeC rfl 116 (.tmp 6) (.tmp 14) rfl (W.heap.size + 1) 116 (sgC (backS p st)) _ rfl rfl hbk2.out rfl size116 (sgC_one _) ?_; intro w2 q1 q2 q3 q4)
 refine bodyPost_ret (results_cell_row rfl _ _ (W.heap.size + 1) 116 (sgC (backS p st)).toArray (0, 0) _ rfl q1 Tryz.underlying116 rfl size116) rfl ⟨rfl, hB1.trans (q2 _ (by omega))⟩
set_option maxHeartbeats 1000000 in
set_option maxRecDepth 100000 in
theorem fwd_3a {W : World} {own : Nat → Prop} {v : Value} {p : List Stp} (h : PlanAt W own v p) (hp : PlanOk p) (st tr : Nat) (x : Stp) (hx : p[st]? = some x) (h1 : 1 ≤ tr) (h2 : tr < 2) :
  Calls Tryz.prog 83 #[v, .agg #[.int .i64 1, .int .i64 st, .int .i64 tr, .bool true, .int .i64 5, .bool false, .int .i64 0], .int .i64 3] W fun e W' => e = .returned (.agg (sgC (⟨1, st, tr, false, 0⟩)).toArray) ∧ Below W.heap.size W W' := by
 have HB : As (∀ w', Below W.heap.size W w' → ∀ n, n ≤ p.length → ∀ k : Int, k = (n : Int) - 1 → Calls Tryz.prog 117 #[v, .int .i64 k] w' fun e W' => e = .returned (.agg (sgC (backS p n)).toArray) ∧ Below w'.heap.size w' W') := ⟨fun w' hw n hn k hk => back_a (h.keep (W' := w') (fun k _ hk => hw.block k hk) hw.size) hp n hn k hk⟩
 obtain ⟨g, c, y, rfl, hgl, _, hy, hr⟩ := h.at hx
 have hst : st < p.length := (List.getElem?_eq_some_iff.1 hx).1
 have t3 := (hy.c5 hr).1
 have hl2 := hp.l2
 clear h hp hx hr hy
 have hd : decide ((tr : Int) < 2) = true := by simp; omega
 go_enter Tryz.func83, Tryz.ntmps83
 go_upto_region 3 with fail
 go_region
 go_wp2_with fail
 refine (again_a 1 st tr _).mono ?_
 rintro e w1 ⟨rfl, q1⟩
 have hB1 := ((((Below.refl W.heap.size W).alloc (Nat.le_refl _) _).alloc (by simp) _).drew.trans (q1.mono (by simp; omega)))
 have hbk2 := As.mk ((q1.block (W.heap.size + 1) (by simp)).trans (heap_alloc2_new W _ _))
 clear q1
 go_wp2_with (refine wpList_storeC rfl 116 (.tmp 6) (.tmp 35) rfl (W.heap.size + 1) 116 (sgC (⟨1, st, tr, false, 0⟩)) _ rfl rfl hbk2.out rfl size116 (sgC_one _) ?_; intro w2 q1 q2 q3 q4)
 refine bodyPost_ret (results_cell_row rfl _ _ (W.heap.size + 1) 116 (sgC (⟨1, st, tr, false, 0⟩)).toArray (0, 0) _ rfl q1 Tryz.underlying116 rfl size116) rfl ⟨rfl, hB1.trans (q2 _ (by omega))⟩
set_option maxHeartbeats 1000000 in
set_option maxRecDepth 100000 in
theorem fwd_3b {W : World} {own : Nat → Prop} {v : Value} {p : List Stp} (h : PlanAt W own v p) (hp : PlanOk p) (st tr : Nat) (x : Stp) (hx : p[st]? = some x) (h2 : tr = 2) :
  Calls Tryz.prog 83 #[v, .agg #[.int .i64 1, .int .i64 st, .int .i64 tr, .bool true, .int .i64 5, .bool false, .int .i64 0], .int .i64 3] W fun e W' => e = .returned (.agg (sgC (backS p (st + 1))).toArray) ∧ Below W.heap.size W W' := by
 have HB : As (∀ w', Below W.heap.size W w' → ∀ n, n ≤ p.length → ∀ k : Int, k = (n : Int) - 1 → Calls Tryz.prog 117 #[v, .int .i64 k] w' fun e W' => e = .returned (.agg (sgC (backS p n)).toArray) ∧ Below w'.heap.size w' W') := ⟨fun w' hw n hn k hk => back_a (h.keep (W' := w') (fun k _ hk => hw.block k hk) hw.size) hp n hn k hk⟩
 obtain ⟨g, c, y, rfl, hgl, _, hy, hr⟩ := h.at hx
 have hst : st < p.length := (List.getElem?_eq_some_iff.1 hx).1
 have t3 := (hy.c5 hr).1
 have hl2 := hp.l2
 clear h hp hx hr hy
 have hd : decide ((tr : Int) < 2) = false := by simp; omega
 clear h2
 go_enter Tryz.func83, Tryz.ntmps83
 go_upto_region 3 with fail
 go_region
 go_wp2_with fail
 refine (HB.out _ (((Below.refl _ _).alloc (Nat.le_refl _) _).alloc (by simp) _).drew (st + 1) (by omega) _ (by omega)).mono ?_
 rintro e w1 ⟨rfl, q1⟩
 have hB1 := ((((Below.refl W.heap.size W).alloc (Nat.le_refl _) _).alloc (by simp) _).drew.trans (q1.mono (by simp; omega)))
 have hbk2 := As.mk ((q1.block (W.heap.size + 1) (by simp)).trans (heap_alloc2_new W _ _))
 clear q1
 go_wp2_with (refine wpList_storeC rfl 116 (.tmp 6) (.tmp 46) rfl (W.heap.size + 1) 116 (sgC (backS p (st + 1))) _ rfl rfl hbk2.out rfl size116 (sgC_one _) ?_; intro w2 q1 q2 q3 q4)
 refine bodyPost_ret (results_cell_row rfl _ _ (W.heap.size + 1) 116 (sgC (backS p (st + 1))).toArray (0, 0) _ rfl q1 Tryz.underlying116 rfl size116) rfl ⟨rfl, hB1.trans (q2 _ (by omega))⟩
set_option maxHeartbeats 1000000 in
set_option maxRecDepth 100000 in
theorem fwd_1a {W : World} {own : Nat → Prop} {v : Value} {p : List Stp} (h : PlanAt W own v p) (hp : PlanOk p) (st tr : Nat) (x : Stp) (hx : p[st]? = some x) (h2 : st + 1 = p.length) :
  Calls Tryz.prog 83 #[v, .agg #[.int .i64 1, .int .i64 st, .int .i64 tr, .bool true, .int .i64 5, .bool false, .int .i64 0], .int .i64 1] W fun e W' => e = .returned (.agg (sgC (overS 1)).toArray) ∧ Below W.heap.size W W' := by
 have HB : As (∀ w', Below W.heap.size W w' → ∀ n, n ≤ p.length → ∀ k : Int, k = (n : Int) - 1 → Calls Tryz.prog 117 #[v, .int .i64 k] w' fun e W' => e = .returned (.agg (sgC (backS p n)).toArray) ∧ Below w'.heap.size w' W') := ⟨fun w' hw n hn k hk => back_a (h.keep (W' := w') (fun k _ hk => hw.block k hk) hw.size) hp n hn k hk⟩
 obtain ⟨g, c, y, rfl, hgl, _, hy, hr⟩ := h.at hx
 have hst : st < p.length := (List.getElem?_eq_some_iff.1 hx).1
 have t3 := (hy.c5 hr).1
 have hl2 := hp.l2
 clear h hp hx hr hy
 have hd : ((st : Int) == (p.length : Int) - 1) = true := by simp; omega
 clear h2
 go_enter Tryz.func83, Tryz.ntmps83
 go_upto_region 3 with fail
 go_region
 go_wp2_with fail
 refine (over_a 1 _).mono ?_
 rintro e w1 ⟨rfl, q1⟩
 have hB1 := ((((Below.refl W.heap.size W).alloc (Nat.le_refl _) _).alloc (by simp) _).drew.trans (q1.mono (by simp; omega)))
 have hbk2 := As.mk ((q1.block (W.heap.size + 1) (by simp)).trans (heap_alloc2_new W _ _))
 clear q1
 go_wp2_with (refine wpList_storeC rfl 116 (.tmp 6) (.tmp 54) rfl (W.heap.size + 1) 116 (sgC (overS 1)) _ rfl rfl hbk2.out rfl size116 (sgC_one _) ?_; intro w2 q1 q2 q3 q4)
 refine bodyPost_ret (results_cell_row rfl _ _ (W.heap.size + 1) 116 (sgC (overS 1)).toArray (0, 0) _ rfl q1 Tryz.underlying116 rfl size116) rfl ⟨rfl, hB1.trans (q2 _ (by omega))⟩
set_option maxHeartbeats 1000000 in
set_option maxRecDepth 100000 in
theorem fwd_1b {W : World} {own : Nat → Prop} {v : Value} {p : List Stp} (h : PlanAt W own v p) (hp : PlanOk p) (st tr : Nat) (x : Stp) (hx : p[st]? = some x) (h2 : ¬ st + 1 = p.length) :
  Calls Tryz.prog 83 #[v, .agg #[.int .i64 1, .int .i64 st, .int .i64 tr, .bool true, .int .i64 5, .bool false, .int .i64 0], .int .i64 1] W fun e W' => e = .returned (.agg (sgC (⟨1, st + 1, 0, false, 0⟩)).toArray) ∧ Below W.heap.size W W' := by
 have HB : As (∀ w', Below W.heap.size W w' → ∀ n, n ≤ p.length → ∀ k : Int, k = (n : Int) - 1 → Calls Tryz.prog 117 #[v, .int .i64 k] w' fun e W' => e = .returned (.agg (sgC (backS p n)).toArray) ∧ Below w'.heap.size w' W') := ⟨fun w' hw n hn k hk => back_a (h.keep (W' := w') (fun k _ hk => hw.block k hk) hw.size) hp n hn k hk⟩
 obtain ⟨g, c, y, rfl, hgl, _, hy, hr⟩ := h.at hx
 have hst : st < p.length := (List.getElem?_eq_some_iff.1 hx).1
 have t3 := (hy.c5 hr).1
 have hl2 := hp.l2
 clear h hp hx hr hy
 have hd : ((st : Int) == (p.length : Int) - 1) = false := by simp; omega
 clear h2
 go_enter Tryz.func83, Tryz.ntmps83
 go_upto_region 3 with fail
 go_region
 have hbk2 := As.mk (heap_alloc2_new W (.cells #[.int .i64 1, .int .i64 st, .int .i64 tr, .bool true, .int .i64 5, .bool false, .int .i64 0] 116) (.cells #[.int .i64 0, .int .i64 0, .int .i64 0, .bool false, .int .i64 0, .bool false, .int .i64 0] 116))
 go_wp2_with (refine wpList_storeC rfl 116 (.tmp 6) (.tmp 58) rfl (W.heap.size + 1) 116 (sgC ⟨1, st + 1, 0, false, 0⟩) _ rfl rfl hbk2.out rfl size116 (sgC_one _) ?_; intro w2 q1 q2 q3 q4)
 refine bodyPost_ret (results_cell_row rfl _ _ (W.heap.size + 1) 116 (sgC ⟨1, st + 1, 0, false, 0⟩).toArray (0, 0) _ rfl q1 Tryz.underlying116 rfl size116) rfl ⟨rfl, ((((Below.refl W.heap.size W).alloc (Nat.le_refl _) _).alloc (by simp) _).drew).trans (q2 _ (by omega))⟩
set_option maxHeartbeats 1000000 in
set_option maxRecDepth 100000 in
theorem und_1 {W : World} {own : Nat → Prop} {v : Value} {p : List Stp} (h : PlanAt W own v p) (hp : PlanOk p) (st tr : Nat) (x : Stp) (hx : p[st]? = some x) (h1 : 1 ≤ tr) (h2 : tr ≤ 2) :
  Calls Tryz.prog 82 #[v, .agg #[.int .i64 2, .int .i64 st, .int .i64 tr, .bool true, .int .i64 5, .bool false, .int .i64 0], .int .i64 1] W fun e W' => e = .returned (.agg (sgC (backS p st)).toArray) ∧ Below W.heap.size W W' := by
 have HB : As (∀ w', Below W.heap.size W w' → ∀ n, n ≤ p.length → ∀ k : Int, k = (n : Int) - 1 → Calls Tryz.prog 117 #[v, .int .i64 k] w' fun e W' => e = .returned (.agg (sgC (backS p n)).toArray) ∧ Below w'.heap.size w' W') := ⟨fun w' hw n hn k hk => back_a (h.keep (W' := w') (fun k _ hk => hw.block k hk) hw.size) hp n hn k hk⟩
 obtain ⟨g, c, y, rfl, hgl, _, hy, hr⟩ := h.at hx
 have hst : st < p.length := (List.getElem?_eq_some_iff.1 hx).1
 have t3 := (hy.c5 hr).1
 have hl2 := hp.l2
 clear h hp hx hr hy
 go_enter Tryz.func82, Tryz.ntmps82
 go_wp2_with fail
 refine (HB.out _ (((Below.refl _ _).alloc (Nat.le_refl _) _).alloc (by simp) _) st (by omega) _ rfl).mono ?_
 rintro e w1 ⟨rfl, q1⟩
 have hB1 := ((((Below.refl W.heap.size W).alloc (Nat.le_refl _) _).alloc (by simp) _).trans (q1.mono (by simp; omega)))
 have hbk2 := As.mk ((q1.block (W.heap.size + 1) (by simp)).trans (heap_alloc2_new W _ _))
 clear q1
 go_wp2_with (refine wpList_storeC rfl 116 (.tmp 6) (.tmp 16) rfl (W.heap.size + 1) 116 (sgC (backS p st)) _ rfl rfl hbk2.out rfl size116 (sgC_one _) ?_; intro w2 q1 q2 q3 q4)
 refine bodyPost_ret (results_cell_row rfl _ _ (W.heap.size + 1) 116 (sgC (backS p st)).toArray (0, 0) _ rfl q1 Tryz.underlying116 rfl size116) rfl ⟨rfl, hB1.trans (q2 _ (by omega))⟩
set_option maxHeartbeats 1000000 in
set_option maxRecDepth 100000 in
theorem und_2a {W : World} {own : Nat → Prop} {v : Value} {p : List Stp} (h : PlanAt W own v p) (hp : PlanOk p) (st tr : Nat) (x : Stp) (hx : p[st]? = some x) (h1 : 1 ≤ tr) (h2 : tr < 2) :
  Calls Tryz.prog 82 #[v, .agg #[.int .i64 2, .int .i64 st, .int .i64 tr, .bool true, .int .i64 5, .bool false, .int .i64 0], .int .i64 2] W fun e W' => e = .returned (.agg (sgC (⟨2, st, tr, false, 0⟩)).toArray) ∧ Below W.heap.size W W' := by
 have HB : As (∀ w', Below W.heap.size W w' → ∀ n, n ≤ p.length → ∀ k : Int, k = (n : Int) - 1 → Calls Tryz.prog 117 #[v, .int .i64 k] w' fun e W' => e = .returned (.agg (sgC (backS p n)).toArray) ∧ Below w'.heap.size w' W') := ⟨fun w' hw n hn k hk => back_a (h.keep (W' := w') (fun k _ hk => hw.block k hk) hw.size) hp n hn k hk⟩
 obtain ⟨g, c, y, rfl, hgl, _, hy, hr⟩ := h.at hx
 have hst : st < p.length := (List.getElem?_eq_some_iff.1 hx).1
 have t3 := (hy.c5 hr).1
 have hl2 := hp.l2
 clear h hp hx hr hy
 have hd : ((tr : Int) == 2) = false := by simp; omega
 go_enter Tryz.func82, Tryz.ntmps82
 go_upto_region 5 with fail
 go_region
 go_wp2_with fail
 refine (again_a 2 st tr _).mono ?_
 rintro e w1 ⟨rfl, q1⟩
 have hB1 := ((((Below.refl W.heap.size W).alloc (Nat.le_refl _) _).alloc (by simp) _).drew.trans (q1.mono (by simp; omega)))
 have hbk2 := As.mk ((q1.block (W.heap.size + 1) (by simp)).trans (heap_alloc2_new W _ _))
 clear q1
 go_wp2_with (refine wpList_storeC rfl 116 (.tmp 6) (.tmp 28) rfl (W.heap.size + 1) 116 (sgC (⟨2, st, tr, false, 0⟩)) _ rfl rfl hbk2.out rfl size116 (sgC_one _) ?_; intro w2 q1 q2 q3 q4)
 refine bodyPost_ret (results_cell_row rfl _ _ (W.heap.size + 1) 116 (sgC (⟨2, st, tr, false, 0⟩)).toArray (0, 0) _ rfl q1 Tryz.underlying116 rfl size116) rfl ⟨rfl, hB1.trans (q2 _ (by omega))⟩
set_option maxHeartbeats 1000000 in
set_option maxRecDepth 100000 in
theorem und_2b {W : World} {own : Nat → Prop} {v : Value} {p : List Stp} (h : PlanAt W own v p) (hp : PlanOk p) (st tr : Nat) (x : Stp) (hx : p[st]? = some x) (h2 : tr = 2) :
  Calls Tryz.prog 82 #[v, .agg #[.int .i64 2, .int .i64 st, .int .i64 tr, .bool true, .int .i64 5, .bool false, .int .i64 0], .int .i64 2] W fun e W' => e = .returned (.agg (sgC (overS 3)).toArray) ∧ Below W.heap.size W W' := by
 have HB : As (∀ w', Below W.heap.size W w' → ∀ n, n ≤ p.length → ∀ k : Int, k = (n : Int) - 1 → Calls Tryz.prog 117 #[v, .int .i64 k] w' fun e W' => e = .returned (.agg (sgC (backS p n)).toArray) ∧ Below w'.heap.size w' W') := ⟨fun w' hw n hn k hk => back_a (h.keep (W' := w') (fun k _ hk => hw.block k hk) hw.size) hp n hn k hk⟩
 obtain ⟨g, c, y, rfl, hgl, _, hy, hr⟩ := h.at hx
 have hst : st < p.length := (List.getElem?_eq_some_iff.1 hx).1
 have t3 := (hy.c5 hr).1
 have hl2 := hp.l2
 clear h hp hx hr hy
 have hd : ((tr : Int) == 2) = true := by simp; omega
 clear h2
 go_enter Tryz.func82, Tryz.ntmps82
 go_upto_region 5 with fail
 go_region
 go_wp2_with fail
 refine (over_a 3 _).mono ?_
 rintro e w1 ⟨rfl, q1⟩
 have hB1 := ((((Below.refl W.heap.size W).alloc (Nat.le_refl _) _).alloc (by simp) _).drew.trans (q1.mono (by simp; omega)))
 have hbk2 := As.mk ((q1.block (W.heap.size + 1) (by simp)).trans (heap_alloc2_new W _ _))
 clear q1
 go_wp2_with (refine wpList_storeC rfl 116 (.tmp 6) (.tmp 26) rfl (W.heap.size + 1) 116 (sgC (overS 3)) _ rfl rfl hbk2.out rfl size116 (sgC_one _) ?_; intro w2 q1 q2 q3 q4)
 refine bodyPost_ret (results_cell_row rfl _ _ (W.heap.size + 1) 116 (sgC (overS 3)).toArray (0, 0) _ rfl q1 Tryz.underlying116 rfl size116) rfl ⟨rfl, hB1.trans (q2 _ (by omega))⟩
set_option maxHeartbeats 1000000 in
set_option maxRecDepth 100000 in
theorem und_3a {W : World} {own : Nat → Prop} {v : Value} {p : List Stp} (h : PlanAt W own v p) (hp : PlanOk p) (st tr : Nat) (x : Stp) (hx : p[st]? = some x) (h1 : 1 ≤ tr) (h2 : tr < 2) :
  Calls Tryz.prog 82 #[v, .agg #[.int .i64 2, .int .i64 st, .int .i64 tr, .bool true, .int .i64 5, .bool false, .int .i64 0], .int .i64 3] W fun e W' => e = .returned (.agg (sgC (⟨2, st, tr, false, 0⟩)).toArray) ∧ Below W.heap.size W W' := by
 have HB : As (∀ w', Below W.heap.size W w' → ∀ n, n ≤ p.length → ∀ k : Int, k = (n : Int) - 1 → Calls Tryz.prog 117 #[v, .int .i64 k] w' fun e W' => e = .returned (.agg (sgC (backS p n)).toArray) ∧ Below w'.heap.size w' W') := ⟨fun w' hw n hn k hk => back_a (h.keep (W' := w') (fun k _ hk => hw.block k hk) hw.size) hp n hn k hk⟩
 obtain ⟨g, c, y, rfl, hgl, _, hy, hr⟩ := h.at hx
 have hst : st < p.length := (List.getElem?_eq_some_iff.1 hx).1
 have t3 := (hy.c5 hr).1
 have hl2 := hp.l2
 clear h hp hx hr hy
 have hd : ((tr : Int) == 2) = false := by simp; omega
 go_enter Tryz.func82, Tryz.ntmps82
 go_upto_region 5 with fail
 go_region
 go_wp2_with fail
 refine (again_a 2 st tr _).mono ?_
 rintro e w1 ⟨rfl, q1⟩
 have hB1 := ((((Below.refl W.heap.size W).alloc (Nat.le_refl _) _).alloc (by simp) _).drew.trans (q1.mono (by simp; omega)))
 have hbk2 := As.mk ((q1.block (W.heap.size + 1) (by simp)).trans (heap_alloc2_new W _ _))
 clear q1
 go_wp2_with (refine wpList_storeC rfl 116 (.tmp 6) (.tmp 28) rfl (W.heap.size + 1) 116 (sgC (⟨2, st, tr, false, 0⟩)) _ rfl rfl hbk2.out rfl size116 (sgC_one _) ?_; intro w2 q1 q2 q3 q4)
 refine bodyPost_ret (results_cell_row rfl _ _ (W.heap.size + 1) 116 (sgC (⟨2, st, tr, false, 0⟩)).toArray (0, 0) _ rfl q1 Tryz.underlying116 rfl size116) rfl ⟨rfl, hB1.trans (q2 _ (by omega))⟩
set_option maxHeartbeats 1000000 in
set_option maxRecDepth 100000 in
theorem und_3b {W : World} {own : Nat → Prop} {v : Value} {p : List Stp} (h : PlanAt W own v p) (hp : PlanOk p) (st tr : Nat) (x : Stp) (hx : p[st]? = some x) (h2 : tr = 2) :
  Calls Tryz.prog 82 #[v, .agg #[.int .i64 2, .int .i64 st, .int .i64 tr, .bool true, .int .i64 5, .bool false, .int .i64 0], .int .i64 3] W fun e W' => e = .returned (.agg (sgC (overS 3)).toArray) ∧ Below W.heap.size W W' := by
 have HB : As (∀ w', Below W.heap.size W w' → ∀ n, n ≤ p.length → ∀ k : Int, k = (n : Int) - 1 → Calls Tryz.prog 117 #[v, .int .i64 k] w' fun e W' => e = .returned (.agg (sgC (backS p n)).toArray) ∧ Below w'.heap.size w' W') := ⟨fun w' hw n hn k hk => back_a (h.keep (W' := w') (fun k _ hk => hw.block k hk) hw.size) hp n hn k hk⟩
 obtain ⟨g, c, y, rfl, hgl, _, hy, hr⟩ := h.at hx
 have hst : st < p.length := (List.getElem?_eq_some_iff.1 hx).1
 have t3 := (hy.c5 hr).1
 have hl2 := hp.l2
 clear h hp hx hr hy
 have hd : ((tr : Int) == 2) = true := by simp; omega
 clear h2
 go_enter Tryz.func82, Tryz.ntmps82
 go_upto_region 5 with fail
 go_region
 go_wp2_with fail
 refine (over_a 3 _).mono ?_
 rintro e w1 ⟨rfl, q1⟩
 have hB1 := ((((Below.refl W.heap.size W).alloc (Nat.le_refl _) _).alloc (by simp) _).drew.trans (q1.mono (by simp; omega)))
 have hbk2 := As.mk ((q1.block (W.heap.size + 1) (by simp)).trans (heap_alloc2_new W _ _))
 clear q1
 go_wp2_with (refine wpList_storeC rfl 116 (.tmp 6) (.tmp 26) rfl (W.heap.size + 1) 116 (sgC (overS 3)) _ rfl rfl hbk2.out rfl size116 (sgC_one _) ?_; intro w2 q1 q2 q3 q4)
 refine bodyPost_ret (results_cell_row rfl _ _ (W.heap.size + 1) 116 (sgC (overS 3)).toArray (0, 0) _ rfl q1 Tryz.underlying116 rfl size116) rfl ⟨rfl, hB1.trans (q2 _ (by omega))⟩
theorem tellS_ok {p : List Stp} {ph st tr code : Nat} {x : Stp} (hx : p[st]? = some x) (hph : ph = 1 ∨ ph = 2 ∧ x.back = true) (h1 : 1 ≤ tr) (h2 : tr ≤ 2) (hl : 1 ≤ p.length) : SgOk p (tellS p ⟨ph, st, tr, true, 0⟩ code) := by
 have hlt := (List.getElem?_eq_some_iff.1 hx).1
 have hb : ∀ n, n ≤ p.length → SgOk p (backS p n) := by
  intro n
  induction n with
  | zero => intro _; exact .over 2 (by omega) (by omega)
  | succ n ih =>
   intro hn
   unfold backS
   rw [List.getElem?_eq_getElem (show n < p.length by omega)]
   show SgOk p (if p[n].back = true then _ else _)
   split
   ·rename_i hb; exact .idle 2 n 0 _ (List.getElem?_eq_getElem (by omega)) (.inr ⟨rfl, hb⟩) (by omega)
   ·exact ih (by omega)
 unfold tellS
 simp only
 split
 ·split
  ·exact hb st (by omega)
  ·split
   ·split
    ·rename_i hp1 _ _ _; exact .idle 1 st tr x hx (.inl rfl) (by omega)
    ·exact hb (st + 1) (by omega)
   ·split
    ·exact .over 1 (by omega) (by omega)
    ·exact .idle 1 (st + 1) 0 _ (List.getElem?_eq_getElem (show st + 1 < p.length by omega)) (.inl rfl) (by omega)
 ·split
  ·exact hb st (by omega)
  ·split
   ·exact .over 3 (by omega) (by omega)
   ·rename_i hp1 _ _
    rcases hph with h | h
    ·exact absurd h hp1
    ·exact .idle 2 st tr x hx (.inr ⟨rfl, h.2⟩) (by omega)
theorem fwd_a {W : World} {own : Nat → Prop} {v : Value} {p : List Stp} (h : PlanAt W own v p) (hp : PlanOk p) (st tr : Nat) (x : Stp) (hx : p[st]? = some x) (h1 : 1 ≤ tr) (h2 : tr ≤ 2) (code : Nat) (hc : code = 1 ∨ code = 2 ∨ code = 3) :
  Calls Tryz.prog 83 #[v, .agg (sgC ⟨1, st, tr, true, 0⟩).toArray, .int .i64 code] W fun e W' => e = .returned (.agg (sgC (tellS p ⟨1, st, tr, true, 0⟩ code)).toArray) ∧ Below W.heap.size W W' := by
 rcases hc with rfl | rfl | rfl
 ·by_cases hl : st + 1 = p.length
  ·have e : tellS p ⟨1, st, tr, true, 0⟩ 1 = overS 1 := by simp [tellS, hl]
   rw [e]; exact fwd_1a h hp st tr x hx hl
  ·have e : tellS p ⟨1, st, tr, true, 0⟩ 1 = ⟨1, st + 1, 0, false, 0⟩ := by simp [tellS, hl]
   rw [e]; exact fwd_1b h hp st tr x hx hl
 ·have e : tellS p ⟨1, st, tr, true, 0⟩ 2 = backS p st := by simp [tellS]
  rw [e]; exact fwd_2 h hp st tr x hx h1 h2
 ·by_cases hl : tr < 2
  ·have e : tellS p ⟨1, st, tr, true, 0⟩ 3 = ⟨1, st, tr, false, 0⟩ := by simp [tellS, hl]
   rw [e]; exact fwd_3a h hp st tr x hx h1 hl
  ·have e : tellS p ⟨1, st, tr, true, 0⟩ 3 = backS p (st + 1) := by simp [tellS, hl]
   rw [e]; exact fwd_3b h hp st tr x hx (by omega)
theorem und_a {W : World} {own : Nat → Prop} {v : Value} {p : List Stp} (h : PlanAt W own v p) (hp : PlanOk p) (st tr : Nat) (x : Stp) (hx : p[st]? = some x) (h1 : 1 ≤ tr) (h2 : tr ≤ 2) (code : Nat) (hc : code = 1 ∨ code = 2 ∨ code = 3) :
  Calls Tryz.prog 82 #[v, .agg (sgC ⟨2, st, tr, true, 0⟩).toArray, .int .i64 code] W fun e W' => e = .returned (.agg (sgC (tellS p ⟨2, st, tr, true, 0⟩ code)).toArray) ∧ Below W.heap.size W W' := by
 rcases hc with rfl | rfl | rfl
 ·have e : tellS p ⟨2, st, tr, true, 0⟩ 1 = backS p st := by simp [tellS]
  rw [e]; exact und_1 h hp st tr x hx h1 h2
 ·by_cases hl : tr = 2
  ·have e : tellS p ⟨2, st, tr, true, 0⟩ 2 = overS 3 := by simp [tellS, hl]
   rw [e]; exact und_2b h hp st tr x hx hl
  ·have e : tellS p ⟨2, st, tr, true, 0⟩ 2 = ⟨2, st, tr, false, 0⟩ := by simp [tellS, hl]
   rw [e]; exact und_2a h hp st tr x hx h1 (by omega)
 ·by_cases hl : tr = 2
  ·have e : tellS p ⟨2, st, tr, true, 0⟩ 3 = overS 3 := by simp [tellS, hl]
   rw [e]; exact und_3b h hp st tr x hx hl
  ·have e : tellS p ⟨2, st, tr, true, 0⟩ 3 = ⟨2, st, tr, false, 0⟩ := by simp [tellS, hl]
   rw [e]; exact und_3a h hp st tr x hx h1 (by omega)
set_option maxHeartbeats 1000000 in
set_option maxRecDepth 100000 in
theorem tell_1 {W : World} {own : Nat → Prop} {v : Value} {p : List Stp} (h : PlanAt W own v p) (hp : PlanOk p) (st tr : Nat) (x : Stp) (hx : p[st]? = some x)  (h1 : 1 ≤ tr) (h2 : tr ≤ 2) (code : Nat) (hc : code = 1 ∨ code = 2 ∨ code = 3) :
  Calls Tryz.prog 44 #[v, .agg #[.int .i64 1, .int .i64 st, .int .i64 tr, .bool true, .int .i64 5, .bool false, .int .i64 0], .int .i64 st, .bool false, .int .i64 code] W fun e W' => e = .returned (.tuple #[.agg (sgC (tellS p ⟨1, st, tr, true, 0⟩ code)).toArray, .int .i64 0]) ∧ Below W.heap.size W W' := by
 have HP : As (∀ w', Below W.heap.size W w' → Calls Tryz.prog 77 #[v, .agg #[.int .i64 1, .int .i64 st, .int .i64 tr, .bool true, .int .i64 5, .bool false, .int .i64 0]] w' fun e W' => e = .returned (.int .i64 0) ∧ Below w'.heap.size w' W') := ⟨fun w' hw => scheck_live (h.keep (W' := w') (fun k _ hk => hw.block k hk) hw.size) hp 1 st tr true x hx (.inl rfl) (.inr ⟨rfl, h1, h2⟩)⟩
 have HF : As (∀ w', Below W.heap.size W w' → Calls Tryz.prog 83 #[v, .agg #[.int .i64 1, .int .i64 st, .int .i64 tr, .bool true, .int .i64 5, .bool false, .int .i64 0], .int .i64 code] w' fun e W' => e = .returned (.agg (sgC (tellS p ⟨1, st, tr, true, 0⟩ code)).toArray) ∧ Below w'.heap.size w' W') := ⟨fun w' hw => fwd_a (h.keep (W' := w') (fun k _ hk => hw.block k hk) hw.size) hp st tr x hx h1 h2 code hc⟩
 have hc1 : decide ((code : Int) < 1) = false := by simp; omega
 have hc3 : decide ((3 : Int) < (code : Int)) = false := by simp; omega
 clear h hp hx hc
 go_enter Tryz.func44, Tryz.ntmps44
 go_wp2_with fail
 refine (HP.out _ (((Below.refl _ _).alloc (Nat.le_refl _) _).alloc (by simp) _)).mono ?_
 rintro e w1 ⟨rfl, q1⟩
 have hbk := (q1.block W.heap.size (by simp; omega)).trans (heap_alloc2_old W _ _)
 have hbk2 := As.mk ((q1.block (W.heap.size + 1) (by simp)).trans (heap_alloc2_new W _ _))
 have B1 : As (Below W.heap.size W w1) := ⟨(((Below.refl _ _).alloc (Nat.le_refl _) _).alloc (by simp) _).trans (q1.mono (by simp; omega))⟩
 obtain ⟨k0, k1, k2, k3, k4, k5, k6⟩ := cells7 hbk
 have hs1 := B1.out.size
 have hlt := blk_lt hbk
 have hlt2 := blk_lt hbk2.out
 clear q1 hbk
 go_wp2_with fail
 refine (HF.out _ B1.out).mono ?_
 rintro e w2 ⟨rfl, q1⟩
 have B2 : As (Below W.heap.size W w2) := ⟨B1.out.trans (q1.mono hs1)⟩
 have hbk3 := As.mk ((q1.block (W.heap.size + 1) hlt2).trans hbk2.out)
 clear q1 k0 k1 k2 k3 k4 k5 k6 hbk2
 go_wp2_with (refine wpList_storeC rfl 116 (.tmp 10) (.tmp 56) rfl (W.heap.size + 1) 116 (sgC (tellS p ⟨1, st, tr, true, 0⟩ code)) _ rfl rfl hbk3.out rfl size116 (sgC_one _) ?_; intro w3 q1 q2 q3 q4)
 refine bodyPost_ret (results_cell_tmp_row rfl _ _ (W.heap.size + 1) 116 (sgC (tellS p ⟨1, st, tr, true, 0⟩ code)).toArray (0, 0) _ rfl q1 Tryz.underlying116 rfl size116) rfl ⟨rfl, B2.out.trans (q2 _ (by omega))⟩
set_option maxHeartbeats 1000000 in
set_option maxRecDepth 100000 in
theorem tell_2 {W : World} {own : Nat → Prop} {v : Value} {p : List Stp} (h : PlanAt W own v p) (hp : PlanOk p) (st tr : Nat) (x : Stp) (hx : p[st]? = some x) (hb : x.back = true) (h1 : 1 ≤ tr) (h2 : tr ≤ 2) (code : Nat) (hc : code = 1 ∨ code = 2 ∨ code = 3) :
  Calls Tryz.prog 44 #[v, .agg #[.int .i64 2, .int .i64 st, .int .i64 tr, .bool true, .int .i64 5, .bool false, .int .i64 0], .int .i64 st, .bool true, .int .i64 code] W fun e W' => e = .returned (.tuple #[.agg (sgC (tellS p ⟨2, st, tr, true, 0⟩ code)).toArray, .int .i64 0]) ∧ Below W.heap.size W W' := by
 have HP : As (∀ w', Below W.heap.size W w' → Calls Tryz.prog 77 #[v, .agg #[.int .i64 2, .int .i64 st, .int .i64 tr, .bool true, .int .i64 5, .bool false, .int .i64 0]] w' fun e W' => e = .returned (.int .i64 0) ∧ Below w'.heap.size w' W') := ⟨fun w' hw => scheck_live (h.keep (W' := w') (fun k _ hk => hw.block k hk) hw.size) hp 2 st tr true x hx (.inr ⟨rfl, hb⟩) (.inr ⟨rfl, h1, h2⟩)⟩
 have HF : As (∀ w', Below W.heap.size W w' → Calls Tryz.prog 82 #[v, .agg #[.int .i64 2, .int .i64 st, .int .i64 tr, .bool true, .int .i64 5, .bool false, .int .i64 0], .int .i64 code] w' fun e W' => e = .returned (.agg (sgC (tellS p ⟨2, st, tr, true, 0⟩ code)).toArray) ∧ Below w'.heap.size w' W') := ⟨fun w' hw => und_a (h.keep (W' := w') (fun k _ hk => hw.block k hk) hw.size) hp st tr x hx h1 h2 code hc⟩
 have hc1 : decide ((code : Int) < 1) = false := by simp; omega
 have hc3 : decide ((3 : Int) < (code : Int)) = false := by simp; omega
 clear h hp hx hc
 go_enter Tryz.func44, Tryz.ntmps44
 go_wp2_with fail
 refine (HP.out _ (((Below.refl _ _).alloc (Nat.le_refl _) _).alloc (by simp) _)).mono ?_
 rintro e w1 ⟨rfl, q1⟩
 have hbk := (q1.block W.heap.size (by simp; omega)).trans (heap_alloc2_old W _ _)
 have hbk2 := As.mk ((q1.block (W.heap.size + 1) (by simp)).trans (heap_alloc2_new W _ _))
 have B1 : As (Below W.heap.size W w1) := ⟨(((Below.refl _ _).alloc (Nat.le_refl _) _).alloc (by simp) _).trans (q1.mono (by simp; omega))⟩
 obtain ⟨k0, k1, k2, k3, k4, k5, k6⟩ := cells7 hbk
 have hs1 := B1.out.size
 have hlt := blk_lt hbk
 have hlt2 := blk_lt hbk2.out
 clear q1 hbk
 go_wp2_with fail
 refine (HF.out _ B1.out).mono ?_
 rintro e w2 ⟨rfl, q1⟩
 have B2 : As (Below W.heap.size W w2) := ⟨B1.out.trans (q1.mono hs1)⟩
 have hbk3 := As.mk ((q1.block (W.heap.size + 1) hlt2).trans hbk2.out)
 clear q1 k0 k1 k2 k3 k4 k5 k6 hbk2
 go_wp2_with (refine wpList_storeC rfl 116 (.tmp 10) (.tmp 52) rfl (W.heap.size + 1) 116 (sgC (tellS p ⟨2, st, tr, true, 0⟩ code)) _ rfl rfl hbk3.out rfl size116 (sgC_one _) ?_; intro w3 q1 q2 q3 q4)
 refine bodyPost_ret (results_cell_tmp_row rfl _ _ (W.heap.size + 1) 116 (sgC (tellS p ⟨2, st, tr, true, 0⟩ code)).toArray (0, 0) _ rfl q1 Tryz.underlying116 rfl size116) rfl ⟨rfl, B2.out.trans (q2 _ (by omega))⟩
theorem tell_a {W : World} {own : Nat → Prop} {v : Value} {p : List Stp} (h : PlanAt W own v p) (hp : PlanOk p) {s : Sg} (hs : SgOk p s) (ha : s.asked = true) (code : Nat) (hc : code = 1 ∨ code = 2 ∨ code = 3) (undo : Bool) (hu : undo = (s.ph == 2)) :
  Calls Tryz.prog 44 #[v, .agg (sgC s).toArray, .int .i64 s.st, .bool undo, .int .i64 code] W fun e W' => e = .returned (.tuple #[.agg (sgC (tellS p s code)).toArray, .int .i64 0]) ∧ Below W.heap.size W W' := by
 subst hu
 cases hs with
 | over c h1 h2 => cases ha
 | idle ph st tr x hx hph ht => cases ha
 | wait ph st tr x hx hph h1 h2 =>
  rcases hph with rfl | ⟨rfl, hb⟩
  ·exact tell_1 h hp st tr x hx h1 h2 code hc
  ·exact tell_2 h hp st tr x hx hb h1 h2 code hc
end Go.Proofs.YthfjhgdiakciaaaGreat.Bl
