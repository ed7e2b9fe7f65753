/- An entry in new memory (own). Condition: the entry reads as it is told. -/
import Derived.Test.YthfjhgdiakciaaaGreatM09
namespace Go.Proofs.YthfjhgdiakciaaaGreat.Bl
open Go.RowKit
set_option linter.unusedVariables false
set_option linter.unusedSimpArgs false
theorem run_append_none_of (base : Nat) (t ty e : TypeId) (i : TypeInfo) (size : Nat) {P : Program} {w : World} (ht : P.underlying t = some (.slice e)) (hi : P.info? e = some i)
  (v : Value) (n : Nat) (xs : List Value) (hown : w.ownsRow base e size v n xs) (A : Option Addr) (c : Nat) :
  (Builtin.append_ #[t, t] ty #[v, .slice A 0 c]).run P w = .ok v w := by
 rcases hown.2 with ⟨rfl, rfl⟩ | ⟨g, cap, cur, rfl, _, _, hnc, _⟩
 ·cases A <;> simp [Builtin.append_, run_underlying ht, sizeOf, typeInfo, hi, Builtin.lenOf, Builtin.firstCells, loadCells, loadCellsFrom, storeCells]
 ·cases A <;> simp [Builtin.append_, run_underlying ht, sizeOf, typeInfo, hi, Builtin.lenOf, Builtin.firstCells, hnc, storeCells, loadCells, loadCellsFrom]
/-- 'append([]byte{}, y...)', y of whatever length. -/
theorem wpList_append_five {ops : Array Oper} {rest : List Oper} {o : Oper} {a : Act} {w : World} {Q : Exit → Act → World → Prop} (hgd : o.guard = none) (s x : Operand)
  (ho : o.op = .call { callee := .builtin .append, args := #[s, x], argTypes := #[39, 39] }) (base g0 : Nat) (hs : a.eval s = .slice (some ⟨g0, 0, none⟩) 0 0) (hown : w.ownsRow base 5 1 (.slice (some ⟨g0, 0, none⟩) 0 0) 0 [])
  (A : Option Addr) (m c : Nat) (y : List Int) (hx : a.eval x = .slice A m c) (hl : y.length = m) (hy : Bytes w A y) (hm : m ≤ 1000000) (hb : base ≤ w.heap.size) (H : Nat) (hH : w.heap.size = H)
  (h : ∀ g cap w', w'.ownsRow base 5 1 (.slice (some ⟨g, 0, none⟩) m cap) m (bv y) → w.grownBy w' (some g0) → (g = g0 ∨ g = H) → m ≤ cap → wpList Tryz.prog ops Q rest (a.put o.dst (.slice (some ⟨g, 0, none⟩) m cap)) w') :
  wpList Tryz.prog ops Q (o :: rest) a w := by
 obtain ⟨i0, hi0, hz0, hz1, hz2⟩ := info_parts info5
 by_cases h0 : m = 0
 ·subst h0
  have hy0 : y = [] := List.eq_nil_of_length_eq_zero hl
  subst hy0
  have hr := run_append_none_of base 39 o.type 5 i0 1 Tryz.underlying39 hi0 _ 0 [] hown A c
  refine wpList_plain hgd fun K hK => ?_
  unfold Oper.wp execOp
  simp only [ho, resolve, invoke, builtin, Sem.run_bind, Sem.run_pure, Result.andThen_ok, List.map_toArray, List.map_cons, List.map_nil, hs, hx, hr]
  exact hK _ _ (h g0 0 w hown (World.grownBy.refl _ _) (.inl rfl) (Nat.le_refl _))
 ·obtain ⟨q, off, rfl, _, hr⟩ := hy.2 (by intro e; rw [e] at hl; exact h0 hl.symm)
  refine wpList_append_lies _ hgd s x 39 ho base 5 i0 (.int .u8 0) 1 1 Tryz.underlying39 hi0 hz0 hz1 hz2 rfl (by omega) _ _ _ hs hown ⟨q, off, none⟩ m c (bv y) hx (by rw [bv_len, Nat.mul_one]; exact hl) (fun j u hu => by rw [Addr.add_mid]; exact hr j u hu) (bv_one y) (by omega) (by unfold maxLen; omega) (by omega) hb H hH ?_
  intro g cap w' h1 h2 h3 h4
  rw [Nat.zero_add, List.nil_append] at h1
  rw [Nat.zero_add]
  have hcp : m ≤ cap := by obtain ⟨_, _, _, h, _⟩ := own_block h1; exact h
  refine h g cap w' h1 (by have := h2; rwa [show (Value.slice (some ⟨g0, 0, none⟩) 0 0).ownBlock = some g0 by simp [Value.ownBlock]] at this) ?_ hcp
  rcases h3 with h3 | h3
  ·exact .inl (ob_eq h3).symm
  ·exact .inr h3
set_option maxHeartbeats 4000000 in
set_option maxRecDepth 100000 in
theorem ownE_a {W : World} {own : Nat → Prop} {e : Ent} {c : List Value} (hc : EntAt W own e c) (hk : e.key.length ≤ 1000000) (hd : e.data.length ≤ 1000000) :
  Calls Tryz.prog 54 #[.agg c.toArray] W fun x W' => ∃ c', x = .returned (.agg c'.toArray) ∧ EntAt W' (fun k => W.heap.size ≤ k ∧ k < W'.heap.size) e c' ∧ Below W.heap.size W W' := by
 obtain ⟨ak, ck, ad, cd, rfl, h1, h2, _⟩ := hc
 have H1 := As.mk h1
 have H2 := As.mk h2
 have hz : ∀ w, (zeroValue 41).run Tryz.prog w = .ok (.agg zero41) w := fun w => by kernel_rfl
 clear h1 h2
 go_enter Tryz.func54, Tryz.ntmps54
 go_upto_region 1 with fail
 obtain ⟨b1, hb1⟩ : ∃ b1, b1 = W.heap.size := ⟨_, rfl⟩
 have h1 : As (((W.alloc (.cells (entC e ak ck ad cd).toArray 41)).alloc (.cells zero41 41)).heap[b1]? = some (.cells #[.int .i64 e.kind, .int .u64 e.lsn, .int .u32 1, .int .u32 e.order, .int .i64 e.step, .bool e.undo, .int .i64 e.tr, .int .i64 e.code, .int .u64 0, .slice ak e.key.length ck, .slice ad e.data.length cd] 41 (0, 0))) := ⟨by rw [hb1]; exact blk_old (blk_new W _) _⟩
 have h2 : As (((W.alloc (.cells (entC e ak ck ad cd).toArray 41)).alloc (.cells zero41 41)).heap[b1 + 1]? = some (.cells zero41 41 (0, 0))) := ⟨by rw [hb1]; exact heap_alloc2_new W _ _⟩
 have B : As (Below W.heap.size W ((W.alloc (.cells (entC e ak ck ad cd).toArray 41)).alloc (.cells zero41 41))) := ⟨((Below.refl _ W).alloc (Nat.le_refl _) _).alloc (by simp) _⟩
 rw [← hb1]
 generalize (W.alloc (.cells (entC e ak ck ad cd).toArray 41)).alloc (.cells zero41 41) = w0 at *
 have HB1 := As.mk hb1
 have hsw0 := B.out.size
 have hb2l := blk_lt h2.out
 have hb1l : b1 < w0.heap.size := by omega
 clear hb1 hz
 have hown9 : As ((w0.alloc (.cells #[] 5 (0, 0))).ownsRow W.heap.size 5 1 (.slice (some ⟨w0.heap.size, 0, none⟩) 0 0) 0 []) := ⟨World.ownsRow_lit w0 #[] 0 (by omega) (Nat.zero_le _) rfl⟩
 have Y9 : As (Bytes (w0.alloc (.cells #[] 5 (0, 0))) ak e.key) := ⟨H1.out.below (B.out.alloc (by omega) _) (Nat.le_refl _)⟩
 obtain ⟨k0, k1, k2, k3, k4, k5, k6, k7, k8, k9, k10⟩ := cells11 h1.out
 go_wp2_with ((at_builtin; refine wpList_append_five rfl _ _ rfl W.heap.size w0.heap.size rfl hown9.out _ e.key.length _ e.key rfl rfl Y9.out (by omega) (by simp; omega) _ rfl ?_))
 intro gk ck' m9 q1 q2 q3 q4
 have hz9 : (w0.alloc (.cells #[] 5)).heap.size = w0.heap.size + 1 := by simp
 have hm9 := q2.size
 have hx9 : w0.heap.size < m9.heap.size := by omega
 have hm1 : As (m9.heap[b1]? = some (.cells #[.int .i64 e.kind, .int .u64 e.lsn, .int .u32 1, .int .u32 e.order, .int .i64 e.step, .bool e.undo, .int .i64 e.tr, .int .i64 e.code, .int .u64 0, .slice ak e.key.length ck, .slice ad e.data.length cd] 41 (0, 0))) := ⟨(q2.block b1 (by omega) (fun h => by injection h with h; omega)).trans (blk_old h1.out _)⟩
 have hm2 : As (m9.heap[b1 + 1]? = some (.cells zero41 41 (0, 0))) := ⟨(q2.block (b1 + 1) (by omega) (fun h => by injection h with h; omega)).trans (blk_old h2.out _)⟩
 have Bm9 : As (Below w0.heap.size w0 m9) := ⟨((Below.refl _ w0).alloc (Nat.le_refl _) _).grown q2 (by omega) (fun k hk => by injection hk with hk; omega)⟩
 have Bw9 := As.mk (B.out.trans (Bm9.out.mono (by omega)))
 have G9 := As.mk (own_bytes q1 H1.out.1)
 have hg9 : gk < m9.heap.size := G9.out.2.2.2.2
 have hgw9 : w0.heap.size ≤ gk := by omega
 clear q1 q2 q3 k0 k1 k2 k3 k4 k5 k6 k7 k8 k9 k10 hown9 Y9 hz9
 obtain ⟨k0, k1, k2, k3, k4, k5, k6, k7, k8, k9, k10⟩ := cells11 hm1.out
 have f9 := blk_frozen hm1.out 9
 go_upto_region 2 with fail
 have key1 : As ((m9.setCell ⟨b1, 9, none⟩ (.slice (some ⟨gk, 0, none⟩) e.key.length ck')).heap[b1]? = some (.cells #[.int .i64 e.kind, .int .u64 e.lsn, .int .u32 1, .int .u32 e.order, .int .i64 e.step, .bool e.undo, .int .i64 e.tr, .int .i64 e.code, .int .u64 0, .slice (some ⟨gk, 0, none⟩) e.key.length ck', .slice ad e.data.length cd] 41 (0, 0))) := ⟨(blk_put hm1.out 9 (.slice (some ⟨gk, 0, none⟩) e.key.length ck')).trans rfl⟩
 have key2 : As ((m9.setCell ⟨b1, 9, none⟩ (.slice (some ⟨gk, 0, none⟩) e.key.length ck')).heap[b1 + 1]? = some (.cells zero41 41 (0, 0))) := ⟨(Below.heap_setCell _ _ _ _ (show b1 + 1 ≠ b1 by omega)).trans hm2.out⟩
 have keyB : As (Below W.heap.size W (m9.setCell ⟨b1, 9, none⟩ (.slice (some ⟨gk, 0, none⟩) e.key.length ck'))) := ⟨Bw9.out.setCell (p := ⟨b1, 9, none⟩) (by have := HB1.out; show W.heap.size ≤ b1; omega) _⟩
 have keyF : As (∀ k, w0.heap.size ≤ k ∨ (k < w0.heap.size ∧ k ≠ b1) → (m9.setCell ⟨b1, 9, none⟩ (.slice (some ⟨gk, 0, none⟩) e.key.length ck')).heap[k]? = m9.heap[k]?) := ⟨fun k hk => Below.heap_setCell _ _ _ _ (show k ≠ b1 by omega)⟩
 have keyS : As ((m9.setCell ⟨b1, 9, none⟩ (.slice (some ⟨gk, 0, none⟩) e.key.length ck')).heap.size = m9.heap.size) := ⟨by simp⟩
 generalize m9.setCell ⟨b1, 9, none⟩ (.slice (some ⟨gk, 0, none⟩) e.key.length ck') = w1 at *
 have keyL : b1 < w1.heap.size := by have := keyS.out; omega
 have keyL2 : b1 + 1 < w1.heap.size := by have := keyS.out; omega
 have keyQ : w0.heap.size < w1.heap.size ∧ gk < w1.heap.size ∧ W.heap.size ≤ w1.heap.size := by have := keyS.out; omega
 clear k0 k1 k2 k3 k4 k5 k6 k7 k8 k9 k10 f9 hm1 hm2
 have hown10 : As ((w1.alloc (.cells #[] 5 (0, 0))).ownsRow W.heap.size 5 1 (.slice (some ⟨w1.heap.size, 0, none⟩) 0 0) 0 []) := ⟨World.ownsRow_lit w1 #[] 0 (by omega) (Nat.zero_le _) rfl⟩
 have Y10 : As (Bytes (w1.alloc (.cells #[] 5 (0, 0))) ad e.data) := ⟨H2.out.below (keyB.out.alloc (by omega) _) (Nat.le_refl _)⟩
 obtain ⟨k0, k1, k2, k3, k4, k5, k6, k7, k8, k9, k10⟩ := cells11 key1.out
 go_wp2_with ((at_builtin; refine wpList_append_five rfl _ _ rfl W.heap.size w1.heap.size rfl hown10.out _ e.data.length _ e.data rfl rfl Y10.out (by omega) (by simp; omega) _ rfl ?_))
 intro gd cd' m10 q1 q2 q3 q4
 have hz10 : (w1.alloc (.cells #[] 5)).heap.size = w1.heap.size + 1 := by simp
 have hm10 := q2.size
 have hx10 : w1.heap.size < m10.heap.size := by omega
 have hm1 : As (m10.heap[b1]? = some (.cells #[.int .i64 e.kind, .int .u64 e.lsn, .int .u32 1, .int .u32 e.order, .int .i64 e.step, .bool e.undo, .int .i64 e.tr, .int .i64 e.code, .int .u64 0, .slice (some ⟨gk, 0, none⟩) e.key.length ck', .slice ad e.data.length cd] 41 (0, 0))) := ⟨(q2.block b1 (by omega) (fun h => by injection h with h; omega)).trans (blk_old key1.out _)⟩
 have hm2 : As (m10.heap[b1 + 1]? = some (.cells zero41 41 (0, 0))) := ⟨(q2.block (b1 + 1) (by omega) (fun h => by injection h with h; omega)).trans (blk_old key2.out _)⟩
 have Bm10 : As (Below w1.heap.size w1 m10) := ⟨((Below.refl _ w1).alloc (Nat.le_refl _) _).grown q2 (by omega) (fun k hk => by injection hk with hk; omega)⟩
 have Bw10 := As.mk (keyB.out.trans (Bm10.out.mono (by omega)))
 have G10 := As.mk (own_bytes q1 H2.out.1)
 have hg10 : gd < m10.heap.size := G10.out.2.2.2.2
 have hgw10 : w1.heap.size ≤ gd := by omega
 clear q1 q2 q3 k0 k1 k2 k3 k4 k5 k6 k7 k8 k9 k10 hown10 Y10 hz10
 obtain ⟨k0, k1, k2, k3, k4, k5, k6, k7, k8, k9, k10⟩ := cells11 hm1.out
 have f10 := blk_frozen hm1.out 10
 go_upto_region 3 with fail
 have data1 : As ((m10.setCell ⟨b1, 10, none⟩ (.slice (some ⟨gd, 0, none⟩) e.data.length cd')).heap[b1]? = some (.cells #[.int .i64 e.kind, .int .u64 e.lsn, .int .u32 1, .int .u32 e.order, .int .i64 e.step, .bool e.undo, .int .i64 e.tr, .int .i64 e.code, .int .u64 0, .slice (some ⟨gk, 0, none⟩) e.key.length ck', .slice (some ⟨gd, 0, none⟩) e.data.length cd'] 41 (0, 0))) := ⟨(blk_put hm1.out 10 (.slice (some ⟨gd, 0, none⟩) e.data.length cd')).trans rfl⟩
 have data2 : As ((m10.setCell ⟨b1, 10, none⟩ (.slice (some ⟨gd, 0, none⟩) e.data.length cd')).heap[b1 + 1]? = some (.cells zero41 41 (0, 0))) := ⟨(Below.heap_setCell _ _ _ _ (show b1 + 1 ≠ b1 by omega)).trans hm2.out⟩
 have dataB : As (Below W.heap.size W (m10.setCell ⟨b1, 10, none⟩ (.slice (some ⟨gd, 0, none⟩) e.data.length cd'))) := ⟨Bw10.out.setCell (p := ⟨b1, 10, none⟩) (by have := HB1.out; show W.heap.size ≤ b1; omega) _⟩
 have dataF : As (∀ k, w1.heap.size ≤ k ∨ (k < w1.heap.size ∧ k ≠ b1) → (m10.setCell ⟨b1, 10, none⟩ (.slice (some ⟨gd, 0, none⟩) e.data.length cd')).heap[k]? = m10.heap[k]?) := ⟨fun k hk => Below.heap_setCell _ _ _ _ (show k ≠ b1 by omega)⟩
 have dataS : As ((m10.setCell ⟨b1, 10, none⟩ (.slice (some ⟨gd, 0, none⟩) e.data.length cd')).heap.size = m10.heap.size) := ⟨by simp⟩
 generalize m10.setCell ⟨b1, 10, none⟩ (.slice (some ⟨gd, 0, none⟩) e.data.length cd') = w2 at *
 have dataL : b1 < w2.heap.size := by have := dataS.out; omega
 have dataL2 : b1 + 1 < w2.heap.size := by have := dataS.out; omega
 have dataQ : w1.heap.size < w2.heap.size ∧ gd < w2.heap.size ∧ W.heap.size ≤ w2.heap.size := by have := dataS.out; omega
 clear k0 k1 k2 k3 k4 k5 k6 k7 k8 k9 k10 f10 hm1 hm2
 have hKey : As (Bytes w2 (some ⟨gk, 0, none⟩) e.key) := ⟨G9.out.1.keep (fun q o e1 hq => by
  injection e1 with e1
  injection e1 with e1
  subst e1
  exact (dataF.out gk (.inr ⟨by omega, by omega⟩)).trans ((Bm10.out.block gk (by omega)).trans (keyF.out gk (.inl hgw9)))) (by have := keyS.out; have := dataS.out; omega)⟩
 have hData : As (Bytes w2 (some ⟨gd, 0, none⟩) e.data) := ⟨G10.out.1.keep (fun q o e1 hq => by
  injection e1 with e1
  injection e1 with e1
  subst e1
  exact dataF.out gd (.inl hgw10)) (by have := keyS.out; have := dataS.out; omega)⟩
 have hone : ∀ v ∈ [(.int .i64 e.kind : Value), .int .u64 e.lsn, .int .u32 1, .int .u32 e.order, .int .i64 e.step, .bool e.undo, .int .i64 e.tr, .int .i64 e.code, .int .u64 0, .slice (some ⟨gk, 0, none⟩) e.key.length ck', .slice (some ⟨gd, 0, none⟩) e.data.length cd'], v.oneCell' = true := agg11_one rfl rfl rfl rfl rfl rfl rfl rfl rfl rfl rfl
 go_wp2_with (first | (refine wpList_load_row rfl 41 (.tmp 1) rfl b1 rfl 41 _ _ _ data1.out Tryz.underlying41 rfl size41 ?_) | (refine wpList_store_mid rfl 41 (.tmp 2) (.tmp 13) rfl (b1 + 1) 0 #[.int .i64 e.kind, .int .u64 e.lsn, .int .u32 1, .int .u32 e.order, .int .i64 e.step, .bool e.undo, .int .i64 e.tr, .int .i64 e.code, .int .u64 0, .slice (some ⟨gk, 0, none⟩) e.key.length ck', .slice (some ⟨gd, 0, none⟩) e.data.length cd'] rfl rfl (there_block data2.out 0 11 (by decide)) size41 (all_oneCell_toArray hone) ?_))
 refine bodyPost_ret (results_cell_row rfl _ _ (b1 + 1) 41 #[.int .i64 e.kind, .int .u64 e.lsn, .int .u32 1, .int .u32 e.order, .int .i64 e.step, .bool e.undo, .int .i64 e.tr, .int .i64 e.code, .int .u64 0, .slice (some ⟨gk, 0, none⟩) e.key.length ck', .slice (some ⟨gd, 0, none⟩) e.data.length cd'] (0, 0) _ rfl (row_over data2.out rfl) Tryz.underlying41 rfl size41) rfl ?_
 have hfin : Below W.heap.size W (w2.setCells (b1 + 1) 0 (#[.int .i64 e.kind, .int .u64 e.lsn, .int .u32 1, .int .u32 e.order, .int .i64 e.step, .bool e.undo, .int .i64 e.tr, .int .i64 e.code, .int .u64 0, .slice (some ⟨gk, 0, none⟩) e.key.length ck', .slice (some ⟨gd, 0, none⟩) e.data.length cd'] : Array Value).toList) := dataB.out.trans (setCells_below _ (by have := HB1.out; omega))
 have hszf : (w2.setCells (b1 + 1) 0 (#[.int .i64 e.kind, .int .u64 e.lsn, .int .u32 1, .int .u32 e.order, .int .i64 e.step, .bool e.undo, .int .i64 e.tr, .int .i64 e.code, .int .u64 0, .slice (some ⟨gk, 0, none⟩) e.key.length ck', .slice (some ⟨gd, 0, none⟩) e.data.length cd'] : Array Value).toList).heap.size = w2.heap.size := setCells_size _ _ _ _
 have hfar : ∀ k, k ≠ b1 + 1 → (w2.setCells (b1 + 1) 0 (#[.int .i64 e.kind, .int .u64 e.lsn, .int .u32 1, .int .u32 e.order, .int .i64 e.step, .bool e.undo, .int .i64 e.tr, .int .i64 e.code, .int .u64 0, .slice (some ⟨gk, 0, none⟩) e.key.length ck', .slice (some ⟨gd, 0, none⟩) e.data.length cd'] : Array Value).toList).heap[k]? = w2.heap[k]? := fun k hk => setCells_far _ _ _ _ hk
 generalize w2.setCells (b1 + 1) 0 (#[.int .i64 e.kind, .int .u64 e.lsn, .int .u32 1, .int .u32 e.order, .int .i64 e.step, .bool e.undo, .int .i64 e.tr, .int .i64 e.code, .int .u64 0, .slice (some ⟨gk, 0, none⟩) e.key.length ck', .slice (some ⟨gd, 0, none⟩) e.data.length cd'] : Array Value).toList = w3 at *
 have hgk1 : gk ≠ b1 + 1 := by omega
 have hgd1 : gd ≠ b1 + 1 := by omega
 have hK3 : Bytes w3 (some ⟨gk, 0, none⟩) e.key := hKey.out.keep (fun q o e1 _ => by
  injection e1 with e1
  injection e1 with e1
  subst e1
  exact hfar gk hgk1) (by omega)
 have hD3 : Bytes w3 (some ⟨gd, 0, none⟩) e.data := hData.out.keep (fun q o e1 _ => by
  injection e1 with e1
  injection e1 with e1
  subst e1
  exact hfar gd hgd1) (by omega)
 have hgkr : W.heap.size ≤ gk ∧ gk < w3.heap.size := by have := keyS.out; have := dataS.out; omega
 have hgdr : W.heap.size ≤ gd ∧ gd < w3.heap.size := by have := keyS.out; have := dataS.out; omega
 have hE : EntAt w3 (fun k => W.heap.size ≤ k ∧ k < w3.heap.size) e (entC e (some ⟨gk, 0, none⟩) ck' (some ⟨gd, 0, none⟩) cd') :=
  ⟨_, _, _, _, rfl, hK3, hD3, G9.out.2.2.1, G10.out.2.2.1, fun _ q o e1 => by injection e1 with e1; injection e1 with e1; subst e1; exact hgkr, fun _ q o e1 => by injection e1 with e1; injection e1 with e1; subst e1; exact hgdr⟩
 exact ⟨entC e (some ⟨gk, 0, none⟩) ck' (some ⟨gd, 0, none⟩) cd', rfl, hE, hfin⟩
end Go.Proofs.YthfjhgdiakciaaaGreat.Bl
